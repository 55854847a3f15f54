/-
  Texts of sets of lines: printing; the statement about texts. No program in sight.
-/
import Derived.Test.YtjncggaheahjiaaGreatDoorNo2
set_option linter.all false
namespace Go.Lic
open Go.Proofs Go.Sort Go.Shelf
theorem app_listN (a b : ByteArray) : (a ++ b).data.toList = a.data.toList ++ b.data.toList := by rw [ByteArray.data_append, Array.toList_append]
theorem gi_siN {α : Type} [Inhabited α] {l : List α} {i : Int} (h : inL i l.length) (v : α) {j : Int} (hj : 0 ≤ j) : gi (si l i v) j = if j = i then v else gi l j := by
 unfold gi si
 rw [List.getD_eq_getElem?_getD, List.getElem?_set, List.getD_eq_getElem?_getD]
 by_cases e : j = i
 · subst e
   rw [if_pos rfl, if_pos rfl, if_pos (by omega)]; rfl
 · rw [if_neg e, if_neg (by omega)]
theorem gi_revN {α : Type} [Inhabited α] {l : List α} {q : Int} (h : inL q l.length) : gi l.reverse q = gi l ((l.length : Int) - 1 - q) := by
 rw [gi_lt (by simpa using h), gi_lt (by omega)]
 simp only [List.getElem_reverse]
 congr 1; omega
theorem revL_ok (s_ : (List Line)) (Q : (List Line) → Prop) (hp0 : s_.length ≤ 1000000) (h : Q ((List.reverse s_))) : revL_vc s_ Q := by
 refine ⟨by omega, ?_⟩
 refine lfp_of (S := List Line × Int × Int) (fun st => 0 ≤ st.2.1 ∧ st.2.1 + st.2.2 = (s_.length : Int) - 1 ∧ st.2.1 ≤ st.2.2 + 1 ∧ st.1.length = s_.length ∧ ∀ q : Int, 0 ≤ q → q < s_.length → gi st.1 q = if q < st.2.1 ∨ st.2.2 < q then gi s_ ((s_.length : Int) - 1 - q) else gi s_ q) (fun st => (st.2.2 - st.2.1 + 1).toNat) (fun st hst again hag => ?_) ?_
 · obtain ⟨l, i, j⟩ := st
   obtain ⟨h0, h1, h2, h3, h4⟩ := hst
   simp only at h0 h1 h2 h3 h4 hag ⊢
   refine ⟨fun hlt => ⟨by omega, by omega, by rw [si_length]; omega, by omega, by omega, hag _ ⟨by simp only; omega, by simp only; omega, by simp only; omega, by simp only [si_length]; omega, fun q hq hq2 => ?_⟩ (by simp only; omega)⟩, fun hn => ?_⟩
   · simp only
     rw [gi_siN (by rw [si_length]; omega) _ hq, gi_siN (by omega) _ hq]
     by_cases e1 : q = j
     · subst e1
       rw [if_pos rfl, if_pos (by omega), h4 i (by omega) (by omega), if_neg (by omega)]
       congr 1; omega
     · rw [if_neg e1]
       by_cases e2 : q = i
       · subst e2
         rw [if_pos rfl, if_pos (by omega), h4 j (by omega) (by omega), if_neg (by omega)]
         congr 1; omega
       · rw [if_neg e2, h4 q hq hq2]
         by_cases e3 : q < i ∨ j < q
         · rw [if_pos e3, if_pos (by omega)]
         · rw [if_neg e3, if_neg (by omega)]
   · have e : l = s_.reverse := by
       refine list_ext_gi (by rw [List.length_reverse]; exact h3) (fun q hq hq2 => ?_)
       rw [h4 q hq (by omega), gi_revN (by omega)]
       split
       · rfl
       · next hc => congr 1; omega
     rw [e]; exact h
 · refine ⟨by simp only; omega, by simp only; omega, by simp only; omega, rfl, fun q hq hq2 => ?_⟩
   simp only
   rw [if_neg (by omega)]
theorem listO_ok (l : (List Span)) (Q : (List Line) → Prop) (hp0 : l.length ≤ 1000) (hp1 : ∀ x ∈ l, x.path.size ≤ 1000000) (h : Q (listF l)) : listO_vc l Q := by
 unfold listF at h
 refine ⟨by omega, hp1, fun hv => by rw [hv] at h; exact h, fun hv => ?_⟩
 rw [if_pos hv] at h
 exact list_gen hp0 hv Q h (listO_L2 l) (fun _ _ _ _ _ _ h => h)
theorem Q_trueN {b : Bool} {Q : Bool → Prop} (e : b = true) (h : Q true) : Q b := e ▸ h
theorem parse_len : ∀ (w : List ByteArray) (i : Int) (out : List Span), (parseL i out w).1.length ≤ out.length + w.length
 | [], i, out => by simp [parseL]
 | [l], i, out => by
   rw [parse_last]; split
   · simp only; omega
   · simp
 | l :: m :: r, i, out => by
   rw [parse_more (by simp)]
   split
   · have := parse_len (m :: r) (i + 1) (out ++ [(spanF l out).1])
     simp only [List.length_append, List.length_cons, List.length_nil] at this ⊢
     omega
   · simp
end Go.Lic
