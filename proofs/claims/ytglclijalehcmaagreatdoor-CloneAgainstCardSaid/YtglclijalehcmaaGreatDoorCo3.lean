/-
  The conditions of functions of chapter 26 hold: posts, faults, changes. No program in sight.
-/
import Derived.Test.YtglclijalehcmaaGreatDoorCo2
set_option linter.all false
namespace Go.Lic
open Go.Proofs Go.Sort Go.Shelf
theorem ccompare_ok (a : Pst) (b : Pst) (Q : Int → Prop) (h : Q (postCmp a b)) : ccompare_vc a b Q := ⟨by simp, h⟩
theorem sortiP_ok (data : (List Pst)) (a : Int) (b : Int) (p : Pst → Pst → Int) (pD : Pst → Pst → Prop) (Q : Unit → Prop) (hp0 : data = ([] : List Pst)) (hp1 : a = (0 : Int)) (hp2 : b = (0 : Int)) (h : Q (())) : sortiP_vc data a b p pD Q := by
 subst hp0 hp1 hp2
 refine ⟨by omega, fun I hI => hI _ ⟨fun h => by omega, fun _ => h⟩⟩
theorem sortpP_ok (data : (List Pst)) (a : Int) (b : Int) (limit : Int) (p : Pst → Pst → Int) (pD : Pst → Pst → Prop) (Q : Unit → Prop) (hp0 : data = ([] : List Pst)) (hp1 : a = (0 : Int)) (hp2 : b = (0 : Int)) (h : Q (())) : sortpP_vc data a b limit p pD Q := by
 subst hp0 hp1 hp2
 exact fun I hI => hI _ ⟨by omega, fun _ => ⟨rfl, rfl, rfl, h⟩, fun hn => absurd hn (by omega)⟩
theorem sort0P_ok (x : (List Pst)) (p : Pst → Pst → Int) (pD : Pst → Pst → Prop) (Q : Unit → Prop) (hp0 : x = ([] : List Pst)) (h : Q (())) : sort0P_vc x p pD Q := by
 subst hp0
 exact ⟨by decide, by decide, rfl, rfl, rfl, h⟩
theorem postsOf_len (i : Nat) (l : List Print) : (postsOf i l).length = l.length := by simp [postsOf]
theorem flatP_len : ∀ (l : List Text) (i : Nat) (k w : Int), (∀ t ∈ l, okT t) → (flatP i l k w).length ≤ l.length * 1000001
 | [], i, k, w, _ => by simp [flatP]
 | t :: l, i, k, w, h => by
   have h1 := flatP_len l (i + 1) k w (fun u hu => h u (List.mem_cons_of_mem _ hu))
   have h2 := prints_len t k w
   have h3 := (h t (by simp)).2.1
   simp only [flatP, List.length_append, postsOf_len, List.length_cons]
   omega
theorem flatP_at {l : List Text} {x : Int} (h : inL x l.length) (k w : Int) : flatP x.toNat (l.drop x.toNat) k w = postsOf x.toNat (printsF (gi l x) k w).1 ++ flatP (x + 1).toNat (l.drop (x + 1).toNat) k w := by
 rw [drop_gi h, show (x + 1).toNat = x.toNat + 1 by omega]; rfl
theorem postsOf_at {l : List Print} {x : Int} (h : inL x l.length) (i : Nat) : postsOf i (l.drop x.toNat) = ⟨(gi l x).hash, (i : Int), (gi l x).at_⟩ :: postsOf i (l.drop (x + 1).toNat) := by
 rw [drop_gi h]; rfl
theorem cposts_ok (texts : (List Text)) (k : Int) (w : Int) (Q : (List Pst) → Prop) (hp0 : okTs texts) (h : Q (postsF texts k w)) : cposts_vc texts k w Q := by
 have hfl := flatP_len texts 0 k w hp0.2
 have hlen := hp0.1
 unfold postsF at h
 refine lfp2 (cposts_L1 texts k w Q) (fun out x => 0 ≤ x ∧ x ≤ texts.length ∧ out ++ flatP x.toNat (texts.drop x.toNat) k w = flatP 0 texts k w) (fun _ x => (texts.length - x).toNat) (fun out x hst again hag => ?_) ⟨by omega, by omega, rfl⟩
 obtain ⟨h0, h1, h2⟩ := hst
 refine ⟨fun hlt => ⟨by omega, hp0.2 _ (gi_mem (by omega)), ?_⟩, fun hn => ?_⟩
 · rw [flatP_at (by omega)] at h2
   refine lfp2 (cposts_L2 texts k w x again) (fun out1 x1 => 0 ≤ x1 ∧ x1 ≤ (printsF (gi texts x) k w).1.length ∧ out1 ++ (postsOf x.toNat ((printsF (gi texts x) k w).1.drop x1.toNat) ++ flatP (x + 1).toNat (texts.drop (x + 1).toNat) k w) = flatP 0 texts k w) (fun _ x1 => ((printsF (gi texts x) k w).1.length - x1).toNat) (fun out1 x1 hst1 again5 hag5 => ?_) ⟨by omega, by omega, h2⟩
   obtain ⟨g0, g1, g2⟩ := hst1
   have g3 := congrArg List.length g2
   have hpl := prints_len (gi texts x) k w
   have hwl := (hp0.2 _ (gi_mem (l := texts) (i := x) (by omega))).2.1
   simp only [List.length_append] at g3
   refine ⟨fun hlt1 => ⟨by omega, ⟨by simp; omega, by simp; omega⟩, by omega, hag5 _ _ ⟨by omega, by omega, ?_⟩ (by omega)⟩, fun hn1 => ⟨by omega, hag _ _ ⟨by omega, by omega, ?_⟩ (by omega)⟩⟩
   · rw [postsOf_at (by omega), show ((x.toNat : Nat) : Int) = x by omega] at g2
     rw [← g2]; simp
   · rw [drop_end hn1] at g2
     exact g2
 · rw [drop_end hn] at h2
   simp only [flatP, List.append_nil] at h2
   subst h2
   exact ⟨⟨postCmp_swo, by omega⟩, h⟩
theorem insP_len (x : Pst) (out : List Pst) : (insP x out).length = out.length + 1 := by
 unfold insP; rw [(ins_perm _ x out).length_eq]; rfl
theorem take_whileI {α : Type} [Inhabited α] {p : α → Bool} {l : List α} {x : Int} (h0 : 0 ≤ x ∧ x ≤ l.length) (h1 : ∀ j : Int, 0 ≤ j → j < x → p (gi l j) = true) (h2 : x < l.length → p (gi l x) = false) : l.takeWhile p = l.take x.toNat ∧ l.dropWhile p = l.drop x.toNat :=
 take_while (by omega) (fun j hj => h1 j (by omega) (by omega)) (fun hj => by rw [show ((x.toNat : Nat) : Int) = x by omega]; exact h2 (by omega))
theorem c26before_ok (a : Pst) (b : Pst) (Q : Bool → Prop) (h : Q (postLt a b)) : c26before_vc a b Q := by
 unfold postLt at h
 refine ⟨fun hn => ?_, fun he => ⟨fun hn => ?_, fun he2 => ?_⟩⟩
 · rw [decide_eq_false hn, Bool.false_and, Bool.or_false] at h; exact h
 · rw [decide_eq_true he, decide_eq_false hn, Bool.true_and, Bool.false_and, Bool.or_false, decide_eq_false (show ¬ a.hash < b.hash by omega), Bool.false_or] at h; exact h
 · rw [decide_eq_true he, decide_eq_true he2, Bool.true_and, Bool.true_and, decide_eq_false (show ¬ a.hash < b.hash by omega), decide_eq_false (show ¬ a.text < b.text by omega), Bool.false_or, Bool.false_or] at h; exact h
theorem c26posts_ok (l : (List Text)) (k : Int) (w : Int) (Q : (List Pst) → Prop) (hp0 : okTs l) (h : Q (postsF l k w)) : c26posts_vc l k w Q := by
 have hfl := flatP_len l 0 k w hp0.2
 have hlen := hp0.1
 unfold postsF at h
 rw [← insP_sort] at h
 refine lfp2 (c26posts_L1 l k w Q) (fun out i => 0 ≤ i ∧ i ≤ l.length ∧ out.length + (flatP i.toNat (l.drop i.toNat) k w).length = (flatP 0 l k w).length ∧ (flatP i.toNat (l.drop i.toNat) k w).foldl (fun o x => insP x o) out = (flatP 0 l k w).foldl (fun o x => insP x o) []) (fun _ i => (l.length - i).toNat) (fun out i hst again hag => ?_) ⟨by omega, by omega, by simp, rfl⟩
 obtain ⟨h0, h1, h3, h2⟩ := hst
 refine ⟨fun hlt => ⟨by omega, hp0.2 _ (gi_mem (by omega)), ?_⟩, fun hn => ?_⟩
 · rw [flatP_at (by omega)] at h2 h3
   refine lfp2 (c26posts_L2 l k w i again) (fun out1 n => 0 ≤ n ∧ n ≤ (printsF (gi l i) k w).1.length ∧ out1.length + (postsOf i.toNat ((printsF (gi l i) k w).1.drop n.toNat) ++ flatP (i + 1).toNat (l.drop (i + 1).toNat) k w).length = (flatP 0 l k w).length ∧ (postsOf i.toNat ((printsF (gi l i) k w).1.drop n.toNat) ++ flatP (i + 1).toNat (l.drop (i + 1).toNat) k w).foldl (fun o x => insP x o) out1 = (flatP 0 l k w).foldl (fun o x => insP x o) []) (fun _ n => ((printsF (gi l i) k w).1.length - n).toNat) (fun out1 n hst1 again5 hag5 => ?_) ⟨by omega, by omega, h3, h2⟩
   obtain ⟨g0, g1, g3, g2⟩ := hst1
   have hpl := prints_len (gi l i) k w
   have hwl := (hp0.2 _ (gi_mem (l := l) (i := i) (by omega))).2.1
   refine ⟨fun hlt1 => ⟨by omega, by omega, ?_⟩, fun hn1 => ⟨by omega, hag _ _ ⟨by omega, by omega, ?_, ?_⟩ (by omega)⟩⟩
   · rw [postsOf_at (by omega), show ((i.toNat : Nat) : Int) = i by omega] at g2 g3
     simp only [List.cons_append, List.length_cons, List.foldl_cons] at g2 g3
     refine lfp_of (fun at_ : Int => 0 ≤ at_ ∧ at_ ≤ out1.length ∧ ∀ j : Int, 0 ≤ j → j < at_ → postLt (gi out1 j) ⟨(gi (printsF (gi l i) k w).1 n).hash, i, (gi (printsF (gi l i) k w).1 n).at_⟩ = true) (fun at_ => (out1.length - at_).toNat) (fun at_ hat again166 hag166 => ?_) ⟨by omega, by omega, fun j _ _ => by omega⟩
     obtain ⟨a0, a1, a2⟩ := hat
     refine ⟨fun hb => by omega, fun hb => ⟨by omega, hag166 _ ⟨by omega, by omega, fun j hj hj2 => ?_⟩ (by omega)⟩, fun hb => ?_⟩
     · by_cases e : j = at_
       · rw [e]; exact hb.2
       · exact a2 j hj (by omega)
     · have htw := take_whileI (p := fun y => postLt y ⟨(gi (printsF (gi l i) k w).1 n).hash, i, (gi (printsF (gi l i) k w).1 n).at_⟩) ⟨a0, a1⟩ a2 (fun hx => by
         rcases hb with hb | hb
         · exact absurd hx hb
         · exact hb)
       have e : ((([] : List Pst) ++ (lsub out1 0 at_)) ++ ([(Pst.mk ((gi ((printsF (gi l i) k w).1) n).hash) i ((gi ((printsF (gi l i) k w).1) n).at_))] : List Pst)) ++ (lsub out1 at_ (out1.length : Int)) = insP ⟨(gi (printsF (gi l i) k w).1 n).hash, i, (gi (printsF (gi l i) k w).1 n).at_⟩ out1 := by
         unfold insP
         rw [htw.1, htw.2, lsub_to, lsub_from, List.nil_append]
       have hl1 : (lsub out1 0 at_).length = at_.toNat := by rw [lsub_to, List.length_take]; omega
       have hl2 : (lsub out1 at_ (out1.length : Int)).length = out1.length - at_.toNat := by rw [lsub_from, List.length_drop]
       rw [e]
       simp only [List.length_append] at g3
       refine ⟨by omega, ⟨by simp [hl1]; omega, by simp [hl1]; omega⟩, ⟨by simp [hl1]; omega, by simp [hl1]; omega⟩, by omega, ⟨by simp [hl1, hl2]; omega, by simp [hl1, hl2]; omega⟩, by omega, hag5 _ _ ⟨by omega, by omega, ?_, g2⟩ (by omega)⟩
       rw [insP_len, List.length_append]; omega
   · rw [drop_end hn1] at g3; exact g3
   · rw [drop_end hn1] at g2; exact g2
 · rw [drop_end hn] at h2
   simp only [flatP, List.foldl_nil] at h2
   rw [← h2] at h
   exact h
theorem eqPst_iff (a b : Pst) : eqPst a b = true ↔ a = b := by
 obtain ⟨a1, a2, a3⟩ := a; obtain ⟨b1, b2, b3⟩ := b
 simp [eqPst]
theorem eqPosts_ok (s1 : (List Pst)) (s2 : (List Pst)) (Q : Bool → Prop) (hp0 : s1.length ≤ 9223372036854775807) (h : Q ((decide (s1 = s2)))) : eqPosts_vc s1 s2 Q := eq_gen eqPst eqPst_iff s1 s2 Q hp0 h
theorem c26same_ok (a : (List Pst)) (b : (List Pst)) (Q : Bool → Prop) (hp0 : a.length ≤ 9223372036854775806) (h : Q ((decide (a = b)))) : c26same_vc a b Q := eq_gen eqPst eqPst_iff a b Q (by omega) h
def pathAt (l : List Text) (i : Int) : Option ByteArray := if i > 0 then some (gi l (i - 1)).path else none
theorem checkT_at {l : List Text} {x : Int} (h : inL x l.length) : checkT (pathAt l x) (l.drop x.toNat) = if validT (gi l x) then if (x > 0 → sless (gi l (x - 1)).path (gi l x).path = true) then checkT (pathAt l (x + 1)) (l.drop (x + 1).toNat) else 5 else 1 := by
 rw [drop_gi h, checkT]
 have e : pathAt l (x + 1) = some (gi l x).path := by unfold pathAt; rw [if_pos (by omega), show x + 1 - 1 = x by omega]
 rw [e]
 by_cases hv : validT (gi l x) = true
 · rw [if_pos hv, if_pos hv]
   by_cases hx : x > 0
   · have e2 : pathAt l x = some (gi l (x - 1)).path := by unfold pathAt; rw [if_pos hx]
     rw [e2]
     simp only [Option.all_some]
     by_cases hs : sless (gi l (x - 1)).path (gi l x).path = true
     · rw [if_pos hs, if_pos (fun _ => hs)]
     · rw [if_neg hs, if_neg (fun k => hs (k hx))]
   · have e2 : pathAt l x = none := by unfold pathAt; rw [if_neg hx]
     rw [e2, if_pos (show (Option.all (fun q => sless q (gi l x).path) none = true) from rfl), if_pos (fun k => absurd k hx)]
 · rw [if_neg hv, if_neg hv]
theorem le_sless (a b : ByteArray) : (sless a b || decide (a = b)) = true ↔ ¬ sless b a = true := by
 rw [Bool.or_eq_true, decide_eq_true_eq]
 constructor
 · rintro (h | h)
   · exact sl_asymm h
   · rw [h]; exact sl_irrefl _
 · intro h
   rcases sl_tri a b with h1 | h1 | h1
   · exact .inl h1
   · exact .inr h1
   · exact absurd h1 h
theorem ccheck_ok (c : Corpus) (Q : Int → Prop) (hp0 : okC c) (h : Q (checkF c)) : ccheck_vc c Q := by
 unfold checkF at h
 refine ⟨fun hb => by rw [if_neg (sizes_not hb)] at h; exact h, fun hg => ?_⟩
 rw [if_pos ((sizes_iff _ _).2 hg)] at h
 refine ⟨fun hb => by rw [if_pos (by omega)] at h; exact h, fun hs => ?_⟩
 rw [if_neg (by omega)] at h
 refine lfp_of (fun x : Int => 0 ≤ x ∧ x ≤ c.texts.length ∧ checkT (pathAt c.texts x) (c.texts.drop x.toNat) = checkT none c.texts) (fun x => (c.texts.length - x).toNat) (fun x hst again hag => ?_) ⟨by omega, by omega, rfl⟩
 obtain ⟨h0, h1, h2⟩ := hst
 refine ⟨fun hlt => ?_, fun hn => ?_⟩
 · rw [checkT_at (by omega)] at h2
   refine ⟨by omega, hp0.1.2 _ (gi_mem (by omega)), fun hv => ?_, fun hv => ⟨fun hx => ⟨by omega, by omega⟩, fun hb => ?_, fun hb => ⟨by omega, hag _ ⟨by omega, by omega, ?_⟩ (by omega)⟩⟩⟩
   · rw [hv, if_neg (by decide)] at h2
     rw [← h2, if_neg (by decide)] at h; exact h
   · rw [hv, if_pos rfl, if_neg (fun k => (le_sless _ _).1 hb.2 (k hb.1))] at h2
     rw [← h2, if_neg (by decide)] at h; exact h
   · rw [hv, if_pos rfl, if_pos] at h2
     · exact h2
     · intro hx
       rcases hb with hb | hb
       · exact absurd hx hb
       · cases hs2 : sless (gi c.texts (x - 1)).path (gi c.texts x).path with
         | true => rfl
         | false => rw [(le_sless _ _).2 (by rw [hs2]; decide)] at hb; cases hb
 · rw [drop_end hn, checkT] at h2
   rw [← h2, if_pos rfl] at h
   refine ⟨hp0.1, by have := hp0.2; omega, fun hf => ?_, fun ht => ?_⟩
   · rw [if_neg (of_decide_eq_false hf)] at h; exact h
   · rw [if_pos (of_decide_eq_true ht)] at h; exact h
theorem c26check_ok (c : Corpus) (Q : Int → Prop) (hp0 : okC c) (h : Q (checkF c)) : c26check_vc c Q := by
 unfold checkF at h
 refine ⟨fun hb => by rw [if_neg (sizes_not hb)] at h; exact h, fun hg => ?_⟩
 rw [if_pos ((sizes_iff _ _).2 hg)] at h
 refine ⟨fun hb => by rw [if_pos (by omega)] at h; exact h, fun hs => ?_⟩
 rw [if_neg (by omega)] at h
 refine lfp_of (fun x : Int => 0 ≤ x ∧ x ≤ c.texts.length ∧ checkT (pathAt c.texts x) (c.texts.drop x.toNat) = checkT none c.texts) (fun x => (c.texts.length - x).toNat) (fun x hst again hag => ?_) ⟨by omega, by omega, rfl⟩
 obtain ⟨h0, h1, h2⟩ := hst
 refine ⟨fun hlt => ?_, fun hn => ?_⟩
 · rw [checkT_at (by omega)] at h2
   refine ⟨by omega, hp0.1.2 _ (gi_mem (by omega)), fun hv => ?_, fun hv => ⟨fun hx => ⟨by omega, by omega, by omega⟩, fun hb => ?_, fun hb => ⟨by omega, hag _ ⟨by omega, by omega, ?_⟩ (by omega)⟩⟩⟩
   · rw [hv, if_neg (by decide)] at h2
     rw [← h2, if_neg (by decide)] at h; exact h
   · rw [hv, if_pos rfl, if_neg (fun k => by have := k hb.1; have h5 := hb.2; rw [this] at h5; cases h5)] at h2
     rw [← h2, if_neg (by decide)] at h; exact h
   · rw [hv, if_pos rfl, if_pos] at h2
     · exact h2
     · intro hx
       rcases hb with hb | hb
       · exact absurd hx hb
       · simpa using hb
 · rw [drop_end hn, checkT] at h2
   rw [← h2, if_pos rfl] at h
   refine ⟨hp0.1, by have := hp0.2; omega, fun hf => ?_, fun ht => ?_⟩
   · rw [if_neg (of_decide_eq_false hf)] at h; exact h
   · rw [if_pos (of_decide_eq_true ht)] at h; exact h
end Go.Lic
