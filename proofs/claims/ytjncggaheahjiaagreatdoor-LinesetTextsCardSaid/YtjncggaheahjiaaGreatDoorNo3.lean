/-
  Texts of sets of lines: printing; the statement about texts. No program in sight.
-/
import Derived.Test.YtjncggaheahjiaaGreatDoorNo2
set_option linter.all false
namespace Go.Lic
open Go.Proofs Go.Sort Go.Shelf
theorem dec_one : ∀ n : Fin 10, Lib.itoa (n.val : Int) = [UInt8.ofNat (IntKind.u8.wrap (48 + (n.val : Int))).toNat] := by decide +kernel
theorem dec_big : ∀ n : Fin 1025, 10 ≤ n.val → Lib.itoa ((n.val : Int) / 10) ++ Lib.itoa ((n.val : Int) % 10) = Lib.itoa (n.val : Int) := by decide +kernel
theorem dec_ok (n : Int) (Q : ByteArray → Prop) (hp0 : (0 : Int) ≤ n) (hp1 : n ≤ (1024 : Int)) (h : Q (itoaF n)) : dec_vc n Q := by
 have e : ((n.toNat : Nat) : Int) = n := by omega
 refine ⟨fun hlt => ⟨by omega, ?_⟩, fun hn => ⟨by omega, by omega, by omega, by omega, by omega, by omega, ?_, ?_⟩⟩
 · have h1 := dec_one ⟨n.toNat, by omega⟩
   simp only at h1
   rw [e] at h1
   unfold itoaF at h
   rw [h1] at h
   exact h
 · have h1 := itoa_sz (n := n / 10) (by omega) (by omega)
   have h2 := itoa_sz (n := n % 10) (by omega) (by omega)
   omega
 · have h1 := dec_big ⟨n.toNat, by omega⟩ (by simp only; omega)
   simp only at h1
   rw [e] at h1
   have e2 : itoaF (n / 10) ++ itoaF (n % 10) = itoaF n := ba_eq (by rw [ByteArray.data_append, Array.toList_append]; exact h1)
   rw [e2]; exact h
theorem ba_appN (u : List UInt8) (s : ByteArray) : ba u ++ s = ba (u ++ s.data.toList) := ba_eq (by rw [ByteArray.data_append, Array.toList_append, ba_list, ba_list])
theorem app_listN (a b : ByteArray) : (a ++ b).data.toList = a.data.toList ++ b.data.toList := by rw [ByteArray.data_append, Array.toList_append]
theorem rprint_ok (l : (List Span)) (Q : ByteArray × Int → Prop) (hp0 : l.length ≤ 1000) (hp1 : ∀ z_ ∈ l, z_.path.size ≤ 1000000) (h : Q (printF l)) : rprint_vc l Q := by
 unfold printF at h
 refine ⟨hp0, hp1, fun hv => by rw [hv] at h; exact h, fun hv => ?_⟩
 rw [if_pos hv] at h
 have h : Q (ba (l.flatMap fun s => (spanT s).data.toList), 0) := h
 refine lfp2 (rprint_L1 l Q) (fun out i => 0 ≤ i ∧ i ≤ l.length ∧ (out.size : Int) ≤ i * 1000 ∧ out = ba ((l.take i.toNat).flatMap fun s => (spanT s).data.toList)) (fun _ i => (l.length - i).toNat) (fun out i hst again hag => ?_) ⟨by omega, by omega, Int.le_refl 0, rfl⟩
 obtain ⟨h0, h1, h2, h3⟩ := hst
 refine ⟨fun hlt => ?_, fun hn => ?_⟩
 · have hi : inL i l.length := by omega
   have hs := valid_span hv _ (gi_mem hi)
   have hin := span_inside hs
   have hz := span_size hs
   have z1 := itoa_sz (n := (gi l i).from_) (by omega) (by omega)
   have z2 := itoa_sz (n := (gi l i).to) (by omega) (by omega)
   have e1 : (⟨#[32]⟩ : ByteArray).size = 1 := rfl
   have e2 : (⟨#[10]⟩ : ByteArray).size = 1 := rfl
   refine ⟨hi, by omega, ?_, by omega, by omega, ?_, ?_, by omega, by omega, ?_, ?_, by omega, hag _ _ ⟨by omega, by omega, ?_, ?_⟩ (by omega)⟩
   all_goals try (simp only [app_size, e1, e2]; omega)
   have hg : gi l i = l[i.toNat]'(by omega) := gi_lt hi
   rw [h3, show (i + 1).toNat = i.toNat + 1 by omega, List.take_succ_eq_append_getElem (by omega), List.flatMap_append, ← hg]
   simp only [ba_appN, List.flatMap_cons, List.flatMap_nil, List.append_nil, spanT, app_listN, List.append_assoc]
 · rw [List.take_of_length_le (by omega)] at h3
   rw [h3]; exact h
theorem Q_trueN {b : Bool} {Q : Bool → Prop} (e : b = true) (h : Q true) : Q b := e ▸ h
theorem parse_len : ∀ (w : List ByteArray) (i : Int) (out : List Span), (parseL i out w).1.length ≤ out.length + w.length
 | [], i, out => by simp [parseL]
 | [l], i, out => by
   rw [parse_last]; split
   · simp only; omega
   · simp
 | l :: m :: r, i, out => by
   rw [parse_more (by simp)]
   split
   · have := parse_len (m :: r) (i + 1) (out ++ [(spanF l out).1])
     simp only [List.length_append, List.length_cons, List.length_nil] at this ⊢
     omega
   · simp
theorem lawTexts_ok (l : (List Span)) (s_ : ByteArray) (Q : Bool → Prop) (h : Q (true)) : lawTexts_vc l s_ Q := by
 refine ⟨nofun, fun _ => ⟨fun _ => h, fun hg => ?_⟩⟩
 obtain ⟨hf, hs⟩ := hg
 obtain ⟨f1, f2⟩ := few_len hf
 have hl := splitF_len s_ 10
 have hp := parse_len (splitF s_ ⟨#[10]⟩) 0 []
 have hp2 : (parseF s_).1.length ≤ 1001 := by unfold parseF; simp only [List.length_nil] at hp; omega
 exact ⟨by omega, f2, by omega, f2, by omega, by omega, fun _ => by omega, Q_trueN (by simp) h⟩
end Go.Lic
