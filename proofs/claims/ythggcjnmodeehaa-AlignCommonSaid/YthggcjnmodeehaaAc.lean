/-
  The conditions of AlignCommon and of what it calls hold. No program in sight.
-/
import Derived.Test.YthggcjnmodeehaaAv
import Derived.Test.YthggcjnmodeehaaFor
set_option linter.all false
namespace Go.Lic

theorem grow_ok (n : Int) (Q : List Lexeme → Prop) (h0 : 0 ≤ n) (h1 : n ≤ 1000000) (h : Q (growF n)) : grow_vc n Q := by
  unfold grow_vc
  unfold growF at h
  refine ⟨fun hn => by omega, fun _ => ⟨by omega, by omega, fun hp => ⟨by omega, by omega, ?_⟩, fun _ => h⟩⟩
  have e : ∀ l : List Lexeme, lsub l 0 0 = [] := fun l => by simp [lsub]
  rw [e]; exact h
theorem flat_take {l : List (List Lexeme)} {i : Nat} (hi : i < l.length) : (l.take (i + 1)).flatten = (l.take i).flatten ++ l[i] := by
  rw [List.take_succ_eq_append_getElem hi, List.flatten_append]; simp
theorem flat_le (l : List (List Lexeme)) (i : Nat) : (l.take i).flatten.length ≤ l.flatten.length := by
  conv => rhs; rw [← List.take_append_drop i l, List.flatten_append, List.length_append]
  omega
theorem concat_ok (l : List (List Lexeme)) (Q : List Lexeme → Prop) (h0 : l.length ≤ 10) (h1 : l.flatten.length ≤ 1000000) (h : Q l.flatten) : concat_vc l Q := by
  unfold concat_vc
  refine lfp_for l.length (fun i => ((l.take i).flatten.length : Int)) (fun i hi again hag => ?_) (fun again => ?_)
  · unfold concat_L1
    dsimp only
    have hg : gi l (i : Int) = l[i] := gi_nat hi
    have hf := flat_le l (i + 1)
    rw [flat_take hi, List.length_append] at hag hf
    rw [hg]
    have e : ((l.take i).flatten.length : Int) + (l[i].length : Int) = ((l.take i).flatten.length + l[i].length : Nat) := by omega
    rw [e]
    exact ⟨fun _ => ⟨by omega, by omega, fun hn => by omega, fun _ => ⟨by omega, hag⟩⟩, fun hn => absurd (by omega) hn⟩
  · unfold concat_L1
    dsimp only
    rw [List.take_length]
    refine ⟨fun hn => absurd hn (by omega), fun _ => ⟨by omega, by omega, ?_⟩⟩
    refine lfp_for l.length (fun i => (l.take i).flatten) (fun i hi again hag => ?_) (fun again => ?_)
    · unfold concat_L2
      dsimp only
      have hg : gi l (i : Int) = l[i] := gi_nat hi
      have hf := flat_le l (i + 1)
      rw [flat_take hi] at hag hf
      rw [List.length_append] at hf
      rw [hg]
      exact ⟨fun _ => ⟨by omega, by omega, by omega, hag⟩, fun hn => absurd (by omega) hn⟩
    · unfold concat_L2
      dsimp only
      rw [List.take_length]
      exact ⟨fun hn => absurd hn (by omega), fun _ => h⟩
theorem distF_common (a b f k : List Lexeme) (c : Costs) (ha : a.length ≤ 14) (hb : b.length ≤ 14) (hf : f.length ≤ 14) (hk : k.length ≤ 14) : distF (f ++ (a ++ k)) (f ++ (b ++ k)) c = distF a b c := by
  have e : checkF (f ++ (a ++ k)) (f ++ (b ++ k)) c = checkF a b c := by
    unfold checkF
    have h1 : ¬ ((f ++ (a ++ k)).length > 1024 ∨ (f ++ (b ++ k)).length > 1024) := by simp; omega
    have h2 : ¬ (a.length > 1024 ∨ b.length > 1024) := by omega
    rw [if_neg h1, if_neg h2]
  unfold distF
  rw [e]
  split
  · next h => rw [edit_common (checkF_ok h).1]
  · rfl
theorem lawCommon_ok (a b f k : List Lexeme) (c : Costs) (Q : Bool → Prop) (h : Q true) : lawCommon_vc a b f k c Q := by
  unfold lawCommon_vc
  refine ⟨fun hc => by simp at hc, fun _ => ⟨fun _ => by simp, fun _ => h, fun hn => ?_⟩⟩
  have e1 : List.flatten ([f, a, k] : List (List Lexeme)) = f ++ (a ++ k) := by simp
  have e2 : List.flatten ([f, b, k] : List (List Lexeme)) = f ++ (b ++ k) := by simp
  rw [e1, e2, distF_common a b f k c (by omega) (by omega) (by omega) (by omega)]
  refine ⟨by simp, by simp; omega, by simp, by simp; omega, ?_⟩
  simpa using h
end Go.Lic
