/-
  Texts of sets of lines: numbers, lines, whole texts: the conditions hold. No program in sight.
-/
import Derived.Test.YtjncggaheahjiaaGreatDoorNo
set_option linter.all false
namespace Go.Lic
open Go.Proofs Go.Sort Go.Shelf
theorem atoi_itoa2 : ∀ a b : Fin 100, Lib.atoiAll (Lib.itoa ((100 * a.val + b.val : Nat) : Int)) = .ok ((100 * a.val + b.val : Nat) : Int) ∧ (Lib.itoa ((100 * a.val + b.val : Nat) : Int)).length ≤ 4 := by decide +kernel
theorem atoi_itoa {n : Nat} (h : n < 10000) : Lib.atoiAll (Lib.itoa (n : Int)) = .ok (n : Int) ∧ (Lib.itoa (n : Int)).length ≤ 4 := by
 have := atoi_itoa2 ⟨n / 100, by omega⟩ ⟨n % 100, by omega⟩
 simp only at this
 rwa [show 100 * (n / 100) + n % 100 = n by omega] at this
theorem numF_itoa {n : Nat} (h : n < 10000) : numF (itoaF (n : Int)) = n := by
 obtain ⟨h1, h2⟩ := atoi_itoa h
 have e : (itoaF (n : Int)).data.toList = Lib.itoa (n : Int) := rfl
 unfold numF
 rw [e, h1]
 simp only
 rw [if_pos ⟨by rw [size_list, e]; exact h2, trivial⟩]
theorem numF_canon {s : ByteArray} (h : 0 ≤ numF s) : ∃ n : Nat, n < 10000 ∧ s = itoaF (n : Int) ∧ numF s = n := by
 have key : s.size ≤ 4 ∧ itoaF (numF s) = s := by
   unfold numF at h ⊢
   split at h
   · next v hv =>
     split at h
     · next hc => rw [if_pos hc]; exact hc
     · omega
   · omega
 obtain ⟨n, hn⟩ : ∃ n : Nat, numF s = n := ⟨(numF s).toNat, by omega⟩
 rw [hn] at key
 refine ⟨n, ?_, key.2.symm, hn⟩
 have h4 : (Lib.itoa (n : Int)).length ≤ 4 := by
   have := key.1
   rw [← key.2, size_list] at this; exact this
 have hi : Lib.itoa (n : Int) = Lib.decDigits n := by unfold Lib.itoa; rw [if_neg (by omega)]; simp
 rw [hi, Lib.decDigits_length] at h4
 have := Lib.lt_pow_nDigits n
 have h5 : (10 : Nat) ^ Lib.nDigits n ≤ 10 ^ 4 := Nat.pow_le_pow_right (by omega) h4
 omega
end Go.Lic
