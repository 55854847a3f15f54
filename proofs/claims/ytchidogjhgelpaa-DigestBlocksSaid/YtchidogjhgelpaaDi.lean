/-
  Different states have different permutations.
-/
import Derived.Test.YtchidogjhgelpaaDo3
set_option linter.all false
namespace Go.Lic

abbrev bv (x : Int) : BitVec 64 := BitVec.ofInt 64 x
theorem bv_nat {x : Int} (h : in64 x) : ((bv x).toNat : Int) = x := by
  simp only [BitVec.toNat_ofInt]
  omega
theorem bv_inj {x y : Int} (hx : in64 x) (hy : in64 y) (h : bv x = bv y) : x = y := by rw [← bv_nat hx, ← bv_nat hy, h]
theorem toNat_in (b : BitVec 64) : in64 (b.toNat : Int) := by have := b.isLt; omega
theorem gxor_in (a b : Int) : in64 (gxor .u64 a b) := by rw [gxor_bv]; exact toNat_in _
theorem bv_gxor (a b : Int) : bv (gxor .u64 a b) = bv a ^^^ bv b := by rw [gxor_bv]; exact ofInt_bv _
theorem bv_gand (a b : Int) : bv (gand .u64 a b) = bv a &&& bv b := by rw [gand_bv]; exact ofInt_bv _
theorem bv_gor (a b : Int) : bv (gor .u64 a b) = bv a ||| bv b := by rw [gor_bv]; exact ofInt_bv _
theorem bv_gnot (a : Int) : bv (gnot .u64 a) = ~~~ bv a := by
  have e : (if IntKind.u64.signed then (-1 : Int) else IntKind.u64.max) = 18446744073709551615 := by decide
  unfold gnot
  rw [e, bv_gxor]
  have : bv 18446744073709551615 = BitVec.allOnes 64 := by decide
  rw [this, BitVec.allOnes_xor]
theorem two_pow_bv : ∀ k : Fin 65, BitVec.ofInt 64 (2 ^ k.val) = BitVec.twoPow 64 k.val := by decide +kernel
theorem bv_shl (x : Int) (k : Nat) (hk : k ≤ 64) : bv (gshl .u64 x (k : Int)) = bv x <<< k := by
  unfold gshl
  rw [bv, ofInt_wrap, Int.toNat_natCast, Nat.min_eq_left (by simpa [IntKind.bits] using hk)]
  have := two_pow_bv ⟨k, by omega⟩
  rw [BitVec.ofInt_mul, this, BitVec.shiftLeft_eq_mul_twoPow]
theorem bv_toNat (b : BitVec 64) : bv (b.toNat : Int) = b := ofInt_bv b
theorem bv_shr (x : Int) (hx : in64 x) (k : Nat) (hk : k ≤ 64) : bv (gshr .u64 x (k : Int)) = bv x >>> k := by
  obtain ⟨n, rfl⟩ : ∃ n : Nat, x = n := ⟨x.toNat, by omega⟩
  unfold gshr
  rw [Int.toNat_natCast, Nat.min_eq_left (by simpa [IntKind.bits] using hk)]
  apply BitVec.eq_of_toNat_eq
  rw [BitVec.toNat_ushiftRight, Nat.shiftRight_eq_div_pow]
  have e2 : ((2 : Int) ^ k) = ((2 ^ k : Nat) : Int) := by norm_cast
  have hn : n < 18446744073709551616 := by omega
  have hd : n / 2 ^ k ≤ n := Nat.div_le_self _ _
  have e3 : (n : Int).fdiv (2 ^ k) = ((n / 2 ^ k : Nat) : Int) := by
    rw [e2, Int.fdiv_eq_ediv_of_nonneg _ (Int.natCast_nonneg _)]; rfl
  rw [e3]
  simp only [BitVec.toNat_ofInt]
  have a : ∀ m : Nat, m < 18446744073709551616 → ((m : Int) % ((2 ^ 64 : Nat) : Int)).toNat = m := by
    intro m hm
    rw [Int.emod_eq_of_lt (by omega) (by omega)]; rfl
  rw [a n hn, a _ (by omega)]
theorem rot_bv (x : Int) (hx : in64 x) (k : Nat) (hk : k < 64) : rotF x k = ((bv x).rotateLeft k).toNat := by
  have hs := rot_small ⟨k, hk⟩
  have hs2 : IntKind.u64.wrap (64 - (k : Int)) = ((64 - k : Nat) : Int) := by
    by_cases h0 : k = 0
    · subst h0; decide
    · have := rot_small ⟨64 - k, by omega⟩
      have e : (64 - (k : Int)) = ((64 - k : Nat) : Int) := by omega
      rw [e]; exact this.2
  simp only at hs
  unfold rotF
  rw [hs.1, hs2, gor_bv]
  have e1 := bv_shl x k (by omega)
  have e2 := bv_shr x hx (64 - k) (by omega)
  simp only [bv] at e1 e2 ⊢
  rw [e1, e2]
  congr 1
  rw [BitVec.rotateLeft_def, Nat.mod_eq_of_lt hk]
theorem rot_bit (x : BitVec 64) {r i : Nat} (hr : r < 64) (hi : i < 64) : (x.rotateLeft r).getLsbD ((i + r) % 64) = x.getLsbD i := by
  rw [BitVec.getLsbD_rotateLeft, Nat.mod_eq_of_lt hr]
  by_cases h : i + r < 64
  · rw [Nat.mod_eq_of_lt h, decide_eq_false (show ¬ i + r < r by omega), decide_eq_true h]
    simp
  · rw [show (i + r) % 64 = i + r - 64 by omega, decide_eq_true (show i + r - 64 < r by omega)]
    simp only [cond_true]
    congr 1; omega
theorem rot_inj {x y : BitVec 64} {r : Nat} (hr : r < 64) (h : x.rotateLeft r = y.rotateLeft r) : x = y := by
  apply BitVec.eq_of_getLsbD_eq
  intro i hi
  rw [← rot_bit x hr hi, ← rot_bit y hr hi, h]
theorem rotF_inj {x y : Int} (hx : in64 x) (hy : in64 y) {k : Nat} (hk : k < 64) (h : rotF x k = rotF y k) : bv x = bv y := by
  rw [rot_bv x hx k hk, rot_bv y hy k hk] at h
  exact rot_inj hk (BitVec.eq_of_toNat_eq (by omega))

/-! The mixing of columns loses nothing. -/
section
variable (p : Nat → BitVec 64) (h : ∀ x, x < 5 → p x = p ((x + 4) % 5) ^^^ (p ((x + 1) % 5)).rotateLeft 1)
def mbit (x z : Nat) : Bool := (p (x % 5)).getLsbD (z % 64)
include h in
theorem mbit_1 (x z : Nat) : mbit p x z = (mbit p (x + 4) z ^^ mbit p (x + 1) (z + 63)) := by
  unfold mbit
  have hx : x % 5 < 5 := by omega
  conv => lhs; rw [h _ hx]
  rw [BitVec.getLsbD_xor, show (x % 5 + 4) % 5 = (x + 4) % 5 by omega, show (x % 5 + 1) % 5 = (x + 1) % 5 by omega]
  have e := rot_bit (p ((x + 1) % 5)) (r := 1) (i := (z + 63) % 64) (by omega) (by omega)
  rw [show ((z + 63) % 64 + 1) % 64 = z % 64 by omega] at e
  rw [e]
include h in
theorem mbit_k (k : Nat) : ∀ x z : Nat, mbit p x z = (mbit p (x + 4 * 2 ^ k) z ^^ mbit p (x + 2 ^ k) (z + 63 * 2 ^ k)) := by
  induction k with
  | zero => exact fun x z => mbit_1 p h x z
  | succ k ih =>
    intro x z
    rw [Nat.pow_succ]
    generalize 2 ^ k = m at ih ⊢
    rw [ih x z, ih (x + 4 * m) z, ih (x + m) (z + 63 * m)]
    rw [show x + 4 * m + 4 * m = x + 4 * (m * 2) by omega, show x + 4 * m + m = x + m + 4 * m by omega, show x + m + m = x + m * 2 by omega, show z + 63 * m + 63 * m = z + 63 * (m * 2) by omega]
    generalize mbit p (x + m + 4 * m) (z + 63 * m) = u
    generalize mbit p (x + 4 * (m * 2)) z = v
    generalize mbit p (x + m * 2) (z + 63 * (m * 2)) = w
    revert u v w; decide
theorem five_b : ∀ a b c d e : Bool, a = (b ^^ e) → b = (c ^^ a) → c = (d ^^ b) → d = (e ^^ c) → e = (a ^^ d) → a = false := by decide
include h in
theorem mbit_zero (x z : Nat) : mbit p x z = false := by
  have h6 : ∀ x, mbit p x z = (mbit p (x + 1) z ^^ mbit p (x + 4) z) := by
    intro x
    have := mbit_k p h 6 x z
    rw [this]
    unfold mbit
    rw [show (x + 4 * 2 ^ 6) % 5 = (x + 1) % 5 by omega, show (x + 2 ^ 6) % 5 = (x + 4) % 5 by omega, show (z + 63 * 2 ^ 6) % 64 = z % 64 by omega]
  have per : ∀ x, mbit p (x + 5) z = mbit p x z := fun x => by unfold mbit; rw [show (x + 5) % 5 = x % 5 by omega]
  have e0 := h6 x
  have e1 := h6 (x + 1); have e2 := h6 (x + 2); have e3 := h6 (x + 3); have e4 := h6 (x + 4)
  have q0 := per x; have q1 := per (x + 1); have q2 := per (x + 2); have q3 := per (x + 3)
  simp only [Nat.add_assoc, Nat.reduceAdd] at e1 e2 e3 e4 q0 q1 q2 q3
  rw [q0] at e1; rw [q1] at e2; rw [q2] at e3; rw [q0, q3] at e4
  exact five_b _ _ _ _ _ e0 e1 e2 e3 e4
include h in
theorem mix_zero {x : Nat} (hx : x < 5) : p x = 0#64 := by
  apply BitVec.eq_of_getLsbD_eq
  intro i hi
  have := mbit_zero p h x i
  unfold mbit at this
  rw [Nat.mod_eq_of_lt hx, Nat.mod_eq_of_lt hi] at this
  simp [this]
end
section
variable (A B : Nat → BitVec 64)
abbrev colB (A : Nat → BitVec 64) (x : Nat) : BitVec 64 := A x ^^^ A (x + 5) ^^^ A (x + 10) ^^^ A (x + 15) ^^^ A (x + 20)
abbrev mixB (A : Nat → BitVec 64) (x : Nat) : BitVec 64 := colB A ((x + 4) % 5) ^^^ (colB A ((x + 1) % 5)).rotateLeft 1
theorem xor_swap {a b c d : BitVec 64} (h : a ^^^ b = c ^^^ d) : a ^^^ c = b ^^^ d := by
  have : a = c ^^^ d ^^^ b := by rw [← h, BitVec.xor_assoc, BitVec.xor_self, BitVec.xor_zero]
  rw [this, BitVec.xor_comm _ c, ← BitVec.xor_assoc, ← BitVec.xor_assoc, BitVec.xor_self, BitVec.zero_xor, BitVec.xor_comm]
theorem rot_xor (x y : BitVec 64) : (x ^^^ y).rotateLeft 1 = x.rotateLeft 1 ^^^ y.rotateLeft 1 := by
  apply BitVec.eq_of_getLsbD_eq
  intro i hi
  have e : i = ((i + 63) % 64 + 1) % 64 := by omega
  rw [BitVec.getLsbD_xor, e, rot_bit _ (by omega) (by omega), rot_bit _ (by omega) (by omega), rot_bit _ (by omega) (by omega), BitVec.getLsbD_xor]
theorem xor_ac4 (a b c d : BitVec 64) : (a ^^^ b) ^^^ (c ^^^ d) = (a ^^^ c) ^^^ (b ^^^ d) := by
  rw [BitVec.xor_assoc, ← BitVec.xor_assoc b, BitVec.xor_comm b c, BitVec.xor_assoc, ← BitVec.xor_assoc]
theorem theta_inj (h : ∀ i, i < 25 → A i ^^^ mixB A (i % 5) = B i ^^^ mixB B (i % 5)) {i : Nat} (hi : i < 25) : A i = B i := by
  have h1 : ∀ i, i < 25 → A i ^^^ B i = mixB A (i % 5) ^^^ mixB B (i % 5) := fun i hi => xor_swap (h i hi)
  have hc : ∀ x, x < 5 → colB A x ^^^ colB B x = mixB A x ^^^ mixB B x := by
    intro x hx
    have g0 := h1 x (by omega); have g1 := h1 (x + 5) (by omega); have g2 := h1 (x + 10) (by omega); have g3 := h1 (x + 15) (by omega); have g4 := h1 (x + 20) (by omega)
    rw [Nat.mod_eq_of_lt hx] at g0
    rw [show (x + 5) % 5 = x by omega] at g1
    rw [show (x + 10) % 5 = x by omega] at g2
    rw [show (x + 15) % 5 = x by omega] at g3
    rw [show (x + 20) % 5 = x by omega] at g4
    unfold colB
    rw [xor_ac4, xor_ac4 (A x ^^^ A (x + 5) ^^^ A (x + 10)), xor_ac4 (A x ^^^ A (x + 5)), xor_ac4 (A x), g0, g1, g2, g3, g4, BitVec.xor_self, BitVec.zero_xor, BitVec.xor_self, BitVec.zero_xor]
  have hp := fun {x : Nat} (hx : x < 5) => mix_zero (fun x => colB A x ^^^ colB B x) (by
    intro x hx
    rw [hc x hx, rot_xor, xor_ac4]) hx
  have he : A i ^^^ B i = 0#64 := by
    have hx : i % 5 < 5 := by omega
    have := hp hx
    rw [h1 i hi, ← hc _ hx, this]
  have := congrArg (· ^^^ B i) he
  simpa [BitVec.xor_assoc] using this
end
theorem chi_b : ∀ a b c d e a' b' c' d' e' : Bool, (a ^^ (!b && c)) = (a' ^^ (!b' && c')) → (b ^^ (!c && d)) = (b' ^^ (!c' && d')) → (c ^^ (!d && e)) = (c' ^^ (!d' && e')) → (d ^^ (!e && a)) = (d' ^^ (!e' && a')) → (e ^^ (!a && b)) = (e' ^^ (!a' && b')) → a = a' := by decide +kernel
theorem chi_inj5 {a b c d e a' b' c' d' e' : BitVec 64} (h1 : a ^^^ (~~~ b &&& c) = a' ^^^ (~~~ b' &&& c')) (h2 : b ^^^ (~~~ c &&& d) = b' ^^^ (~~~ c' &&& d')) (h3 : c ^^^ (~~~ d &&& e) = c' ^^^ (~~~ d' &&& e'))
    (h4 : d ^^^ (~~~ e &&& a) = d' ^^^ (~~~ e' &&& a')) (h5 : e ^^^ (~~~ a &&& b) = e' ^^^ (~~~ a' &&& b')) : a = a' := by
  apply BitVec.eq_of_getLsbD_eq
  intro i hi
  have g1 := congrArg (BitVec.getLsbD · i) h1; have g2 := congrArg (BitVec.getLsbD · i) h2; have g3 := congrArg (BitVec.getLsbD · i) h3; have g4 := congrArg (BitVec.getLsbD · i) h4; have g5 := congrArg (BitVec.getLsbD · i) h5
  simp only [BitVec.getLsbD_xor, BitVec.getLsbD_and, BitVec.getLsbD_not, decide_eq_true hi, Bool.true_and] at g1 g2 g3 g4 g5
  exact chi_b _ _ _ _ _ _ _ _ _ _ g1 g2 g3 g4 g5

/-! Where the words of a round stand. -/
theorem at_map {n : Nat} {f g : Nat → Int} (h : (List.range n).map f = (List.range n).map g) {i : Nat} (hi : i < n) : f i = g i := by
  have := congrArg (fun l => l[i]?) h
  simpa [hi] using this
theorem col_at (s : List Int) (hs : s.length = 25) : ∀ x : Fin 5, gi (fori (sumR s) (List.replicate 5 0) 5) (x.val : Int) = gxor .u64 (gxor .u64 (gxor .u64 (gxor .u64 (gi s (x.val : Int)) (gi s ((x.val + 5 : Nat) : Int))) (gi s ((x.val + 10 : Nat) : Int))) (gi s ((x.val + 15 : Nat) : Int))) (gi s ((x.val + 20 : Nat) : Int)) := by
  have key : (List.range 5).map (fun x : Nat => gi (fori (sumR s) (List.replicate 5 0) 5) (x : Int)) = (List.range 5).map (fun x : Nat => gxor .u64 (gxor .u64 (gxor .u64 (gxor .u64 (gi s (x : Int)) (gi s ((x + 5 : Nat) : Int))) (gi s ((x + 10 : Nat) : Int))) (gi s ((x + 15 : Nat) : Int))) (gi s ((x + 20 : Nat) : Int))) := by
    obtain ⟨a0, a1, a2, a3, a4, a5, a6, a7, a8, a9, a10, a11, a12, a13, a14, a15, a16, a17, a18, a19, a20, a21, a22, a23, a24, rfl⟩ := list25 hs
    kernel_rfl
  exact fun i => at_map key i.isLt
def posM (i : Nat) : Nat := i / 5 + 5 * ((2 * (i % 5) + 3 * (i / 5)) % 5)
theorem mov_at (s c : List Int) (hs : s.length = 25) (hc : c.length = 5) : ∀ i : Fin 25, gi (fori (movF s offsF c) (List.replicate 25 0) 25) (posM i.val : Int) = rotF (gxor .u64 (gi s (i.val : Int)) (gxor .u64 (gi c (((i.val % 5 + 4) % 5 : Nat) : Int)) (rotF (gi c (((i.val % 5 + 1) % 5 : Nat) : Int)) 1))) (gi offsF (i.val : Int)) := by
  have key : (List.range 25).map (fun i : Nat => gi (fori (movF s offsF c) (List.replicate 25 0) 25) (posM i : Int)) = (List.range 25).map (fun i : Nat => rotF (gxor .u64 (gi s (i : Int)) (gxor .u64 (gi c (((i % 5 + 4) % 5 : Nat) : Int)) (rotF (gi c (((i % 5 + 1) % 5 : Nat) : Int)) 1))) (gi offsF (i : Int))) := by
    obtain ⟨a0, a1, a2, a3, a4, a5, a6, a7, a8, a9, a10, a11, a12, a13, a14, a15, a16, a17, a18, a19, a20, a21, a22, a23, a24, rfl⟩ := list25 hs
    obtain ⟨c0, c1, c2, c3, c4, rfl⟩ := list5 hc
    kernel_rfl
  exact fun i => at_map key i.isLt
def posC (i k : Nat) : Nat := i - i % 5 + (i + k) % 5
theorem chi_at (s t : List Int) (hs : s.length = 25) (ht : t.length = 25) : ∀ i : Fin 25, gi (fori (chiF t) s 25) (i.val : Int) = gxor .u64 (gi t (posC i.val 0 : Int)) (gand .u64 (gnot .u64 (gi t (posC i.val 1 : Int))) (gi t (posC i.val 2 : Int))) := by
  have key : (List.range 25).map (fun i : Nat => gi (fori (chiF t) s 25) (i : Int)) = (List.range 25).map (fun i : Nat => gxor .u64 (gi t (posC i 0 : Int)) (gand .u64 (gnot .u64 (gi t (posC i 1 : Int))) (gi t (posC i 2 : Int)))) := by
    obtain ⟨a0, a1, a2, a3, a4, a5, a6, a7, a8, a9, a10, a11, a12, a13, a14, a15, a16, a17, a18, a19, a20, a21, a22, a23, a24, rfl⟩ := list25 hs
    obtain ⟨b0, b1, b2, b3, b4, b5, b6, b7, b8, b9, b10, b11, b12, b13, b14, b15, b16, b17, b18, b19, b20, b21, b22, b23, b24, rfl⟩ := list25 ht
    kernel_rfl
  exact fun i => at_map key i.isLt
theorem gi_ext25 {a b : List Int} (ha : a.length = 25) (hb : b.length = 25) (h : ∀ i : Nat, i < 25 → gi a (i : Int) = gi b (i : Int)) : a = b := by
  refine List.ext_getElem (by omega) fun i h1 h2 => ?_
  rw [← gi_nat h1, ← gi_nat h2]; exact h i (by omega)
theorem gi_fit {a : List Int} (h : fit64 25 a) {i : Nat} (hi : i < 25) : in64 (gi a (i : Int)) := h.2 _ (gi_mem (by omega))
theorem fit_of {a : List Int} (hl : a.length = 25) (h : ∀ i : Nat, i < 25 → in64 (gi a (i : Int))) : fit64 25 a := by
  refine ⟨hl, fun x hx => ?_⟩
  obtain ⟨i, hi, rfl⟩ := List.getElem_of_mem hx
  rw [← gi_nat hi]; exact h i (by omega)
theorem offs_lt : ∀ i : Fin 25, ∃ k : Nat, k < 64 ∧ gi offsF (i.val : Int) = k := by
  intro i
  have h : ∀ i : Fin 25, 0 ≤ gi offsF (i.val : Int) ∧ gi offsF (i.val : Int) < 64 := by decide +kernel
  have := h i
  exact ⟨(gi offsF (i.val : Int)).toNat, by omega, by omega⟩
theorem posM_lt {i : Nat} (h : i < 25) : posM i < 25 := by unfold posM; omega
theorem posM_on : ∀ j : Fin 25, ∃ i : Fin 25, posM i.val = j.val := by decide +kernel
theorem gi_si0 {s : List Int} (v : Int) (hs : s.length = 25) {i : Nat} (hi : i < 25) : gi (si s 0 v) (i : Int) = if i = 0 then v else gi s (i : Int) := by
  rw [gi_nat (by simpa using (by omega : i < s.length)), si_getElem]
  split
  · next h => rw [if_pos]; omega
  · next h => rw [if_neg (fun h2 => h (by subst h2; rfl)), gi_nat (by omega)]
theorem xor_right {a b c : BitVec 64} (h : a ^^^ c = b ^^^ c) : a = b := by
  have := congrArg (· ^^^ c) h
  simpa [BitVec.xor_assoc] using this
theorem iot_inj {a b : List Int} {c : Int} (ha : fit64 25 a) (hb : fit64 25 b) (h : iotF a c = iotF b c) : a = b := by
  refine gi_ext25 ha.1 hb.1 fun i hi => ?_
  have := congrArg (gi · (i : Int)) h
  simp only [iotF] at this
  rw [gi_si0 _ ha.1 hi, gi_si0 _ hb.1 hi] at this
  split at this
  · next h0 =>
    subst h0
    have h2 := congrArg bv this
    rw [bv_gxor, bv_gxor] at h2
    exact bv_inj (gi_fit ha hi) (gi_fit hb hi) (xor_right h2)
  · exact this
theorem chi_fit {s t : List Int} (hs : s.length = 25) (ht : t.length = 25) : fit64 25 (fori (chiF t) s 25) := by
  refine fit_of (by rw [fori_len (fun _ _ => by simp)]; exact hs) fun i hi => ?_
  rw [chi_at s t hs ht ⟨i, hi⟩]; exact gxor_in _ _
theorem rot_in {x : Int} (hx : in64 x) {k : Nat} (hk : k < 64) : in64 (rotF x k) := by rw [rot_bv x hx k hk]; exact toNat_in _
theorem mov_fit {s c : List Int} (hs : s.length = 25) (hc : c.length = 5) : fit64 25 (fori (movF s offsF c) (List.replicate 25 0) 25) := by
  refine fit_of (by rw [fori_len (fun _ _ => by simp)]; simp) fun j hj => ?_
  obtain ⟨i, hi⟩ := posM_on ⟨j, hj⟩
  simp only at hi
  rw [← hi, mov_at s c hs hc i]
  obtain ⟨k, hk, e⟩ := offs_lt i
  rw [e]; exact rot_in (gxor_in _ _) hk
theorem posC0 {i : Nat} (h : i < 25) : posC i 0 = i := by unfold posC; omega
theorem posC_lt {i k : Nat} (h : i < 25) : posC i k < 25 := by unfold posC; omega
theorem posC_add {i j k : Nat} (h : i < 25) : posC (posC i j) k = posC i (j + k) := by unfold posC; omega
theorem posC5 {i k : Nat} : posC i (k + 5) = posC i k := by unfold posC; omega
theorem chi_inj {s s' t t' : List Int} (hs : s.length = 25) (hs' : s'.length = 25) (ht : fit64 25 t) (ht' : fit64 25 t') (h : fori (chiF t) s 25 = fori (chiF t') s' 25) : t = t' := by
  have hh : ∀ i : Nat, i < 25 → bv (gi t (posC i 0 : Int)) ^^^ (~~~ bv (gi t (posC i 1 : Int)) &&& bv (gi t (posC i 2 : Int))) = bv (gi t' (posC i 0 : Int)) ^^^ (~~~ bv (gi t' (posC i 1 : Int)) &&& bv (gi t' (posC i 2 : Int))) := by
    intro i hi
    have e1 := chi_at s t hs ht.1 ⟨i, hi⟩
    have e2 := chi_at s' t' hs' ht'.1 ⟨i, hi⟩
    rw [h, e2] at e1
    have := congrArg bv e1
    rw [bv_gxor, bv_gxor, bv_gand, bv_gand, bv_gnot, bv_gnot] at this
    exact this.symm
  refine gi_ext25 ht.1 ht'.1 fun i hi => bv_inj (gi_fit ht hi) (gi_fit ht' hi) ?_
  have g0 := hh (posC i 0) (posC_lt hi); have g1 := hh (posC i 1) (posC_lt hi); have g2 := hh (posC i 2) (posC_lt hi); have g3 := hh (posC i 3) (posC_lt hi); have g4 := hh (posC i 4) (posC_lt hi)
  simp only [posC_add hi, Nat.reduceAdd] at g0 g1 g2 g3 g4
  have p5 : posC i 5 = posC i 0 := posC5 (k := 0)
  have p6 : posC i 6 = posC i 1 := posC5 (k := 1)
  rw [p5] at g3 g4
  rw [p6] at g4
  have := chi_inj5 g0 g1 g2 g3 g4
  rwa [posC0 hi] at this
theorem mov_inj {a b : List Int} (ha : fit64 25 a) (hb : fit64 25 b) (h : fori (movF a offsF (fori (sumR a) (List.replicate 5 0) 5)) (List.replicate 25 0) 25 = fori (movF b offsF (fori (sumR b) (List.replicate 5 0) 5)) (List.replicate 25 0) 25) : a = b := by
  have hc : ∀ s : List Int, (fori (sumR s) (List.replicate 5 0) 5).length = 5 := fun s => by rw [fori_len (fun _ _ => by simp)]; simp
  have key : ∀ (s : List Int), s.length = 25 → ∀ i : Nat, i < 25 → bv (gxor .u64 (gi s (i : Int)) (gxor .u64 (gi (fori (sumR s) (List.replicate 5 0) 5) (((i % 5 + 4) % 5 : Nat) : Int)) (rotF (gi (fori (sumR s) (List.replicate 5 0) 5) (((i % 5 + 1) % 5 : Nat) : Int)) 1))) = bv (gi s (i : Int)) ^^^ mixB (fun j => bv (gi s (j : Int))) (i % 5) := by
    intro s hs i hi
    have c1 := col_at s hs ⟨(i % 5 + 4) % 5, by omega⟩
    have c2 := col_at s hs ⟨(i % 5 + 1) % 5, by omega⟩
    simp only at c1 c2
    rw [bv_gxor, bv_gxor, c1, c2]
    have r := rot_bv (gxor .u64 (gxor .u64 (gxor .u64 (gxor .u64 (gi s (((i % 5 + 1) % 5 : Nat) : Int)) (gi s (((i % 5 + 1) % 5 + 5 : Nat) : Int))) (gi s (((i % 5 + 1) % 5 + 10 : Nat) : Int))) (gi s (((i % 5 + 1) % 5 + 15 : Nat) : Int))) (gi s (((i % 5 + 1) % 5 + 20 : Nat) : Int))) (gxor_in _ _) 1 (by omega)
    have r1 : ((1 : Nat) : Int) = 1 := rfl
    rw [r1] at r
    rw [r]
    simp only [bv_gxor, bv_toNat]
  refine gi_ext25 ha.1 hb.1 fun i hi => bv_inj (gi_fit ha hi) (gi_fit hb hi) ?_
  refine theta_inj (fun j => bv (gi a (j : Int))) (fun j => bv (gi b (j : Int))) (fun j hj => ?_) hi
  rw [← key a ha.1 j hj, ← key b hb.1 j hj]
  have e1 := mov_at a _ ha.1 (hc a) ⟨j, hj⟩
  have e2 := mov_at b _ hb.1 (hc b) ⟨j, hj⟩
  rw [h, e2] at e1
  obtain ⟨k, hk, e⟩ := offs_lt ⟨j, hj⟩
  simp only at e e1
  rw [e] at e1
  exact (rotF_inj (gxor_in _ _) (gxor_in _ _) hk e1).symm
theorem round_inj {a b : List Int} {c : Int} (ha : fit64 25 a) (hb : fit64 25 b) (h : roundF a offsF c = roundF b offsF c) : a = b := by
  unfold roundF at h
  rw [col_eq a ha.1, col_eq b hb.1] at h
  have hc : ∀ s : List Int, (fori (sumR s) (List.replicate 5 0) 5).length = 5 := fun s => by rw [fori_len (fun _ _ => by simp)]; simp
  have fa := mov_fit ha.1 (hc a)
  have fb := mov_fit hb.1 (hc b)
  have h1 := iot_inj (chi_fit ha.1 fa.1) (chi_fit hb.1 fb.1) h
  exact mov_inj ha hb (chi_inj ha.1 hb.1 fa fb h1)
theorem round_fit {a : List Int} {c : Int} (ha : a.length = 25) : fit64 25 (roundF a offsF c) := by
  have hl := roundF_len a offsF c
  refine fit_of (by omega) fun i hi => ?_
  unfold roundF
  have hc : (fori (colF a) (List.replicate 5 0) 25).length = 5 := by rw [fori_len (fun _ _ => by simp)]; simp
  have f := chi_fit ha (mov_fit ha hc).1
  unfold iotF
  rw [gi_si0 _ f.1 hi]
  split
  · exact gxor_in _ _
  · exact gi_fit f hi
theorem perm_inj {a b : List Int} (ha : fit64 25 a) (hb : fit64 25 b) (h : permF a = permF b) : a = b := by
  have : ∀ n, fit64 25 (fori (fun s i => roundF s offsF (gi consF i)) a n) ∧ fit64 25 (fori (fun s i => roundF s offsF (gi consF i)) b n) ∧ (fori (fun s i => roundF s offsF (gi consF i)) a n = fori (fun s i => roundF s offsF (gi consF i)) b n → a = b) := by
    intro n
    induction n with
    | zero => exact ⟨ha, hb, id⟩
    | succ n ih =>
      rw [fori_succ, fori_succ]
      exact ⟨round_fit ih.1.1, round_fit ih.2.1.1, fun hr => ih.2.2 (round_inj ih.1 ih.2.1 hr)⟩
  unfold permF at h
  exact (this 24).2.2 h
theorem lawPermutes_ok (s : List Int) (Q : Bool → Prop) (hs : s.length = 25) (h : Q true) : lawPermutes_vc s Q := by
  have e : aeq 25 (permF s) (permF s) = true := (aeq25 (by rw [permF_len, hs]) (by rw [permF_len, hs])).2 rfl
  unfold lawPermutes_vc
  rw [e]
  exact ⟨fun _ => hs, h⟩
theorem lawPermutations_ok (a b : List Int) (Q : Bool → Prop) (ha : fit64 25 a) (hb : fit64 25 b) (h : Q true) : lawPermutations_vc a b Q := by
  have e : (aeq 25 (permF a) (permF b) == aeq 25 a b) = true := by
    rw [beq_iff_eq, Bool.eq_iff_iff, aeq25 (by rw [permF_len, ha.1]) (by rw [permF_len, hb.1]), aeq25 ha.1 hb.1]
    exact ⟨perm_inj ha hb, fun h => by rw [h]⟩
  unfold lawPermutations_vc
  rw [e]
  exact ⟨fun _ => ⟨ha.1, hb.1⟩, h⟩
end Go.Lic
