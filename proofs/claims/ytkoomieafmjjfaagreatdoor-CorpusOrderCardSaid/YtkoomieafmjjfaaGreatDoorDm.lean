/-
  The digest: laws of the plain functions.
-/
import Derived.Test.YtkoomieafmjjfaaGreatDoorCim
set_option linter.all false
namespace Go.Lic

/-! Bytes. -/
abbrev byteL (l : List Int) : Prop := ∀ x ∈ l, 0 ≤ x ∧ x ≤ 255
theorem sbytesD_len (s : ByteArray) : (sbytes s).length = s.size := by
  unfold sbytes; rw [List.length_map]; exact Array.length_toList
theorem sbytes_app (a b : ByteArray) : sbytes (a ++ b) = sbytes a ++ sbytes b := by
  simp [sbytes, ByteArray.data_append]
theorem sbytes_byte (s : ByteArray) : byteL (sbytes s) := by
  intro x hx
  simp only [sbytes, List.mem_map] at hx
  obtain ⟨b, _, rfl⟩ := hx
  have := b.toNat_lt
  omega
theorem sbytes_bstr {l : List Int} (h : byteL l) : sbytes (bstr l) = l := by
  simp only [bstr, sbytes, List.map_map]
  conv => rhs; rw [← List.map_id l]
  refine List.map_congr_left fun x hx => ?_
  have := h x hx
  simp
  omega
theorem bstr_inj {a b : List Int} (ha : byteL a) (hb : byteL b) (h : bstr a = bstr b) : a = b := by
  rw [← sbytes_bstr ha, ← sbytes_bstr hb, h]
/-! Blocks. -/
theorem eatF_succ (n : Nat) (s b : List Int) : eatF (n + 1) s b = takeF (eatF n s b) ((b.drop (136 * n)).take 136) := by
  induction n generalizing s b with
  | zero => simp [eatF]
  | succ n ih => rw [eatF, ih, eatF, List.drop_drop]; congr 3; omega
theorem eatF_add (n m : Nat) (s b : List Int) : eatF (n + m) s b = eatF m (eatF n s b) (b.drop (136 * n)) := by
  induction n generalizing s b with
  | zero => simp [eatF]
  | succ n ih => rw [show n + 1 + m = (n + m) + 1 by omega, eatF, ih, eatF, List.drop_drop]; congr 2; omega
theorem eatF_app (n : Nat) (s a b : List Int) (h : 136 * n ≤ a.length) : eatF n s (a ++ b) = eatF n s a := by
  induction n generalizing s a with
  | zero => rfl
  | succ n ih => rw [eatF, eatF, List.take_append_of_le_length (by omega), List.drop_append_of_le_length (by omega), ih _ _ (by simp; omega)]
abbrev zero25 : List Int := List.replicate 25 0
def stF (b : List Int) : List Int := eatF (b.length / 136) zero25 b
def restF (b : List Int) : List Int := b.drop (136 * (b.length / 136))
theorem stF_len (b : List Int) : (stF b).length = 25 := by rw [stF, eatF_len]; simp
theorem restF_len (b : List Int) : (restF b).length ≤ 135 := by simp [restF]; omega
theorem restF_byte {b : List Int} (h : byteL b) : byteL (restF b) := fun x hx => h x (List.mem_of_mem_drop hx)
theorem sumF_eq (d : ByteArray) : sumF d = endF (stF (sbytes d)) (restF (sbytes d)) := rfl
theorem stF_app (a b : List Int) : eatF ((restF a ++ b).length / 136) (stF a) (restF a ++ b) = stF (a ++ b) ∧ (restF a ++ b).drop (136 * ((restF a ++ b).length / 136)) = restF (a ++ b) := by
  have hq : 136 * (a.length / 136) ≤ a.length := by omega
  have hn : (a ++ b).length / 136 = a.length / 136 + (restF a ++ b).length / 136 := by simp [restF]; omega
  have hd : restF a ++ b = (a ++ b).drop (136 * (a.length / 136)) := by rw [restF, List.drop_append_of_le_length hq]
  constructor
  · rw [stF, stF, hn, eatF_add, ← hd, eatF_app _ _ _ _ hq]
  · conv => rhs; rw [restF, hn, Nat.mul_add, ← List.drop_drop, ← hd]

theorem aeq25 {a b : List Int} (ha : a.length = 25) (hb : b.length = 25) : aeq 25 a b = true ↔ a = b := by
  unfold aeq
  rw [List.all_eq_true]
  constructor
  · intro h
    refine List.ext_getElem (by omega) fun i h1 h2 => ?_
    have := h i (by simp; omega)
    simp only [beq_iff_eq] at this
    simpa [List.getD_eq_getElem?_getD, h1, h2] using this
  · rintro rfl i _; simp

/-- A sponge that has taken in a string. -/
structure Holds (s : DigestSponge) (d : ByteArray) : Prop where
  state : s.state = stF (sbytes d)
  rest : s.rest = restF (sbytes d)
  taken : s.taken = d.size
  cache : s.sum = ⟨#[]⟩ ∨ ∃ r, byteL r ∧ s.seen.length = 25 ∧ s.tail = bstr r ∧ s.sum = endF s.seen r
theorem Holds.new : Holds newS ⟨#[]⟩ := ⟨rfl, rfl, rfl, .inl rfl⟩
theorem Holds.st25 {s : DigestSponge} {d : ByteArray} (h : Holds s d) : s.state.length = 25 := by rw [h.state, stF_len]
theorem Holds.r135 {s : DigestSponge} {d : ByteArray} (h : Holds s d) : s.rest.length ≤ 135 := by rw [h.rest]; exact restF_len _
theorem Holds.eat {s : DigestSponge} {d : ByteArray} (h : Holds s d) (p : ByteArray) : Holds (eatS s p) (d ++ p) := by
  obtain ⟨h1, h2, h3, h4⟩ := h
  have e := stF_app (sbytes d) (sbytes p)
  refine ⟨?_, ?_, ?_, h4⟩
  · simp only [eatS]; rw [h1, h2, sbytes_app]; exact e.1
  · simp only [eatS]; rw [h2, sbytes_app]; exact e.2
  · simp only [eatS]; rw [h3, ByteArray.size_append]; omega
theorem Holds.eats {s : DigestSponge} {d : ByteArray} (h : Holds s d) (l : List ByteArray) : Holds (eatsS s l) (l.foldl (· ++ ·) d) := by
  induction l generalizing s d with
  | nil => exact h
  | cons p l ih => exact ih (h.eat p)
theorem Holds.sum1 {s : DigestSponge} {d : ByteArray} (h : Holds s d) : (ssF s).1 = sumF d := by
  unfold ssF
  split
  · next hc =>
    obtain ⟨hc1, hc2, hc3⟩ := hc
    rcases h.cache with h4 | ⟨r, r1, r2, r3, r4⟩
    · exact absurd h4 hc1
    · have e1 := (aeq25 r2 h.st25).1 hc2
      have e2 : r = s.rest := bstr_inj r1 (by rw [h.rest]; exact restF_byte (sbytes_byte _)) (by rw [← r3, hc3])
      rw [sumF_eq, ← h.state, ← h.rest, ← e1, ← e2]; exact r4
  · rw [sumF_eq, ← h.state, ← h.rest]
theorem eatsS_succ (s : DigestSponge) (l : List ByteArray) {i : Nat} (hi : i < l.length) : eatsS s (l.take (i + 1)) = eatS (eatsS s (l.take i)) l[i] := by
  rw [eatsS, List.take_succ_eq_append_getElem hi, List.foldl_append]; rfl
theorem eatS_st (s : DigestSponge) (p : ByteArray) : (eatS s p).state.length = s.state.length := by simp [eatS]
theorem eatS_rest (s : DigestSponge) (p : ByteArray) : (eatS s p).rest.length ≤ 135 := by simp [eatS]; omega
theorem eatsS_st (s : DigestSponge) (l : List ByteArray) : (eatsS s l).state.length = s.state.length := by
  induction l generalizing s with
  | nil => rfl
  | cons p l ih => exact (ih _).trans (eatS_st _ _)
theorem eatsS_rest {s : DigestSponge} (h : s.rest.length ≤ 135) (l : List ByteArray) : (eatsS s l).rest.length ≤ 135 := by
  induction l generalizing s with
  | nil => exact h
  | cons p l ih => exact ih (eatS_rest _ _)
theorem eatsS_taken {s : DigestSponge} (l : List ByteArray) {B : Nat} (hl : ∀ p ∈ l, p.size ≤ B) : s.taken ≤ (eatsS s l).taken ∧ (eatsS s l).taken ≤ s.taken + l.length * B := by
  induction l generalizing s with
  | nil => simp [eatsS]
  | cons p l ih =>
    have h1 := ih (s := eatS s p) fun q hq => hl q (by simp [hq])
    have h2 := hl p (by simp)
    have h3 : (eatS s p).taken = s.taken + p.size := rfl
    rw [h3] at h1
    have h4 : eatsS s (p :: l) = eatsS (eatS s p) l := rfl
    rw [h4, List.length_cons]
    have : ((l.length + 1 : Nat) : Int) * B = l.length * B + B := by push_cast; rw [Int.add_mul]; omega
    omega

/-! The last block. -/
end Go.Lic
