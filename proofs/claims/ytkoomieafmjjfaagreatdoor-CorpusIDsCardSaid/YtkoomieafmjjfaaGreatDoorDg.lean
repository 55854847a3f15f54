/-
  The digest: plain functions over lists of whole numbers, no program in sight.
-/
import Derived.Test.YtkoomieafmjjfaaGreatDoorDs
import Derived.KernelRfl
set_option linter.all false
namespace Go.Lic

def rotF (x k : Int) : Int := gor .u64 (gshl .u64 x (gand .u64 (IntKind.u64.wrap k) 63)) (gshr .u64 x (IntKind.u64.wrap (64 - (gand .u64 (IntKind.u64.wrap k) 63))))
def offsF : List Int := [0, 1, 62, 28, 27, 36, 44, 6, 55, 20, 3, 10, 43, 25, 39, 41, 45, 15, 21, 8, 18, 2, 61, 56, 14]
def consF : List Int := [1, 32898, 9223372036854808714, 9223372039002292224, 32907, 2147483649, 9223372039002292353, 9223372036854808585, 138, 136, 2147516425, 2147483658, 2147516555, 9223372036854775947, 9223372036854808713, 9223372036854808579, 9223372036854808578, 9223372036854775936, 32778, 9223372039002259466, 9223372039002292353, 9223372036854808704, 2147483649, 9223372039002292232]
def offF (x y : Int) : Int := gi offsF (x + 5 * y)
def conF (r : Int) : Int := gi consF r

/-- The sums of columns, as the program adds them up. -/
def colF (s : List Int) (c : List Int) (i : Nat) : List Int := si c ((i : Int) % 5) (gxor .u64 (gi c ((i : Int) % 5)) (gi s i))
/-- A word mixed, turned and moved. -/
def movF (s offset c : List Int) (t : List Int) (i : Nat) : List Int :=
  si t (((i : Int) / 5) + (5 * (((2 * ((i : Int) % 5)) + (3 * ((i : Int) / 5))) % 5))) (rotF (gxor .u64 (gi s i) (gxor .u64 (gi c ((((i : Int) % 5) + 4) % 5)) (rotF (gi c ((((i : Int) % 5) + 1) % 5)) 1))) (gi offset i))
def chiF (t : List Int) (s : List Int) (i : Nat) : List Int :=
  si s i (gxor .u64 (gi t i) (gand .u64 (gnot .u64 (gi t (((i : Int) - ((i : Int) % 5)) + (((i : Int) + 1) % 5)))) (gi t (((i : Int) - ((i : Int) % 5)) + (((i : Int) + 2) % 5)))))
def iotF (s : List Int) (c : Int) : List Int := si s 0 (gxor .u64 (gi s 0) c)
def roundF (s offset : List Int) (c : Int) : List Int :=
  iotF (fori (chiF (fori (movF s offset (fori (colF s) (List.replicate 5 0) 25)) (List.replicate 25 0) 25)) s 25) c

/-- The reference's round. -/
def sumR (s : List Int) (t : List Int) (x : Nat) : List Int := si t x (gxor .u64 (gxor .u64 (gxor .u64 (gxor .u64 (gi s x) (gi s ((x : Int) + 5))) (gi s ((x : Int) + 10))) (gi s ((x : Int) + 15))) (gi s ((x : Int) + 20)))
def movR (s sum : List Int) (x : Nat) (t : List Int) (y : Nat) : List Int :=
  si t ((y : Int) + (5 * (((2 * (x : Int)) + (3 * (y : Int))) % 5))) (rotF (gxor .u64 (gi s ((x : Int) + (5 * (y : Int)))) (gxor .u64 (gi sum (((x : Int) + 4) % 5)) (rotF (gi sum (((x : Int) + 1) % 5)) 1))) (offF x y))
def chiR (t : List Int) (x : Nat) (s : List Int) (y : Nat) : List Int :=
  si s ((x : Int) + (5 * (y : Int))) (gxor .u64 (gi t ((x : Int) + (5 * (y : Int)))) (gand .u64 (gnot .u64 (gi t ((((x : Int) + 1) % 5) + (5 * (y : Int))))) (gi t ((((x : Int) + 2) % 5) + (5 * (y : Int))))))
def roundR (s : List Int) (c : Int) : List Int :=
  iotF (fori (fun t x => fori (chiR (fori (fun t x => fori (movR s (fori (sumR s) (List.replicate 5 0) 5) x) t 5) (List.replicate 25 0) 5) x) t 5) (List.replicate 25 0) 5) c

@[simp] theorem colF_len (s c : List Int) (i : Nat) : (colF s c i).length = c.length := by simp [colF]
@[simp] theorem movF_len (s o c t : List Int) (i : Nat) : (movF s o c t i).length = t.length := by simp [movF]
@[simp] theorem chiF_len (t s : List Int) (i : Nat) : (chiF t s i).length = s.length := by simp [chiF]
@[simp] theorem iotF_len (s : List Int) (c : Int) : (iotF s c).length = s.length := by simp [iotF]
@[simp] theorem sumR_len (s t : List Int) (i : Nat) : (sumR s t i).length = t.length := by simp [sumR]
@[simp] theorem movR_len (s o t : List Int) (x i : Nat) : (movR s o x t i).length = t.length := by simp [movR]
@[simp] theorem chiR_len (t s : List Int) (x i : Nat) : (chiR t x s i).length = s.length := by simp [chiR]
theorem roundF_len (s o : List Int) (c : Int) : (roundF s o c).length = s.length := by rw [roundF, iotF_len, fori_len (fun _ _ => by simp)]

theorem wrap_bv (b : BitVec 64) : IntKind.u64.wrap b.toNat = b.toNat := by
  have := b.isLt
  simp only [IntKind.wrap, IntKind.bits, IntKind.signed]
  simp
  omega
theorem ofInt_bv (b : BitVec 64) : BitVec.ofInt 64 (b.toNat : Int) = b := by simp
theorem gxor_bv (a b : Int) : gxor .u64 a b = (BitVec.ofInt 64 a ^^^ BitVec.ofInt 64 b).toNat := wrap_bv _
theorem gxor_wrap (a b : Int) : gxor .u64 (gxor .u64 0 a) b = gxor .u64 a b := by
  rw [gxor_bv, gxor_bv, ofInt_bv, gxor_bv]; simp

theorem list25 {s : List Int} (h : s.length = 25) : ∃ a0 a1 a2 a3 a4 a5 a6 a7 a8 a9 a10 a11 a12 a13 a14 a15 a16 a17 a18 a19 a20 a21 a22 a23 a24 : Int, s = [a0, a1, a2, a3, a4, a5, a6, a7, a8, a9, a10, a11, a12, a13, a14, a15, a16, a17, a18, a19, a20, a21, a22, a23, a24] := by
  rcases s with _ | ⟨a0, s⟩
  · simp at h
  rcases s with _ | ⟨a1, s⟩
  · simp at h
  rcases s with _ | ⟨a2, s⟩
  · simp at h
  rcases s with _ | ⟨a3, s⟩
  · simp at h
  rcases s with _ | ⟨a4, s⟩
  · simp at h
  rcases s with _ | ⟨a5, s⟩
  · simp at h
  rcases s with _ | ⟨a6, s⟩
  · simp at h
  rcases s with _ | ⟨a7, s⟩
  · simp at h
  rcases s with _ | ⟨a8, s⟩
  · simp at h
  rcases s with _ | ⟨a9, s⟩
  · simp at h
  rcases s with _ | ⟨a10, s⟩
  · simp at h
  rcases s with _ | ⟨a11, s⟩
  · simp at h
  rcases s with _ | ⟨a12, s⟩
  · simp at h
  rcases s with _ | ⟨a13, s⟩
  · simp at h
  rcases s with _ | ⟨a14, s⟩
  · simp at h
  rcases s with _ | ⟨a15, s⟩
  · simp at h
  rcases s with _ | ⟨a16, s⟩
  · simp at h
  rcases s with _ | ⟨a17, s⟩
  · simp at h
  rcases s with _ | ⟨a18, s⟩
  · simp at h
  rcases s with _ | ⟨a19, s⟩
  · simp at h
  rcases s with _ | ⟨a20, s⟩
  · simp at h
  rcases s with _ | ⟨a21, s⟩
  · simp at h
  rcases s with _ | ⟨a22, s⟩
  · simp at h
  rcases s with _ | ⟨a23, s⟩
  · simp at h
  rcases s with _ | ⟨a24, s⟩
  · simp at h
  rcases s with _ | ⟨b, s⟩
  · exact ⟨a0, a1, a2, a3, a4, a5, a6, a7, a8, a9, a10, a11, a12, a13, a14, a15, a16, a17, a18, a19, a20, a21, a22, a23, a24, rfl⟩
  · simp at h
theorem col_eq (s : List Int) (h : s.length = 25) : fori (colF s) (List.replicate 5 0) 25 = (fori (sumR s) (List.replicate 5 0) 5) := by
  obtain ⟨a0, a1, a2, a3, a4, a5, a6, a7, a8, a9, a10, a11, a12, a13, a14, a15, a16, a17, a18, a19, a20, a21, a22, a23, a24, rfl⟩ := list25 h
  have e1 : fori (colF [a0, a1, a2, a3, a4, a5, a6, a7, a8, a9, a10, a11, a12, a13, a14, a15, a16, a17, a18, a19, a20, a21, a22, a23, a24]) (List.replicate 5 0) 25 =
    [gxor .u64 (gxor .u64 (gxor .u64 (gxor .u64 (gxor .u64 0 a0) a5) a10) a15) a20, gxor .u64 (gxor .u64 (gxor .u64 (gxor .u64 (gxor .u64 0 a1) a6) a11) a16) a21, gxor .u64 (gxor .u64 (gxor .u64 (gxor .u64 (gxor .u64 0 a2) a7) a12) a17) a22,
     gxor .u64 (gxor .u64 (gxor .u64 (gxor .u64 (gxor .u64 0 a3) a8) a13) a18) a23, gxor .u64 (gxor .u64 (gxor .u64 (gxor .u64 (gxor .u64 0 a4) a9) a14) a19) a24] := by kernel_rfl
  have e2 : fori (sumR [a0, a1, a2, a3, a4, a5, a6, a7, a8, a9, a10, a11, a12, a13, a14, a15, a16, a17, a18, a19, a20, a21, a22, a23, a24]) (List.replicate 5 0) 5 =
    [gxor .u64 (gxor .u64 (gxor .u64 (gxor .u64 a0 a5) a10) a15) a20, gxor .u64 (gxor .u64 (gxor .u64 (gxor .u64 a1 a6) a11) a16) a21, gxor .u64 (gxor .u64 (gxor .u64 (gxor .u64 a2 a7) a12) a17) a22,
     gxor .u64 (gxor .u64 (gxor .u64 (gxor .u64 a3 a8) a13) a18) a23, gxor .u64 (gxor .u64 (gxor .u64 (gxor .u64 a4 a9) a14) a19) a24] := by kernel_rfl
  rw [e1, e2, gxor_wrap, gxor_wrap, gxor_wrap, gxor_wrap, gxor_wrap]
theorem list5 {s : List Int} (h : s.length = 5) : ∃ a0 a1 a2 a3 a4 : Int, s = [a0, a1, a2, a3, a4] := by
  rcases s with _ | ⟨a0, s⟩
  · simp at h
  rcases s with _ | ⟨a1, s⟩
  · simp at h
  rcases s with _ | ⟨a2, s⟩
  · simp at h
  rcases s with _ | ⟨a3, s⟩
  · simp at h
  rcases s with _ | ⟨a4, s⟩
  · simp at h
  rcases s with _ | ⟨b, s⟩
  · exact ⟨a0, a1, a2, a3, a4, rfl⟩
  · simp at h
theorem mov_eq (s c : List Int) (h : s.length = 25) (hc : c.length = 5) : fori (movF s offsF c) (List.replicate 25 0) 25 = fori (fun t x => fori (movR s c x) t 5) (List.replicate 25 0) 5 := by
  obtain ⟨a0, a1, a2, a3, a4, a5, a6, a7, a8, a9, a10, a11, a12, a13, a14, a15, a16, a17, a18, a19, a20, a21, a22, a23, a24, rfl⟩ := list25 h
  obtain ⟨c0, c1, c2, c3, c4, rfl⟩ := list5 hc
  kernel_rfl
theorem chi_eq (s t : List Int) (h : s.length = 25) (ht : t.length = 25) : fori (chiF t) s 25 = fori (fun u x => fori (chiR t x) u 5) (List.replicate 25 0) 5 := by
  obtain ⟨a0, a1, a2, a3, a4, a5, a6, a7, a8, a9, a10, a11, a12, a13, a14, a15, a16, a17, a18, a19, a20, a21, a22, a23, a24, rfl⟩ := list25 h
  obtain ⟨b0, b1, b2, b3, b4, b5, b6, b7, b8, b9, b10, b11, b12, b13, b14, b15, b16, b17, b18, b19, b20, b21, b22, b23, b24, rfl⟩ := list25 ht
  kernel_rfl
theorem round_eq (s : List Int) (c : Int) (h : s.length = 25) : roundF s offsF c = roundR s c := by
  unfold roundF roundR
  have hl : (fori (sumR s) (List.replicate 5 0) 5).length = 5 := by rw [fori_len (fun _ _ => by simp)]; simp
  rw [col_eq s h, mov_eq s _ h hl, chi_eq s _ h]
  rw [← mov_eq s _ h hl, fori_len (fun _ _ => by simp)]; simp

def permF (s : List Int) : List Int := fori (fun s i => roundF s offsF (gi consF i)) s 24
theorem permF_len (s : List Int) : (permF s).length = s.length := fori_len (fun s i => roundF_len s _ _) 24

/-- A block taken in. -/
def xorF (b : List Int) (s : List Int) (i : Nat) : List Int := si s ((i : Int) / 8) (gxor .u64 (gi s ((i : Int) / 8)) (gshl .u64 (IntKind.u64.wrap (gi b i)) (8 * ((i : Int) % 8))))
@[simp] theorem xorF_len (b s : List Int) (i : Nat) : (xorF b s i).length = s.length := by simp [xorF]
def takeF (s b : List Int) : List Int := permF (fori (xorF b) s 136)
@[simp] theorem takeF_len (s b : List Int) : (takeF s b).length = s.length := by rw [takeF, permF_len, fori_len (fun _ _ => by simp)]
def absF (s : DigestSponge) (b : List Int) : DigestSponge := ⟨takeF s.state b, s.rest, s.taken, s.seen, s.tail, s.sum⟩
def clF (s : DigestSponge) : DigestSponge × DigestSponge := (s, s)
def newS : DigestSponge := ⟨List.replicate 25 0, [], 0, List.replicate 25 0, ⟨#[]⟩, ⟨#[]⟩⟩
/-- Whole blocks taken in. -/
def eatF : Nat → List Int → List Int → List Int
  | 0, s, _ => s
  | n + 1, s, b => eatF n (takeF s (b.take 136)) (b.drop 136)
@[simp] theorem eatF_len (n : Nat) (s b : List Int) : (eatF n s b).length = s.length := by
  induction n generalizing s b with
  | zero => rfl
  | succ n ih => rw [eatF, ih, takeF_len]
/-- The words' bytes. -/
def outF (s : List Int) (l : List Int) (i : Nat) : List Int := si l i (IntKind.u8.wrap (gshr .u64 (gi s ((i : Int) / 8)) (8 * ((i : Int) % 8))))
@[simp] theorem outF_len (b s : List Int) (i : Nat) : (outF b s i).length = s.length := by simp [outF]
def bytesF (s : List Int) : List Int := fori (outF s) (List.replicate 32 0) 32
/-- The last block, padded. -/
def lastF (rest : List Int) : List Int := si (si (gcopy (List.replicate 136 0) rest) (rest.length : Int) 6) 135 (gxor .u8 (gi (si (gcopy (List.replicate 136 0) rest) (rest.length : Int) 6) 135) 128)
def endF (s rest : List Int) : ByteArray := bstr (bytesF (takeF s (lastF rest)))
def eatS (s : DigestSponge) (p : ByteArray) : DigestSponge :=
  let b := s.rest ++ sbytes p
  ⟨eatF (b.length / 136) s.state b, b.drop (136 * (b.length / 136)), s.taken + p.size, s.seen, s.tail, s.sum⟩
def eatsS (s : DigestSponge) (l : List ByteArray) : DigestSponge := l.foldl eatS s
def wrF (s : DigestSponge) (l : List ByteArray) : Int × DigestSponge := ((eatsS s l).taken, eatsS s l)
def ssF (s : DigestSponge) : ByteArray × DigestSponge :=
  if ¬ s.sum = (⟨#[]⟩ : ByteArray) ∧ aeq 25 s.seen s.state = true ∧ s.tail = bstr s.rest then (s.sum, s) else (endF s.state s.rest, ⟨s.state, s.rest, s.taken, s.state, bstr s.rest, endF s.state s.rest⟩)
def sumF (data : ByteArray) : ByteArray := endF (eatF ((sbytes data).length / 136) (List.replicate 25 0) (sbytes data)) ((sbytes data).drop (136 * ((sbytes data).length / 136)))

end Go.Lic
