/-
  Structures of chapter 01 and how memory holds them.
-/
import Derived.Test.YtkoomieafmjjfaaGreatDoorBld
import Derived.KernelRfl
import Derived.Test.YtkoomieafmjjfaaGreatDoorCm
set_option linter.all false
namespace Go.Lic
structure DigestSponge where
  state : (List Int)
  rest : (List Int)
  taken : Int
  seen : (List Int)
  tail : ByteArray
  sum : ByteArray
instance : Inhabited DigestSponge := ⟨⟨default, default, default, default, default, default⟩⟩
end Go.Lic

set_option linter.all false
namespace Go.Lic

def rotF (x k : Int) : Int := gor .u64 (gshl .u64 x (gand .u64 (IntKind.u64.wrap k) 63)) (gshr .u64 x (IntKind.u64.wrap (64 - (gand .u64 (IntKind.u64.wrap k) 63))))
def offsF : List Int := [0, 1, 62, 28, 27, 36, 44, 6, 55, 20, 3, 10, 43, 25, 39, 41, 45, 15, 21, 8, 18, 2, 61, 56, 14]
def consF : List Int := [1, 32898, 9223372036854808714, 9223372039002292224, 32907, 2147483649, 9223372039002292353, 9223372036854808585, 138, 136, 2147516425, 2147483658, 2147516555, 9223372036854775947, 9223372036854808713, 9223372036854808579, 9223372036854808578, 9223372036854775936, 32778, 9223372039002259466, 9223372039002292353, 9223372036854808704, 2147483649, 9223372039002292232]
def offF (x y : Int) : Int := gi offsF (x + 5 * y)
def conF (r : Int) : Int := gi consF r

/-- The sums of columns, as the program adds them up. -/
def colF (s : List Int) (c : List Int) (i : Nat) : List Int := si c ((i : Int) % 5) (gxor .u64 (gi c ((i : Int) % 5)) (gi s i))
/-- A word mixed, turned and moved. -/
def movF (s offset c : List Int) (t : List Int) (i : Nat) : List Int :=
  si t (((i : Int) / 5) + (5 * (((2 * ((i : Int) % 5)) + (3 * ((i : Int) / 5))) % 5))) (rotF (gxor .u64 (gi s i) (gxor .u64 (gi c ((((i : Int) % 5) + 4) % 5)) (rotF (gi c ((((i : Int) % 5) + 1) % 5)) 1))) (gi offset i))
def chiF (t : List Int) (s : List Int) (i : Nat) : List Int :=
  si s i (gxor .u64 (gi t i) (gand .u64 (gnot .u64 (gi t (((i : Int) - ((i : Int) % 5)) + (((i : Int) + 1) % 5)))) (gi t (((i : Int) - ((i : Int) % 5)) + (((i : Int) + 2) % 5)))))
def iotF (s : List Int) (c : Int) : List Int := si s 0 (gxor .u64 (gi s 0) c)
def roundF (s offset : List Int) (c : Int) : List Int :=
  iotF (fori (chiF (fori (movF s offset (fori (colF s) (List.replicate 5 0) 25)) (List.replicate 25 0) 25)) s 25) c

/-- The reference's round. -/
def sumR (s : List Int) (t : List Int) (x : Nat) : List Int := si t x (gxor .u64 (gxor .u64 (gxor .u64 (gxor .u64 (gi s x) (gi s ((x : Int) + 5))) (gi s ((x : Int) + 10))) (gi s ((x : Int) + 15))) (gi s ((x : Int) + 20)))
def movR (s sum : List Int) (x : Nat) (t : List Int) (y : Nat) : List Int :=
  si t ((y : Int) + (5 * (((2 * (x : Int)) + (3 * (y : Int))) % 5))) (rotF (gxor .u64 (gi s ((x : Int) + (5 * (y : Int)))) (gxor .u64 (gi sum (((x : Int) + 4) % 5)) (rotF (gi sum (((x : Int) + 1) % 5)) 1))) (offF x y))
def chiR (t : List Int) (x : Nat) (s : List Int) (y : Nat) : List Int :=
  si s ((x : Int) + (5 * (y : Int))) (gxor .u64 (gi t ((x : Int) + (5 * (y : Int)))) (gand .u64 (gnot .u64 (gi t ((((x : Int) + 1) % 5) + (5 * (y : Int))))) (gi t ((((x : Int) + 2) % 5) + (5 * (y : Int))))))
def roundR (s : List Int) (c : Int) : List Int :=
  iotF (fori (fun t x => fori (chiR (fori (fun t x => fori (movR s (fori (sumR s) (List.replicate 5 0) 5) x) t 5) (List.replicate 25 0) 5) x) t 5) (List.replicate 25 0) 5) c

@[simp] theorem colF_len (s c : List Int) (i : Nat) : (colF s c i).length = c.length := by simp [colF]
@[simp] theorem movF_len (s o c t : List Int) (i : Nat) : (movF s o c t i).length = t.length := by simp [movF]
@[simp] theorem chiF_len (t s : List Int) (i : Nat) : (chiF t s i).length = s.length := by simp [chiF]
@[simp] theorem iotF_len (s : List Int) (c : Int) : (iotF s c).length = s.length := by simp [iotF]
@[simp] theorem sumR_len (s t : List Int) (i : Nat) : (sumR s t i).length = t.length := by simp [sumR]
@[simp] theorem movR_len (s o t : List Int) (x i : Nat) : (movR s o x t i).length = t.length := by simp [movR]
@[simp] theorem chiR_len (t s : List Int) (x i : Nat) : (chiR t x s i).length = s.length := by simp [chiR]
theorem roundF_len (s o : List Int) (c : Int) : (roundF s o c).length = s.length := by rw [roundF, iotF_len, fori_len (fun _ _ => by simp)]

def permF (s : List Int) : List Int := fori (fun s i => roundF s offsF (gi consF i)) s 24
theorem permF_len (s : List Int) : (permF s).length = s.length := fori_len (fun s i => roundF_len s _ _) 24

/-- A block taken in. -/
def xorF (b : List Int) (s : List Int) (i : Nat) : List Int := si s ((i : Int) / 8) (gxor .u64 (gi s ((i : Int) / 8)) (gshl .u64 (IntKind.u64.wrap (gi b i)) (8 * ((i : Int) % 8))))
@[simp] theorem xorF_len (b s : List Int) (i : Nat) : (xorF b s i).length = s.length := by simp [xorF]
def takeF (s b : List Int) : List Int := permF (fori (xorF b) s 136)
@[simp] theorem takeF_len (s b : List Int) : (takeF s b).length = s.length := by rw [takeF, permF_len, fori_len (fun _ _ => by simp)]
def absF (s : DigestSponge) (b : List Int) : DigestSponge := ⟨takeF s.state b, s.rest, s.taken, s.seen, s.tail, s.sum⟩
def clF (s : DigestSponge) : DigestSponge × DigestSponge := (s, s)
def newS : DigestSponge := ⟨List.replicate 25 0, [], 0, List.replicate 25 0, ⟨#[]⟩, ⟨#[]⟩⟩
/-- Whole blocks taken in. -/
def eatF : Nat → List Int → List Int → List Int
  | 0, s, _ => s
  | n + 1, s, b => eatF n (takeF s (b.take 136)) (b.drop 136)
@[simp] theorem eatF_len (n : Nat) (s b : List Int) : (eatF n s b).length = s.length := by
  induction n generalizing s b with
  | zero => rfl
  | succ n ih => rw [eatF, ih, takeF_len]
/-- The words' bytes. -/
def outF (s : List Int) (l : List Int) (i : Nat) : List Int := si l i (IntKind.u8.wrap (gshr .u64 (gi s ((i : Int) / 8)) (8 * ((i : Int) % 8))))
@[simp] theorem outF_len (b s : List Int) (i : Nat) : (outF b s i).length = s.length := by simp [outF]
def bytesF (s : List Int) : List Int := fori (outF s) (List.replicate 32 0) 32
/-- The last block, padded. -/
def lastF (rest : List Int) : List Int := si (si (gcopy (List.replicate 136 0) rest) (rest.length : Int) 6) 135 (gxor .u8 (gi (si (gcopy (List.replicate 136 0) rest) (rest.length : Int) 6) 135) 128)
def endF (s rest : List Int) : ByteArray := bstr (bytesF (takeF s (lastF rest)))
def eatS (s : DigestSponge) (p : ByteArray) : DigestSponge :=
  let b := s.rest ++ sbytes p
  ⟨eatF (b.length / 136) s.state b, b.drop (136 * (b.length / 136)), s.taken + p.size, s.seen, s.tail, s.sum⟩
def eatsS (s : DigestSponge) (l : List ByteArray) : DigestSponge := l.foldl eatS s
def wrF (s : DigestSponge) (l : List ByteArray) : Int × DigestSponge := ((eatsS s l).taken, eatsS s l)
def ssF (s : DigestSponge) : ByteArray × DigestSponge :=
  if ¬ s.sum = (⟨#[]⟩ : ByteArray) ∧ aeq 25 s.seen s.state = true ∧ s.tail = bstr s.rest then (s.sum, s) else (endF s.state s.rest, ⟨s.state, s.rest, s.taken, s.state, bstr s.rest, endF s.state s.rest⟩)
def sumF (data : ByteArray) : ByteArray := endF (eatF ((sbytes data).length / 136) (List.replicate 25 0) (sbytes data)) ((sbytes data).drop (136 * ((sbytes data).length / 136)))

end Go.Lic

set_option linter.all false
namespace Go.Lic
def headL (c : Corpus) : List UInt8 := (itoaF c.k).data.toList ++ [32] ++ (itoaF c.w).data.toList ++ [10]
def textL (t : Text) : List UInt8 := t.path.data.toList ++ [10] ++ (printT t).1.data.toList
def idL (c : Corpus) : List UInt8 := headL c ++ c.texts.flatMap textL
def idF (c : Corpus) : ByteArray × Int := if checkF c = 0 then (sumF ⟨(idL c).toArray⟩, 0) else (⟨#[]⟩, 1)
/-- Texts that are added one after another. -/
def addAll (ok : Bool) : Corpus → List Text → Corpus × Bool
  | c, [] => (c, ok)
  | c, x :: l => if (addF c x).2 = 0 then addAll ok (addF c x).1 l else ((addF c x).1, false)
def makeF (l : List Text) (g w : Int) : Corpus × Bool := addAll ((newF (1 + g % 4) (1 + w % 4)).2 == 0) (newF (1 + g % 4) (1 + w % 4)).1 l
end Go.Lic
