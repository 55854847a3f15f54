/-
  Sets of lines: plain functions.
-/
import Derived.Test.YtkoomieafmjjfaaDoorCs
import Derived.Test.YtkoomieafmjjfaaDoorGo
import Derived.Lib.Bytealg
import Derived.Lib.ItoaNum
import Derived.Lib.BitFns
import Derived.Test.YtkoomieafmjjfaaDoorSortA
set_option linter.all false
namespace Go.Lic

def idxOf {α : Type} (p : α → Bool) (l : List α) : Int := match l.findIdx? p with | some i => i | none => -1
def cmpB (a b : ByteArray) : Int := Lib.compareBytes a.data.toList b.data.toList
def cmpI (a b : Int) : Int := if a < b then -1 else if b < a then 1 else 0
def orF (l : List Int) : Int := (l.find? (· != 0)).getD 0
def lenF (n : Int) : Int := Lib.bitLen n.toNat
def sepOf (s : ByteArray) : UInt8 := s.data.toList.headD 0
def countF (s sep : ByteArray) : Int := (s.data.toList.count (sepOf sep) : Nat)
def indexF (s sep : ByteArray) : Int := Lib.indexByte s.data.toList (sepOf sep)
/-- A string, cut at a byte. -/
def splitL (c : UInt8) : List UInt8 → List (List UInt8)
  | [] => [[]]
  | b :: l => if b = c then [] :: splitL c l else match splitL c l with | p :: r => (b :: p) :: r | [] => [[b]]
def splitF (s sep : ByteArray) : List ByteArray := (splitL (sepOf sep) s.data.toList).map fun l => ⟨l.toArray⟩
def nameB (c : Int) : Bool := (decide (97 ≤ c) && decide (c ≤ 122)) || (decide (48 ≤ c) && decide (c ≤ 57)) || decide (c = 46) || decide (c = 95) || decide (c = 45)
def badR (r : Int) : Bool := !nameB r
def runeIdxL (f : Int → Bool) (s : ByteArray) : Nat → Int → Int
  | 0, _ => -1
  | n + 1, i => if i < s.size then if f (Utf8.decode s i.toNat).1 then i else runeIdxL f s n (i + (Utf8.decode s i.toNat).2) else -1
def partF (s : ByteArray) : Bool := decide (1 ≤ s.size) && decide (s.size ≤ 32) && !decide (sgi s 0 = 46) && !decide (sgi s 0 = 45) && (sbytes s).all nameB
def pathB (s : ByteArray) : Bool := decide (s.size ≤ 128) && decide ((splitF s ⟨#[47]⟩).length ≤ 8) && (splitF s ⟨#[47]⟩).all partF
def pathF (s : ByteArray) : Int := if pathB s then 0 else 2
end Go.Lic

set_option linter.all false
namespace Go.Lic
open Go.Sort

def splitG (s sep : ByteArray) (_ _ : Int) : List ByteArray := splitF s sep
def runeIx (p : Int → Bool) (s : ByteArray) (t : Bool) : Int := runeIdxL (fun r => p r == t) s (s.size + 1) 0
end Go.Lic
