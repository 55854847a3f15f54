/-
  Sets of lines: plain functions.
-/
import Derived.Test.YtjncggaheahjiaaGreatDoorLs
import Derived.Test.YtjncggaheahjiaaGreatDoorGo
import Derived.Lib.Bytealg
import Derived.Lib.ItoaNum
import Derived.Lib.BitFns
import Derived.Test.YtjncggaheahjiaaGreatDoorSortA
set_option linter.all false
namespace Go.Lic
def idxOf {α : Type} (p : α → Bool) (l : List α) : Int := match l.findIdx? p with | some i => i | none => -1
def cmpB (a b : ByteArray) : Int := Lib.compareBytes a.data.toList b.data.toList
def cmpI (a b : Int) : Int := if a < b then -1 else if b < a then 1 else 0
def orF (l : List Int) : Int := (l.find? (· != 0)).getD 0
def lenF (n : Int) : Int := Lib.bitLen n.toNat
def sepOf (s : ByteArray) : UInt8 := s.data.toList.headD 0
def countF (s sep : ByteArray) : Int := (s.data.toList.count (sepOf sep) : Nat)
def indexF (s sep : ByteArray) : Int := Lib.indexByte s.data.toList (sepOf sep)
def hasPrefF (s p : ByteArray) : Bool := p.data.toList.isPrefixOf s.data.toList
def itoaF (n : Int) : ByteArray := ⟨(Lib.itoa n).toArray⟩
def splitL (c : UInt8) : List UInt8 → List (List UInt8)
 | [] => [[]]
 | b :: l => if b = c then [] :: splitL c l else match splitL c l with | p :: r => (b :: p) :: r | [] => [[b]]
def splitF (s sep : ByteArray) : List ByteArray := (splitL (sepOf sep) s.data.toList).map fun l => ⟨l.toArray⟩
def nameB (c : Int) : Bool := (decide (97 ≤ c) && decide (c ≤ 122)) || (decide (48 ≤ c) && decide (c ≤ 57)) || decide (c = 46) || decide (c = 95) || decide (c = 45)
def badR (r : Int) : Bool := !nameB r
def runeIdxL (f : Int → Bool) (s : ByteArray) : Nat → Int → Int
 | 0, _ => -1
 | n + 1, i => if i < s.size then if f (Utf8.decode s i.toNat).1 then i else runeIdxL f s n (i + (Utf8.decode s i.toNat).2) else -1
def partF (s : ByteArray) : Bool := decide (1 ≤ s.size) && decide (s.size ≤ 32) && !decide (sgi s 0 = 46) && !decide (sgi s 0 = 45) && (sbytes s).all nameB
def pathB (s : ByteArray) : Bool := decide (s.size ≤ 128) && decide ((splitF s ⟨#[47]⟩).length ≤ 8) && (splitF s ⟨#[47]⟩).all partF
def pathF (s : ByteArray) : Int := if pathB s then 0 else 2
def spanCmp (a b : Span) : Int := orF [cmpB a.path b.path, cmpI a.from_ b.from_]
def insideF (s : Span) : Bool := decide (0 ≤ s.from_) && decide (s.from_ < s.to) && decide (s.to ≤ 1024)
def behindF (a b : Span) : Bool := sless a.path b.path || (decide (a.path = b.path) && decide (a.to < b.from_))
end Go.Lic
set_option linter.all false
namespace Go.Lic
open Go.Sort
def splitG (s sep : ByteArray) (_ _ : Int) : List ByteArray := splitF s sep
def runeIx (p : Int → Bool) (s : ByteArray) (t : Bool) : Int := runeIdxL (fun r => p r == t) s (s.size + 1) 0
def spanR (s : Span) : Bool := pathB s.path && insideF s
def rightF (x : Line) : Bool := pathB x.path && (decide (0 ≤ x.n) && decide (x.n < 1024))
def nameR (s : ByteArray) : Bool := partF s
def chainB (l : List Span) (i : Nat) : Bool := spanR (gi l i) && (i == 0 || behindF (gi l ((i : Int) - 1)) (gi l i))
def validF (l : List Span) : Bool := (List.range l.length).all (chainB l)
def lastD (l : List Span) : Span := gi l ((l.length : Int) - 1)
def mergeStep (out : List Span) (s : Span) : List Span :=
 if 0 < out.length ∧ behindF (lastD out) s = false then si out ((out.length : Int) - 1) ⟨(lastD out).path, (lastD out).from_, gmax (lastD out).to [s.to]⟩ else out ++ [s]
def mergeF (l : List Span) : List Span := (sortF spanCmp l).foldl mergeStep []
def unitW (x : Line) : Span := ⟨x.path, x.n, IntKind.i64.wrap (x.n + 1)⟩
def badLine (x : Line) : Bool := !(pathB x.path && insideF (unitW x))
def ofF (l : List Line) : List Span × Int := match l.find? badLine with | some x => ([], if pathB x.path then 3 else 2) | none => (mergeF (l.map unitW), 0)
def cutS (x y : Span) : Span := ⟨x.path, gmax x.from_ [y.from_], gmin x.to [y.to]⟩
def cutP (x y : Span) : List Span := if x.path = y.path ∧ (cutS x y).from_ < (cutS x y).to then [cutS x y] else []
def fstEnds (x y : Span) : Bool := sless x.path y.path || (decide (x.path = y.path) && decide (x.to ≤ y.to))
def commonF : List Span → List Span → List Span
 | [], _ => []
 | _ :: _, [] => []
 | x :: a, y :: b => cutP x y ++ if fstEnds x y then commonF a (y :: b) else commonF (x :: a) b
termination_by a b => a.length + b.length
def cutF (s : Span) : List Span → List Span × Span × List Span
 | [] => ([], s, [])
 | t :: both => if t.path = s.path ∧ t.to ≤ s.to then
     ((if s.from_ < t.from_ then [⟨s.path, s.from_, t.from_⟩] else []) ++ (cutF ⟨s.path, t.to, s.to⟩ both).1, (cutF ⟨s.path, t.to, s.to⟩ both).2)
   else ([], s, t :: both)
def minusL : List Span → List Span → List Span
 | [], _ => []
 | s :: a, both => (cutF s both).1 ++ (if (cutF s both).2.1.from_ < (cutF s both).2.1.to then [(cutF s both).2.1] else []) ++ minusL a (cutF s both).2.2
def minusF (a b : List Span) : List Span × Int := if validF a && validF b then (minusL a (commonF a b), 0) else ([], 1)
def linesOf (s : Span) : List Line := (List.range (s.to - s.from_).toNat).map fun i => ⟨s.path, s.from_ + (i : Nat)⟩
def listF (l : List Span) : List Line := if validF l then l.flatMap linesOf else []
def countL (l : List Span) : Int := if validF l then (l.map fun s => s.to - s.from_).sum else 0
def has1F (s : Span) (x : Line) : Bool := decide (s.path = x.path) && decide (s.from_ ≤ x.n) && decide (x.n < s.to)
def hasF (l : List Span) (x : Line) : Bool := l.any (fun s => has1F s x) && validF l
def belowF (p dir : ByteArray) : Bool := hasPrefF p (dir ++ ⟨#[47]⟩)
def underF (l : List Span) (dir : ByteArray) : List Span × Int := if validF l then if pathF dir = 0 then (l.filter fun s => belowF s.path dir, 0) else ([], 2) else ([], 1)
def spanT (s : Span) : ByteArray := s.path ++ ⟨#[32]⟩ ++ itoaF s.from_ ++ ⟨#[32]⟩ ++ itoaF s.to ++ ⟨#[10]⟩
def printF (l : List Span) : ByteArray × Int := if validF l then (⟨(l.flatMap fun s => (spanT s).data.toList).toArray⟩, 0) else (⟨#[]⟩, 1)
def fewF (l : List Span) : Bool := decide (l.length ≤ 12) && l.all fun s => decide (s.path.size ≤ 200)
end Go.Lic
