/-
  Structures of chapter 16 and how memory holds them.
-/
import Derived.Test.YtglclijalehcmaaGreatDoorVr
import Derived.Test.YtglclijalehcmaaGreatDoorGo
import Derived.Lib.Bytealg
import Derived.Lib.ItoaNum
import Derived.Lib.BitFns
import Derived.Test.YtglclijalehcmaaGreatDoorIter
set_option linter.all false
namespace Go.Lic
structure Span where
 path : ByteArray
 from_ : Int
 to : Int
deriving DecidableEq
instance : Inhabited Span := ⟨⟨default, default, default⟩⟩
def encSpan (x : Span) : D := .agg ([D.s x.path, D.i x.from_, D.i x.to])
def eqSpan (a b : Span) : Bool := decide (a.path = b.path) && (decide (a.from_ = b.from_) && (decide (a.to = b.to) && true))
structure Line where
 path : ByteArray
 n : Int
deriving DecidableEq
instance : Inhabited Line := ⟨⟨default, default⟩⟩
def encLine (x : Line) : D := .agg ([D.s x.path, D.i x.n])
def valSpan (x : Span) : List Value := [.string x.path, .int .i64 x.from_, .int .i64 x.to]
theorem valSpan_one : ∀ x : Span, ∀ v ∈ valSpan x, v.oneCell' = true := by
 intro x v hv
 simp only [valSpan, List.mem_cons, List.not_mem_nil, or_false] at hv
 rcases hv with rfl | rfl | rfl <;> rfl
end Go.Lic
set_option linter.all false
namespace Go.Lic
structure Lexeme where
 text : ByteArray
 line : Int
deriving DecidableEq
instance : Inhabited Lexeme := ⟨⟨default, default⟩⟩
def encLex (x : Lexeme) : D := .agg ([D.s x.text, D.i x.line])
structure Text where
 path : ByteArray
 words : (List Lexeme)
deriving DecidableEq
instance : Inhabited Text := ⟨⟨default, default⟩⟩
def encText (x : Text) : D := .agg ([D.s x.path, (encL 2 encLex) x.words])
structure Print where
 hash : Int
 at_ : Int
deriving DecidableEq
instance : Inhabited Print := ⟨⟨default, default⟩⟩
def encPrint (x : Print) : D := .agg ([D.i x.hash, D.i x.at_])
structure Pst where
 hash : Int
 text : Int
 at_ : Int
deriving DecidableEq
instance : Inhabited Pst := ⟨⟨default, default, default⟩⟩
structure Corpus where
 k : Int
 w : Int
 texts : (List Text)
 posts : (List Pst)
deriving DecidableEq
instance : Inhabited Corpus := ⟨⟨default, default, default, default⟩⟩
end Go.Lic
set_option linter.all false
namespace Go.Lic
structure Clone where
 a : Int
 atA : Int
 b : Int
 atB : Int
 len : Int
deriving DecidableEq
instance : Inhabited Clone := ⟨⟨default, default, default, default, default⟩⟩
def encClone (x : Clone) : D := .agg ([D.i x.a, D.i x.atA, D.i x.b, D.i x.atB, D.i x.len])
def eqClone (a b : Clone) : Bool := decide (a.a = b.a) && (decide (a.atA = b.atA) && (decide (a.b = b.b) && (decide (a.atB = b.atB) && (decide (a.len = b.len) && true))))
structure CloneDiagonal where
 a : Int
 b : Int
 by_ : Int
deriving DecidableEq
instance : Inhabited CloneDiagonal := ⟨⟨default, default, default⟩⟩
def encCloneDiagonal (x : CloneDiagonal) : D := .agg ([D.i x.a, D.i x.b, D.i x.by_])
structure ClonePlace where
 text : Int
 at_ : Int
deriving DecidableEq
instance : Inhabited ClonePlace := ⟨⟨default, default⟩⟩
def encClonePlace (x : ClonePlace) : D := .agg ([D.i x.text, D.i x.at_])
def eqClonePlace (a b : ClonePlace) : Bool := decide (a.text = b.text) && (decide (a.at_ = b.at_) && true)
def valClone (x : Clone) : List Value := [.int .i64 x.a, .int .i64 x.atA, .int .i64 x.b, .int .i64 x.atB, .int .i64 x.len]
theorem valClone_one : ∀ x : Clone, ∀ v ∈ valClone x, v.oneCell' = true := by
 intro x v hv
 simp only [valClone, List.mem_cons, List.not_mem_nil, or_false] at hv
 rcases hv with rfl | rfl | rfl | rfl | rfl <;> rfl
end Go.Lic
set_option linter.all false
namespace Go.Lic
def idxOf {α : Type} (p : α → Bool) (l : List α) : Int := match l.findIdx? p with | some i => i | none => -1
def cmpB (a b : ByteArray) : Int := Lib.compareBytes a.data.toList b.data.toList
def cmpI (a b : Int) : Int := if a < b then -1 else if b < a then 1 else 0
def orF (l : List Int) : Int := (l.find? (· != 0)).getD 0
def lenF (n : Int) : Int := Lib.bitLen n.toNat
def sepOf (s : ByteArray) : UInt8 := s.data.toList.headD 0
def countF (s sep : ByteArray) : Int := (s.data.toList.count (sepOf sep) : Nat)
def indexF (s sep : ByteArray) : Int := Lib.indexByte s.data.toList (sepOf sep)
def splitL (c : UInt8) : List UInt8 → List (List UInt8)
 | [] => [[]]
 | b :: l => if b = c then [] :: splitL c l else match splitL c l with | p :: r => (b :: p) :: r | [] => [[b]]
def splitF (s sep : ByteArray) : List ByteArray := (splitL (sepOf sep) s.data.toList).map fun l => ⟨l.toArray⟩
def nameB (c : Int) : Bool := (decide (97 ≤ c) && decide (c ≤ 122)) || (decide (48 ≤ c) && decide (c ≤ 57)) || decide (c = 46) || decide (c = 95) || decide (c = 45)
def badR (r : Int) : Bool := !nameB r
def runeIdxL (f : Int → Bool) (s : ByteArray) : Nat → Int → Int
 | 0, _ => -1
 | n + 1, i => if i < s.size then if f (Utf8.decode s i.toNat).1 then i else runeIdxL f s n (i + (Utf8.decode s i.toNat).2) else -1
def partF (s : ByteArray) : Bool := decide (1 ≤ s.size) && decide (s.size ≤ 32) && !decide (sgi s 0 = 46) && !decide (sgi s 0 = 45) && (sbytes s).all nameB
def pathB (s : ByteArray) : Bool := decide (s.size ≤ 128) && decide ((splitF s ⟨#[47]⟩).length ≤ 8) && (splitF s ⟨#[47]⟩).all partF
def pathF (s : ByteArray) : Int := if pathB s then 0 else 2
def spanCmp (a b : Span) : Int := orF [cmpB a.path b.path, cmpI a.from_ b.from_]
def insideF (s : Span) : Bool := decide (0 ≤ s.from_) && decide (s.from_ < s.to) && decide (s.to ≤ 1024)
def behindF (a b : Span) : Bool := sless a.path b.path || (decide (a.path = b.path) && decide (a.to < b.from_))
def beforeF (a b : Line) : Bool := sless a.path b.path || (decide (a.path = b.path) && decide (a.n < b.n))
end Go.Lic
set_option linter.all false
namespace Go.Lic
open Go.Sort
def splitG (s sep : ByteArray) (_ _ : Int) : List ByteArray := splitF s sep
def runeIx (p : Int → Bool) (s : ByteArray) (t : Bool) : Int := runeIdxL (fun r => p r == t) s (s.size + 1) 0
def spanR (s : Span) : Bool := pathB s.path && insideF s
def rightF (x : Line) : Bool := pathB x.path && (decide (0 ≤ x.n) && decide (x.n < 1024))
def nameR (s : ByteArray) : Bool := partF s
def chainB (l : List Span) (i : Nat) : Bool := spanR (gi l i) && (i == 0 || behindF (gi l ((i : Int) - 1)) (gi l i))
def validF (l : List Span) : Bool := (List.range l.length).all (chainB l)
def lastD (l : List Span) : Span := gi l ((l.length : Int) - 1)
def mergeStep (out : List Span) (s : Span) : List Span :=
 if 0 < out.length ∧ behindF (lastD out) s = false then si out ((out.length : Int) - 1) ⟨(lastD out).path, (lastD out).from_, gmax (lastD out).to [s.to]⟩ else out ++ [s]
def mergeF (l : List Span) : List Span := (sortF spanCmp l).foldl mergeStep []
def unitW (x : Line) : Span := ⟨x.path, x.n, IntKind.i64.wrap (x.n + 1)⟩
def badLine (x : Line) : Bool := !(pathB x.path && insideF (unitW x))
def ofF (l : List Line) : List Span × Int := match l.find? badLine with | some x => ([], if pathB x.path then 3 else 2) | none => (mergeF (l.map unitW), 0)
def linesOf (s : Span) : List Line := (List.range (s.to - s.from_).toNat).map fun i => ⟨s.path, s.from_ + (i : Nat)⟩
def listF (l : List Span) : List Line := if validF l then l.flatMap linesOf else []
def countL (l : List Span) : Int := if validF l then (l.map fun s => s.to - s.from_).sum else 0
def has1F (s : Span) (x : Line) : Bool := decide (s.path = x.path) && decide (s.from_ ≤ x.n) && decide (x.n < s.to)
def hasF (l : List Span) (x : Line) : Bool := l.any (fun s => has1F s x) && validF l
def packStep (out : List Span) (x : Line) : List Span :=
 if 0 < out.length ∧ (lastD out).path = x.path ∧ x.n < (lastD out).to then out
 else if 0 < out.length ∧ (lastD out).path = x.path ∧ x.n = (lastD out).to then si out ((out.length : Int) - 1) ⟨(lastD out).path, (lastD out).from_, (lastD out).to + 1⟩
 else out ++ [⟨x.path, x.n, x.n + 1⟩]
def packF (l : List Line) : List Span := l.foldl packStep []
def mergeR : List Line → List Line → List Line
 | [], b => b
 | x :: a, [] => x :: a
 | x :: a, y :: b => if beforeF x y then x :: mergeR a (y :: b) else y :: mergeR (x :: a) b
termination_by a b => a.length + b.length
end Go.Lic
set_option linter.all false
namespace Go.Lic
open Go.Proofs Go.Sort
def gsplit_L1 (s_ : ByteArray) (sep : ByteArray) (sepSave : Int) (n1 : Int) (Q : (List ByteArray) → Prop) (again4 : (List ByteArray) × ByteArray × Int → Prop) (a : (List ByteArray)) (s_1 : ByteArray) (i : Int) : Prop :=
 ((i < ((gmin n1 [((s_.size : Int) + 1)]) - 1) → (sep.size = 1 ∧ (((indexF s_1 sep) < 0 → (inL i a.length ∧ (inI (i + 1) ∧ inS 0 (i + 1) (si a i s_1).length ∧ Q (lsub (si a i s_1) 0 (i + 1))))) ∧ (¬ (indexF s_1 sep) < 0 → (inI ((indexF s_1 sep) + sepSave) ∧ inS 0 ((indexF s_1 sep) + sepSave) s_1.size ∧ inL i a.length ∧ (inI ((indexF s_1 sep) + (sep.size : Int)) ∧ inS ((indexF s_1 sep) + (sep.size : Int)) (s_1.size : Int) s_1.size ∧ (inI (i + 1) ∧ again4 ((si a i (ssub s_1 0 ((indexF s_1 sep) + sepSave))), (ssub s_1 ((indexF s_1 sep) + (sep.size : Int)) (s_1.size : Int)), (i + 1))))))))) ∧ (¬ i < ((gmin n1 [((s_.size : Int) + 1)]) - 1) → (inL i a.length ∧ (inI (i + 1) ∧ inS 0 (i + 1) (si a i s_1).length ∧ Q (lsub (si a i s_1) 0 (i + 1))))))
def gsplit_J1 (s_ : ByteArray) (sep : ByteArray) (sepSave : Int) (Q : (List ByteArray) → Prop) (n1 : Int) : Prop :=
 (inI ((s_.size : Int) + 1) ∧ ((((0 : Int) ≤ (gmin n1 [((s_.size : Int) + 1)]) ∧ ((gmin n1 [((s_.size : Int) + 1)]) : Int) ≤ (gmin n1 [((s_.size : Int) + 1)])) ∧ (16 : Int) * (gmin n1 [((s_.size : Int) + 1)]) ≤ 281474976710656 ∧ ((gmin n1 [((s_.size : Int) + 1)]) : Int) ≤ 9223372036854775807) ∧ (inI ((gmin n1 [((s_.size : Int) + 1)]) - 1) ∧ lfp (S := (List ByteArray) × ByteArray × Int) (fun again4 ss => gsplit_L1 s_ sep sepSave n1 Q again4 ss.1 ss.2.1 ss.2.2) ((List.replicate (Int.toNat (gmin n1 [((s_.size : Int) + 1)])) ByteArray.empty), s_, 0))))
def gsplit_vc (s_ : ByteArray) (sep : ByteArray) (sepSave : Int) (n : Int) (Q : (List ByteArray) → Prop) : Prop :=
 ((n = 0 → Q []) ∧ (¬ n = 0 → ((sep = (⟨#[]⟩ : ByteArray) → False) ∧ (¬ sep = (⟨#[]⟩ : ByteArray) → ((n < 0 → (sep.size = 1 ∧ inI ((countF s_ sep) + 1) ∧ gsplit_J1 s_ sep sepSave Q ((countF s_ sep) + 1))) ∧ (¬ n < 0 → gsplit_J1 s_ sep sepSave Q n))))))
def split_vc (s_ : ByteArray) (sep : ByteArray) (Q : (List ByteArray) → Prop) : Prop :=
 (s_.size ≤ 1000000 ∧ sep.size = 1 ∧ 0 = (0 : Int) ∧ (-1) = (-1 : Int) ∧ Q (splitG s_ sep 0 (-1)))
def sixf_L1 (s_ : ByteArray) (p : Int → Bool) (pD : Int → Prop) (truth : Bool) (Q : Int → Prop) (again2 : Int → Prop) (pos : Int) : Prop :=
 ((pos < (s_.size : Int) → ((0 : Int) ≤ pos ∧ (pD (runeAt s_ pos) ∧ ((((p (runeAt s_ pos)) == truth) = true → Q pos) ∧ (((p (runeAt s_ pos)) == truth) = false → again2 (pos + runeW s_ pos)))))) ∧ (¬ pos < (s_.size : Int) → Q (-1)))
def sixf_vc (s_ : ByteArray) (p : Int → Bool) (pD : Int → Prop) (truth : Bool) (Q : Int → Prop) : Prop :=
 lfp (S := Int) (fun again2 ss => sixf_L1 s_ p pD truth Q again2 ss) 0
def sixF_vc (s_ : ByteArray) (p : Int → Bool) (pD : Int → Prop) (Q : Int → Prop) : Prop :=
 ((∀ z_, pD z_) ∧ Q (runeIx p s_ true))
def scf_vc (s_ : ByteArray) (p : Int → Bool) (pD : Int → Prop) (Q : Bool → Prop) : Prop :=
 ((∀ z_, pD z_) ∧ Q (decide ((runeIx p s_ true) ≥ 0)))
def ixStr_L1 (s_ : (List ByteArray)) (p : ByteArray → Bool) (pD : ByteArray → Prop) (Q : Int → Prop) (again1 : Int → Prop) (x : Int) : Prop :=
 ((x < (s_.length : Int) → (inL x s_.length ∧ pD (gi s_ x) ∧ (((p (gi s_ x)) = true → Q x) ∧ ((p (gi s_ x)) = false → (inI (x + 1) ∧ again1 (x + 1)))))) ∧ (¬ x < (s_.length : Int) → Q (-1)))
def ixStr_vc (s_ : (List ByteArray)) (p : ByteArray → Bool) (pD : ByteArray → Prop) (Q : Int → Prop) : Prop :=
 lfp (S := Int) (fun again1 ss => ixStr_L1 s_ p pD Q again1 ss) 0
def cfStr_vc (s_ : (List ByteArray)) (p : ByteArray → Bool) (pD : ByteArray → Prop) (Q : Bool → Prop) : Prop :=
 (s_.length ≤ 9223372036854775807 ∧ (∀ z_ ∈ s_, pD z_) ∧ Q (decide ((idxOf p s_) ≥ 0)))
def part1_vc (c : Int) (Q : Bool → Prop) : Prop :=
 Q (!((((((decide (c ≥ 97)) && (decide (c ≤ 122))) || ((decide (c ≥ 48)) && (decide (c ≤ 57)))) || (c == 46)) || (c == 95)) || (c == 45)))
def part_vc (s_ : ByteArray) (Q : Bool → Prop) : Prop :=
 (((¬ s_ = (⟨#[]⟩ : ByteArray) ∧ ¬ (s_.size : Int) > 32) → inL 0 s_.size) ∧ (((¬ s_ = (⟨#[]⟩ : ByteArray) ∧ ¬ (s_.size : Int) > 32) ∧ ¬ (sgi s_ 0) = 46) → inL 0 s_.size) ∧ (((((s_ = (⟨#[]⟩ : ByteArray) ∨ (s_.size : Int) > 32) ∨ (sgi s_ 0) = 46) ∨ (sgi s_ 0) = 45) → Q false) ∧ ((((¬ s_ = (⟨#[]⟩ : ByteArray) ∧ ¬ (s_.size : Int) > 32) ∧ ¬ (sgi s_ 0) = 46) ∧ ¬ (sgi s_ 0) = 45) → ((∀ z_, (fun (x0_ : Int) => True) z_) ∧ Q (!(decide (0 ≤ runeIx (fun (x0_ : Int) => badR x0_) s_ true)))))))
def path1_vc (s_ : ByteArray) (Q : Bool → Prop) : Prop :=
 (s_.size ≤ 1000000 ∧ Q (!(partF s_)))
def path_vc (path : ByteArray) (Q : Int → Prop) : Prop :=
 (path.size ≤ 1000000 ∧ (⟨#[47]⟩ : ByteArray).size = 1 ∧ (((¬ (path.size : Int) > 128 ∧ ¬ ((splitF path (⟨#[47]⟩ : ByteArray)).length : Int) > 8) → (splitF path (⟨#[47]⟩ : ByteArray)).length ≤ 9223372036854775807 ∧ (∀ z_ ∈ (splitF path (⟨#[47]⟩ : ByteArray)), (fun (x0_ : ByteArray) => x0_.size ≤ 1000000) z_)) ∧ (((((path.size : Int) > 128 ∨ ((splitF path (⟨#[47]⟩ : ByteArray)).length : Int) > 8) ∨ ((splitF path (⟨#[47]⟩ : ByteArray)).any (fun (x0_ : ByteArray) => (!partF x0_))) = true) → Q 2) ∧ (((¬ (path.size : Int) > 128 ∧ ¬ ((splitF path (⟨#[47]⟩ : ByteArray)).length : Int) > 8) ∧ ((splitF path (⟨#[47]⟩ : ByteArray)).any (fun (x0_ : ByteArray) => (!partF x0_))) = false) → Q 0))))
def rname_L1 (s_ : ByteArray) (Q : Bool → Prop) (again2 : Int → Prop) (i : Int) : Prop :=
 ((i < (s_.size : Int) → (inL i s_.size ∧ ((((((((sgi s_ i) < 97 ∨ (sgi s_ i) > 122) ∧ ((sgi s_ i) < 48 ∨ (sgi s_ i) > 57)) ∧ ¬ (sgi s_ i) = 46) ∧ ¬ (sgi s_ i) = 95) ∧ ¬ (sgi s_ i) = 45) → Q false) ∧ ((((((¬ (sgi s_ i) < 97 ∧ ¬ (sgi s_ i) > 122) ∨ (¬ (sgi s_ i) < 48 ∧ ¬ (sgi s_ i) > 57)) ∨ (sgi s_ i) = 46) ∨ (sgi s_ i) = 95) ∨ (sgi s_ i) = 45) → (inI (i + 1) ∧ again2 (i + 1)))))) ∧ (¬ i < (s_.size : Int) → Q true))
def rname_vc (s_ : ByteArray) (Q : Bool → Prop) : Prop :=
 (((¬ (s_.size : Int) < 1 ∧ ¬ (s_.size : Int) > 32) → inL 0 s_.size) ∧ (((¬ (s_.size : Int) < 1 ∧ ¬ (s_.size : Int) > 32) ∧ ¬ (sgi s_ 0) = 46) → inL 0 s_.size) ∧ ((((((s_.size : Int) < 1 ∨ (s_.size : Int) > 32) ∨ (sgi s_ 0) = 46) ∨ (sgi s_ 0) = 45) → Q false) ∧ ((((¬ (s_.size : Int) < 1 ∧ ¬ (s_.size : Int) > 32) ∧ ¬ (sgi s_ 0) = 46) ∧ ¬ (sgi s_ 0) = 45) → lfp (S := Int) (fun again2 ss => rname_L1 s_ Q again2 ss) 0)))
def rpath_L1 (s_ : ByteArray) (Q : Bool → Prop) (again2 : Int × Int × Int → Prop) (names : Int) (from_ : Int) (i : Int) : Prop :=
 ((i ≤ (s_.size : Int) → ((i < (s_.size : Int) → inL i s_.size) ∧ (((i < (s_.size : Int) ∧ ¬ (sgi s_ i) = 47) → (inI (i + 1) ∧ again2 (names, from_, (i + 1)))) ∧ ((¬ i < (s_.size : Int) ∨ (sgi s_ i) = 47) → (inS from_ i s_.size ∧ (((nameR (ssub s_ from_ i)) = false → Q false) ∧ ((nameR (ssub s_ from_ i)) = true → (inI (names + 1) ∧ inI (i + 1) ∧ (inI (i + 1) ∧ again2 ((names + 1), (i + 1), (i + 1))))))))))) ∧ (¬ i ≤ (s_.size : Int) → Q (decide (names ≤ 8))))
def rpath_vc (s_ : ByteArray) (Q : Bool → Prop) : Prop :=
 (((s_.size : Int) > 128 → Q false) ∧ (¬ (s_.size : Int) > 128 → lfp (S := Int × Int × Int) (fun again2 ss => rpath_L1 s_ Q again2 ss.1 ss.2.1 ss.2.2) (0, 0, 0)))
def or_L1 (vals : (List Int)) (Q : Int → Prop) (again1 : Int → Prop) (x : Int) : Prop :=
 ((x < (vals.length : Int) → (inL x vals.length ∧ ((¬ (gi vals x) = 0 → Q (gi vals x)) ∧ ((gi vals x) = 0 → (inI (x + 1) ∧ again1 (x + 1)))))) ∧ (¬ x < (vals.length : Int) → Q 0))
def or_vc (vals : (List Int)) (Q : Int → Prop) : Prop :=
 lfp (S := Int) (fun again1 ss => or_L1 vals Q again1 ss) 0
end Go.Lic
