/-
  Structures of chapter 16 and how memory holds them.
-/
import Derived.Test.YtglclijalehcmaaGreatDoorVr
import Derived.Test.YtglclijalehcmaaGreatDoorGo
import Derived.Lib.Bytealg
import Derived.Lib.ItoaNum
import Derived.Lib.BitFns
import Derived.Test.YtglclijalehcmaaGreatDoorClip
import Derived.Test.YtglclijalehcmaaGreatDoorMapR
set_option linter.all false
namespace Go.Lic
structure Span where
 path : ByteArray
 from_ : Int
 to : Int
deriving DecidableEq
instance : Inhabited Span := ⟨⟨default, default, default⟩⟩
def encSpan (x : Span) : D := .agg ([D.s x.path, D.i x.from_, D.i x.to])
structure Line where
 path : ByteArray
 n : Int
deriving DecidableEq
instance : Inhabited Line := ⟨⟨default, default⟩⟩
end Go.Lic
set_option linter.all false
namespace Go.Lic
structure Lexeme where
 text : ByteArray
 line : Int
deriving DecidableEq
instance : Inhabited Lexeme := ⟨⟨default, default⟩⟩
def encLex (x : Lexeme) : D := .agg ([D.s x.text, D.i x.line])
structure Text where
 path : ByteArray
 words : (List Lexeme)
deriving DecidableEq
instance : Inhabited Text := ⟨⟨default, default⟩⟩
def encText (x : Text) : D := .agg ([D.s x.path, (encL 2 encLex) x.words])
structure Print where
 hash : Int
 at_ : Int
deriving DecidableEq
instance : Inhabited Print := ⟨⟨default, default⟩⟩
def encPrint (x : Print) : D := .agg ([D.i x.hash, D.i x.at_])
structure Pst where
 hash : Int
 text : Int
 at_ : Int
deriving DecidableEq
instance : Inhabited Pst := ⟨⟨default, default, default⟩⟩
def encPst (x : Pst) : D := .agg ([D.i x.hash, D.i x.text, D.i x.at_])
def eqPst (a b : Pst) : Bool := decide (a.hash = b.hash) && (decide (a.text = b.text) && (decide (a.at_ = b.at_) && true))
structure Corpus where
 k : Int
 w : Int
 texts : (List Text)
 posts : (List Pst)
deriving DecidableEq
instance : Inhabited Corpus := ⟨⟨default, default, default, default⟩⟩
def encCorpus (x : Corpus) : D := .agg ([D.i x.k, D.i x.w, (encL 2 encText) x.texts, (encL 3 encPst) x.posts])
def valPst (x : Pst) : List Value := [.int .i64 x.hash, .int .i64 x.text, .int .i64 x.at_]
theorem valPst_one : ∀ x : Pst, ∀ v ∈ valPst x, v.oneCell' = true := by
 intro x v hv
 simp only [valPst, List.mem_cons, List.not_mem_nil, or_false] at hv
 rcases hv with rfl | rfl | rfl <;> rfl
end Go.Lic
set_option linter.all false
namespace Go.Lic
structure Clone where
 a : Int
 atA : Int
 b : Int
 atB : Int
 len : Int
deriving DecidableEq
instance : Inhabited Clone := ⟨⟨default, default, default, default, default⟩⟩
def encClone (x : Clone) : D := .agg ([D.i x.a, D.i x.atA, D.i x.b, D.i x.atB, D.i x.len])
def eqClone (a b : Clone) : Bool := decide (a.a = b.a) && (decide (a.atA = b.atA) && (decide (a.b = b.b) && (decide (a.atB = b.atB) && (decide (a.len = b.len) && true))))
structure CloneDiagonal where
 a : Int
 b : Int
 by_ : Int
deriving DecidableEq
instance : Inhabited CloneDiagonal := ⟨⟨default, default, default⟩⟩
def encCloneDiagonal (x : CloneDiagonal) : D := .agg ([D.i x.a, D.i x.b, D.i x.by_])
structure ClonePlace where
 text : Int
 at_ : Int
deriving DecidableEq
instance : Inhabited ClonePlace := ⟨⟨default, default⟩⟩
def encClonePlace (x : ClonePlace) : D := .agg ([D.i x.text, D.i x.at_])
def eqClonePlace (a b : ClonePlace) : Bool := decide (a.text = b.text) && (decide (a.at_ = b.at_) && true)
def valClone (x : Clone) : List Value := [.int .i64 x.a, .int .i64 x.atA, .int .i64 x.b, .int .i64 x.atB, .int .i64 x.len]
theorem valClone_one : ∀ x : Clone, ∀ v ∈ valClone x, v.oneCell' = true := by
 intro x v hv
 simp only [valClone, List.mem_cons, List.not_mem_nil, or_false] at hv
 rcases hv with rfl | rfl | rfl | rfl | rfl <;> rfl
end Go.Lic
set_option linter.all false
namespace Go.Lic
def idxOf {α : Type} (p : α → Bool) (l : List α) : Int := match l.findIdx? p with | some i => i | none => -1
def cmpB (a b : ByteArray) : Int := Lib.compareBytes a.data.toList b.data.toList
def cmpI (a b : Int) : Int := if a < b then -1 else if b < a then 1 else 0
def orF (l : List Int) : Int := (l.find? (· != 0)).getD 0
def lenF (n : Int) : Int := Lib.bitLen n.toNat
def sepOf (s : ByteArray) : UInt8 := s.data.toList.headD 0
def countF (s sep : ByteArray) : Int := (s.data.toList.count (sepOf sep) : Nat)
def indexF (s sep : ByteArray) : Int := Lib.indexByte s.data.toList (sepOf sep)
def splitL (c : UInt8) : List UInt8 → List (List UInt8)
 | [] => [[]]
 | b :: l => if b = c then [] :: splitL c l else match splitL c l with | p :: r => (b :: p) :: r | [] => [[b]]
def splitF (s sep : ByteArray) : List ByteArray := (splitL (sepOf sep) s.data.toList).map fun l => ⟨l.toArray⟩
def nameB (c : Int) : Bool := (decide (97 ≤ c) && decide (c ≤ 122)) || (decide (48 ≤ c) && decide (c ≤ 57)) || decide (c = 46) || decide (c = 95) || decide (c = 45)
def badR (r : Int) : Bool := !nameB r
def runeIdxL (f : Int → Bool) (s : ByteArray) : Nat → Int → Int
 | 0, _ => -1
 | n + 1, i => if i < s.size then if f (Utf8.decode s i.toNat).1 then i else runeIdxL f s n (i + (Utf8.decode s i.toNat).2) else -1
def partF (s : ByteArray) : Bool := decide (1 ≤ s.size) && decide (s.size ≤ 32) && !decide (sgi s 0 = 46) && !decide (sgi s 0 = 45) && (sbytes s).all nameB
def pathB (s : ByteArray) : Bool := decide (s.size ≤ 128) && decide ((splitF s ⟨#[47]⟩).length ≤ 8) && (splitF s ⟨#[47]⟩).all partF
def pathF (s : ByteArray) : Int := if pathB s then 0 else 2
def spanCmp (a b : Span) : Int := orF [cmpB a.path b.path, cmpI a.from_ b.from_]
def insideF (s : Span) : Bool := decide (0 ≤ s.from_) && decide (s.from_ < s.to) && decide (s.to ≤ 1024)
def behindF (a b : Span) : Bool := sless a.path b.path || (decide (a.path = b.path) && decide (a.to < b.from_))
end Go.Lic
set_option linter.all false
namespace Go.Lic
open Go.Sort
def splitG (s sep : ByteArray) (_ _ : Int) : List ByteArray := splitF s sep
def runeIx (p : Int → Bool) (s : ByteArray) (t : Bool) : Int := runeIdxL (fun r => p r == t) s (s.size + 1) 0
def spanR (s : Span) : Bool := pathB s.path && insideF s
def nameR (s : ByteArray) : Bool := partF s
def chainB (l : List Span) (i : Nat) : Bool := spanR (gi l i) && (i == 0 || behindF (gi l ((i : Int) - 1)) (gi l i))
def validF (l : List Span) : Bool := (List.range l.length).all (chainB l)
def lastD (l : List Span) : Span := gi l ((l.length : Int) - 1)
def mergeStep (out : List Span) (s : Span) : List Span :=
 if 0 < out.length ∧ behindF (lastD out) s = false then si out ((out.length : Int) - 1) ⟨(lastD out).path, (lastD out).from_, gmax (lastD out).to [s.to]⟩ else out ++ [s]
def mergeF (l : List Span) : List Span := (sortF spanCmp l).foldl mergeStep []
def unitW (x : Line) : Span := ⟨x.path, x.n, IntKind.i64.wrap (x.n + 1)⟩
def badLine (x : Line) : Bool := !(pathB x.path && insideF (unitW x))
def ofF (l : List Line) : List Span × Int := match l.find? badLine with | some x => ([], if pathB x.path then 3 else 2) | none => (mergeF (l.map unitW), 0)
def countL (l : List Span) : Int := if validF l then (l.map fun s => s.to - s.from_).sum else 0
def has1F (s : Span) (x : Line) : Bool := decide (s.path = x.path) && decide (s.from_ ≤ x.n) && decide (x.n < s.to)
def hasF (l : List Span) (x : Line) : Bool := l.any (fun s => has1F s x) && validF l
def packStep (out : List Span) (x : Line) : List Span :=
 if 0 < out.length ∧ (lastD out).path = x.path ∧ x.n < (lastD out).to then out
 else if 0 < out.length ∧ (lastD out).path = x.path ∧ x.n = (lastD out).to then si out ((out.length : Int) - 1) ⟨(lastD out).path, (lastD out).from_, (lastD out).to + 1⟩
 else out ++ [⟨x.path, x.n, x.n + 1⟩]
def packF (l : List Line) : List Span := l.foldl packStep []
end Go.Lic
set_option linter.all false
namespace Go.Lic
open Go.Proofs Go.Sort
def gsplit_L1 (s_ : ByteArray) (sep : ByteArray) (sepSave : Int) (n1 : Int) (Q : (List ByteArray) → Prop) (again4 : (List ByteArray) × ByteArray × Int → Prop) (a : (List ByteArray)) (s_1 : ByteArray) (i : Int) : Prop :=
 ((i < ((gmin n1 [((s_.size : Int) + 1)]) - 1) → (sep.size = 1 ∧ (((indexF s_1 sep) < 0 → (inL i a.length ∧ (inI (i + 1) ∧ inS 0 (i + 1) (si a i s_1).length ∧ Q (lsub (si a i s_1) 0 (i + 1))))) ∧ (¬ (indexF s_1 sep) < 0 → (inI ((indexF s_1 sep) + sepSave) ∧ inS 0 ((indexF s_1 sep) + sepSave) s_1.size ∧ inL i a.length ∧ (inI ((indexF s_1 sep) + (sep.size : Int)) ∧ inS ((indexF s_1 sep) + (sep.size : Int)) (s_1.size : Int) s_1.size ∧ (inI (i + 1) ∧ again4 ((si a i (ssub s_1 0 ((indexF s_1 sep) + sepSave))), (ssub s_1 ((indexF s_1 sep) + (sep.size : Int)) (s_1.size : Int)), (i + 1))))))))) ∧ (¬ i < ((gmin n1 [((s_.size : Int) + 1)]) - 1) → (inL i a.length ∧ (inI (i + 1) ∧ inS 0 (i + 1) (si a i s_1).length ∧ Q (lsub (si a i s_1) 0 (i + 1))))))
def gsplit_J1 (s_ : ByteArray) (sep : ByteArray) (sepSave : Int) (Q : (List ByteArray) → Prop) (n1 : Int) : Prop :=
 (inI ((s_.size : Int) + 1) ∧ ((((0 : Int) ≤ (gmin n1 [((s_.size : Int) + 1)]) ∧ ((gmin n1 [((s_.size : Int) + 1)]) : Int) ≤ (gmin n1 [((s_.size : Int) + 1)])) ∧ (16 : Int) * (gmin n1 [((s_.size : Int) + 1)]) ≤ 281474976710656 ∧ ((gmin n1 [((s_.size : Int) + 1)]) : Int) ≤ 9223372036854775807) ∧ (inI ((gmin n1 [((s_.size : Int) + 1)]) - 1) ∧ lfp (S := (List ByteArray) × ByteArray × Int) (fun again4 ss => gsplit_L1 s_ sep sepSave n1 Q again4 ss.1 ss.2.1 ss.2.2) ((List.replicate (Int.toNat (gmin n1 [((s_.size : Int) + 1)])) ByteArray.empty), s_, 0))))
def gsplit_vc (s_ : ByteArray) (sep : ByteArray) (sepSave : Int) (n : Int) (Q : (List ByteArray) → Prop) : Prop :=
 ((n = 0 → Q []) ∧ (¬ n = 0 → ((sep = (⟨#[]⟩ : ByteArray) → False) ∧ (¬ sep = (⟨#[]⟩ : ByteArray) → ((n < 0 → (sep.size = 1 ∧ inI ((countF s_ sep) + 1) ∧ gsplit_J1 s_ sep sepSave Q ((countF s_ sep) + 1))) ∧ (¬ n < 0 → gsplit_J1 s_ sep sepSave Q n))))))
def split_vc (s_ : ByteArray) (sep : ByteArray) (Q : (List ByteArray) → Prop) : Prop :=
 (s_.size ≤ 1000000 ∧ sep.size = 1 ∧ 0 = (0 : Int) ∧ (-1) = (-1 : Int) ∧ Q (splitG s_ sep 0 (-1)))
def sixf_L1 (s_ : ByteArray) (p : Int → Bool) (pD : Int → Prop) (truth : Bool) (Q : Int → Prop) (again2 : Int → Prop) (pos : Int) : Prop :=
 ((pos < (s_.size : Int) → ((0 : Int) ≤ pos ∧ (pD (runeAt s_ pos) ∧ ((((p (runeAt s_ pos)) == truth) = true → Q pos) ∧ (((p (runeAt s_ pos)) == truth) = false → again2 (pos + runeW s_ pos)))))) ∧ (¬ pos < (s_.size : Int) → Q (-1)))
def sixf_vc (s_ : ByteArray) (p : Int → Bool) (pD : Int → Prop) (truth : Bool) (Q : Int → Prop) : Prop :=
 lfp (S := Int) (fun again2 ss => sixf_L1 s_ p pD truth Q again2 ss) 0
def sixF_vc (s_ : ByteArray) (p : Int → Bool) (pD : Int → Prop) (Q : Int → Prop) : Prop :=
 ((∀ z_, pD z_) ∧ Q (runeIx p s_ true))
def scf_vc (s_ : ByteArray) (p : Int → Bool) (pD : Int → Prop) (Q : Bool → Prop) : Prop :=
 ((∀ z_, pD z_) ∧ Q (decide ((runeIx p s_ true) ≥ 0)))
def ixStr_L1 (s_ : (List ByteArray)) (p : ByteArray → Bool) (pD : ByteArray → Prop) (Q : Int → Prop) (again1 : Int → Prop) (x : Int) : Prop :=
 ((x < (s_.length : Int) → (inL x s_.length ∧ pD (gi s_ x) ∧ (((p (gi s_ x)) = true → Q x) ∧ ((p (gi s_ x)) = false → (inI (x + 1) ∧ again1 (x + 1)))))) ∧ (¬ x < (s_.length : Int) → Q (-1)))
def ixStr_vc (s_ : (List ByteArray)) (p : ByteArray → Bool) (pD : ByteArray → Prop) (Q : Int → Prop) : Prop :=
 lfp (S := Int) (fun again1 ss => ixStr_L1 s_ p pD Q again1 ss) 0
def cfStr_vc (s_ : (List ByteArray)) (p : ByteArray → Bool) (pD : ByteArray → Prop) (Q : Bool → Prop) : Prop :=
 (s_.length ≤ 9223372036854775807 ∧ (∀ z_ ∈ s_, pD z_) ∧ Q (decide ((idxOf p s_) ≥ 0)))
def part1_vc (c : Int) (Q : Bool → Prop) : Prop :=
 Q (!((((((decide (c ≥ 97)) && (decide (c ≤ 122))) || ((decide (c ≥ 48)) && (decide (c ≤ 57)))) || (c == 46)) || (c == 95)) || (c == 45)))
def part_vc (s_ : ByteArray) (Q : Bool → Prop) : Prop :=
 (((¬ s_ = (⟨#[]⟩ : ByteArray) ∧ ¬ (s_.size : Int) > 32) → inL 0 s_.size) ∧ (((¬ s_ = (⟨#[]⟩ : ByteArray) ∧ ¬ (s_.size : Int) > 32) ∧ ¬ (sgi s_ 0) = 46) → inL 0 s_.size) ∧ (((((s_ = (⟨#[]⟩ : ByteArray) ∨ (s_.size : Int) > 32) ∨ (sgi s_ 0) = 46) ∨ (sgi s_ 0) = 45) → Q false) ∧ ((((¬ s_ = (⟨#[]⟩ : ByteArray) ∧ ¬ (s_.size : Int) > 32) ∧ ¬ (sgi s_ 0) = 46) ∧ ¬ (sgi s_ 0) = 45) → ((∀ z_, (fun (x0_ : Int) => True) z_) ∧ Q (!(decide (0 ≤ runeIx (fun (x0_ : Int) => badR x0_) s_ true)))))))
def path1_vc (s_ : ByteArray) (Q : Bool → Prop) : Prop :=
 (s_.size ≤ 1000000 ∧ Q (!(partF s_)))
def path_vc (path : ByteArray) (Q : Int → Prop) : Prop :=
 (path.size ≤ 1000000 ∧ (⟨#[47]⟩ : ByteArray).size = 1 ∧ (((¬ (path.size : Int) > 128 ∧ ¬ ((splitF path (⟨#[47]⟩ : ByteArray)).length : Int) > 8) → (splitF path (⟨#[47]⟩ : ByteArray)).length ≤ 9223372036854775807 ∧ (∀ z_ ∈ (splitF path (⟨#[47]⟩ : ByteArray)), (fun (x0_ : ByteArray) => x0_.size ≤ 1000000) z_)) ∧ (((((path.size : Int) > 128 ∨ ((splitF path (⟨#[47]⟩ : ByteArray)).length : Int) > 8) ∨ ((splitF path (⟨#[47]⟩ : ByteArray)).any (fun (x0_ : ByteArray) => (!partF x0_))) = true) → Q 2) ∧ (((¬ (path.size : Int) > 128 ∧ ¬ ((splitF path (⟨#[47]⟩ : ByteArray)).length : Int) > 8) ∧ ((splitF path (⟨#[47]⟩ : ByteArray)).any (fun (x0_ : ByteArray) => (!partF x0_))) = false) → Q 0))))
def or_L1 (vals : (List Int)) (Q : Int → Prop) (again1 : Int → Prop) (x : Int) : Prop :=
 ((x < (vals.length : Int) → (inL x vals.length ∧ ((¬ (gi vals x) = 0 → Q (gi vals x)) ∧ ((gi vals x) = 0 → (inI (x + 1) ∧ again1 (x + 1)))))) ∧ (¬ x < (vals.length : Int) → Q 0))
def or_vc (vals : (List Int)) (Q : Int → Prop) : Prop :=
 lfp (S := Int) (fun again1 ss => or_L1 vals Q again1 ss) 0
end Go.Lic
set_option linter.all false
namespace Go.Lic
open Go.Sort Go.Proofs Go.Shelf
theorem bl_irrefl : ∀ a : List UInt8, Op.bytesLess a a = false
 | [] => rfl
 | x :: a => by simp [Op.bytesLess, UInt8.lt_irrefl, bl_irrefl a]
theorem bl_trans : ∀ a b c : List UInt8, Op.bytesLess a b = true → Op.bytesLess b c = true → Op.bytesLess a c = true
 | [], [], _, h, _ => by cases h
 | [], _ :: _, [], _, h => by cases h
 | [], _ :: _, _ :: _, _, _ => rfl
 | _ :: _, [], _, h, _ => by cases h
 | _ :: _, _ :: _, [], _, h => by cases h
 | x :: a, y :: b, z :: c, h1, h2 => by
   simp only [Op.bytesLess, Bool.or_eq_true, Bool.and_eq_true, decide_eq_true_eq, beq_iff_eq] at h1 h2 ⊢
   rcases h1 with h1 | ⟨rfl, h1⟩
   · rcases h2 with h2 | ⟨rfl, h2⟩
     · exact .inl (UInt8.lt_trans h1 h2)
     · exact .inl h1
   · rcases h2 with h2 | ⟨rfl, h2⟩
     · exact .inl h2
     · exact .inr ⟨rfl, bl_trans a b c h1 h2⟩
theorem bl_tri : ∀ a b : List UInt8, Op.bytesLess a b = true ∨ a = b ∨ Op.bytesLess b a = true
 | [], [] => .inr (.inl rfl)
 | [], _ :: _ => .inl rfl
 | _ :: _, [] => .inr (.inr rfl)
 | x :: a, y :: b => by
   simp only [Op.bytesLess, Bool.or_eq_true, Bool.and_eq_true, decide_eq_true_eq, beq_iff_eq, List.cons.injEq]
   by_cases h : x = y
   · subst h
     rcases bl_tri a b with h1 | h1 | h1
     · exact .inl (.inr ⟨rfl, h1⟩)
     · exact .inr (.inl ⟨rfl, h1⟩)
     · exact .inr (.inr (.inr ⟨rfl, h1⟩))
   · rcases UInt8.lt_or_lt_of_ne h with h1 | h1
     · exact .inl (.inl h1)
     · exact .inr (.inr (.inl h1))
theorem cb_eq : ∀ a b : List UInt8, Lib.compareBytes a b = if Op.bytesLess a b = true then -1 else if a = b then 0 else 1
 | [], [] => rfl
 | [], _ :: _ => rfl
 | _ :: _, [] => by simp [Lib.compareBytes, Op.bytesLess]
 | x :: a, y :: b => by
   simp only [Lib.compareBytes, Op.bytesLess, Bool.or_eq_true, Bool.and_eq_true, decide_eq_true_eq, beq_iff_eq, List.cons.injEq]
   rw [cb_eq a b]
   by_cases h : x = y
   · subst h
     simp [UInt8.lt_irrefl]
   · rcases UInt8.lt_or_lt_of_ne h with h1 | h1
     · simp [h1]
     · have : ¬ x < y := UInt8.lt_asymm h1
       simp [h1, this, h]
theorem ba_eq {a b : ByteArray} (h : a.data.toList = b.data.toList) : a = b := by
 obtain ⟨⟨a⟩⟩ := a; obtain ⟨⟨b⟩⟩ := b
 cases h; rfl
abbrev SLt (a b : ByteArray) : Prop := sless a b = true
theorem sl_irrefl (a : ByteArray) : ¬ SLt a a := by simp [sless, bl_irrefl]
theorem sl_trans {a b c : ByteArray} (h1 : SLt a b) (h2 : SLt b c) : SLt a c := bl_trans _ _ _ h1 h2
theorem sl_asymm {a b : ByteArray} (h1 : SLt a b) : ¬ SLt b a := fun h2 => sl_irrefl a (sl_trans h1 h2)
theorem sl_tri (a b : ByteArray) : SLt a b ∨ a = b ∨ SLt b a := by
 rcases bl_tri a.data.toList b.data.toList with h | h | h
 · exact .inl h
 · exact .inr (.inl (ba_eq h))
 · exact .inr (.inr h)
theorem cmpB_eq (a b : ByteArray) : cmpB a b = if sless a b = true then -1 else if a = b then 0 else 1 := by
 unfold cmpB
 rw [cb_eq]
 by_cases h : a = b
 · subst h; simp [sless]
 · have : ¬ a.data.toList = b.data.toList := fun e => h (ba_eq e)
   simp [sless, h, this]
def PLt (p : ByteArray) (n : Int) (q : ByteArray) (m : Int) : Prop := SLt p q ∨ (p = q ∧ n < m)
theorem pl_irrefl (p : ByteArray) (n : Int) : ¬ PLt p n p n := by
 rintro (h | ⟨_, h⟩)
 · exact sl_irrefl _ h
 · omega
theorem pl_trans {p q r : ByteArray} {n m k : Int} (h1 : PLt p n q m) (h2 : PLt q m r k) : PLt p n r k := by
 rcases h1 with h1 | ⟨rfl, h1⟩
 · rcases h2 with h2 | ⟨rfl, h2⟩
   · exact .inl (sl_trans h1 h2)
   · exact .inl h1
 · rcases h2 with h2 | ⟨rfl, h2⟩
   · exact .inl h2
   · exact .inr ⟨rfl, by omega⟩
theorem pl_tri (p : ByteArray) (n : Int) (q : ByteArray) (m : Int) : PLt p n q m ∨ (p = q ∧ n = m) ∨ PLt q m p n := by
 rcases sl_tri p q with h | rfl | h
 · exact .inl (.inl h)
 · rcases Int.lt_trichotomy n m with h | h | h
   · exact .inl (.inr ⟨rfl, h⟩)
   · exact .inr (.inl ⟨rfl, h⟩)
   · exact .inr (.inr (.inr ⟨rfl, h⟩))
 · exact .inr (.inr (.inl h))
abbrev SpLt (a b : Span) : Prop := PLt a.path a.from_ b.path b.from_
theorem spanCmp_neg (a b : Span) : spanCmp a b < 0 ↔ SpLt a b := by
 have e : spanCmp a b = if cmpB a.path b.path ≠ 0 then cmpB a.path b.path else if cmpI a.from_ b.from_ ≠ 0 then cmpI a.from_ b.from_ else 0 := by
   unfold spanCmp orF
   by_cases h1 : cmpB a.path b.path = 0
   · by_cases h2 : cmpI a.from_ b.from_ = 0
     · simp [h1, h2]
     · simp [h1, h2]
   · simp [h1]
 rw [e, cmpB_eq]
 unfold SpLt PLt cmpI SLt
 by_cases h : sless a.path b.path = true
 · simp [h]
 · by_cases h2 : a.path = b.path
   · rw [h2]
     have : ¬ (sless b.path b.path = true) := sl_irrefl _
     simp only [this, if_false, if_true, ne_eq, not_true, false_or, true_and]
     by_cases h3 : a.from_ < b.from_
     · simp [h3]
     · by_cases h4 : b.from_ < a.from_
       · simp [h3, h4]
       · simp [h3, h4]
   · simp [h, h2]
theorem ltOf_iff (a b : Span) : ltOf spanCmp a b = true ↔ SpLt a b := by
 unfold ltOf
 rw [decide_eq_true_eq]
 exact spanCmp_neg a b
theorem ltOf_false (a b : Span) : ltOf spanCmp a b = false ↔ ¬ SpLt a b := by
 rw [← ltOf_iff]; simp
theorem pl_ntrans {p q r : ByteArray} {n m k : Int} (h1 : ¬ PLt p n q m) (h2 : ¬ PLt q m r k) : ¬ PLt p n r k := by
 intro h3
 rcases pl_tri p n q m with h | ⟨rfl, rfl⟩ | h
 · exact h1 h
 · exact h2 h3
 · exact h2 (pl_trans h h3)
theorem spanCmp_swo : SWO (ltOf spanCmp) where
 irrefl a := (ltOf_false _ _).2 (pl_irrefl _ _)
 trans a b c h1 h2 := (ltOf_iff _ _).2 (pl_trans ((ltOf_iff _ _).1 h1) ((ltOf_iff _ _).1 h2))
 ntrans a b c h1 h2 := (ltOf_false _ _).2 (pl_ntrans ((ltOf_false _ _).1 h1) ((ltOf_false _ _).1 h2))
def inSpan (s : Span) (p : ByteArray) (n : Int) : Prop := s.path = p ∧ s.from_ ≤ n ∧ n < s.to
def In (l : List Span) (p : ByteArray) (n : Int) : Prop := ∃ s ∈ l, inSpan s p n
theorem gi_last {α : Type} [Inhabited α] (o : List α) (t : α) : gi (o ++ [t]) (((o ++ [t]).length : Int) - 1) = t := by
 have : (((o ++ [t]).length : Int) - 1) = ((o.length : Nat) : Int) := by simp
 rw [this, gi_nat (by simp)]
 simp
theorem si_last {α : Type} (o : List α) (t v : α) : si (o ++ [t]) (((o ++ [t]).length : Int) - 1) v = o ++ [v] := by
 have : (((o ++ [t]).length : Int) - 1).toNat = o.length := by simp
 unfold si
 rw [this]
 simp
theorem gmin1 (a b : Int) : gmin a [b] = min a b := by simp only [gmin, List.foldl]; omega
theorem list_last {α : Type} (l : List α) : l = [] ∨ ∃ o t, l = o ++ [t] := by
 rcases List.eq_nil_or_concat l with h | ⟨o, t, h⟩
 · exact .inl h
 · exact .inr ⟨o, t, by simpa using h⟩
theorem foldl_len {α β : Type} {f : List α → β → List α} (h : ∀ o x, (f o x).length ≤ o.length + 1) : ∀ (r : List β) (o : List α), (r.foldl f o).length ≤ o.length + r.length
 | [], o => by simp
 | x :: r, o => by
   rw [List.foldl_cons]
   have h1 := foldl_len h r (f o x)
   have h2 := h o x
   simp only [List.length_cons]; omega
end Go.Lic
set_option linter.all false
namespace Go.Lic
open Go.Sort Go.Proofs Go.Shelf
end Go.Lic
set_option linter.all false
namespace Go.Lic
open Go.Sort Go.Proofs Go.Shelf
def leftOf (s : Span) : List Span := if s.from_ < s.to then [s] else []
end Go.Lic
