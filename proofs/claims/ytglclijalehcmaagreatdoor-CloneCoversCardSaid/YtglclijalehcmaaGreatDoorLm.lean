/-
  A region whose order is drawn, of which some moves may come late.
-/
import Derived.Test.YtglclijalehcmaaGreatDoorDraw
import Derived.Test.YtglclijalehcmaaGreatDoorVr
import Derived.Lib.Builder
import Derived.Lib.UnsafeStr
import Derived.Laws.Externs
import Derived.Sort.AssemblyPlain
import Derived.Shelf.SlSortCmp.Insertion
import Derived.Lib.BitFns
import Derived.Test.YtglclijalehcmaaGreatDoorGo
import Derived.Lib.Bytealg
import Derived.Lib.ItoaNum
set_option linter.all false
namespace Go.Lic
section
variable {P : Program} {ops : Array Oper} {Q : Exit → Act → World → Prop}
end
section
end
end Go.Lic
set_option linter.all false
namespace Go.Lic
theorem pull1 {α : Type} {a b : α} {l : List α} : (a :: b :: l).Perm (b :: a :: l) := .swap _ _ _
theorem pull2 {α : Type} {a b c : α} {l : List α} : (a :: b :: c :: l).Perm (c :: a :: b :: l) := (pull1.cons a).trans pull1
theorem pull3 {α : Type} {a b c d : α} {l : List α} : (a :: b :: c :: d :: l).Perm (d :: a :: b :: c :: l) := (pull2.cons a).trans pull1
theorem pull4 {α : Type} {a b c d e : α} {l : List α} : (a :: b :: c :: d :: e :: l).Perm (e :: a :: b :: c :: d :: l) := (pull3.cons a).trans pull1
theorem pull5 {α : Type} {a b c d e f : α} {l : List α} : (a :: b :: c :: d :: e :: f :: l).Perm (f :: a :: b :: c :: d :: e :: l) := (pull4.cons a).trans pull1
theorem pull6 {α : Type} {a b c d e f g : α} {l : List α} : (a :: b :: c :: d :: e :: f :: g :: l).Perm (g :: a :: b :: c :: d :: e :: f :: l) := (pull5.cons a).trans pull1
theorem CallH.mono {P : Program} {f : Nat} {ds : List D} {h : Heap} {K K' : D → Heap → Prop} (hc : CallH P f ds h K) (hk : ∀ d h', K d h' → K' d h') : CallH P f ds h K' := by
 intro A w vs hr hv
 refine (hc A w vs hr hv).mono ?_
 rintro e w' ⟨v, d, h', rfl, hK, q⟩
 exact ⟨v, d, h', rfl, hk d h' hK, q⟩
theorem CallH.shrink {P : Program} {f : Nat} {ds : List D} {h : Heap} {K : D → Heap → Prop} (hc : CallH P f ds h (fun d h' => ∃ h1 h0 : Heap, h'.Perm h1 ∧ List.Sublist h0 h1 ∧ K d h0)) : CallH P f ds h K := by
 intro A w vs hr hv
 refine (hc A w vs hr hv).mono ?_
 rintro e w' ⟨v, d, h', rfl, ⟨h1, h0, hp, hs, hk⟩, hrr, hm, hvv⟩
 obtain ⟨r1, m1⟩ := hrr.perm hp
 obtain ⟨r2, m2⟩ := r1.sub hs
 exact ⟨v, d, h0, rfl, hk, r2, (hm.trans m1).trans m2, hvv.mono (m1.trans m2)⟩
theorem CallH.of_bodyP {P : Program} {f : Nat} {fn : Func} {c : Code} {n : Nat} {ds : List D} {h : Heap} {K : D → Heap → Prop} (hf : P.funcs[f]? = some fn) (hb : fn.body = some c) (hn : fn.ntmps = n) (hd : Nat.ble ds.length n = true)
   (hh : wpA P n c (RetA P fn (fun d h' => ∃ h1 h0 : Heap, h'.Perm h1 ∧ List.Sublist h0 h1 ∧ K d h0)) (frOf ds) h) : CallH P f ds h K :=
 (CallH.of_body hf hb hn hd hh).shrink
section
variable {P : Program} {n : Nat} {ops : Array Oper} {l : List Oper} {Q : Post} {fr : Nat → D} {h h' : Heap}
theorem wpL_perm (hp : h.Perm h') (hh : wpL P n ops l Q fr h') : wpL P n ops l Q fr h :=
 fun A M w0 a w r => by
   obtain ⟨r1, m1⟩ := r.heap.perm hp
   exact hh A M w0 a w (r.turn r1 m1)
theorem Repl.same {c : Nat} {b : Blk} (hr : Repl c b c b h h') : h' = h := by
 obtain ⟨h1, h2, e1, e2⟩ := hr.split
 rw [e1, e2]
end
section
variable {P : Program} {o : Oper} {fr : Nat → D} {h : Heap} {K : D → Heap → Prop} {T : Type} [Inhabited T] {enc : T → D}
end
end Go.Lic
set_option linter.all false
namespace Go.Lic
section
variable {P : Program} {o : Oper} {fr : Nat → D} {h : Heap} {K : D → Heap → Prop}
end
end Go.Lic
set_option linter.all false
namespace Go.Lic
section
variable {P : Program} {o : Oper} {fr : Nat → D} {h : Heap} {K : D → Heap → Prop}
end
end Go.Lic
set_option linter.all false
namespace Go.Lic
section
variable {P : Program} {o : Oper} {fr : Nat → D} {h : Heap} {K : D → Heap → Prop} {T : Type} [Inhabited T] {enc : T → D}
end
section
variable {P : Program} {o : Oper} {fr : Nat → D} {h : Heap} {K : D → Heap → Prop}
end
end Go.Lic
set_option linter.all false
namespace Go.Lic
section
variable {P : Program} {o : Oper} {fr : Nat → D} {h : Heap} {K : D → Heap → Prop}
def clearF {T : Type} (xs : List T) (a : Int) (z : T) : List T := xs.take a.toNat ++ List.replicate (xs.length - a.toNat) z
theorem clearF_length {T : Type} (xs : List T) (a : Int) (z : T) : (clearF xs a z).length = xs.length := by simp [clearF]; omega
end
end Go.Lic
set_option linter.all false
namespace Go.Lic
open Go.Proofs Go.Sort
def sortF {T : Type} [Inhabited T] (cf : T → T → Int) (l : List T) : List T := (pdq (ltOf cf) l.toArray 0 l.length (Lib.bitLen l.length) true true).toList
theorem sortF_perm {T : Type} [Inhabited T] {cf : T → T → Int} (hO : SWO (ltOf cf)) (l : List T) : (sortF cf l).Perm l := by
 have h := (pdq_sorts (ltOf cf) hO l.toArray 0 l.length (Lib.bitLen l.length) true true (Nat.zero_le _) (by simp) (Or.inl rfl)).1
 obtain ⟨h1, _, h3⟩ := h
 have e1 : (pdq (ltOf cf) l.toArray 0 l.length (Lib.bitLen l.length) true true).extract 0 l.length = pdq (ltOf cf) l.toArray 0 l.length (Lib.bitLen l.length) true true := by
   apply Array.ext'
   rw [Array.toList_extract]
   have : (pdq (ltOf cf) l.toArray 0 l.length (Lib.bitLen l.length) true true).toList.length = l.length := by rw [Array.length_toList, h1]; simp
   show ((pdq (ltOf cf) l.toArray 0 l.length (Lib.bitLen l.length) true true).toList.drop 0).take (l.length - 0) = _
   rw [List.drop_zero, Nat.sub_zero, List.take_of_length_le (by omega)]
 have e2 : l.toArray.extract 0 l.length = l.toArray := by
   apply Array.ext'
   rw [Array.toList_extract]
   simp [List.extract_eq_take_drop]
 rw [e1, e2] at h3
 simpa [sortF] using h3
theorem sortF_len {T : Type} [Inhabited T] {cf : T → T → Int} (hO : SWO (ltOf cf)) (l : List T) : (sortF cf l).length = l.length := (sortF_perm hO l).length_eq
theorem sortF_sorted {T : Type} [Inhabited T] {cf : T → T → Int} (hO : SWO (ltOf cf)) (l : List T) : ∀ i j, i < j → j < l.length → ¬ cf ((sortF cf l)[j]!) ((sortF cf l)[i]!) < 0 := by
 have h := (pdq_sorts (ltOf cf) hO l.toArray 0 l.length (Lib.bitLen l.length) true true (Nat.zero_le _) (by simp) (Or.inl rfl)).2
 intro i j hij hj
 have := h i j (Nat.zero_le _) hij hj
 simp only [ltOf, decide_eq_false_iff_not] at this
 unfold sortF
 rw [← List.getElem!_toArray, ← List.getElem!_toArray, Array.toArray_toList]
 exact this
end Go.Lic
set_option linter.all false
namespace Go.Lic
structure Span where
 path : ByteArray
 from_ : Int
 to : Int
deriving DecidableEq
instance : Inhabited Span := ⟨⟨default, default, default⟩⟩
def encSpan (x : Span) : D := .agg ([D.s x.path, D.i x.from_, D.i x.to])
structure Line where
 path : ByteArray
 n : Int
deriving DecidableEq
instance : Inhabited Line := ⟨⟨default, default⟩⟩
def encLine (x : Line) : D := .agg ([D.s x.path, D.i x.n])
def valSpan (x : Span) : List Value := [.string x.path, .int .i64 x.from_, .int .i64 x.to]
theorem valSpan_one : ∀ x : Span, ∀ v ∈ valSpan x, v.oneCell' = true := by
 intro x v hv
 simp only [valSpan, List.mem_cons, List.not_mem_nil, or_false] at hv
 rcases hv with rfl | rfl | rfl <;> rfl
end Go.Lic
set_option linter.all false
namespace Go.Lic
structure Lexeme where
 text : ByteArray
 line : Int
deriving DecidableEq
instance : Inhabited Lexeme := ⟨⟨default, default⟩⟩
def encLex (x : Lexeme) : D := .agg ([D.s x.text, D.i x.line])
structure Text where
 path : ByteArray
 words : (List Lexeme)
deriving DecidableEq
instance : Inhabited Text := ⟨⟨default, default⟩⟩
def encText (x : Text) : D := .agg ([D.s x.path, (encL 2 encLex) x.words])
structure Print where
 hash : Int
 at_ : Int
deriving DecidableEq
instance : Inhabited Print := ⟨⟨default, default⟩⟩
def encPrint (x : Print) : D := .agg ([D.i x.hash, D.i x.at_])
structure Pst where
 hash : Int
 text : Int
 at_ : Int
deriving DecidableEq
instance : Inhabited Pst := ⟨⟨default, default, default⟩⟩
structure Corpus where
 k : Int
 w : Int
 texts : (List Text)
 posts : (List Pst)
deriving DecidableEq
instance : Inhabited Corpus := ⟨⟨default, default, default, default⟩⟩
end Go.Lic
set_option linter.all false
namespace Go.Lic
structure Clone where
 a : Int
 atA : Int
 b : Int
 atB : Int
 len : Int
deriving DecidableEq
instance : Inhabited Clone := ⟨⟨default, default, default, default, default⟩⟩
def encClone (x : Clone) : D := .agg ([D.i x.a, D.i x.atA, D.i x.b, D.i x.atB, D.i x.len])
def eqClone (a b : Clone) : Bool := decide (a.a = b.a) && (decide (a.atA = b.atA) && (decide (a.b = b.b) && (decide (a.atB = b.atB) && (decide (a.len = b.len) && true))))
structure CloneDiagonal where
 a : Int
 b : Int
 by_ : Int
deriving DecidableEq
instance : Inhabited CloneDiagonal := ⟨⟨default, default, default⟩⟩
def encCloneDiagonal (x : CloneDiagonal) : D := .agg ([D.i x.a, D.i x.b, D.i x.by_])
structure ClonePlace where
 text : Int
 at_ : Int
deriving DecidableEq
instance : Inhabited ClonePlace := ⟨⟨default, default⟩⟩
def encClonePlace (x : ClonePlace) : D := .agg ([D.i x.text, D.i x.at_])
def eqClonePlace (a b : ClonePlace) : Bool := decide (a.text = b.text) && (decide (a.at_ = b.at_) && true)
def valClone (x : Clone) : List Value := [.int .i64 x.a, .int .i64 x.atA, .int .i64 x.b, .int .i64 x.atB, .int .i64 x.len]
theorem valClone_one : ∀ x : Clone, ∀ v ∈ valClone x, v.oneCell' = true := by
 intro x v hv
 simp only [valClone, List.mem_cons, List.not_mem_nil, or_false] at hv
 rcases hv with rfl | rfl | rfl | rfl | rfl <;> rfl
end Go.Lic
set_option linter.all false
namespace Go.Lic
def idxOf {α : Type} (p : α → Bool) (l : List α) : Int := match l.findIdx? p with | some i => i | none => -1
def cmpB (a b : ByteArray) : Int := Lib.compareBytes a.data.toList b.data.toList
def cmpI (a b : Int) : Int := if a < b then -1 else if b < a then 1 else 0
def orF (l : List Int) : Int := (l.find? (· != 0)).getD 0
def lenF (n : Int) : Int := Lib.bitLen n.toNat
def sepOf (s : ByteArray) : UInt8 := s.data.toList.headD 0
def countF (s sep : ByteArray) : Int := (s.data.toList.count (sepOf sep) : Nat)
def indexF (s sep : ByteArray) : Int := Lib.indexByte s.data.toList (sepOf sep)
def splitL (c : UInt8) : List UInt8 → List (List UInt8)
 | [] => [[]]
 | b :: l => if b = c then [] :: splitL c l else match splitL c l with | p :: r => (b :: p) :: r | [] => [[b]]
def splitF (s sep : ByteArray) : List ByteArray := (splitL (sepOf sep) s.data.toList).map fun l => ⟨l.toArray⟩
def nameB (c : Int) : Bool := (decide (97 ≤ c) && decide (c ≤ 122)) || (decide (48 ≤ c) && decide (c ≤ 57)) || decide (c = 46) || decide (c = 95) || decide (c = 45)
def badR (r : Int) : Bool := !nameB r
def runeIdxL (f : Int → Bool) (s : ByteArray) : Nat → Int → Int
 | 0, _ => -1
 | n + 1, i => if i < s.size then if f (Utf8.decode s i.toNat).1 then i else runeIdxL f s n (i + (Utf8.decode s i.toNat).2) else -1
def partF (s : ByteArray) : Bool := decide (1 ≤ s.size) && decide (s.size ≤ 32) && !decide (sgi s 0 = 46) && !decide (sgi s 0 = 45) && (sbytes s).all nameB
def pathB (s : ByteArray) : Bool := decide (s.size ≤ 128) && decide ((splitF s ⟨#[47]⟩).length ≤ 8) && (splitF s ⟨#[47]⟩).all partF
def pathF (s : ByteArray) : Int := if pathB s then 0 else 2
def spanCmp (a b : Span) : Int := orF [cmpB a.path b.path, cmpI a.from_ b.from_]
def insideF (s : Span) : Bool := decide (0 ≤ s.from_) && decide (s.from_ < s.to) && decide (s.to ≤ 1024)
def behindF (a b : Span) : Bool := sless a.path b.path || (decide (a.path = b.path) && decide (a.to < b.from_))
def beforeF (a b : Line) : Bool := sless a.path b.path || (decide (a.path = b.path) && decide (a.n < b.n))
end Go.Lic
set_option linter.all false
namespace Go.Lic
open Go.Sort
def splitG (s sep : ByteArray) (_ _ : Int) : List ByteArray := splitF s sep
def runeIx (p : Int → Bool) (s : ByteArray) (t : Bool) : Int := runeIdxL (fun r => p r == t) s (s.size + 1) 0
def spanR (s : Span) : Bool := pathB s.path && insideF s
def rightF (x : Line) : Bool := pathB x.path && (decide (0 ≤ x.n) && decide (x.n < 1024))
def nameR (s : ByteArray) : Bool := partF s
def chainB (l : List Span) (i : Nat) : Bool := spanR (gi l i) && (i == 0 || behindF (gi l ((i : Int) - 1)) (gi l i))
def validF (l : List Span) : Bool := (List.range l.length).all (chainB l)
def lastD (l : List Span) : Span := gi l ((l.length : Int) - 1)
def mergeStep (out : List Span) (s : Span) : List Span :=
 if 0 < out.length ∧ behindF (lastD out) s = false then si out ((out.length : Int) - 1) ⟨(lastD out).path, (lastD out).from_, gmax (lastD out).to [s.to]⟩ else out ++ [s]
def mergeF (l : List Span) : List Span := (sortF spanCmp l).foldl mergeStep []
def unitW (x : Line) : Span := ⟨x.path, x.n, IntKind.i64.wrap (x.n + 1)⟩
def badLine (x : Line) : Bool := !(pathB x.path && insideF (unitW x))
def ofF (l : List Line) : List Span × Int := match l.find? badLine with | some x => ([], if pathB x.path then 3 else 2) | none => (mergeF (l.map unitW), 0)
def linesOf (s : Span) : List Line := (List.range (s.to - s.from_).toNat).map fun i => ⟨s.path, s.from_ + (i : Nat)⟩
def listF (l : List Span) : List Line := if validF l then l.flatMap linesOf else []
def countL (l : List Span) : Int := if validF l then (l.map fun s => s.to - s.from_).sum else 0
def has1F (s : Span) (x : Line) : Bool := decide (s.path = x.path) && decide (s.from_ ≤ x.n) && decide (x.n < s.to)
def hasF (l : List Span) (x : Line) : Bool := l.any (fun s => has1F s x) && validF l
def packStep (out : List Span) (x : Line) : List Span :=
 if 0 < out.length ∧ (lastD out).path = x.path ∧ x.n < (lastD out).to then out
 else if 0 < out.length ∧ (lastD out).path = x.path ∧ x.n = (lastD out).to then si out ((out.length : Int) - 1) ⟨(lastD out).path, (lastD out).from_, (lastD out).to + 1⟩
 else out ++ [⟨x.path, x.n, x.n + 1⟩]
def packF (l : List Line) : List Span := l.foldl packStep []
end Go.Lic
