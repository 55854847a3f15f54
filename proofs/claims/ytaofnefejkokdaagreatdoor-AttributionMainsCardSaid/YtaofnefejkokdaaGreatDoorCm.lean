/-
  Structures of chapter 16 and how memory holds them.
-/
import Derived.Test.YtaofnefejkokdaaGreatDoorVr
import Derived.Test.YtaofnefejkokdaaGreatDoorGo
import Derived.Lib.Bytealg
import Derived.Lib.ItoaNum
import Derived.Lib.BitFns
import Derived.Test.YtaofnefejkokdaaGreatDoorIter
set_option linter.all false
namespace Go.Lic
structure Span where
 path : ByteArray
 from_ : Int
 to : Int
deriving DecidableEq
instance : Inhabited Span := ⟨⟨default, default, default⟩⟩
def encSpan (x : Span) : D := .agg ([D.s x.path, D.i x.from_, D.i x.to])
structure Line where
 path : ByteArray
 n : Int
deriving DecidableEq
instance : Inhabited Line := ⟨⟨default, default⟩⟩
end Go.Lic
set_option linter.all false
namespace Go.Lic
structure Lexeme where
 text : ByteArray
 line : Int
deriving DecidableEq
instance : Inhabited Lexeme := ⟨⟨default, default⟩⟩
def encLex (x : Lexeme) : D := .agg ([D.s x.text, D.i x.line])
structure Text where
 path : ByteArray
 words : (List Lexeme)
deriving DecidableEq
instance : Inhabited Text := ⟨⟨default, default⟩⟩
def encText (x : Text) : D := .agg ([D.s x.path, (encL 2 encLex) x.words])
structure Print where
 hash : Int
 at_ : Int
deriving DecidableEq
instance : Inhabited Print := ⟨⟨default, default⟩⟩
def encPrint (x : Print) : D := .agg ([D.i x.hash, D.i x.at_])
structure Pst where
 hash : Int
 text : Int
 at_ : Int
deriving DecidableEq
instance : Inhabited Pst := ⟨⟨default, default, default⟩⟩
def encPst (x : Pst) : D := .agg ([D.i x.hash, D.i x.text, D.i x.at_])
def eqPst (a b : Pst) : Bool := decide (a.hash = b.hash) && (decide (a.text = b.text) && (decide (a.at_ = b.at_) && true))
structure Corpus where
 k : Int
 w : Int
 texts : (List Text)
 posts : (List Pst)
deriving DecidableEq
instance : Inhabited Corpus := ⟨⟨default, default, default, default⟩⟩
def encCorpus (x : Corpus) : D := .agg ([D.i x.k, D.i x.w, (encL 2 encText) x.texts, (encL 3 encPst) x.posts])
def valPst (x : Pst) : List Value := [.int .i64 x.hash, .int .i64 x.text, .int .i64 x.at_]
theorem valPst_one : ∀ x : Pst, ∀ v ∈ valPst x, v.oneCell' = true := by
 intro x v hv
 simp only [valPst, List.mem_cons, List.not_mem_nil, or_false] at hv
 rcases hv with rfl | rfl | rfl <;> rfl
end Go.Lic
set_option linter.all false
namespace Go.Lic
structure Piece where
 from_ : Int
 to : Int
 text : Int
 at_ : Int
deriving DecidableEq
instance : Inhabited Piece := ⟨⟨default, default, default, default⟩⟩
def encPiece (x : Piece) : D := .agg ([D.i x.from_, D.i x.to, D.i x.text, D.i x.at_])
def eqPiece (a b : Piece) : Bool := decide (a.from_ = b.from_) && (decide (a.to = b.to) && (decide (a.text = b.text) && (decide (a.at_ = b.at_) && true)))
structure Attribution where
 path : ByteArray
 pieces : (List Piece)
deriving DecidableEq
instance : Inhabited Attribution := ⟨⟨default, default⟩⟩
def encAttribution (x : Attribution) : D := .agg ([D.s x.path, (encL 4 encPiece) x.pieces])
end Go.Lic
set_option linter.all false
namespace Go.Lic
def idxOf {α : Type} (p : α → Bool) (l : List α) : Int := match l.findIdx? p with | some i => i | none => -1
def cmpB (a b : ByteArray) : Int := Lib.compareBytes a.data.toList b.data.toList
def cmpI (a b : Int) : Int := if a < b then -1 else if b < a then 1 else 0
def orF (l : List Int) : Int := (l.find? (· != 0)).getD 0
def lenF (n : Int) : Int := Lib.bitLen n.toNat
def sepOf (s : ByteArray) : UInt8 := s.data.toList.headD 0
def countF (s sep : ByteArray) : Int := (s.data.toList.count (sepOf sep) : Nat)
def indexF (s sep : ByteArray) : Int := Lib.indexByte s.data.toList (sepOf sep)
def splitL (c : UInt8) : List UInt8 → List (List UInt8)
 | [] => [[]]
 | b :: l => if b = c then [] :: splitL c l else match splitL c l with | p :: r => (b :: p) :: r | [] => [[b]]
def splitF (s sep : ByteArray) : List ByteArray := (splitL (sepOf sep) s.data.toList).map fun l => ⟨l.toArray⟩
def nameB (c : Int) : Bool := (decide (97 ≤ c) && decide (c ≤ 122)) || (decide (48 ≤ c) && decide (c ≤ 57)) || decide (c = 46) || decide (c = 95) || decide (c = 45)
def badR (r : Int) : Bool := !nameB r
def runeIdxL (f : Int → Bool) (s : ByteArray) : Nat → Int → Int
 | 0, _ => -1
 | n + 1, i => if i < s.size then if f (Utf8.decode s i.toNat).1 then i else runeIdxL f s n (i + (Utf8.decode s i.toNat).2) else -1
def partF (s : ByteArray) : Bool := decide (1 ≤ s.size) && decide (s.size ≤ 32) && !decide (sgi s 0 = 46) && !decide (sgi s 0 = 45) && (sbytes s).all nameB
def pathB (s : ByteArray) : Bool := decide (s.size ≤ 128) && decide ((splitF s ⟨#[47]⟩).length ≤ 8) && (splitF s ⟨#[47]⟩).all partF
def pathF (s : ByteArray) : Int := if pathB s then 0 else 2
def spanCmp (a b : Span) : Int := orF [cmpB a.path b.path, cmpI a.from_ b.from_]
def insideF (s : Span) : Bool := decide (0 ≤ s.from_) && decide (s.from_ < s.to) && decide (s.to ≤ 1024)
def behindF (a b : Span) : Bool := sless a.path b.path || (decide (a.path = b.path) && decide (a.to < b.from_))
end Go.Lic
set_option linter.all false
namespace Go.Lic
open Go.Sort
def splitG (s sep : ByteArray) (_ _ : Int) : List ByteArray := splitF s sep
def runeIx (p : Int → Bool) (s : ByteArray) (t : Bool) : Int := runeIdxL (fun r => p r == t) s (s.size + 1) 0
def spanR (s : Span) : Bool := pathB s.path && insideF s
def nameR (s : ByteArray) : Bool := partF s
def chainB (l : List Span) (i : Nat) : Bool := spanR (gi l i) && (i == 0 || behindF (gi l ((i : Int) - 1)) (gi l i))
def validF (l : List Span) : Bool := (List.range l.length).all (chainB l)
def lastD (l : List Span) : Span := gi l ((l.length : Int) - 1)
def mergeStep (out : List Span) (s : Span) : List Span :=
 if 0 < out.length ∧ behindF (lastD out) s = false then si out ((out.length : Int) - 1) ⟨(lastD out).path, (lastD out).from_, gmax (lastD out).to [s.to]⟩ else out ++ [s]
def mergeF (l : List Span) : List Span := (sortF spanCmp l).foldl mergeStep []
def unitW (x : Line) : Span := ⟨x.path, x.n, IntKind.i64.wrap (x.n + 1)⟩
def badLine (x : Line) : Bool := !(pathB x.path && insideF (unitW x))
def ofF (l : List Line) : List Span × Int := match l.find? badLine with | some x => ([], if pathB x.path then 3 else 2) | none => (mergeF (l.map unitW), 0)
def countL (l : List Span) : Int := if validF l then (l.map fun s => s.to - s.from_).sum else 0
def has1F (s : Span) (x : Line) : Bool := decide (s.path = x.path) && decide (s.from_ ≤ x.n) && decide (x.n < s.to)
def hasF (l : List Span) (x : Line) : Bool := l.any (fun s => has1F s x) && validF l
def packStep (out : List Span) (x : Line) : List Span :=
 if 0 < out.length ∧ (lastD out).path = x.path ∧ x.n < (lastD out).to then out
 else if 0 < out.length ∧ (lastD out).path = x.path ∧ x.n = (lastD out).to then si out ((out.length : Int) - 1) ⟨(lastD out).path, (lastD out).from_, (lastD out).to + 1⟩
 else out ++ [⟨x.path, x.n, x.n + 1⟩]
def packF (l : List Line) : List Span := l.foldl packStep []
end Go.Lic
set_option linter.all false
namespace Go.Lic
section
variable {T : Type} {vf : T → Value}
end
section
variable {P : Program} {o : Oper} {fr : Nat → D} {h : Heap} {K : D → Heap → Prop} {T : Type} {vf : T → Value}
theorem V.nilL {w : World} {X : Nat → Prop} {sz : Nat} : V w X (.list sz []) (.slice none 0 0) := .list (sz := sz) (ds := []) (cs := []) (b := 0) (o := 0) (by simp) .nil (by simp) (.inl rfl) (by simp)
theorem OpA.told {s : Nat} {d d' : D} (hd : fr s = d) (hsn : Snap false [] [d] [d']) (hh : OpA P o (upd fr s d') h K) : OpA P o fr h K := fun A M w0 a w hr hv next Q hn => by
 refine hh A M w0 a w hr (fun y hy => ?_) next Q hn
 have h1 := hv y hy
 by_cases hi : y = .tmp s
 · subst hi
   show V w (XX A h) (upd fr s d' s) _
   rw [upd_same]
   have e : ev fr (.tmp s) = d := hd
   rw [e] at h1
   have := hsn.sound (X' := XX A h) hr (fun c b hh => by cases hh) (fun _ b hb => hb) (fun c hc _ _ => by cases hc) [_] (.cons h1 .nil)
   cases this with | cons h _ => exact h
 · cases y with
   | tmp t =>
     have ht : t ≠ s := fun e => hi (by rw [e])
     show V w (XX A h) (upd fr s d' t) _
     rw [upd_ne _ _ ht]; exact h1
   | _ => exact h1
end
end Go.Lic
set_option linter.all false
namespace Go.Lic
open Go.Sort
def blankF (c : Int) : Bool := decide (c ≤ 32) || decide (c = 127)
def wordF (least : Int) (w : Lexeme) : Bool := decide (0 < w.text.size) && !(sbytes w.text).any blankF && decide (least ≤ w.line) && decide (w.line < 1024)
def wordsF : Int → List Lexeme → Bool
 | _, [] => true
 | least, w :: l => wordF least w && wordsF w.line l
def validT (t : Text) : Bool := decide (t.words.length ≤ 8192) && pathB t.path && wordsF 0 t.words
def okW (l : List Lexeme) : Prop := l.length ≤ 1000000 ∧ ∀ w ∈ l, w.text.size ≤ 1000000
def okT (t : Text) : Prop := t.path.size ≤ 1000000 ∧ okW t.words
def okTs (l : List Text) : Prop := l.length ≤ 1000 ∧ ∀ t ∈ l, okT t
def okC (c : Corpus) : Prop := okTs c.texts ∧ c.posts.length ≤ 1000000000
abbrev PR : Int := 2305843009213693951
def addP (a b : Int) : Int := (a + b) % PR
def mulP (a b : Int) : Int := (a * b) % PR
def codeF (s : ByteArray) : Int := (sbytes s).foldl (fun c b => addP (mulP 257 c) (b + 1)) 0
def pushF (h : Int) (s : ByteArray) : Int := addP (mulP 1000003 h) (addP (codeF s) 1)
def hashF (l : List Lexeme) : Int := l.foldl (fun h w => pushF h w.text) 0
def powF (n : Int) : Int := (1000003 ^ n.toNat) % PR
def rollF (h : Int) (o i : ByteArray) (top : Int) : Int := pushF (addP h (PR - mulP (addP (codeF o) 1) top)) i
def gramsL (l : List Lexeme) (k : Nat) : List Int := (List.range (l.length + 1 - k)).map fun i => hashF ((l.drop i).take k)
def gramsF (l : List Lexeme) (k : Int) : List Int × Int := if k < 1 ∨ 8192 < k then ([], 3) else if 8192 < l.length then ([], 10) else (gramsL l k.toNat, 0)
def mul64F (a b : Int) : Int × Int := (a * b / 18446744073709551616, a * b % 18446744073709551616)
def sizeF (n : Int) : Bool := decide (1 ≤ n) && decide (n ≤ 1024)
def leastF (l : List Int) (a b : Int) : Int := (List.range (b - a).toNat).foldl (fun out d => if gi l (a + (d : Nat)) ≤ gi l out then a + (d : Nat) else out) a
def selStep (out : List Int) (n : Int) : List Int := if 0 < out.length ∧ ¬ gi out ((out.length : Int) - 1) < n then out else out ++ [n]
def selL (l : List Int) (w : Nat) : List Int := ((List.range (l.length + 1 - w)).map fun i : Nat => leastF l i ((i : Int) + w)).foldl selStep []
def selectF (l : List Int) (w : Int) : List Int × Int := if sizeF w then if 8192 < l.length then ([], 10) else (selL l w.toNat, 0) else ([], 3)
def printsL (l : List Lexeme) (k w : Nat) : List Print := (selL (gramsL l k) w).map fun a => ⟨gi (gramsL l k) a, a⟩
def printsF (t : Text) (k w : Int) : List Print × Int := if validT t then if sizeF k && sizeF w then (printsL t.words k.toNat w.toNat, 0) else ([], 3) else ([], 1)
def postCmp (a b : Pst) : Int := orF [cmpI a.hash b.hash, cmpI a.text b.text, cmpI a.at_ b.at_]
def postLt (a b : Pst) : Bool := decide (a.hash < b.hash) || (decide (a.hash = b.hash) && (decide (a.text < b.text) || (decide (a.text = b.text) && decide (a.at_ < b.at_))))
def postsOf (i : Nat) (l : List Print) : List Pst := l.map fun p => ⟨p.hash, (i : Int), p.at_⟩
def flatP : Nat → List Text → Int → Int → List Pst
 | _, [], _, _ => []
 | i, t :: l, k, w => postsOf i (printsF t k w).1 ++ flatP (i + 1) l k w
def postsF (l : List Text) (k w : Int) : List Pst := sortF postCmp (flatP 0 l k w)
def insP (x : Pst) (out : List Pst) : List Pst := out.takeWhile (fun y => postLt y x) ++ [x] ++ out.dropWhile (fun y => postLt y x)
def checkT : Option ByteArray → List Text → Int
 | _, [] => 0
 | p, t :: l => if validT t then if p.all (fun q => sless q t.path) then checkT (some t.path) l else 5 else 1
def checkF (c : Corpus) : Int := if sizeF c.k && sizeF c.w then if 64 < c.texts.length then 10 else if checkT none c.texts = 0 then (if c.posts = postsF c.texts c.k c.w then 0 else 9) else checkT none c.texts else 3
def corpusOf (l : List Text) (k w : Int) : Corpus := ⟨k, w, l, postsF l k w⟩
def growTF (_ : Int) : List Text := []
def noC : Corpus := ⟨0, 0, [], []⟩
def newF (k w : Int) : Corpus × Int := if sizeF k && sizeF w then (⟨k, w, [], []⟩, 0) else (noC, 3)
def placeT (l : List Text) (p : ByteArray) : Nat := (l.takeWhile fun t => sless t.path p).length
def hasT (l : List Text) (p : ByteArray) : Bool := l.any fun t => decide (t.path = p)
def findT (l : List Text) (p : ByteArray) : Int × Bool := ((placeT l p : Nat), hasT l p)
def addF (c : Corpus) (t : Text) : Corpus × Int :=
 if checkF c = 0 ∧ validT t = true then if hasT c.texts t.path then (noC, 6) else if c.texts.length = 64 then (noC, 10) else (corpusOf (c.texts.take (placeT c.texts t.path) ++ t :: c.texts.drop (placeT c.texts t.path)) c.k c.w, 0) else (noC, 1)
def commonW : List Lexeme → List Lexeme → Nat
 | x :: a, y :: b => if x.text = y.text then commonW a b + 1 else 0
 | _, _ => 0
def fewW (l : List Lexeme) : Bool := decide (l.length ≤ 40) && l.all fun w => decide (w.text.size ≤ 40)
def fewTs (l : List Text) : Bool := decide (l.length ≤ 5) && l.all fun t => fewW t.words && decide (t.path.size ≤ 200)
def fewC (c : Corpus) : Bool := fewTs c.texts && decide (c.posts.length ≤ 300)
end Go.Lic
