/-
  Words, hashes, fingerprints, corpora: plain functions.
-/
import Derived.Test.YtglclijalehcmaaGreatDoorLm
import Derived.Test.YtglclijalehcmaaGreatDoorMap
set_option linter.all false
namespace Go.Lic
open Go.Sort

/-! words -/
def blankF (c : Int) : Bool := decide (c ≤ 32) || decide (c = 127)
def wordF (least : Int) (w : Lexeme) : Bool := decide (0 < w.text.size) && !(sbytes w.text).any blankF && decide (least ≤ w.line) && decide (w.line < 1024)
def wordsF : Int → List Lexeme → Bool
  | _, [] => true
  | least, w :: l => wordF least w && wordsF w.line l
def validT (t : Text) : Bool := decide (t.words.length ≤ 8192) && pathB t.path && wordsF 0 t.words
/-- Texts whose sizes a machine holds. -/
def okW (l : List Lexeme) : Prop := l.length ≤ 1000000 ∧ ∀ w ∈ l, w.text.size ≤ 1000000
def okT (t : Text) : Prop := t.path.size ≤ 1000000 ∧ okW t.words
def okTs (l : List Text) : Prop := l.length ≤ 1000 ∧ ∀ t ∈ l, okT t
def okC (c : Corpus) : Prop := okTs c.texts ∧ c.posts.length ≤ 1000000000
/-! hashes -/
abbrev PR : Int := 2305843009213693951
def addP (a b : Int) : Int := (a + b) % PR
def mulP (a b : Int) : Int := (a * b) % PR
def codeF (s : ByteArray) : Int := (sbytes s).foldl (fun c b => addP (mulP 257 c) (b + 1)) 0
def pushF (h : Int) (s : ByteArray) : Int := addP (mulP 1000003 h) (addP (codeF s) 1)
def hashF (l : List Lexeme) : Int := l.foldl (fun h w => pushF h w.text) 0
def powF (n : Int) : Int := (1000003 ^ n.toNat) % PR
def rollF (h : Int) (o i : ByteArray) (top : Int) : Int := pushF (addP h (PR - mulP (addP (codeF o) 1) top)) i
def gramsL (l : List Lexeme) (k : Nat) : List Int := (List.range (l.length + 1 - k)).map fun i => hashF ((l.drop i).take k)
def gramsF (l : List Lexeme) (k : Int) : List Int × Int := if k < 1 ∨ 8192 < k then ([], 3) else if 8192 < l.length then ([], 10) else (gramsL l k.toNat, 0)
def mul64F (a b : Int) : Int × Int := (a * b / 18446744073709551616, a * b % 18446744073709551616)
/-! fingerprints -/
def sizeF (n : Int) : Bool := decide (1 ≤ n) && decide (n ≤ 1024)
def leastF (l : List Int) (a b : Int) : Int := (List.range (b - a).toNat).foldl (fun out d => if gi l (a + (d : Nat)) ≤ gi l out then a + (d : Nat) else out) a
def selStep (out : List Int) (n : Int) : List Int := if 0 < out.length ∧ ¬ gi out ((out.length : Int) - 1) < n then out else out ++ [n]
def selL (l : List Int) (w : Nat) : List Int := ((List.range (l.length + 1 - w)).map fun i : Nat => leastF l i ((i : Int) + w)).foldl selStep []
def selectF (l : List Int) (w : Int) : List Int × Int := if sizeF w then if 8192 < l.length then ([], 10) else (selL l w.toNat, 0) else ([], 3)
def printsL (l : List Lexeme) (k w : Nat) : List Print := (selL (gramsL l k) w).map fun a => ⟨gi (gramsL l k) a, a⟩
def printsF (t : Text) (k w : Int) : List Print × Int := if validT t then if sizeF k && sizeF w then (printsL t.words k.toNat w.toNat, 0) else ([], 3) else ([], 1)
def guarF (k w : Int) : Int × Int := if sizeF k && sizeF w then (k + w - 1, 0) else (0, 3)
/-! corpora -/
def postCmp (a b : Pst) : Int := orF [cmpI a.hash b.hash, cmpI a.text b.text, cmpI a.at_ b.at_]
def postLt (a b : Pst) : Bool := decide (a.hash < b.hash) || (decide (a.hash = b.hash) && (decide (a.text < b.text) || (decide (a.text = b.text) && decide (a.at_ < b.at_))))
def postsOf (i : Nat) (l : List Print) : List Pst := l.map fun p => ⟨p.hash, (i : Int), p.at_⟩
def flatP : Nat → List Text → Int → Int → List Pst
  | _, [], _, _ => []
  | i, t :: l, k, w => postsOf i (printsF t k w).1 ++ flatP (i + 1) l k w
def postsF (l : List Text) (k w : Int) : List Pst := sortF postCmp (flatP 0 l k w)
def checkT : Option ByteArray → List Text → Int
  | _, [] => 0
  | p, t :: l => if validT t then if p.all (fun q => sless q t.path) then checkT (some t.path) l else 5 else 1
def checkF (c : Corpus) : Int := if sizeF c.k && sizeF c.w then if 64 < c.texts.length then 10 else if checkT none c.texts = 0 then (if c.posts = postsF c.texts c.k c.w then 0 else 9) else checkT none c.texts else 3
def corpusOf (l : List Text) (k w : Int) : Corpus := ⟨k, w, l, postsF l k w⟩
def growTF (_ : Int) : List Text := []
def noC : Corpus := ⟨0, 0, [], []⟩
def newF (k w : Int) : Corpus × Int := if sizeF k && sizeF w then (⟨k, w, [], []⟩, 0) else (noC, 3)
def placeT (l : List Text) (p : ByteArray) : Nat := (l.takeWhile fun t => sless t.path p).length
def hasT (l : List Text) (p : ByteArray) : Bool := l.any fun t => decide (t.path = p)
def findT (l : List Text) (p : ByteArray) : Int × Bool := ((placeT l p : Nat), hasT l p)
def addF (c : Corpus) (t : Text) : Corpus × Int :=
  if checkF c = 0 ∧ validT t = true then if hasT c.texts t.path then (noC, 6) else if c.texts.length = 64 then (noC, 10) else (corpusOf (c.texts.take (placeT c.texts t.path) ++ t :: c.texts.drop (placeT c.texts t.path)) c.k c.w, 0) else (noC, 1)
/-- Whether a post is the first of its hash and its text. -/
def firstAt (l : List Pst) (i : Nat) : Bool := decide (i = 0) || !(decide ((gi l ((i : Int) - 1)).hash = (gi l (i : Nat)).hash) && decide ((gi l ((i : Int) - 1)).text = (gi l (i : Nat)).text))
def sharedN (c : Corpus) (l : List Print) (t : Int) : Nat := ((List.range c.posts.length).filter fun i => firstAt c.posts i && decide ((gi c.posts (i : Nat)).text = t) && l.any fun x => decide (x.hash = (gi c.posts (i : Nat)).hash)).length
def nearL (c : Corpus) (l : List Print) : List Int := (List.range l.length).reverse.flatMap fun m => ((List.range c.texts.length).filter fun i => decide (sharedN c l (i : Nat) = m + 1)).map fun i => ((i : Nat) : Int)
/-- A list, sorted by insertion: a number is put before the longest end that stands behind it. -/
def insS (cf : Int → Int → Int) (x : Int) : List Int → List Int
  | [] => [x]
  | y :: out => if decide (cf x y < 0) && out.all (fun z => decide (cf x z < 0)) then x :: y :: out else y :: insS cf x out
def isortF (cf : Int → Int → Int) (l : List Int) : List Int := l.foldl (fun out x => insS cf x out) []
def nearC (a b : Int) (l : List (Int × Int)) : Int := cmpI (mget 0 l b) (mget 0 l a)
def nearF (c : Corpus) (t : Text) : List Int × Int := if checkF c = 0 ∧ validT t = true then (nearL c (printsF t c.k c.w).1, 0) else ([], 1)
def commonW : List Lexeme → List Lexeme → Nat
  | x :: a, y :: b => if x.text = y.text then commonW a b + 1 else 0
  | _, _ => 0
def commonF4 (a : Text) (i : Int) (b : Text) (j : Int) : Int := if 0 ≤ i ∧ i ≤ a.words.length ∧ 0 ≤ j ∧ j ≤ b.words.length ∧ validT a = true ∧ validT b = true then (commonW (a.words.drop i.toNat) (b.words.drop j.toNat) : Nat) else 0
def fewW (l : List Lexeme) : Bool := decide (l.length ≤ 40) && l.all fun w => decide (w.text.size ≤ 40)
def fewTs (l : List Text) : Bool := decide (l.length ≤ 5) && l.all fun t => fewW t.words && decide (t.path.size ≤ 200)
def fewC (c : Corpus) : Bool := fewTs c.texts && decide (c.posts.length ≤ 300)
end Go.Lic
