/-
  Maps of our own from whole numbers to plain values: the object as it lies in memory.
-/
import Derived.Test.YtaofnefejkokdaaGreatDoorIter
import Derived.Test.YtaofnefejkokdaaGreatDoorCv0
import Derived.Test.YtaofnefejkokdaaGreatDoorLa
set_option linter.all false
namespace Go.Lic
section
variable {T : Type} {vf : T → Value}
end
section
variable {P : Program} {o : Oper} {fr : Nat → D} {h : Heap} {K : D → Heap → Prop} {T : Type} {vf : T → Value}
theorem V.nilL {w : World} {X : Nat → Prop} {sz : Nat} : V w X (.list sz []) (.slice none 0 0) := .list (sz := sz) (ds := []) (cs := []) (b := 0) (o := 0) (by simp) .nil (by simp) (.inl rfl) (by simp)
theorem OpA.told {s : Nat} {d d' : D} (hd : fr s = d) (hsn : Snap false [] [d] [d']) (hh : OpA P o (upd fr s d') h K) : OpA P o fr h K := fun A M w0 a w hr hv next Q hn => by
 refine hh A M w0 a w hr (fun y hy => ?_) next Q hn
 have h1 := hv y hy
 by_cases hi : y = .tmp s
 · subst hi
   show V w (XX A h) (upd fr s d' s) _
   rw [upd_same]
   have e : ev fr (.tmp s) = d := hd
   rw [e] at h1
   have := hsn.sound (X' := XX A h) hr (fun c b hh => by cases hh) (fun _ b hb => hb) (fun c hc _ _ => by cases hc) [_] (.cons h1 .nil)
   cases this with | cons h _ => exact h
 · cases y with
   | tmp t =>
     have ht : t ≠ s := fun e => hi (by rw [e])
     show V w (XX A h) (upd fr s d' t) _
     rw [upd_ne _ _ ht]; exact h1
   | _ => exact h1
theorem OpA.frz {s : Nat} {d d' : D} {h0 : Heap} {x : Nat × Blk} (hp : h.Perm (x :: h0)) (hd : fr s = d) (hsn : Snap false [x] [d] [d']) (hh : OpA P o (upd fr s d') h0 K) : OpA P o fr h K := fun A M w0 a w hr hv next Q hn => by
 obtain ⟨r1, m1⟩ := hr.perm hp
 obtain ⟨r2, m2⟩ := r1.tail
 refine hh A M w0 a w r2 (fun y hy => ?_) next Q (fun v w' d h' hk hr' hm hv' => hn v w' d h' hk hr' ((m1.trans m2).trans hm) hv')
 have h1 := hv y hy
 by_cases hi : y = .tmp s
 · subst hi
   show V w (XX A h0) (upd fr s d' s) _
   rw [upd_same]
   have hv2 := h1.mono m1
   have e : ev fr (.tmp s) = d := hd
   rw [e] at hv2
   have hk : x.1 ∉ keys h0 := (List.nodup_cons.1 (by simpa using r1.nodup)).1
   have := hsn.sound (X' := XX A h0) r1 (fun c b hh => by cases hh with | head => exact .head | tail t => cases t) (fun _ b hb => by
       rcases hb with hb | hb
       · exact .inl hb
       · exact .inr (by simp [hb])) (fun c hc hev hx => by
       simp at hc; subst hc
       rcases hx with hx | hx
       · rw [show 2 * (x.1 / 2) = x.1 from by omega] at hx
         exact r1.free x.1 (by simp) hx
       · rw [show 2 * (x.1 / 2) = x.1 from by omega] at hx
         exact hk hx) [_] (.cons hv2 .nil)
   cases this with
   | cons h1 _ => exact h1
 · have e : ev (upd fr s d') y = ev fr y := by
     cases y with
     | tmp t => exact upd_ne _ _ (fun e => hi (by rw [e]))
     | _ => rfl
   rw [e]; exact (h1.mono m1).mono m2
end
end Go.Lic
set_option linter.all false
namespace Go.Lic
open Go.Sort
def blankF (c : Int) : Bool := decide (c ≤ 32) || decide (c = 127)
def wordF (least : Int) (w : Lexeme) : Bool := decide (0 < w.text.size) && !(sbytes w.text).any blankF && decide (least ≤ w.line) && decide (w.line < 1024)
def wordsF : Int → List Lexeme → Bool
 | _, [] => true
 | least, w :: l => wordF least w && wordsF w.line l
def validT (t : Text) : Bool := decide (t.words.length ≤ 8192) && pathB t.path && wordsF 0 t.words
def okW (l : List Lexeme) : Prop := l.length ≤ 1000000 ∧ ∀ w ∈ l, w.text.size ≤ 1000000
def okT (t : Text) : Prop := t.path.size ≤ 1000000 ∧ okW t.words
def okTs (l : List Text) : Prop := l.length ≤ 1000 ∧ ∀ t ∈ l, okT t
def okC (c : Corpus) : Prop := okTs c.texts ∧ c.posts.length ≤ 1000000000
abbrev PR : Int := 2305843009213693951
def addP (a b : Int) : Int := (a + b) % PR
def mulP (a b : Int) : Int := (a * b) % PR
def codeF (s : ByteArray) : Int := (sbytes s).foldl (fun c b => addP (mulP 257 c) (b + 1)) 0
def pushF (h : Int) (s : ByteArray) : Int := addP (mulP 1000003 h) (addP (codeF s) 1)
def hashF (l : List Lexeme) : Int := l.foldl (fun h w => pushF h w.text) 0
def powF (n : Int) : Int := (1000003 ^ n.toNat) % PR
def rollF (h : Int) (o i : ByteArray) (top : Int) : Int := pushF (addP h (PR - mulP (addP (codeF o) 1) top)) i
def gramsL (l : List Lexeme) (k : Nat) : List Int := (List.range (l.length + 1 - k)).map fun i => hashF ((l.drop i).take k)
def gramsF (l : List Lexeme) (k : Int) : List Int × Int := if k < 1 ∨ 8192 < k then ([], 3) else if 8192 < l.length then ([], 10) else (gramsL l k.toNat, 0)
def mul64F (a b : Int) : Int × Int := (a * b / 18446744073709551616, a * b % 18446744073709551616)
def sizeF (n : Int) : Bool := decide (1 ≤ n) && decide (n ≤ 1024)
def leastF (l : List Int) (a b : Int) : Int := (List.range (b - a).toNat).foldl (fun out d => if gi l (a + (d : Nat)) ≤ gi l out then a + (d : Nat) else out) a
def selStep (out : List Int) (n : Int) : List Int := if 0 < out.length ∧ ¬ gi out ((out.length : Int) - 1) < n then out else out ++ [n]
def selL (l : List Int) (w : Nat) : List Int := ((List.range (l.length + 1 - w)).map fun i : Nat => leastF l i ((i : Int) + w)).foldl selStep []
def selectF (l : List Int) (w : Int) : List Int × Int := if sizeF w then if 8192 < l.length then ([], 10) else (selL l w.toNat, 0) else ([], 3)
def printsL (l : List Lexeme) (k w : Nat) : List Print := (selL (gramsL l k) w).map fun a => ⟨gi (gramsL l k) a, a⟩
def printsF (t : Text) (k w : Int) : List Print × Int := if validT t then if sizeF k && sizeF w then (printsL t.words k.toNat w.toNat, 0) else ([], 3) else ([], 1)
def postCmp (a b : Pst) : Int := orF [cmpI a.hash b.hash, cmpI a.text b.text, cmpI a.at_ b.at_]
def postLt (a b : Pst) : Bool := decide (a.hash < b.hash) || (decide (a.hash = b.hash) && (decide (a.text < b.text) || (decide (a.text = b.text) && decide (a.at_ < b.at_))))
def postsOf (i : Nat) (l : List Print) : List Pst := l.map fun p => ⟨p.hash, (i : Int), p.at_⟩
def flatP : Nat → List Text → Int → Int → List Pst
 | _, [], _, _ => []
 | i, t :: l, k, w => postsOf i (printsF t k w).1 ++ flatP (i + 1) l k w
def postsF (l : List Text) (k w : Int) : List Pst := sortF postCmp (flatP 0 l k w)
def insP (x : Pst) (out : List Pst) : List Pst := out.takeWhile (fun y => postLt y x) ++ [x] ++ out.dropWhile (fun y => postLt y x)
def checkT : Option ByteArray → List Text → Int
 | _, [] => 0
 | p, t :: l => if validT t then if p.all (fun q => sless q t.path) then checkT (some t.path) l else 5 else 1
def checkF (c : Corpus) : Int := if sizeF c.k && sizeF c.w then if 64 < c.texts.length then 10 else if checkT none c.texts = 0 then (if c.posts = postsF c.texts c.k c.w then 0 else 9) else checkT none c.texts else 3
def corpusOf (l : List Text) (k w : Int) : Corpus := ⟨k, w, l, postsF l k w⟩
def growTF (_ : Int) : List Text := []
def noC : Corpus := ⟨0, 0, [], []⟩
def newF (k w : Int) : Corpus × Int := if sizeF k && sizeF w then (⟨k, w, [], []⟩, 0) else (noC, 3)
def placeT (l : List Text) (p : ByteArray) : Nat := (l.takeWhile fun t => sless t.path p).length
def hasT (l : List Text) (p : ByteArray) : Bool := l.any fun t => decide (t.path = p)
def findT (l : List Text) (p : ByteArray) : Int × Bool := ((placeT l p : Nat), hasT l p)
def addF (c : Corpus) (t : Text) : Corpus × Int :=
 if checkF c = 0 ∧ validT t = true then if hasT c.texts t.path then (noC, 6) else if c.texts.length = 64 then (noC, 10) else (corpusOf (c.texts.take (placeT c.texts t.path) ++ t :: c.texts.drop (placeT c.texts t.path)) c.k c.w, 0) else (noC, 1)
def commonW : List Lexeme → List Lexeme → Nat
 | x :: a, y :: b => if x.text = y.text then commonW a b + 1 else 0
 | _, _ => 0
def fewW (l : List Lexeme) : Bool := decide (l.length ≤ 40) && l.all fun w => decide (w.text.size ≤ 40)
def fewTs (l : List Text) : Bool := decide (l.length ≤ 5) && l.all fun t => fewW t.words && decide (t.path.size ≤ 200)
def fewC (c : Corpus) : Bool := fewTs c.texts && decide (c.posts.length ≤ 300)
end Go.Lic
set_option linter.all false
namespace Go.Lic
open Go.Sort
def runMax (a : List Lexeme) : List Lexeme → Nat
 | [] => 0
 | x :: l => max (commonW (x :: l) a) (runMax a l)
def longW (ts : List Text) (a : List Lexeme) : Nat := ts.foldl (fun m t => max m (runMax a t.words)) 0
def longsN (ts : List Text) : List Lexeme → List Nat
 | [] => []
 | w :: l => longW ts (w :: l) :: longsN ts l
def longAF (c : Corpus) (t : Text) : List Int := (longsN c.texts t.words).map fun n : Nat => (n : Int)
def sameF (words known : List Lexeme) (at_ : Int) : Bool := decide (0 ≤ at_) && decide (at_ + words.length ≤ known.length) && decide (commonW (known.drop at_.toNat) words = words.length)
def srcW (a : List Lexeme) : List Lexeme → Option Nat
 | [] => none
 | x :: l => if commonW (x :: l) a = a.length then some 0 else (srcW a l).map (· + 1)
def srcT (a : List Lexeme) : List Text → Option (Nat × Nat)
 | [] => none
 | t :: ts => match srcW a t.words with
   | some k => some (0, k)
   | none => (srcT a ts).map fun p => (p.1 + 1, p.2)
def srcF (c : Corpus) (a : List Lexeme) : Int × Int := match srcT a c.texts with
 | some p => ((p.1 : Int), (p.2 : Int))
 | none => (0, 0)
def betV (a b : Int × Int) : Bool := decide (b.1 < a.1) || (decide (a.1 = b.1) && decide (a.2 < b.2))
def candV (rest : List (Int × Int × Nat)) (k : Nat) : Int × Int × Nat := ((rest.getD (k - 1) default).1 + k, (rest.getD (k - 1) default).2.1 + 1, k)
def takeV (rest : List (Int × Int × Nat)) (cur : Int × Int × Nat) (k : Nat) : Int × Int × Nat := if betV (cur.1, cur.2.1) ((candV rest k).1, (candV rest k).2.1) then cur else candV rest k
def fromTo (least lo : Nat) : List Nat := (List.range (lo + 1 - least)).map (· + least)
def stepV (least : Nat) (rest : List (Int × Int × Nat)) (lo : Nat) : Int × Int × Nat := (fromTo least lo).foldl (takeV rest) ((rest.headD default).1, (rest.headD default).2.1, 0)
def dpL (least : Nat) : List Nat → List (Int × Int × Nat)
 | [] => [(0, 0, 0)]
 | lo :: los => stepV least (dpL least los) lo :: dpL least los
def cutL : Nat → Nat → List Nat → List (Nat × Nat)
 | _, _, [] => []
 | i, s + 1, _ :: l => cutL (i + 1) s l
 | i, 0, 0 :: l => cutL (i + 1) 0 l
 | i, 0, (k + 1) :: l => (i, k + 1) :: cutL (i + 1) k l
def pieceF (c : Corpus) (t : Text) (p : Nat × Nat) : Piece := ⟨(p.1 : Int), ((p.1 + p.2 : Nat) : Int), (srcF c ((t.words.drop p.1).take p.2)).1, (srcF c ((t.words.drop p.1).take p.2)).2⟩
def piecesF (c : Corpus) (t : Text) (least : Nat) : List Piece := (cutL 0 0 ((dpL least (longsN c.texts t.words)).map fun v => v.2.2)).map (pieceF c t)
def noA : Attribution := ⟨⟨#[]⟩, []⟩
def rightCT (c : Corpus) (t : Text) : Bool := decide (checkF c = 0) && validT t
def rightA (c : Corpus) (t : Text) (least : Int) : Int := if rightCT c t then if 1 ≤ least ∧ least ≤ 8192 then 0 else 3 else 1
def attrF (c : Corpus) (t : Text) (least : Int) : Attribution × Int := if rightA c t least = 0 then (⟨t.path, piecesF c t least.toNat⟩, 0) else (noA, rightA c t least)
def rangedF (t : Text) (p : Piece) : Bool := decide (0 ≤ p.from_) && decide (p.from_ < p.to) && decide (p.to ≤ t.words.length)
def pieceOk (c : Corpus) (t : Text) (least : Int) (p : Piece) : Bool := rangedF t p && decide (least ≤ p.to - p.from_) && (decide (0 ≤ p.text) && decide (p.text < c.texts.length)) && sameF (lsub t.words p.from_ p.to) (gi c.texts p.text).words p.at_
def checkPs (c : Corpus) (t : Text) (least : Int) : Int → List Piece → Int
 | _, [] => 0
 | e, p :: l => if pieceOk c t least p then if p.from_ < e then 5 else checkPs c t least p.to l else 18
def checkA (c : Corpus) (t : Text) (least : Int) (a : Attribution) : Int := if rightA c t least = 0 then if a.path = t.path then checkPs c t least 0 a.pieces else 9 else rightA c t least
def shareL (n : Nat) (l : List Piece) : List Int := l.foldl (fun out p => si out p.text (gi out p.text + (p.to - p.from_))) (List.replicate n 0)
def shareF (c : Corpus) (t : Text) (a : Attribution) : List Int × Int := if rightCT c t then if checkA c t 1 a = 0 then (shareL c.texts.length a.pieces, 0) else ([], 18) else ([], 1)
def linesW (t : Text) (l : List Lexeme) : List Line := l.map fun w => ⟨t.path, w.line⟩
def restL (t : Text) : Int → List Piece → Option (List Line)
 | e, [] => some (linesW t (t.words.drop e.toNat))
 | e, p :: l => if rangedF t p && decide (e ≤ p.from_) then (restL t p.to l).map fun x => linesW t (lsub t.words e p.from_) ++ x else none
def maxF (l : List Int) : Int := l.foldl max (gi l 0)
def mainF (c : Corpus) (t : Text) (a : Attribution) (percent : Int) : ByteArray × Bool :=
 if (shareF c t a).2 = 0 ∧ 0 < (shareF c t a).1.length ∧ 0 ≤ percent ∧ percent ≤ 100 then
   if maxF (shareF c t a).1 = 0 ∨ 100 * maxF (shareF c t a).1 < percent * t.words.length then (⟨#[]⟩, false) else ((gi c.texts ((shareF c t a).1.findIdx fun x => decide (x = maxF (shareF c t a).1))).path, true)
 else (⟨#[]⟩, false)
def cmpL : List Int → List Int → Int
 | [], [] => 0
 | [], _ :: _ => -1
 | _ :: _, [] => 1
 | x :: a, y :: b => if cmpI x y = 0 then cmpL a b else cmpI x y
def betterP (a b : Int × Int) : Int × Int := if 0 ≤ cmpL [a.1, a.2] [b.1, b.2] then a else b
def afterP (v : Int × Int) (n : Int) : Int × Int := (v.1 + n, v.2 - 1)
def srcR (c : Corpus) (t : Text) (from_ to : Int) : Int × Int × Bool := ((srcF c (lsub t.words from_ to)).1, (srcF c (lsub t.words from_ to)).2, (srcT (lsub t.words from_ to) c.texts).isSome)
def betR (a p b q : Int) : Bool := betV (a, p) (b, q)
def unknownF (t : Text) (a : Attribution) : List Span × Int := if validT t then if a.path = t.path then match restL t 0 a.pieces with
 | some l => ofF l
 | none => ([], 3) else ([], 9) else ([], 1)
def textF (path s : ByteArray) : Text := ⟨path, (sbytes s).map fun b => ⟨bstr [b], 0⟩⟩
def smallF (c : Corpus) (t : Text) (a : Attribution) : Bool := fewC c && fewTs [t] && decide (a.pieces.length ≤ 60) && decide (a.path.size ≤ 200)
def okA (a : Attribution) : Prop := a.path.size ≤ 1000000 ∧ a.pieces.length ≤ 1000000
def coverF (l : List Piece) : Int := l.foldl (fun n p => n + (p.to - p.from_)) 0
end Go.Lic
