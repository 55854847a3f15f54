/-
  Sets of lines: spans in order, and the plain mathematics of them.
-/
import Derived.Test.YtaofnefejkokdaaGreatDoorCm
set_option linter.all false
namespace Go.Lic
open Go.Sort Go.Proofs Go.Shelf
theorem bl_irrefl : ∀ a : List UInt8, Op.bytesLess a a = false
 | [] => rfl
 | x :: a => by simp [Op.bytesLess, UInt8.lt_irrefl, bl_irrefl a]
theorem bl_trans : ∀ a b c : List UInt8, Op.bytesLess a b = true → Op.bytesLess b c = true → Op.bytesLess a c = true
 | [], [], _, h, _ => by cases h
 | [], _ :: _, [], _, h => by cases h
 | [], _ :: _, _ :: _, _, _ => rfl
 | _ :: _, [], _, h, _ => by cases h
 | _ :: _, _ :: _, [], _, h => by cases h
 | x :: a, y :: b, z :: c, h1, h2 => by
   simp only [Op.bytesLess, Bool.or_eq_true, Bool.and_eq_true, decide_eq_true_eq, beq_iff_eq] at h1 h2 ⊢
   rcases h1 with h1 | ⟨rfl, h1⟩
   · rcases h2 with h2 | ⟨rfl, h2⟩
     · exact .inl (UInt8.lt_trans h1 h2)
     · exact .inl h1
   · rcases h2 with h2 | ⟨rfl, h2⟩
     · exact .inl h2
     · exact .inr ⟨rfl, bl_trans a b c h1 h2⟩
theorem bl_tri : ∀ a b : List UInt8, Op.bytesLess a b = true ∨ a = b ∨ Op.bytesLess b a = true
 | [], [] => .inr (.inl rfl)
 | [], _ :: _ => .inl rfl
 | _ :: _, [] => .inr (.inr rfl)
 | x :: a, y :: b => by
   simp only [Op.bytesLess, Bool.or_eq_true, Bool.and_eq_true, decide_eq_true_eq, beq_iff_eq, List.cons.injEq]
   by_cases h : x = y
   · subst h
     rcases bl_tri a b with h1 | h1 | h1
     · exact .inl (.inr ⟨rfl, h1⟩)
     · exact .inr (.inl ⟨rfl, h1⟩)
     · exact .inr (.inr (.inr ⟨rfl, h1⟩))
   · rcases UInt8.lt_or_lt_of_ne h with h1 | h1
     · exact .inl (.inl h1)
     · exact .inr (.inr (.inl h1))
theorem cb_eq : ∀ a b : List UInt8, Lib.compareBytes a b = if Op.bytesLess a b = true then -1 else if a = b then 0 else 1
 | [], [] => rfl
 | [], _ :: _ => rfl
 | _ :: _, [] => by simp [Lib.compareBytes, Op.bytesLess]
 | x :: a, y :: b => by
   simp only [Lib.compareBytes, Op.bytesLess, Bool.or_eq_true, Bool.and_eq_true, decide_eq_true_eq, beq_iff_eq, List.cons.injEq]
   rw [cb_eq a b]
   by_cases h : x = y
   · subst h
     simp [UInt8.lt_irrefl]
   · rcases UInt8.lt_or_lt_of_ne h with h1 | h1
     · simp [h1]
     · have : ¬ x < y := UInt8.lt_asymm h1
       simp [h1, this, h]
theorem ba_eq {a b : ByteArray} (h : a.data.toList = b.data.toList) : a = b := by
 obtain ⟨⟨a⟩⟩ := a; obtain ⟨⟨b⟩⟩ := b
 cases h; rfl
abbrev SLt (a b : ByteArray) : Prop := sless a b = true
theorem sl_irrefl (a : ByteArray) : ¬ SLt a a := by simp [sless, bl_irrefl]
theorem sl_trans {a b c : ByteArray} (h1 : SLt a b) (h2 : SLt b c) : SLt a c := bl_trans _ _ _ h1 h2
theorem sl_asymm {a b : ByteArray} (h1 : SLt a b) : ¬ SLt b a := fun h2 => sl_irrefl a (sl_trans h1 h2)
theorem sl_ne {a b : ByteArray} (h1 : SLt a b) : a ≠ b := fun h => sl_irrefl a (by rw [← h] at h1; exact h1)
theorem sl_tri (a b : ByteArray) : SLt a b ∨ a = b ∨ SLt b a := by
 rcases bl_tri a.data.toList b.data.toList with h | h | h
 · exact .inl h
 · exact .inr (.inl (ba_eq h))
 · exact .inr (.inr h)
theorem cmpB_eq (a b : ByteArray) : cmpB a b = if sless a b = true then -1 else if a = b then 0 else 1 := by
 unfold cmpB
 rw [cb_eq]
 by_cases h : a = b
 · subst h; simp [sless]
 · have : ¬ a.data.toList = b.data.toList := fun e => h (ba_eq e)
   simp [sless, h, this]
def PLt (p : ByteArray) (n : Int) (q : ByteArray) (m : Int) : Prop := SLt p q ∨ (p = q ∧ n < m)
theorem pl_irrefl (p : ByteArray) (n : Int) : ¬ PLt p n p n := by
 rintro (h | ⟨_, h⟩)
 · exact sl_irrefl _ h
 · omega
theorem pl_trans {p q r : ByteArray} {n m k : Int} (h1 : PLt p n q m) (h2 : PLt q m r k) : PLt p n r k := by
 rcases h1 with h1 | ⟨rfl, h1⟩
 · rcases h2 with h2 | ⟨rfl, h2⟩
   · exact .inl (sl_trans h1 h2)
   · exact .inl h1
 · rcases h2 with h2 | ⟨rfl, h2⟩
   · exact .inl h2
   · exact .inr ⟨rfl, by omega⟩
theorem pl_tri (p : ByteArray) (n : Int) (q : ByteArray) (m : Int) : PLt p n q m ∨ (p = q ∧ n = m) ∨ PLt q m p n := by
 rcases sl_tri p q with h | rfl | h
 · exact .inl (.inl h)
 · rcases Int.lt_trichotomy n m with h | h | h
   · exact .inl (.inr ⟨rfl, h⟩)
   · exact .inr (.inl ⟨rfl, h⟩)
   · exact .inr (.inr (.inr ⟨rfl, h⟩))
 · exact .inr (.inr (.inl h))
abbrev SpLt (a b : Span) : Prop := PLt a.path a.from_ b.path b.from_
theorem spanCmp_neg (a b : Span) : spanCmp a b < 0 ↔ SpLt a b := by
 have e : spanCmp a b = if cmpB a.path b.path ≠ 0 then cmpB a.path b.path else if cmpI a.from_ b.from_ ≠ 0 then cmpI a.from_ b.from_ else 0 := by
   unfold spanCmp orF
   by_cases h1 : cmpB a.path b.path = 0
   · by_cases h2 : cmpI a.from_ b.from_ = 0
     · simp [h1, h2]
     · simp [h1, h2]
   · simp [h1]
 rw [e, cmpB_eq]
 unfold SpLt PLt cmpI SLt
 by_cases h : sless a.path b.path = true
 · simp [h]
 · by_cases h2 : a.path = b.path
   · rw [h2]
     have : ¬ (sless b.path b.path = true) := sl_irrefl _
     simp only [this, if_false, if_true, ne_eq, not_true, false_or, true_and]
     by_cases h3 : a.from_ < b.from_
     · simp [h3]
     · by_cases h4 : b.from_ < a.from_
       · simp [h3, h4]
       · simp [h3, h4]
   · simp [h, h2]
theorem ltOf_iff (a b : Span) : ltOf spanCmp a b = true ↔ SpLt a b := by
 unfold ltOf
 rw [decide_eq_true_eq]
 exact spanCmp_neg a b
theorem ltOf_false (a b : Span) : ltOf spanCmp a b = false ↔ ¬ SpLt a b := by
 rw [← ltOf_iff]; simp
theorem pl_ntrans {p q r : ByteArray} {n m k : Int} (h1 : ¬ PLt p n q m) (h2 : ¬ PLt q m r k) : ¬ PLt p n r k := by
 intro h3
 rcases pl_tri p n q m with h | ⟨rfl, rfl⟩ | h
 · exact h1 h
 · exact h2 h3
 · exact h2 (pl_trans h h3)
theorem spanCmp_swo : SWO (ltOf spanCmp) where
 irrefl a := (ltOf_false _ _).2 (pl_irrefl _ _)
 trans a b c h1 h2 := (ltOf_iff _ _).2 (pl_trans ((ltOf_iff _ _).1 h1) ((ltOf_iff _ _).1 h2))
 ntrans a b c h1 h2 := (ltOf_false _ _).2 (pl_ntrans ((ltOf_false _ _).1 h1) ((ltOf_false _ _).1 h2))
def inSpan (s : Span) (p : ByteArray) (n : Int) : Prop := s.path = p ∧ s.from_ ≤ n ∧ n < s.to
def In (l : List Span) (p : ByteArray) (n : Int) : Prop := ∃ s ∈ l, inSpan s p n
theorem gi_last {α : Type} [Inhabited α] (o : List α) (t : α) : gi (o ++ [t]) (((o ++ [t]).length : Int) - 1) = t := by
 have : (((o ++ [t]).length : Int) - 1) = ((o.length : Nat) : Int) := by simp
 rw [this, gi_nat (by simp)]
 simp
theorem si_last {α : Type} (o : List α) (t v : α) : si (o ++ [t]) (((o ++ [t]).length : Int) - 1) v = o ++ [v] := by
 have : (((o ++ [t]).length : Int) - 1).toNat = o.length := by simp
 unfold si
 rw [this]
 simp
theorem gmax1 (a b : Int) : gmax a [b] = max a b := by simp only [gmax, List.foldl]; omega
theorem gmin1 (a b : Int) : gmin a [b] = min a b := by simp only [gmin, List.foldl]; omega
theorem list_last {α : Type} (l : List α) : l = [] ∨ ∃ o t, l = o ++ [t] := by
 rcases List.eq_nil_or_concat l with h | ⟨o, t, h⟩
 · exact .inl h
 · exact .inr ⟨o, t, by simpa using h⟩
theorem foldl_len {α β : Type} {f : List α → β → List α} (h : ∀ o x, (f o x).length ≤ o.length + 1) : ∀ (r : List β) (o : List α), (r.foldl f o).length ≤ o.length + r.length
 | [], o => by simp
 | x :: r, o => by
   rw [List.foldl_cons]
   have h1 := foldl_len h r (f o x)
   have h2 := h o x
   simp only [List.length_cons]; omega
end Go.Lic
set_option linter.all false
namespace Go.Lic
open Go.Sort Go.Proofs Go.Shelf
end Go.Lic
set_option linter.all false
namespace Go.Lic
open Go.Sort Go.Proofs Go.Shelf
end Go.Lic
set_option linter.all false
namespace Go.Lic
open Go.Sort
def runMax (a : List Lexeme) : List Lexeme → Nat
 | [] => 0
 | x :: l => max (commonW (x :: l) a) (runMax a l)
def longW (ts : List Text) (a : List Lexeme) : Nat := ts.foldl (fun m t => max m (runMax a t.words)) 0
def longsN (ts : List Text) : List Lexeme → List Nat
 | [] => []
 | w :: l => longW ts (w :: l) :: longsN ts l
def longAF (c : Corpus) (t : Text) : List Int := (longsN c.texts t.words).map fun n : Nat => (n : Int)
def sameF (words known : List Lexeme) (at_ : Int) : Bool := decide (0 ≤ at_) && decide (at_ + words.length ≤ known.length) && decide (commonW (known.drop at_.toNat) words = words.length)
def srcW (a : List Lexeme) : List Lexeme → Option Nat
 | [] => none
 | x :: l => if commonW (x :: l) a = a.length then some 0 else (srcW a l).map (· + 1)
def srcT (a : List Lexeme) : List Text → Option (Nat × Nat)
 | [] => none
 | t :: ts => match srcW a t.words with
   | some k => some (0, k)
   | none => (srcT a ts).map fun p => (p.1 + 1, p.2)
def srcF (c : Corpus) (a : List Lexeme) : Int × Int := match srcT a c.texts with
 | some p => ((p.1 : Int), (p.2 : Int))
 | none => (0, 0)
def betV (a b : Int × Int) : Bool := decide (b.1 < a.1) || (decide (a.1 = b.1) && decide (a.2 < b.2))
def candV (rest : List (Int × Int × Nat)) (k : Nat) : Int × Int × Nat := ((rest.getD (k - 1) default).1 + k, (rest.getD (k - 1) default).2.1 + 1, k)
def takeV (rest : List (Int × Int × Nat)) (cur : Int × Int × Nat) (k : Nat) : Int × Int × Nat := if betV (cur.1, cur.2.1) ((candV rest k).1, (candV rest k).2.1) then cur else candV rest k
def fromTo (least lo : Nat) : List Nat := (List.range (lo + 1 - least)).map (· + least)
def stepV (least : Nat) (rest : List (Int × Int × Nat)) (lo : Nat) : Int × Int × Nat := (fromTo least lo).foldl (takeV rest) ((rest.headD default).1, (rest.headD default).2.1, 0)
def dpL (least : Nat) : List Nat → List (Int × Int × Nat)
 | [] => [(0, 0, 0)]
 | lo :: los => stepV least (dpL least los) lo :: dpL least los
def cutL : Nat → Nat → List Nat → List (Nat × Nat)
 | _, _, [] => []
 | i, s + 1, _ :: l => cutL (i + 1) s l
 | i, 0, 0 :: l => cutL (i + 1) 0 l
 | i, 0, (k + 1) :: l => (i, k + 1) :: cutL (i + 1) k l
def pieceF (c : Corpus) (t : Text) (p : Nat × Nat) : Piece := ⟨(p.1 : Int), ((p.1 + p.2 : Nat) : Int), (srcF c ((t.words.drop p.1).take p.2)).1, (srcF c ((t.words.drop p.1).take p.2)).2⟩
def piecesF (c : Corpus) (t : Text) (least : Nat) : List Piece := (cutL 0 0 ((dpL least (longsN c.texts t.words)).map fun v => v.2.2)).map (pieceF c t)
def noA : Attribution := ⟨⟨#[]⟩, []⟩
def rightCT (c : Corpus) (t : Text) : Bool := decide (checkF c = 0) && validT t
def rightA (c : Corpus) (t : Text) (least : Int) : Int := if rightCT c t then if 1 ≤ least ∧ least ≤ 8192 then 0 else 3 else 1
def attrF (c : Corpus) (t : Text) (least : Int) : Attribution × Int := if rightA c t least = 0 then (⟨t.path, piecesF c t least.toNat⟩, 0) else (noA, rightA c t least)
def rangedF (t : Text) (p : Piece) : Bool := decide (0 ≤ p.from_) && decide (p.from_ < p.to) && decide (p.to ≤ t.words.length)
def pieceOk (c : Corpus) (t : Text) (least : Int) (p : Piece) : Bool := rangedF t p && decide (least ≤ p.to - p.from_) && (decide (0 ≤ p.text) && decide (p.text < c.texts.length)) && sameF (lsub t.words p.from_ p.to) (gi c.texts p.text).words p.at_
def checkPs (c : Corpus) (t : Text) (least : Int) : Int → List Piece → Int
 | _, [] => 0
 | e, p :: l => if pieceOk c t least p then if p.from_ < e then 5 else checkPs c t least p.to l else 18
def checkA (c : Corpus) (t : Text) (least : Int) (a : Attribution) : Int := if rightA c t least = 0 then if a.path = t.path then checkPs c t least 0 a.pieces else 9 else rightA c t least
def shareL (n : Nat) (l : List Piece) : List Int := l.foldl (fun out p => si out p.text (gi out p.text + (p.to - p.from_))) (List.replicate n 0)
def shareF (c : Corpus) (t : Text) (a : Attribution) : List Int × Int := if rightCT c t then if checkA c t 1 a = 0 then (shareL c.texts.length a.pieces, 0) else ([], 18) else ([], 1)
def linesW (t : Text) (l : List Lexeme) : List Line := l.map fun w => ⟨t.path, w.line⟩
def restL (t : Text) : Int → List Piece → Option (List Line)
 | e, [] => some (linesW t (t.words.drop e.toNat))
 | e, p :: l => if rangedF t p && decide (e ≤ p.from_) then (restL t p.to l).map fun x => linesW t (lsub t.words e p.from_) ++ x else none
def maxF (l : List Int) : Int := l.foldl max (gi l 0)
def mainF (c : Corpus) (t : Text) (a : Attribution) (percent : Int) : ByteArray × Bool :=
 if (shareF c t a).2 = 0 ∧ 0 < (shareF c t a).1.length ∧ 0 ≤ percent ∧ percent ≤ 100 then
   if maxF (shareF c t a).1 = 0 ∨ 100 * maxF (shareF c t a).1 < percent * t.words.length then (⟨#[]⟩, false) else ((gi c.texts ((shareF c t a).1.findIdx fun x => decide (x = maxF (shareF c t a).1))).path, true)
 else (⟨#[]⟩, false)
def cmpL : List Int → List Int → Int
 | [], [] => 0
 | [], _ :: _ => -1
 | _ :: _, [] => 1
 | x :: a, y :: b => if cmpI x y = 0 then cmpL a b else cmpI x y
def betterP (a b : Int × Int) : Int × Int := if 0 ≤ cmpL [a.1, a.2] [b.1, b.2] then a else b
def afterP (v : Int × Int) (n : Int) : Int × Int := (v.1 + n, v.2 - 1)
def srcR (c : Corpus) (t : Text) (from_ to : Int) : Int × Int × Bool := ((srcF c (lsub t.words from_ to)).1, (srcF c (lsub t.words from_ to)).2, (srcT (lsub t.words from_ to) c.texts).isSome)
def betR (a p b q : Int) : Bool := betV (a, p) (b, q)
def unknownF (t : Text) (a : Attribution) : List Span × Int := if validT t then if a.path = t.path then match restL t 0 a.pieces with
 | some l => ofF l
 | none => ([], 3) else ([], 9) else ([], 1)
def textF (path s : ByteArray) : Text := ⟨path, (sbytes s).map fun b => ⟨bstr [b], 0⟩⟩
def smallF (c : Corpus) (t : Text) (a : Attribution) : Bool := fewC c && fewTs [t] && decide (a.pieces.length ≤ 60) && decide (a.path.size ≤ 200)
def okA (a : Attribution) : Prop := a.path.size ≤ 1000000 ∧ a.pieces.length ≤ 1000000
def coverF (l : List Piece) : Int := l.foldl (fun n p => n + (p.to - p.from_)) 0
end Go.Lic
