/-
  Structures of chapter 16 and how memory holds them.
-/
import Derived.Test.YtkifpidbpoghlaaGreatDoorVr
import Derived.Test.YtkifpidbpoghlaaGreatDoorStates
import Derived.Sort.AssemblyPlain
import Derived.Shelf.SlSortCmp.Insertion
import Derived.Lib.BitFns
import Derived.Test.YtkifpidbpoghlaaGreatDoorPa
import Derived.Lib.Bytealg
import Derived.Lib.ItoaNum
import Derived.Shelf.SlSortCmp.WholeK
set_option linter.all false
namespace Go.Lic
structure Span where
 path : ByteArray
 from_ : Int
 to : Int
deriving DecidableEq
instance : Inhabited Span := ⟨⟨default, default, default⟩⟩
end Go.Lic
set_option linter.all false
namespace Go.Lic
structure Lexeme where
 text : ByteArray
 line : Int
deriving DecidableEq
instance : Inhabited Lexeme := ⟨⟨default, default⟩⟩
def encLex (x : Lexeme) : D := .agg ([D.s x.text, D.i x.line])
structure Text where
 path : ByteArray
 words : (List Lexeme)
deriving DecidableEq
instance : Inhabited Text := ⟨⟨default, default⟩⟩
def zak (x : Text) : D := .agg ([D.s x.path, (encL 2 encLex) x.words])
structure Print where
 hash : Int
 at_ : Int
deriving DecidableEq
instance : Inhabited Print := ⟨⟨default, default⟩⟩
def zaj (x : Print) : D := .agg ([D.i x.hash, D.i x.at_])
structure Pst where
 hash : Int
 text : Int
 at_ : Int
deriving DecidableEq
instance : Inhabited Pst := ⟨⟨default, default, default⟩⟩
end Go.Lic
set_option linter.all false
namespace Go.Lic
structure Hunk where
 kind : Int
 n : Int
 lines : (List ByteArray)
instance : Inhabited Hunk := ⟨⟨default, default, default⟩⟩
def encHunk (x : Hunk) : D := .agg ([D.i x.kind, D.i x.n, (encL 1 D.s) x.lines])
structure Patch where
 base : ByteArray
 hunks : (List Hunk)
instance : Inhabited Patch := ⟨⟨default, default⟩⟩
def encPatch (x : Patch) : D := .agg ([D.s x.base, (encL 3 encHunk) x.hunks])
structure PatchBuilder where
 hunks : (List Hunk)
 drop : Int
 add : (List ByteArray)
instance : Inhabited PatchBuilder := ⟨⟨default, default, default⟩⟩
end Go.Lic
set_option linter.all false
namespace Go.Lic
structure Clone where
 a : Int
 atA : Int
 b : Int
 atB : Int
 len : Int
deriving DecidableEq
instance : Inhabited Clone := ⟨⟨default, default, default, default, default⟩⟩
def encClone (x : Clone) : D := .agg ([D.i x.a, D.i x.atA, D.i x.b, D.i x.atB, D.i x.len])
def eqClone (a b : Clone) : Bool := decide (a.a = b.a) && (decide (a.atA = b.atA) && (decide (a.b = b.b) && (decide (a.atB = b.atB) && (decide (a.len = b.len) && true))))
structure CloneDiagonal where
 a : Int
 b : Int
 by_ : Int
deriving DecidableEq
instance : Inhabited CloneDiagonal := ⟨⟨default, default, default⟩⟩
def encCloneDiagonal (x : CloneDiagonal) : D := .agg ([D.i x.a, D.i x.b, D.i x.by_])
structure ClonePlace where
 text : Int
 at_ : Int
deriving DecidableEq
instance : Inhabited ClonePlace := ⟨⟨default, default⟩⟩
def zad (x : ClonePlace) : D := .agg ([D.i x.text, D.i x.at_])
def eqClonePlace (a b : ClonePlace) : Bool := decide (a.text = b.text) && (decide (a.at_ = b.at_) && true)
def valClone (x : Clone) : List Value := [.int .i64 x.a, .int .i64 x.atA, .int .i64 x.b, .int .i64 x.atB, .int .i64 x.len]
theorem valClone_one : ∀ x : Clone, ∀ v ∈ valClone x, v.oneCell' = true := by
 intro x v hv
 simp only [valClone, List.mem_cons, List.not_mem_nil, or_false] at hv
 rcases hv with rfl | rfl | rfl | rfl | rfl <;> rfl
end Go.Lic
set_option linter.all false
namespace Go.Lic
open Go.Proofs Go.Sort
def sortF {T : Type} [Inhabited T] (cf : T → T → Int) (l : List T) : List T := (pdq (ltOf cf) l.toArray 0 l.length (Lib.bitLen l.length) true true).toList
theorem sortF_perm {T : Type} [Inhabited T] {cf : T → T → Int} (hO : SWO (ltOf cf)) (l : List T) : (sortF cf l).Perm l := by
 have h := (pdq_sorts (ltOf cf) hO l.toArray 0 l.length (Lib.bitLen l.length) true true (Nat.zero_le _) (by simp) (Or.inl rfl)).1
 obtain ⟨h1, _, h3⟩ := h
 have e1 : (pdq (ltOf cf) l.toArray 0 l.length (Lib.bitLen l.length) true true).extract 0 l.length = pdq (ltOf cf) l.toArray 0 l.length (Lib.bitLen l.length) true true := by
   apply Array.ext'
   rw [Array.toList_extract]
   have : (pdq (ltOf cf) l.toArray 0 l.length (Lib.bitLen l.length) true true).toList.length = l.length := by rw [Array.length_toList, h1]; simp
   show ((pdq (ltOf cf) l.toArray 0 l.length (Lib.bitLen l.length) true true).toList.drop 0).take (l.length - 0) = _
   rw [List.drop_zero, Nat.sub_zero, List.take_of_length_le (by omega)]
 have e2 : l.toArray.extract 0 l.length = l.toArray := by
   apply Array.ext'
   rw [Array.toList_extract]
   simp [List.extract_eq_take_drop]
 rw [e1, e2] at h3
 simpa [sortF] using h3
theorem sortF_len {T : Type} [Inhabited T] {cf : T → T → Int} (hO : SWO (ltOf cf)) (l : List T) : (sortF cf l).length = l.length := (sortF_perm hO l).length_eq
theorem sortF_sorted {T : Type} [Inhabited T] {cf : T → T → Int} (hO : SWO (ltOf cf)) (l : List T) : ∀ i j, i < j → j < l.length → ¬ cf ((sortF cf l)[j]!) ((sortF cf l)[i]!) < 0 := by
 have h := (pdq_sorts (ltOf cf) hO l.toArray 0 l.length (Lib.bitLen l.length) true true (Nat.zero_le _) (by simp) (Or.inl rfl)).2
 intro i j hij hj
 have := h i j (Nat.zero_le _) hij hj
 simp only [ltOf, decide_eq_false_iff_not] at this
 unfold sortF
 rw [← List.getElem!_toArray, ← List.getElem!_toArray, Array.toArray_toList]
 exact this
end Go.Lic
set_option linter.all false
namespace Go.Lic
def idxOf {α : Type} (p : α → Bool) (l : List α) : Int := match l.findIdx? p with | some i => i | none => -1
def cmpI (a b : Int) : Int := if a < b then -1 else if b < a then 1 else 0
def orF (l : List Int) : Int := (l.find? (· != 0)).getD 0
def lenF (n : Int) : Int := Lib.bitLen n.toNat
def sepOf (s : ByteArray) : UInt8 := s.data.toList.headD 0
def countF (s sep : ByteArray) : Int := (s.data.toList.count (sepOf sep) : Nat)
def indexF (s sep : ByteArray) : Int := Lib.indexByte s.data.toList (sepOf sep)
def itoaF (n : Int) : ByteArray := ⟨(Lib.itoa n).toArray⟩
def splitL (c : UInt8) : List UInt8 → List (List UInt8)
 | [] => [[]]
 | b :: l => if b = c then [] :: splitL c l else match splitL c l with | p :: r => (b :: p) :: r | [] => [[b]]
def splitF (s sep : ByteArray) : List ByteArray := (splitL (sepOf sep) s.data.toList).map fun l => ⟨l.toArray⟩
def nameB (c : Int) : Bool := (decide (97 ≤ c) && decide (c ≤ 122)) || (decide (48 ≤ c) && decide (c ≤ 57)) || decide (c = 46) || decide (c = 95) || decide (c = 45)
def badR (r : Int) : Bool := !nameB r
def runeIdxL (f : Int → Bool) (s : ByteArray) : Nat → Int → Int
 | 0, _ => -1
 | n + 1, i => if i < s.size then if f (Utf8.decode s i.toNat).1 then i else runeIdxL f s n (i + (Utf8.decode s i.toNat).2) else -1
def partF (s : ByteArray) : Bool := decide (1 ≤ s.size) && decide (s.size ≤ 32) && !decide (sgi s 0 = 46) && !decide (sgi s 0 = 45) && (sbytes s).all nameB
def pathB (s : ByteArray) : Bool := decide (s.size ≤ 128) && decide ((splitF s ⟨#[47]⟩).length ≤ 8) && (splitF s ⟨#[47]⟩).all partF
def pathF (s : ByteArray) : Int := if pathB s then 0 else 2
end Go.Lic
set_option linter.all false
namespace Go.Lic
open Go.Sort
def splitG (s sep : ByteArray) (_ _ : Int) : List ByteArray := splitF s sep
def runeIx (p : Int → Bool) (s : ByteArray) (t : Bool) : Int := runeIdxL (fun r => p r == t) s (s.size + 1) 0
end Go.Lic
set_option linter.all false
namespace Go.Lic
open Go.Sort Go.Proofs Go.Shelf
theorem bl_irrefl : ∀ a : List UInt8, Op.bytesLess a a = false
 | [] => rfl
 | x :: a => by simp [Op.bytesLess, UInt8.lt_irrefl, bl_irrefl a]
theorem bl_trans : ∀ a b c : List UInt8, Op.bytesLess a b = true → Op.bytesLess b c = true → Op.bytesLess a c = true
 | [], [], _, h, _ => by cases h
 | [], _ :: _, [], _, h => by cases h
 | [], _ :: _, _ :: _, _, _ => rfl
 | _ :: _, [], _, h, _ => by cases h
 | _ :: _, _ :: _, [], _, h => by cases h
 | x :: a, y :: b, z :: c, h1, h2 => by
   simp only [Op.bytesLess, Bool.or_eq_true, Bool.and_eq_true, decide_eq_true_eq, beq_iff_eq] at h1 h2 ⊢
   rcases h1 with h1 | ⟨rfl, h1⟩
   · rcases h2 with h2 | ⟨rfl, h2⟩
     · exact .inl (UInt8.lt_trans h1 h2)
     · exact .inl h1
   · rcases h2 with h2 | ⟨rfl, h2⟩
     · exact .inl h2
     · exact .inr ⟨rfl, bl_trans a b c h1 h2⟩
theorem bl_tri : ∀ a b : List UInt8, Op.bytesLess a b = true ∨ a = b ∨ Op.bytesLess b a = true
 | [], [] => .inr (.inl rfl)
 | [], _ :: _ => .inl rfl
 | _ :: _, [] => .inr (.inr rfl)
 | x :: a, y :: b => by
   simp only [Op.bytesLess, Bool.or_eq_true, Bool.and_eq_true, decide_eq_true_eq, beq_iff_eq, List.cons.injEq]
   by_cases h : x = y
   · subst h
     rcases bl_tri a b with h1 | h1 | h1
     · exact .inl (.inr ⟨rfl, h1⟩)
     · exact .inr (.inl ⟨rfl, h1⟩)
     · exact .inr (.inr (.inr ⟨rfl, h1⟩))
   · rcases UInt8.lt_or_lt_of_ne h with h1 | h1
     · exact .inl (.inl h1)
     · exact .inr (.inr (.inl h1))
theorem ba_eq {a b : ByteArray} (h : a.data.toList = b.data.toList) : a = b := by
 obtain ⟨⟨a⟩⟩ := a; obtain ⟨⟨b⟩⟩ := b
 cases h; rfl
abbrev SLt (a b : ByteArray) : Prop := sless a b = true
theorem sl_irrefl (a : ByteArray) : ¬ SLt a a := by simp [sless, bl_irrefl]
theorem sl_trans {a b c : ByteArray} (h1 : SLt a b) (h2 : SLt b c) : SLt a c := bl_trans _ _ _ h1 h2
theorem sl_asymm {a b : ByteArray} (h1 : SLt a b) : ¬ SLt b a := fun h2 => sl_irrefl a (sl_trans h1 h2)
theorem sl_tri (a b : ByteArray) : SLt a b ∨ a = b ∨ SLt b a := by
 rcases bl_tri a.data.toList b.data.toList with h | h | h
 · exact .inl h
 · exact .inr (.inl (ba_eq h))
 · exact .inr (.inr h)
def inSpan (s : Span) (p : ByteArray) (n : Int) : Prop := s.path = p ∧ s.from_ ≤ n ∧ n < s.to
def In (l : List Span) (p : ByteArray) (n : Int) : Prop := ∃ s ∈ l, inSpan s p n
theorem gi_last {α : Type} [Inhabited α] (o : List α) (t : α) : gi (o ++ [t]) (((o ++ [t]).length : Int) - 1) = t := by
 have : (((o ++ [t]).length : Int) - 1) = ((o.length : Nat) : Int) := by simp
 rw [this, gi_nat (by simp)]
 simp
theorem si_last {α : Type} (o : List α) (t v : α) : si (o ++ [t]) (((o ++ [t]).length : Int) - 1) v = o ++ [v] := by
 have : (((o ++ [t]).length : Int) - 1).toNat = o.length := by simp
 unfold si
 rw [this]
 simp
theorem gmin1 (a b : Int) : gmin a [b] = min a b := by simp only [gmin, List.foldl]; omega
theorem list_last {α : Type} (l : List α) : l = [] ∨ ∃ o t, l = o ++ [t] := by
 rcases List.eq_nil_or_concat l with h | ⟨o, t, h⟩
 · exact .inl h
 · exact .inr ⟨o, t, by simpa using h⟩
theorem foldl_len {α β : Type} {f : List α → β → List α} (h : ∀ o x, (f o x).length ≤ o.length + 1) : ∀ (r : List β) (o : List α), (r.foldl f o).length ≤ o.length + r.length
 | [], o => by simp
 | x :: r, o => by
   rw [List.foldl_cons]
   have h1 := foldl_len h r (f o x)
   have h2 := h o x
   simp only [List.length_cons]; omega
end Go.Lic
set_option linter.all false
namespace Go.Lic
open Go.Sort Go.Proofs Go.Shelf
end Go.Lic
set_option linter.all false
namespace Go.Lic
open Go.Sort Go.Proofs Go.Shelf
end Go.Lic
set_option linter.all false
namespace Go.Lic
variable [Fl]
open Go.Proofs Go.Sort Go.Shelf
theorem flatMap_get {T : Type} {f : T → List Value} {k : Nat} (hk : ∀ x, (f x).length = k) : ∀ (l : List T) (i : Nat) (x : T), l[i]? = some x → ∀ c, c < k → (l.flatMap f)[i * k + c]? = (f x)[c]?
 | [], i, x, h, c, hc => by simp at h
 | y :: l, 0, x, h, c, hc => by
   simp at h; subst h
   rw [List.flatMap_cons, List.getElem?_append_left (by rw [hk]; omega)]; simp
 | y :: l, i + 1, x, h, c, hc => by
   rw [List.flatMap_cons, List.getElem?_append_right (by rw [hk, Nat.add_mul]; omega), hk, show (i + 1) * k + c - k = i * k + c by rw [Nat.add_mul]; omega]
   exact flatMap_get hk l i x (by simpa using h) c hc
theorem flatK_eq {T : Type} [Inhabited T] {f : T → List Value} {k : Nat} (hk : ∀ x, (f x).length = k) (l : List T) : (flatK f k l.toArray).toList = l.flatMap f := by
 have hl : (l.flatMap f).length = l.length * k := by
   induction l with
   | nil => simp
   | cons x l ih => rw [List.flatMap_cons, List.length_append, ih, hk, List.length_cons, Nat.add_mul]; omega
 refine List.ext_getElem (by simp [hl]) fun t h1 h2 => ?_
 have ht : t < l.length * k := by rw [hl] at h2; exact h2
 have hk0 : 0 < k := by rcases Nat.eq_zero_or_pos k with h | h <;> simp_all
 have hi : t / k < l.length := by rw [Nat.div_lt_iff_lt_mul hk0]; exact ht
 have hm : t % k < k := Nat.mod_lt _ hk0
 have e := flatMap_get hk l (t / k) l[t / k] (by simp [hi]) (t % k) hm
 rw [show t / k * k + t % k = t by rw [Nat.mul_comm]; exact Nat.div_add_mod t k] at e
 rw [List.getElem?_eq_getElem h2, List.getElem?_eq_getElem (by rw [hk]; exact hm)] at e
 simp only [Option.some.injEq] at e
 rw [e]
 simp only [Array.getElem_toList, flatK, Array.getElem_map, Array.getElem_range, List.getElem!_toArray]
 rw [getElem!_pos l (t / k) hi, getElem!_pos _ (t % k) (by rw [hk]; exact hm)]
theorem vl_split {w : World} {X : Nat → Prop} : ∀ {ds es : List D} {xs : List Value}, VL w X (ds ++ es) xs → ∃ ys zs, xs = ys ++ zs ∧ VL w X ds ys ∧ VL w X es zs
 | [], es, xs, h => ⟨[], xs, rfl, .nil, h⟩
 | d :: ds, es, _, .cons h1 h2 => by
   obtain ⟨ys, zs, rfl, h3, h4⟩ := vl_split h2
   exact ⟨_ :: ys, zs, rfl, .cons h1 h3, h4⟩
theorem flats_encV {T : Type} {enc : T → D} {encV : T → List Value} (he : ∀ x, enc x = .agg ((encV x).map D.v)) : ∀ l : List T, D.flats (l.map enc) = (l.flatMap encV).map D.v
 | [] => rfl
 | x :: l => by rw [List.map_cons, flats_cons, flats_encV he l, he, List.flatMap_cons, List.map_append]; rfl
theorem world_grown {w w' : World} (on : Fl.on) (h : Ext (fun _ => False) w w') : ∃ q os, w' = grow (w.drewN q) os := by
 refine ⟨w'.drawn - w.drawn, w'.heap.extract w.heap.size, ?_⟩
 have hh : w'.heap = w.heap ++ w'.heap.extract w.heap.size := by
   apply Array.ext
   · simp; have := h.size; omega
   · intro i h1 h2
     by_cases hi : i < w.heap.size
     · have := h.keep i hi (fun x => x)
       rw [Array.getElem?_eq_getElem h1, Array.getElem?_eq_getElem hi] at this
       rw [Array.getElem_append_left hi]; exact Option.some.inj this
     · rw [Array.getElem_append_right (by omega)]; simp; congr 1; omega
 have hd := h.drawn on
 obtain ⟨heap, tape, drawn, os, output⟩ := w
 obtain ⟨heap', tape', drawn', os', output'⟩ := w'
 have h1 := h.os; have h2 := h.tape; have h3 := h.output
 simp only at h1 h2 h3 hh hd
 subst h1; subst h2; subst h3
 simp only [grow, World.drewN]
 congr 1
 · omega
end Go.Lic
set_option linter.all false
namespace Go.Lic
variable [Fl]
open Go.Proofs Go.Sort Go.Shelf
section
variable {P : Program} {o : Oper} {fr : Nat → D} {h : Heap} {K : D → Heap → Prop}
theorem sortWorldK_heap {T : Type} [Inhabited T] {encV : T → List Value} {k : Nat} {w : World} {blk off m : Nat} {dk : Array T} {os : Array Obj} (hb : blk < w.heap.size) :
   (∀ b, b < w.heap.size → b ≠ blk → (sortWorldK encV k w blk off m dk os).heap[b]? = w.heap[b]?) ∧ w.heap.size ≤ (sortWorldK encV k w blk off m dk os).heap.size := by
 constructor
 · intro b hb2 hne
   simp only [sortWorldK, grow, putRowK, putRow, mapBlock, Sort.ahead]
   rw [Array.getElem?_append_left (by simpa using hb2), Array.getElem?_modify]
   simp [Ne.symm hne]
 · simp [sortWorldK, grow, putRowK, putRow, mapBlock, Sort.ahead]
theorem vl_of_vals {w : World} {X : Nat → Prop} : ∀ l : List Value, VL w X (l.map D.v) l
 | [] => .nil
 | v :: l => .cons (.v v) (vl_of_vals l)
theorem splice_get {α : Type} (A X Y B R : List α) (h : X.length = Y.length) (i : Nat) : (A ++ (Y ++ B) ++ R)[i]? = if A.length ≤ i ∧ i < A.length + Y.length then Y[i - A.length]? else (A ++ (X ++ B) ++ R)[i]? := by
 simp only [List.append_assoc, List.getElem?_append, h]
 repeat' split
 all_goals first | rfl | (exfalso; omega) | (congr 1; omega)
set_option maxHeartbeats 1000000 in
theorem OpA.sortW {T : Type} [Inhabited T] {enc : T → D} {ρ : Ren} (L : SlLaysF0.n6 P ρ) {k : Nat} (aE : ∀ w, (isAgg (ρ.t 24)).run P w = .ok true w) (zE : ∀ w, (Go.sizeOf (ρ.t 24)).run P w = .ok k w) {encV : T → List Value} (hk : ∀ x, (encV x).length = k)
   (h1 : ∀ x, ∀ v ∈ encV x, v.oneCell' = true) (he : ∀ x, enc x = .agg ((encV x).map D.v)) {cf : T → T → Int} {g f6 : Nat} (hf6 : ρ.f 6 = f6) {cl : Call} {fo s x : Operand} {c : Nat} {pre post : List D} {xs : List T} {h' : Heap} (ho : o.op = .call cl) (hc : cl.callee = .value fo) (hg : ev fr fo = .fn (.func f6) [] [])
   (hent : entersB P f6 = true) (ha : cl.args = #[s, x]) (hs : ev fr s = .own c k pre.length xs.length) (hx : ev fr x = .fn (.func g) [] []) (henG : entersB P g = true) (hcf : ∀ a b, @Fun flYes false P g [enc a, enc b] (fun d => d = D.i (cf a b)))
   (h0 : Fun false P f6 [.list k [], .fn (.func g) [] []] (fun d => d = .tup [])) (hq : SWO (ltOf cf) ∧ xs.length < 4611686018427387904)
   (hrepl : Repl c (.cells k (winL enc pre xs post)) c (.cells k (winL enc pre (sortF cf xs) post)) h h') (hK : K (.tup []) h') : OpA P o fr h K := by
 subst hf6
 intro A M w0 ac w hr hv next Q hn
 obtain ⟨vs, hvs, h2⟩ := call_wp ho hc hg hent hr hv
 intro ro
 refine wd_op h2 (by simp) ⟨fun h => (by cases h), wd_calls ?_⟩
 revert ro; intro _
 rw [ha] at hvs
 simp only [List.nil_append, List.append_nil, List.map_cons, List.map_nil, hs, hx] at hvs
 obtain ⟨hb1, hb2⟩ := hr.avoid
 cases hvs with
 | @cons _ _ vS _ hvS hvs =>
 cases hvs with
 | @cons _ _ vC _ hvC hvs =>
 cases hvs
 cases hvC with
 | @fn _ _ _ vs1 us1 e1 e2 =>
 cases e1; cases e2
 have hsl := sortF_len hq.1 xs
 cases hvS with
 | @own _ _ _ _ cap a hlc hd =>
 rcases hd with ⟨hev, rfl, e0, n0, hsh, hn0⟩ | ⟨hz1, hz2⟩
 · -- a block of ours
   obtain ⟨hok, hblk⟩ := hr.cells hrepl.has
   rcases hblk with ⟨hodd, _⟩ | ⟨_, arr, e, cs, ho1, hv1, hp1⟩
   · omega
   have hlt : c / 2 < w.heap.size := lt_of_shape hsh
   rw [winL, flats_append, flats_append, flats_encV he] at hv1
   obtain ⟨csP, csR, rfl, hvP, hvR⟩ := vl_split hv1
   obtain ⟨csX, csQ, rfl, hvX, hvQ⟩ := vl_split hvR
   have ex := vl_vals _ _ hvX
   subst ex
   have hokP : ∀ d ∈ pre, d.ok k := fun d hd => hok d (by simp [hd])
   have lP : csP.length = pre.length * k := by rw [← hvP.length, flats_length _ hokP]
   have lX : ∀ l : List T, (l.flatMap encV).length = l.length * k := by
     intro l
     induction l with
     | nil => simp
     | cons y l ih => rw [List.flatMap_cons, List.length_append, ih, hk, List.length_cons, Nat.add_mul]; omega
   obtain ⟨tl, htl⟩ := hp1
   have hsz : pre.length * k + xs.length * k ≤ arr.size := by
     have := congrArg List.length htl
     simp only [List.length_append, lX, lP, Array.length_toList] at this
     omega
   -- what the row holds
   have hH : HoldsK encV k w (c / 2) (pre.length * k) xs.toArray := by
     intro j hj
     have hj' : j < xs.length * k := by simpa using hj
     have e1 : (flatK encV k xs.toArray).toList[j]? = (xs.flatMap encV)[j]? := by rw [flatK_eq hk]
     have hjl : j < (xs.flatMap encV).length := by rw [lX]; exact hj'
     have e2 : arr[pre.length * k + j]? = (xs.flatMap encV)[j]? := by
       rw [← Array.getElem?_toList, ← htl, List.append_assoc, List.append_assoc, List.getElem?_append_right (by omega), lP, Nat.add_sub_cancel_left, List.getElem?_append_left hjl]
     refine ⟨?_, ho1.frozen (by omega)⟩
     rw [ho1.cell, e2, ← e1, Array.getElem?_toList, Array.getElem?_eq_getElem (by simpa using hj), getElem!_pos _ j (by simpa using hj)]; rfl
   have eg : ∀ args w, (callFunc g args).run P w = .ok (.enter g args) w := fun args w => run_enter henG args w
   -- the closure in every world of the sort
   have hcmp : CmpLays P g #[] encV k cf (c / 2) (pre.length * k) xs.toArray.size w := by
     intro m os dk hdk y z
     obtain ⟨q1, q2⟩ := sortWorldK_heap (encV := encV) (k := k) (off := pre.length * k) (m := m) (dk := dk) (os := os) hlt
     generalize hW : sortWorldK encV k w (c / 2) (pre.length * k) m dk os = W at q1 q2
     have hgl : Glob W (fun b => A (2 * b) ∨ 2 * b ∈ keys h) := by
       obtain ⟨W0, g0, g1⟩ := hr.glob
       refine ⟨W0, g0, fun i hi => ?_⟩
       obtain ⟨a1, a2, a3⟩ := g1 i hi
       refine ⟨a1, by omega, ?_⟩
       have hne : i ≠ c / 2 := by
         rintro rfl
         exact a1 (.inr (by have := hrepl.has.key; rwa [show 2 * (c / 2) = c from by omega]))
       rw [q1 i a2 hne]; exact a3
     have := hcf y z (fun c' => A c' ∨ c' ∈ keys h) W [.agg (encV y).toArray, .agg (encV z).toArray] hb1 (fun b hb => by have := hb2 b hb; omega) hgl (.cons (by rw [he]; exact .agg (vl_of_vals _)) (.cons (by rw [he]; exact .agg (vl_of_vals _)) .nil))
     refine this.mono ?_
     rintro e' w' ⟨v, d, rfl, rfl, hvv, hext⟩
     cases hvv
     exact ⟨rfl, @world_grown flYes _ _ trivial hext⟩
   have hcall := AnyQ.slices_SortFunc_eq L k aE zE encV hk h1 cf hq.1 g #[] (c / 2) (pre.length * k) cap xs.toArray w eg hcmp hH hlt (by simpa using hq.2)
   rw [show (xs.toArray.size) = xs.length by simp] at hcall
   refine hcall.mono ?_
   rintro e' w' ⟨rfl, n, os, rfl⟩
   -- the world behind it
   generalize hd' : pdq (ltOf cf) xs.toArray 0 xs.length (Lib.bitLen xs.length) true true = d'
   have hd2 : d'.toList = sortF cf xs := by unfold sortF; rw [hd']
   have hd3 : d' = (sortF cf xs).toArray := by rw [← hd2]
   obtain ⟨r1, m1⟩ := hr.quiet (w' := Sort.ahead w n) rfl rfl rfl rfl (by show w.drawn ≤ w.drawn + n; omega)
   have hfl : (flatK encV k d').toList = (sortF cf xs).flatMap encV := by rw [hd3]; exact flatK_eq hk _
   have hfs : (flatK encV k d').size = xs.length * k := by rw [← Array.length_toList, hfl, lX, hsl]
   obtain ⟨z, hz1, hz2⟩ := ho1
   have harr' : (putCells id (pre.length * k) (flatK encV k d') arr).toList = csP ++ ((sortF cf xs).flatMap encV ++ csQ) ++ tl := by
     have l2 := lX (sortF cf xs)
     have l1 := lX xs
     rw [hsl] at l2
     refine List.ext_getElem? fun i => ?_
     rw [splice_get csP (xs.flatMap encV) _ csQ tl (by rw [l1, l2]) i, Array.getElem?_toList]
     simp only [putCells, Array.getElem?_mapIdx]
     rw [← Array.getElem?_toList, ← htl, l2, lP]
     by_cases hi : pre.length * k ≤ i ∧ i < pre.length * k + xs.length * k
     · rw [if_pos hi]
       have hlen : i < (csP ++ (xs.flatMap encV ++ csQ) ++ tl).length := by simp only [List.length_append, l1, lP]; omega
       rw [List.getElem?_eq_getElem hlen, Option.map_some, if_pos (by rw [hfs]; exact hi), ← hfl, Array.getElem?_toList, Array.getElem?_eq_getElem (by omega), getElem!_pos _ (i - pre.length * k) (by omega)]; rfl
     · rw [if_neg hi]
       generalize (csP ++ (xs.flatMap encV ++ csQ) ++ tl)[i]? = q
       cases q with
       | none => rfl
       | some v => rw [Option.map_some, if_neg (by rw [hfs]; exact hi)]
   have hw1 : (putRowK encV k (Sort.ahead w n) (c / 2) (pre.length * k) d').heap[c / 2]? = some (.cells (putCells id (pre.length * k) (flatK encV k d') arr) e z) := by
     simp only [putRowK, putRow, mapBlock, Sort.ahead, Array.getElem?_modify, if_true, hz1, Option.map_some, onCells]
   have hpsz : (putCells id (pre.length * k) (flatK encV k d') arr).size = arr.size := by simp [putCells]
   obtain ⟨r2, m2⟩ := r1.write (sz' := k) (es' := winL enc pre (sortF cf xs) post) (w' := putRowK encV k (Sort.ahead w n) (c / 2) (pre.length * k) d') (arr := arr) (arr' := putCells id (pre.length * k) (flatK encV k d') arr) (e := e) (cs' := csP ++ ((sortF cf xs).flatMap encV ++ csQ)) hrepl hev (by
       intro d hd
       rcases List.mem_append.1 hd with hd | hd
       · exact hokP d hd
       · rcases List.mem_append.1 hd with hd | hd
         · obtain ⟨y, _, rfl⟩ := List.mem_map.1 hd
           rw [he]; exact ⟨by show ((encV y).map D.v).length = k; simpa using hk y, fun v hv => by
             obtain ⟨u, hu, rfl⟩ := List.mem_map.1 (show v ∈ (encV y).map D.v from hv)
             exact h1 y u hu⟩
         · exact hok d (by simp [hd])) ⟨z, hz1, hz2⟩ ⟨z, hw1, by rw [hpsz]; exact hz2⟩ hpsz (by
       rw [winL, flats_append, flats_append, flats_encV he]
       exact (hvP.mono m1).append ((vl_of_vals _).append (hvQ.mono m1))) ⟨tl, by rw [harr']⟩ (by simp [putRowK, putRow, mapBlock, Sort.ahead]) (fun b hb => by
       simp only [putRowK, putRow, mapBlock, Sort.ahead, Array.getElem?_modify]
       simp [Ne.symm hb]) rfl rfl ⟨rfl, rfl⟩
   have hext : Ext (fun _ => False) (putRowK encV k (Sort.ahead w n) (c / 2) (pre.length * k) d') (sortWorldK encV k w (c / 2) (pre.length * k) n d' os) :=
     ⟨rfl, rfl, rfl, by simp [sortWorldK, grow], fun b hb _ => by
       simp only [sortWorldK, grow]; rw [Array.getElem?_append_left hb], fun b hb => by
       apply shape_of_heap; simp only [sortWorldK, grow]; rw [Array.getElem?_append_left hb], fun _ => Nat.le_refl _⟩
   obtain ⟨r3, m3⟩ := r2.extend hext
   exact hn _ _ (.tup []) h' hK r3 ((m1.trans m2).trans m3) (.tup .nil)
 · -- nothing to sort
   have hx0 : xs = [] := List.eq_nil_of_length_eq_zero hz1
   subst hx0
   subst hz2
   have hs0 : sortF cf ([] : List T) = [] := List.eq_nil_of_length_eq_zero (by rw [hsl]; rfl)
   rw [hs0] at hrepl
   have hsame : h' = h := by
     obtain ⟨h1', h2', e1, e2⟩ := hrepl.split
     rw [e1, e2]
   subst hsame
   refine (h0 (fun c' => A c' ∨ c' ∈ keys h') w _ hb1 hb2 hr.glob (.cons (.list (ds := []) (cs := []) (b := 0) (o := 0) (by simp) .nil (by simp) (.inl rfl) (Nat.zero_le _)) (.cons (.fn (vs := []) (us := []) .nil .nil) .nil))).mono ?_
   rintro e' w' ⟨v, d, rfl, rfl, hvv, hext⟩
   obtain ⟨r1, r2⟩ := hr.extend hext
   exact hn v w' (.tup []) h' hK r1 r2 (hvv.mono (.less fun b hb => hb))
end
end Go.Lic
