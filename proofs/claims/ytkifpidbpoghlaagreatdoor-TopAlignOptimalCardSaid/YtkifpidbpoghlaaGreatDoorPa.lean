/-
  A small program logic over abstract data ('D'): what a Go value reads as, with slices as lists. No program in sight. Not trusted: Lean checks it.
-/
import Derived.WalkKit
import Derived.Orders
import Derived.OrdersIn
import Derived.TacticsIn
import Derived.RangeFuncRecord
import Derived.RangeFuncLeaves
set_option linter.all false
namespace Go.Lic
inductive D where
 | v (x : Value)
 | agg (ds : List D)
 | list (sz : Nat) (ds : List D)
 | own (c sz i len : Nat)
 | ptr (c sz i k : Nat)
 | iptr (d : D) (k : Nat)
 | map (c : Nat)
 | fn (f : Fn) (first captured : List D)
 | tup (ds : List D)
 | iface (t : TypeId) (d : D)
 | top
 | tself (c T : Nat) (u : Bool)
 | tbuf (c e i len : Nat)
 | clip (sz : Nat) (ds : List D)
instance : Inhabited D := ⟨.v undef⟩
abbrev D.i (n : Int) : D := .v (.int .i64 n)
abbrev D.b (b : Bool) : D := .v (.bool b)
abbrev D.s (s : ByteArray) : D := .v (.string s)
def D.flat : D → List D
 | .agg ds => ds
 | d => [d]
def D.flats (ds : List D) : List D := ds.flatMap D.flat
def D.cell : D → Bool
 | .agg _ => false
 | .tup _ => false
 | .top => false
 | .v x => x.oneCell'
 | _ => true
def D.ok (sz : Nat) (d : D) : Prop := d.flat.length = sz ∧ ∀ x ∈ d.flat, x.cell = true
def Lie (w : World) (X : Nat → Prop) (b o : Nat) (cs : List Value) : Prop :=
 cs = [] ∨ (¬ X b ∧ ∀ j c, cs[j]? = some c → w.cell? ⟨b, o + j, none⟩ = some c)
mutual
inductive V (w : World) (X : Nat → Prop) : D → Value → Prop
 | v (x : Value) : V w X (.v x) x
 | agg {ds : List D} {vs : List Value} (h : VL w X ds vs) : V w X (.agg ds) (.agg vs.toArray)
 | list {sz : Nat} {ds : List D} {cs : List Value} {a : Option Addr} {b o cap : Nat} (hok : ∀ d ∈ ds, d.ok sz) (h : VL w X (D.flats ds) cs)
     (ha : cs ≠ [] → a = some ⟨b, o, none⟩) (hl : Lie w X b o cs) (hc : ds.length ≤ cap) : V w X (.list sz ds) (.slice a ds.length cap)
 | own {c sz i len cap : Nat} {a : Option Addr} (hc : len ≤ cap)
     (h : (c % 2 = 0 ∧ a = some ⟨c / 2, i * sz, none⟩ ∧ ∃ e n, w.shape? (c / 2) = some (e, n) ∧ (i + cap) * sz ≤ n) ∨ (len = 0 ∧ cap = 0)) : V w X (.own c sz i len) (.slice a len cap)
 | ptr {c sz i k : Nat} (hc : c % 2 = 0) : V w X (.ptr c sz i k) (.pointer (some ⟨c / 2, i * sz + k, none⟩))
 | iptr {d : D} {k : Nat} {cs : List Value} {b o : Nat} (hok : ∀ x ∈ d.flat, x.cell = true) (h : VL w X d.flat cs) (hl : Lie w X b o cs) : V w X (.iptr d k) (.pointer (some ⟨b, o + k, none⟩))
 | map {c : Nat} (hc : c % 2 = 0) : V w X (.map c) (.map (some (c / 2)))
 | fn {f : Fn} {ds es : List D} {vs us : List Value} (h : VL w X ds vs) (h' : VL w X es us) : V w X (.fn f ds es) (.func f vs.toArray us.toArray)
 | tup {ds : List D} {vs : List Value} (h : VL w X ds vs) : V w X (.tup ds) (.tuple vs.toArray)
 | iface {t : TypeId} {d : D} {x : Value} (h : V w X d x) : V w X (.iface t d) (.iface t x)
 | top (x : Value) : V w X .top x
 | tself {c T : Nat} {u : Bool} (hc : c % 2 = 0) (h : w.shape? (c / 2) = some (T, 2)) : V w X (.tself c T u) (.pointer (cond u (some ⟨c / 2, 0, none⟩) none))
 | tbuf {c e i len cap : Nat} {a : Option Addr} (hc : len ≤ cap)
     (h : c % 2 = 0 ∧ a = some ⟨c / 2, i, none⟩ ∧ 0 < cap ∧ ∃ n, w.shape? (c / 2) = some (e, n) ∧ i + cap ≤ n) : V w X (.tbuf c e i len) (.slice a len cap)
 | clip {sz : Nat} {ds : List D} {cs : List Value} {a : Option Addr} {b o : Nat} (hok : ∀ d ∈ ds, d.ok sz) (h : VL w X (D.flats ds) cs)
     (ha : cs ≠ [] → a = some ⟨b, o, none⟩) (hl : Lie w X b o cs) : V w X (.clip sz ds) (.slice a ds.length ds.length)
inductive VL (w : World) (X : Nat → Prop) : List D → List Value → Prop
 | nil : VL w X [] []
 | cons {d : D} {ds : List D} {x : Value} {xs : List Value} (h : V w X d x) (hs : VL w X ds xs) : VL w X (d :: ds) (x :: xs)
end
structure Mono (w : World) (X : Nat → Prop) (w' : World) (X' : Nat → Prop) : Prop where
 size : w.heap.size ≤ w'.heap.size
 keep : ∀ b, b < w.heap.size → ¬ X b → w'.heap[b]? = w.heap[b]?
 shape : ∀ b, b < w.heap.size → w'.shape? b = w.shape? b
 avoid : ∀ b, b < w.heap.size → X' b → X b
theorem Mono.refl (w : World) (X : Nat → Prop) : Mono w X w X := ⟨Nat.le_refl _, fun _ _ _ => rfl, fun _ _ => rfl, fun _ _ h => h⟩
theorem Mono.trans {w w1 w2 : World} {X X1 X2 : Nat → Prop} (h : Mono w X w1 X1) (k : Mono w1 X1 w2 X2) : Mono w X w2 X2 where
 size := Nat.le_trans h.size k.size
 keep := fun b hb hx => (k.keep b (Nat.lt_of_lt_of_le hb h.size) (fun hx1 => hx (h.avoid b hb hx1))).trans (h.keep b hb hx)
 shape := fun b hb => (k.shape b (Nat.lt_of_lt_of_le hb h.size)).trans (h.shape b hb)
 avoid := fun b hb hx => h.avoid b hb (k.avoid b (Nat.lt_of_lt_of_le hb h.size) hx)
theorem Mono.less {w : World} {X X' : Nat → Prop} (h : ∀ b, X' b → X b) : Mono w X w X' := ⟨Nat.le_refl _, fun _ _ _ => rfl, fun _ _ => rfl, fun b _ hb => h b hb⟩
theorem lt_of_shape {w : World} {b e n : Nat} (h : w.shape? b = some (e, n)) : b < w.heap.size := by
 unfold World.shape? at h
 rcases Nat.lt_or_ge b w.heap.size with h' | h'
 · exact h'
 · rw [Array.getElem?_eq_none h'] at h; simp at h
theorem Lie.mono {w w' : World} {X X' : Nat → Prop} (hm : Mono w X w' X') {b o : Nat} {cs : List Value} (h : Lie w X b o cs) : Lie w' X' b o cs := by
 rcases h with h | ⟨hx, h⟩
 · exact .inl h
 · cases cs with
   | nil => exact .inl rfl
   | cons c cs =>
     have h0 := h 0 c rfl
     have hb : b < w.heap.size := World.block_lt_of_cell? (w := w) (a := ⟨b, o + 0, none⟩) h0
     exact .inr ⟨fun hx' => hx (hm.avoid b hb hx'), fun j c' hj => (World.cell?_of_block (w := w) (hm.keep b hb hx)).trans (h j c' hj)⟩
mutual
theorem V.mono {w w' : World} {X X' : Nat → Prop} (hm : Mono w X w' X') : ∀ {d : D} {x : Value}, V w X d x → V w' X' d x
 | _, _, .v x => .v x
 | _, _, .agg h => .agg (h.mono hm)
 | _, _, .list hok h ha hl hc => .list hok (h.mono hm) ha (hl.mono hm) hc
 | _, _, .own hc h => .own hc (h.imp (fun ⟨h1, h2, e, n, hs, hn⟩ => ⟨h1, h2, e, n, (hm.shape _ (lt_of_shape hs)).trans hs, hn⟩) id)
 | _, _, .ptr hc => .ptr hc
 | _, _, .iptr hok h hl => .iptr hok (h.mono hm) (hl.mono hm)
 | _, _, .map hc => .map hc
 | _, _, .fn h h' => .fn (h.mono hm) (h'.mono hm)
 | _, _, .tup h => .tup (h.mono hm)
 | _, _, .iface h => .iface (h.mono hm)
 | _, _, .top x => .top x
 | _, _, .tself hc hs => .tself hc ((hm.shape _ (lt_of_shape hs)).trans hs)
 | _, _, .tbuf hc ⟨h1, h2, h3, n, hs, hn⟩ => .tbuf hc ⟨h1, h2, h3, n, (hm.shape _ (lt_of_shape hs)).trans hs, hn⟩
 | _, _, .clip hok h ha hl => .clip hok (h.mono hm) ha (hl.mono hm)
theorem VL.mono {w w' : World} {X X' : Nat → Prop} (hm : Mono w X w' X') : ∀ {ds : List D} {xs : List Value}, VL w X ds xs → VL w' X' ds xs
 | _, _, .nil => .nil
 | _, _, .cons h hs => .cons (h.mono hm) (hs.mono hm)
end
theorem VL.length {w : World} {X : Nat → Prop} : ∀ {ds : List D} {xs : List Value}, VL w X ds xs → ds.length = xs.length
 | _, _, .nil => rfl
 | _, _, .cons _ hs => by simp [hs.length]
theorem VL.get {w : World} {X : Nat → Prop} : ∀ {ds : List D} {xs : List Value}, VL w X ds xs → ∀ (i : Nat) (d : D), ds[i]? = some d → ∃ x, xs[i]? = some x ∧ V w X d x
 | _, _, .nil, i, d, h => by simp at h
 | _, _, .cons h _, 0, d, hd => by simp at hd; subst hd; exact ⟨_, rfl, h⟩
 | _, _, .cons _ hs, i + 1, d, hd => by simpa using hs.get i d (by simpa using hd)
theorem VL.get' {w : World} {X : Nat → Prop} : ∀ {ds : List D} {xs : List Value}, VL w X ds xs → ∀ (i : Nat) (x : Value), xs[i]? = some x → ∃ d, ds[i]? = some d ∧ V w X d x
 | _, _, .nil, i, d, h => by simp at h
 | _, _, .cons h _, 0, d, hd => by simp at hd; subst hd; exact ⟨_, rfl, h⟩
 | _, _, .cons _ hs, i + 1, d, hd => by simpa using hs.get' i d (by simpa using hd)
theorem VL.append {w : World} {X : Nat → Prop} : ∀ {ds es : List D} {xs ys : List Value}, VL w X ds xs → VL w X es ys → VL w X (ds ++ es) (xs ++ ys)
 | _, _, _, _, .nil, k => k
 | _, _, _, _, .cons h hs, k => .cons h (hs.append k)
theorem VL.take {w : World} {X : Nat → Prop} : ∀ {ds : List D} {xs : List Value} (n : Nat), VL w X ds xs → VL w X (ds.take n) (xs.take n)
 | _, _, n, .nil => by simpa using .nil
 | _, _, 0, .cons _ _ => .nil
 | _, _, n + 1, .cons h hs => .cons h (hs.take n)
theorem VL.drop {w : World} {X : Nat → Prop} : ∀ {ds : List D} {xs : List Value} (n : Nat), VL w X ds xs → VL w X (ds.drop n) (xs.drop n)
 | _, _, n, .nil => by simpa using .nil
 | _, _, 0, .cons h hs => .cons h hs
 | _, _, n + 1, .cons h hs => hs.drop n
theorem VL.set {w : World} {X : Nat → Prop} : ∀ {ds : List D} {xs : List Value} (i : Nat) {d : D} {x : Value}, V w X d x → VL w X ds xs → VL w X (ds.set i d) (xs.set i x)
 | _, _, _, _, _, _, .nil => .nil
 | _, _, 0, _, _, h, .cons _ hs => .cons h hs
 | _, _, n + 1, _, _, h, .cons h' hs => .cons h' (hs.set n h)
theorem V.oneCell {w : World} {X : Nat → Prop} {d : D} {x : Value} (h : V w X d x) (hd : d.cell = true) : x.oneCell' = true := by
 cases h <;> first | rfl | exact hd | (simp [D.cell] at hd)
theorem V.flat {w : World} {X : Nat → Prop} {d : D} {x : Value} (h : V w X d x) (hx : d.cell = true ∨ ∃ ds, d = .agg ds) : VL w X d.flat x.cells.toList := by
 rcases hx with hx | ⟨ds, rfl⟩
 · cases h <;> first | (simp [D.cell] at hx; done) | skip
   case v => cases x <;> first | (simp [D.cell, Value.oneCell'] at hx; done) | exact .cons (.v _) .nil
   all_goals exact .cons (by constructor <;> assumption) .nil
 · cases h with
   | agg h => simpa [D.flat, Value.cells] using h
end Go.Lic
set_option linter.all false
namespace Go.Lic
def globIds : List Nat := [5, 1, 2]
def pow10L : List Int := [1, 10, 100, 1000, 10000, 100000, 1000000, 10000000, 100000000, 1000000000, 10000000000, 100000000000, 1000000000000, 10000000000000, 100000000000000, 1000000000000000, 10000000000000000, 100000000000000000, 1000000000000000000, 10000000000000000000]
def globP (w : World) : Prop := (∃ t z, w.heap[5]? = some (.cells (pow10L.map fun n => Value.int .u64 n).toArray t z)) ∧ (∃ u p, w.cell? ⟨1, 0, none⟩ = some (.iface u p)) ∧ (∃ u p, w.cell? ⟨2, 0, none⟩ = some (.iface u p))
end Go.Lic
set_option linter.all false
namespace Go.Lic
def gi {α : Type} [Inhabited α] (l : List α) (i : Int) : α := l.getD i.toNat default
def si {α : Type} (l : List α) (i : Int) (v : α) : List α := l.set i.toNat v
def lsub {α : Type} (l : List α) (lo hi : Int) : List α := (l.take hi.toNat).drop lo.toNat
def ssub (s : ByteArray) (lo hi : Int) : ByteArray := s.extract lo.toNat hi.toNat
def sgi (s : ByteArray) (i : Int) : Int := (s.data.toList.getD i.toNat 0).toNat
abbrev inI (n : Int) : Prop := -9223372036854775808 ≤ n ∧ n ≤ 9223372036854775807
abbrev inL (i : Int) (n : Nat) : Prop := 0 ≤ i ∧ i < n
abbrev inS (lo hi : Int) (n : Nat) : Prop := 0 ≤ lo ∧ lo ≤ hi ∧ hi ≤ n
def gand (k : IntKind) (a b : Int) : Int := k.wrap (BitVec.ofInt k.bits a &&& BitVec.ofInt k.bits b).toNat
def gor (k : IntKind) (a b : Int) : Int := k.wrap (BitVec.ofInt k.bits a ||| BitVec.ofInt k.bits b).toNat
def gshl (k : IntKind) (x y : Int) : Int := k.wrap (x * 2 ^ (min y.toNat k.bits))
def gshr (k : IntKind) (x y : Int) : Int := x.fdiv (2 ^ (min y.toNat k.bits))
def sbytes (s : ByteArray) : List Int := s.data.toList.map fun b => (b.toNat : Int)
def lfp {S : Type} (body : (S → Prop) → S → Prop) (s : S) : Prop := ∀ I : S → Prop, (∀ s, body I s → I s) → I s
def gfp {S : Type} (body : (S → Prop) → S → Prop) (s : S) : Prop := ∃ J : S → Prop, J s ∧ ∀ s, J s → body J s
theorem lfp_of {S : Type} {body : (S → Prop) → S → Prop} (Inv : S → Prop) (m : S → Nat) (round : ∀ s, Inv s → ∀ again : S → Prop, (∀ s', Inv s' → m s' < m s → again s') → body again s) {s : S} (h : Inv s) : lfp body s := by
 intro I hI
 generalize hk : m s = k
 induction k using Nat.strongRecOn generalizing s with
 | _ k ih =>
   subst hk
   exact hI s (round s h I fun s' h' hlt => ih _ hlt h' rfl)
section
variable {α : Type} [Inhabited α]
theorem gi_lt {l : List α} {i : Int} (h : inL i l.length) : gi l i = l[i.toNat]'(by omega) := by
 unfold gi; rw [List.getD_eq_getElem?_getD, List.getElem?_eq_getElem (by omega)]; rfl
theorem gi_get? {l : List α} {i : Int} (h : inL i l.length) : l[i.toNat]? = some (gi l i) := by
 rw [gi_lt h]; exact List.getElem?_eq_getElem _
theorem gi_nat {l : List α} {i : Nat} (h : i < l.length) : gi l (i : Int) = l[i] := by
 rw [gi_lt (by omega)]; congr 1
theorem gi_mem {l : List α} {i : Int} (h : inL i l.length) : gi l i ∈ l := by rw [gi_lt h]; exact List.getElem_mem _
end
@[simp] theorem si_length {α : Type} (l : List α) (i : Int) (v : α) : (si l i v).length = l.length := by simp [si]
theorem sgi_bd (s : ByteArray) (i : Int) : 0 ≤ sgi s i ∧ sgi s i ≤ 255 := by
 unfold sgi; have := (s.data.toList.getD i.toNat 0).toNat_lt; omega
theorem lsub_length {α : Type} {l : List α} {lo hi : Int} (h : inS lo hi l.length) : (lsub l lo hi).length = (hi - lo).toNat := by simp [lsub]; omega
theorem lsub_from {α : Type} (l : List α) (lo : Int) : lsub l lo l.length = l.drop lo.toNat := by simp [lsub]
theorem lsub_to {α : Type} (l : List α) (hi : Int) : lsub l 0 hi = l.take hi.toNat := by simp [lsub]
theorem decT {p : Prop} [Decidable p] (h : decide p = true) : p := of_decide_eq_true h
theorem decF {p : Prop} [Decidable p] (h : decide p = false) : ¬ p := of_decide_eq_false h
theorem ndecT {p : Prop} [Decidable p] (h : (!decide p) = true) : ¬ p := by simpa using h
theorem ndecF {p : Prop} [Decidable p] (h : (!decide p) = false) : p := by simpa using h
theorem beqT {a b : Int} (h : (a == b) = true) : a = b := by simpa using h
theorem beqF {a b : Int} (h : (a == b) = false) : ¬ a = b := by simpa using h
theorem bneT {a b : Int} (h : (a != b) = true) : ¬ a = b := by simpa using h
theorem bneF {a b : Int} (h : (a != b) = false) : a = b := by simpa using h
theorem notT {b : Bool} (h : (!b) = true) : b = false := by simpa using h
theorem notF {b : Bool} (h : (!b) = false) : b = true := by simpa using h
theorem orS {a b : Bool} (h : a = true) : (a || b) = true := by simp [h]
theorem orN {a b v : Bool} (h : a = false) (h2 : b = v) : (a || b) = v := by simp [h, h2]
theorem andS {a b : Bool} (h : a = false) : (a && b) = false := by simp [h]
theorem andN {a b v : Bool} (h : a = true) (h2 : b = v) : (a && b) = v := by simp [h, h2]
theorem notFt {a : Bool} (h : a = true) : (!a) = false := by simp [h]
theorem or0 {a b : Bool} (h : (a || b) = true) : a = true ∨ b = true := by simpa using h
theorem or1 {a b : Bool} (h : (a || b) = false) : a = false := by simp at h; exact h.1
theorem or2 {a b : Bool} (h : (a || b) = false) : b = false := by simp at h; exact h.2
theorem and0 {a b : Bool} (h : (a && b) = false) : a = false ∨ b = false := by cases a <;> cases b <;> simp_all
theorem and1 {a b : Bool} (h : (a && b) = true) : a = true := by simp at h; exact h.1
theorem and2 {a b : Bool} (h : (a && b) = true) : b = true := by simp at h; exact h.2
abbrev gmin (z : Int) (l : List Int) : Int := l.foldl (fun x y => if y < x then y else x) z
abbrev gmax (z : Int) (l : List Int) : Int := l.foldl (fun x y => if x < y then y else x) z
abbrev encL {α : Type} (sz : Nat) (e : α → D) (l : List α) : D := .list sz (l.map e)
abbrev D.k (k : IntKind) (n : Int) : D := .v (.int k n)
end Go.Lic
set_option linter.all false
namespace Go.Lic
def fori {S : Type} (f : S → Nat → S) (s : S) (n : Nat) : S := (List.range n).foldl f s
@[simp] theorem fori_zero {S : Type} (f : S → Nat → S) (s : S) : fori f s 0 = s := rfl
end Go.Lic
set_option linter.all false
namespace Go.Lic
section
variable {α : Type} [DecidableEq α]
def lcs : List α → List α → Nat
 | [], _ => 0
 | _ :: _, [] => 0
 | x :: a, y :: b => max (max (lcs a (y :: b)) (lcs (x :: a) b)) (if x = y then 1 + lcs a b else 0)
termination_by a b => a.length + b.length
theorem lcs_nil (b : List α) : lcs [] b = 0 := by rw [lcs]
theorem lcs_nil2 (a : List α) : lcs a [] = 0 := by cases a <;> rw [lcs]
theorem lcs_cons (x y : α) (a b : List α) : lcs (x :: a) (y :: b) = max (max (lcs a (y :: b)) (lcs (x :: a) b)) (if x = y then 1 + lcs a b else 0) := by rw [lcs]
theorem lcs_left (x : α) (a b : List α) : lcs a b ≤ lcs (x :: a) b := by
 cases b with
 | nil => rw [lcs_nil2]; exact Nat.zero_le _
 | cons y b => rw [lcs_cons]; omega
theorem lcs_right (y : α) (a b : List α) : lcs a b ≤ lcs a (y :: b) := by
 cases a with
 | nil => rw [lcs_nil]; exact Nat.zero_le _
 | cons x a => rw [lcs_cons]; omega
theorem lcs_find : ∀ (a b : List α), 0 < lcs a b → ∃ i j, ∃ (hi : i < a.length) (hj : j < b.length), a[i] = b[j] ∧ 1 + lcs (a.drop (i + 1)) (b.drop (j + 1)) = lcs a b
 | [], b, h => by rw [lcs_nil] at h; omega
 | x :: a, [], h => by rw [lcs_nil2] at h; omega
 | x :: a, y :: b, h => by
   have e := lcs_cons x y a b
   by_cases h1 : lcs (x :: a) (y :: b) = lcs a (y :: b)
   · obtain ⟨i, j, hi, hj, e1, e2⟩ := lcs_find a (y :: b) (by omega)
     exact ⟨i + 1, j, by simpa using hi, hj, by simpa using e1, by rw [h1, List.drop_succ_cons]; exact e2⟩
   · by_cases h2 : lcs (x :: a) (y :: b) = lcs (x :: a) b
     · obtain ⟨i, j, hi, hj, e1, e2⟩ := lcs_find (x :: a) b (by omega)
       exact ⟨i, j + 1, hi, by simpa using hj, by simpa using e1, by rw [h2, List.drop_succ_cons]; exact e2⟩
     · by_cases hxy : x = y
       · rw [if_pos hxy] at e
         exact ⟨0, 0, by simp, by simp, by simpa using hxy, by simp only [Nat.zero_add, List.drop_succ_cons, List.drop_zero]; omega⟩
       · rw [if_neg hxy] at e; omega
termination_by a b => a.length + b.length
theorem lcs_le : ∀ (a b : List α), lcs a b ≤ a.length ∧ lcs a b ≤ b.length
 | [], b => by rw [lcs_nil]; exact ⟨Nat.zero_le _, Nat.zero_le _⟩
 | x :: a, [] => by rw [lcs_nil2]; exact ⟨Nat.zero_le _, Nat.zero_le _⟩
 | x :: a, y :: b => by
   have h1 := lcs_le a (y :: b); have h2 := lcs_le (x :: a) b; have h3 := lcs_le a b
   rw [lcs_cons]; simp only [List.length_cons] at *
   split <;> omega
termination_by a b => a.length + b.length
end
end Go.Lic
