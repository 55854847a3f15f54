/-
  A small program logic over abstract data ('D'): what a Go value reads as, with slices as lists. No program in sight. Not trusted: Lean checks it.
-/
import Derived.WalkKit
import Derived.Orders
import Derived.OrdersIn
import Derived.TacticsIn
import Derived.RangeFuncRecord
import Derived.RangeFuncLeaves
set_option linter.all false
namespace Go.Lic
inductive D where
 | v (x : Value)
 | agg (ds : List D)
 | list (sz : Nat) (ds : List D)
 | own (c sz i len : Nat)
 | ptr (c sz i k : Nat)
 | iptr (d : D) (k : Nat)
 | map (c : Nat)
 | fn (f : Fn) (first captured : List D)
 | tup (ds : List D)
 | iface (t : TypeId) (d : D)
 | top
 | tself (c T : Nat) (u : Bool)
 | tbuf (c e i len : Nat)
 | clip (sz : Nat) (ds : List D)
instance : Inhabited D := ⟨.v undef⟩
abbrev D.i (n : Int) : D := .v (.int .i64 n)
abbrev D.b (b : Bool) : D := .v (.bool b)
abbrev D.s (s : ByteArray) : D := .v (.string s)
def D.flat : D → List D
 | .agg ds => ds
 | d => [d]
def D.flats (ds : List D) : List D := ds.flatMap D.flat
def D.cell : D → Bool
 | .agg _ => false
 | .tup _ => false
 | .top => false
 | .v x => x.oneCell'
 | _ => true
def D.ok (sz : Nat) (d : D) : Prop := d.flat.length = sz ∧ ∀ x ∈ d.flat, x.cell = true
def Lie (w : World) (X : Nat → Prop) (b o : Nat) (cs : List Value) : Prop :=
 cs = [] ∨ (¬ X b ∧ ∀ j c, cs[j]? = some c → w.cell? ⟨b, o + j, none⟩ = some c)
mutual
inductive V (w : World) (X : Nat → Prop) : D → Value → Prop
 | v (x : Value) : V w X (.v x) x
 | agg {ds : List D} {vs : List Value} (h : VL w X ds vs) : V w X (.agg ds) (.agg vs.toArray)
 | list {sz : Nat} {ds : List D} {cs : List Value} {a : Option Addr} {b o cap : Nat} (hok : ∀ d ∈ ds, d.ok sz) (h : VL w X (D.flats ds) cs)
     (ha : cs ≠ [] → a = some ⟨b, o, none⟩) (hl : Lie w X b o cs) (hc : ds.length ≤ cap) : V w X (.list sz ds) (.slice a ds.length cap)
 | own {c sz i len cap : Nat} {a : Option Addr} (hc : len ≤ cap)
     (h : (c % 2 = 0 ∧ a = some ⟨c / 2, i * sz, none⟩ ∧ ∃ e n, w.shape? (c / 2) = some (e, n) ∧ (i + cap) * sz ≤ n) ∨ (len = 0 ∧ cap = 0)) : V w X (.own c sz i len) (.slice a len cap)
 | ptr {c sz i k : Nat} (hc : c % 2 = 0) : V w X (.ptr c sz i k) (.pointer (some ⟨c / 2, i * sz + k, none⟩))
 | iptr {d : D} {k : Nat} {cs : List Value} {b o : Nat} (hok : ∀ x ∈ d.flat, x.cell = true) (h : VL w X d.flat cs) (hl : Lie w X b o cs) : V w X (.iptr d k) (.pointer (some ⟨b, o + k, none⟩))
 | map {c : Nat} (hc : c % 2 = 0) : V w X (.map c) (.map (some (c / 2)))
 | fn {f : Fn} {ds es : List D} {vs us : List Value} (h : VL w X ds vs) (h' : VL w X es us) : V w X (.fn f ds es) (.func f vs.toArray us.toArray)
 | tup {ds : List D} {vs : List Value} (h : VL w X ds vs) : V w X (.tup ds) (.tuple vs.toArray)
 | iface {t : TypeId} {d : D} {x : Value} (h : V w X d x) : V w X (.iface t d) (.iface t x)
 | top (x : Value) : V w X .top x
 | tself {c T : Nat} {u : Bool} (hc : c % 2 = 0) (h : w.shape? (c / 2) = some (T, 2)) : V w X (.tself c T u) (.pointer (cond u (some ⟨c / 2, 0, none⟩) none))
 | tbuf {c e i len cap : Nat} {a : Option Addr} (hc : len ≤ cap)
     (h : c % 2 = 0 ∧ a = some ⟨c / 2, i, none⟩ ∧ 0 < cap ∧ ∃ n, w.shape? (c / 2) = some (e, n) ∧ i + cap ≤ n) : V w X (.tbuf c e i len) (.slice a len cap)
 | clip {sz : Nat} {ds : List D} {cs : List Value} {a : Option Addr} {b o : Nat} (hok : ∀ d ∈ ds, d.ok sz) (h : VL w X (D.flats ds) cs)
     (ha : cs ≠ [] → a = some ⟨b, o, none⟩) (hl : Lie w X b o cs) : V w X (.clip sz ds) (.slice a ds.length ds.length)
inductive VL (w : World) (X : Nat → Prop) : List D → List Value → Prop
 | nil : VL w X [] []
 | cons {d : D} {ds : List D} {x : Value} {xs : List Value} (h : V w X d x) (hs : VL w X ds xs) : VL w X (d :: ds) (x :: xs)
end
structure Mono (w : World) (X : Nat → Prop) (w' : World) (X' : Nat → Prop) : Prop where
 size : w.heap.size ≤ w'.heap.size
 keep : ∀ b, b < w.heap.size → ¬ X b → w'.heap[b]? = w.heap[b]?
 shape : ∀ b, b < w.heap.size → w'.shape? b = w.shape? b
 avoid : ∀ b, b < w.heap.size → X' b → X b
theorem Mono.refl (w : World) (X : Nat → Prop) : Mono w X w X := ⟨Nat.le_refl _, fun _ _ _ => rfl, fun _ _ => rfl, fun _ _ h => h⟩
theorem Mono.trans {w w1 w2 : World} {X X1 X2 : Nat → Prop} (h : Mono w X w1 X1) (k : Mono w1 X1 w2 X2) : Mono w X w2 X2 where
 size := Nat.le_trans h.size k.size
 keep := fun b hb hx => (k.keep b (Nat.lt_of_lt_of_le hb h.size) (fun hx1 => hx (h.avoid b hb hx1))).trans (h.keep b hb hx)
 shape := fun b hb => (k.shape b (Nat.lt_of_lt_of_le hb h.size)).trans (h.shape b hb)
 avoid := fun b hb hx => h.avoid b hb (k.avoid b (Nat.lt_of_lt_of_le hb h.size) hx)
theorem Mono.less {w : World} {X X' : Nat → Prop} (h : ∀ b, X' b → X b) : Mono w X w X' := ⟨Nat.le_refl _, fun _ _ _ => rfl, fun _ _ => rfl, fun b _ hb => h b hb⟩
theorem lt_of_shape {w : World} {b e n : Nat} (h : w.shape? b = some (e, n)) : b < w.heap.size := by
 unfold World.shape? at h
 rcases Nat.lt_or_ge b w.heap.size with h' | h'
 · exact h'
 · rw [Array.getElem?_eq_none h'] at h; simp at h
theorem Lie.mono {w w' : World} {X X' : Nat → Prop} (hm : Mono w X w' X') {b o : Nat} {cs : List Value} (h : Lie w X b o cs) : Lie w' X' b o cs := by
 rcases h with h | ⟨hx, h⟩
 · exact .inl h
 · cases cs with
   | nil => exact .inl rfl
   | cons c cs =>
     have h0 := h 0 c rfl
     have hb : b < w.heap.size := World.block_lt_of_cell? (w := w) (a := ⟨b, o + 0, none⟩) h0
     exact .inr ⟨fun hx' => hx (hm.avoid b hb hx'), fun j c' hj => (World.cell?_of_block (w := w) (hm.keep b hb hx)).trans (h j c' hj)⟩
mutual
theorem V.mono {w w' : World} {X X' : Nat → Prop} (hm : Mono w X w' X') : ∀ {d : D} {x : Value}, V w X d x → V w' X' d x
 | _, _, .v x => .v x
 | _, _, .agg h => .agg (h.mono hm)
 | _, _, .list hok h ha hl hc => .list hok (h.mono hm) ha (hl.mono hm) hc
 | _, _, .own hc h => .own hc (h.imp (fun ⟨h1, h2, e, n, hs, hn⟩ => ⟨h1, h2, e, n, (hm.shape _ (lt_of_shape hs)).trans hs, hn⟩) id)
 | _, _, .ptr hc => .ptr hc
 | _, _, .iptr hok h hl => .iptr hok (h.mono hm) (hl.mono hm)
 | _, _, .map hc => .map hc
 | _, _, .fn h h' => .fn (h.mono hm) (h'.mono hm)
 | _, _, .tup h => .tup (h.mono hm)
 | _, _, .iface h => .iface (h.mono hm)
 | _, _, .top x => .top x
 | _, _, .tself hc hs => .tself hc ((hm.shape _ (lt_of_shape hs)).trans hs)
 | _, _, .tbuf hc ⟨h1, h2, h3, n, hs, hn⟩ => .tbuf hc ⟨h1, h2, h3, n, (hm.shape _ (lt_of_shape hs)).trans hs, hn⟩
 | _, _, .clip hok h ha hl => .clip hok (h.mono hm) ha (hl.mono hm)
theorem VL.mono {w w' : World} {X X' : Nat → Prop} (hm : Mono w X w' X') : ∀ {ds : List D} {xs : List Value}, VL w X ds xs → VL w' X' ds xs
 | _, _, .nil => .nil
 | _, _, .cons h hs => .cons (h.mono hm) (hs.mono hm)
end
theorem VL.length {w : World} {X : Nat → Prop} : ∀ {ds : List D} {xs : List Value}, VL w X ds xs → ds.length = xs.length
 | _, _, .nil => rfl
 | _, _, .cons _ hs => by simp [hs.length]
theorem VL.get {w : World} {X : Nat → Prop} : ∀ {ds : List D} {xs : List Value}, VL w X ds xs → ∀ (i : Nat) (d : D), ds[i]? = some d → ∃ x, xs[i]? = some x ∧ V w X d x
 | _, _, .nil, i, d, h => by simp at h
 | _, _, .cons h _, 0, d, hd => by simp at hd; subst hd; exact ⟨_, rfl, h⟩
 | _, _, .cons _ hs, i + 1, d, hd => by simpa using hs.get i d (by simpa using hd)
theorem VL.get' {w : World} {X : Nat → Prop} : ∀ {ds : List D} {xs : List Value}, VL w X ds xs → ∀ (i : Nat) (x : Value), xs[i]? = some x → ∃ d, ds[i]? = some d ∧ V w X d x
 | _, _, .nil, i, d, h => by simp at h
 | _, _, .cons h _, 0, d, hd => by simp at hd; subst hd; exact ⟨_, rfl, h⟩
 | _, _, .cons _ hs, i + 1, d, hd => by simpa using hs.get' i d (by simpa using hd)
theorem VL.append {w : World} {X : Nat → Prop} : ∀ {ds es : List D} {xs ys : List Value}, VL w X ds xs → VL w X es ys → VL w X (ds ++ es) (xs ++ ys)
 | _, _, _, _, .nil, k => k
 | _, _, _, _, .cons h hs, k => .cons h (hs.append k)
theorem VL.take {w : World} {X : Nat → Prop} : ∀ {ds : List D} {xs : List Value} (n : Nat), VL w X ds xs → VL w X (ds.take n) (xs.take n)
 | _, _, n, .nil => by simpa using .nil
 | _, _, 0, .cons _ _ => .nil
 | _, _, n + 1, .cons h hs => .cons h (hs.take n)
theorem VL.drop {w : World} {X : Nat → Prop} : ∀ {ds : List D} {xs : List Value} (n : Nat), VL w X ds xs → VL w X (ds.drop n) (xs.drop n)
 | _, _, n, .nil => by simpa using .nil
 | _, _, 0, .cons h hs => .cons h hs
 | _, _, n + 1, .cons h hs => hs.drop n
theorem VL.set {w : World} {X : Nat → Prop} : ∀ {ds : List D} {xs : List Value} (i : Nat) {d : D} {x : Value}, V w X d x → VL w X ds xs → VL w X (ds.set i d) (xs.set i x)
 | _, _, _, _, _, _, .nil => .nil
 | _, _, 0, _, _, h, .cons _ hs => .cons h hs
 | _, _, n + 1, _, _, h, .cons h' hs => .cons h' (hs.set n h)
theorem V.oneCell {w : World} {X : Nat → Prop} {d : D} {x : Value} (h : V w X d x) (hd : d.cell = true) : x.oneCell' = true := by
 cases h <;> first | rfl | exact hd | (simp [D.cell] at hd)
theorem V.flat {w : World} {X : Nat → Prop} {d : D} {x : Value} (h : V w X d x) (hx : d.cell = true ∨ ∃ ds, d = .agg ds) : VL w X d.flat x.cells.toList := by
 rcases hx with hx | ⟨ds, rfl⟩
 · cases h <;> first | (simp [D.cell] at hx; done) | skip
   case v => cases x <;> first | (simp [D.cell, Value.oneCell'] at hx; done) | exact .cons (.v _) .nil
   all_goals exact .cons (by constructor <;> assumption) .nil
 · cases h with
   | agg h => simpa [D.flat, Value.cells] using h
end Go.Lic
