/-
  A region whose order is open, with one new variable in it: made, stored into once, looked at by nothing else of the region.
-/
import Derived.Test.YtjncggaheahjiaaGreatDoorDraw
set_option linter.all false
namespace Go.Lic
variable [Fl]
theorem HRel.base {A M : Nat → Prop} {w0 w : World} {h : Heap} (hr : HRel A M w0 h w) : HRel A (fun b => 2 * b ∈ keys h) w h w :=
 ⟨hr.nodup, hr.blk, hr.free, fun c hc he => .inl (by show 2 * (c / 2) ∈ keys h; rw [show 2 * (c / 2) = c from by omega]; exact hc), hr.bound, hr.old, Ext.refl _ _, hr.glob⟩
def isAllocB (o : Oper) : Bool := match o.op with | .alloc _ => true | _ => false
def DetStep1 (P : Program) (ops : Array Oper) (h : Heap) (tp sz : Nat) (o : Oper) (fr : Nat → D) (d : D) : Prop :=
 (o.dst.isSome = true ∧ isAllocB o = false ∧ DetStep P ops h o fr d) ∨
 (∃ e, o.op = .alloc e ∧ o.guard = none ∧ o.dst = some tp ∧ ((P.info? e).bind (·.zero)).map (·.cells.size) = some sz ∧ d = .top) ∨
 (∃ t agg y, o.op = .store t (.tmp tp) y ∧ o.guard = none ∧ o.dst = none ∧ TI P t sz agg ∧ ev fr y = d ∧ d.ok sz)
inductive DetL1 (P : Program) (ops : Array Oper) (h : Heap) (tp sz : Nat) : List Oper → (Nat → D) → List D → Prop
 | nil {fr : Nat → D} : DetL1 P ops h tp sz [] fr []
 | cons {o : Oper} {l : List Oper} {fr : Nat → D} {d : D} {ds : List D} (h1 : DetStep1 P ops h tp sz o fr d) (h2 : DetL1 P ops h tp sz l (updO fr o.dst d) ds) : DetL1 P ops h tp sz (o :: l) fr (d :: ds)
def DetK1 (P : Program) (ops : Array Oper) (h : Heap) (tp sz : Nat) (l : List Oper) (fr : Nat → D) (C : (Nat → D) → List D → Prop) : Prop := ∃ ds, DetL1 P ops h tp sz l fr ds ∧ C (runFr fr l ds) ds
section
variable {P : Program} {ops : Array Oper} {h : Heap} {tp sz : Nat} {fr : Nat → D} {C : (Nat → D) → List D → Prop} {o : Oper} {l : List Oper} {d : D}
theorem DetK1.nil (hh : C fr []) : DetK1 P ops h tp sz [] fr C := ⟨[], .nil, hh⟩
theorem DetK1.op (hg : o.guard = none) (hs : o.dst.isSome = true) (hna : isAllocB o = false) (h1 : OpA P o fr h fun d' h' => d' = d ∧ h' = h) (h2 : DetK1 P ops h tp sz l (updO fr o.dst d) fun fr' ds => C fr' (d :: ds)) : DetK1 P ops h tp sz (o :: l) fr C := by
 obtain ⟨ds, h3, h4⟩ := h2
 exact ⟨d :: ds, .cons (.inl ⟨hs, hna, .inl ⟨hg, h1⟩⟩) h3, h4⟩
theorem DetK1.opg {j s : Nat} {want b : Bool} (hg : o.guard = some (j, want)) (hs : o.dst.isSome = true) (hna : isAllocB o = false) (hj : (ops[j]?).bind (·.dst) = some s) (hb : fr s = .b b) (hne : (b == want) = true) (h1 : OpA P o fr h fun d' h' => d' = d ∧ h' = h)
   (h2 : DetK1 P ops h tp sz l (updO fr o.dst d) fun fr' ds => C fr' (d :: ds)) : DetK1 P ops h tp sz (o :: l) fr C := by
 obtain ⟨ds, h3, h4⟩ := h2
 exact ⟨d :: ds, .cons (.inl ⟨hs, hna, .inr (.inl ⟨j, want, s, b, hg, hj, hb, .inl ⟨hne, h1⟩⟩)⟩) h3, h4⟩
theorem DetK1.skip {j s : Nat} {want b : Bool} (hg : o.guard = some (j, want)) (hs : o.dst.isSome = true) (hna : isAllocB o = false) (hj : (ops[j]?).bind (·.dst) = some s) (hb : fr s = .b b) (hne : (b == want) = false)
   (h2 : DetK1 P ops h tp sz l (updO fr o.dst (.v undef)) fun fr' ds => C fr' (.v undef :: ds)) : DetK1 P ops h tp sz (o :: l) fr C := by
 obtain ⟨ds, h3, h4⟩ := h2
 exact ⟨.v undef :: ds, .cons (.inl ⟨hs, hna, .inr (.inl ⟨j, want, s, b, hg, hj, hb, .inr ⟨hne, rfl⟩⟩)⟩) h3, h4⟩
theorem DetK1.skipU {j s : Nat} {want : Bool} (hg : o.guard = some (j, want)) (hs : o.dst.isSome = true) (hna : isAllocB o = false) (hj : (ops[j]?).bind (·.dst) = some s) (hb : fr s = .v undef)
   (h2 : DetK1 P ops h tp sz l (updO fr o.dst (.v undef)) fun fr' ds => C fr' (.v undef :: ds)) : DetK1 P ops h tp sz (o :: l) fr C := by
 obtain ⟨ds, h3, h4⟩ := h2
 exact ⟨.v undef :: ds, .cons (.inl ⟨hs, hna, .inr (.inr ⟨j, want, s, hg, hj, hb, rfl⟩)⟩) h3, h4⟩
theorem DetK1.alloc {e : TypeId} (ho : o.op = .alloc e) (hg : o.guard = none) (hd : o.dst = some tp) (hz : ((P.info? e).bind (·.zero)).map (·.cells.size) = some sz)
   (h2 : DetK1 P ops h tp sz l (upd fr tp .top) fun fr' ds => C fr' (.top :: ds)) : DetK1 P ops h tp sz (o :: l) fr C := by
 obtain ⟨ds, h3, h4⟩ := h2
 refine ⟨.top :: ds, .cons (.inr (.inl ⟨e, ho, hg, hd, hz, rfl⟩)) (by rw [hd]; exact h3), ?_⟩
 have : runFr fr (o :: l) (.top :: ds) = runFr (upd fr tp .top) l ds := by
   show runFr (updO fr o.dst .top) l ds = _
   rw [hd]
 rw [this]; exact h4
theorem DetK1.store {t : TypeId} {agg : Bool} {y : Operand} (ho : o.op = .store t (.tmp tp) y) (hg : o.guard = none) (hd : o.dst = none) (ht : TI P t sz agg) (hy : ev fr y = d) (hok : d.ok sz)
   (h2 : DetK1 P ops h tp sz l fr fun fr' ds => C fr' (d :: ds)) : DetK1 P ops h tp sz (o :: l) fr C := by
 obtain ⟨ds, h3, h4⟩ := h2
 refine ⟨d :: ds, .cons (.inr (.inr ⟨t, agg, y, ho, hg, hd, ht, hy, hok⟩)) (by rw [hd]; exact h3), ?_⟩
 have : runFr fr (o :: l) (d :: ds) = runFr fr l ds := by
   show runFr (updO fr o.dst d) l ds = _
   rw [hd]
 rw [this]; exact h4
theorem DetL1.length {l : List Oper} {fr : Nat → D} {ds : List D} (hd : DetL1 P ops h tp sz l fr ds) : ds.length = l.length := by
 induction hd with
 | nil => rfl
 | cons _ _ ih => simp [ih]
theorem DetL1.nth {l : List Oper} {fr : Nat → D} {ds : List D} (hd : DetL1 P ops h tp sz l fr ds) : ∀ (i : Nat) (o : Oper) (d : D), l[i]? = some o → ds[i]? = some d → DetStep1 P ops h tp sz o (runFr fr (l.take i) (ds.take i)) d := by
 induction hd with
 | nil => intro i o d h1; simp at h1
 | cons h1 _ ih =>
   intro i o d h2 h3
   cases i with
   | zero => simp at h2 h3; subst h2; subst h3; exact h1
   | succ i => simpa [runFr] using ih i o d (by simpa using h2) (by simpa using h3)
end
section
variable {P : Program} {ops : Array Oper}
end
end Go.Lic
