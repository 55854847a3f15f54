/-
  A region whose order is drawn, state by state: what is done so far, the frame and the heap that belong to it.
-/
import Derived.Test.YtnnbgemjkhgldaaDoorHv
set_option linter.all false
namespace Go.Lic
section
variable {P : Program} {n : Nat} {ops : Array Oper} {Q : Post} {fr : Nat → D} {h : Heap}
def wpS (P : Program) (n : Nat) (ops : Array Oper) (Q : Post) (fuel : Nat) (li : Array Bool) (fr : Nat → D) (h : Heap) : Prop :=
  ∀ A M w0 a w, Rel n A M w0 fr h a w → wpAny P .any ops (Conc n A M w0 Q) fuel li a w

theorem wpA_states {id : Nat} (hm : P.follows .mixedOrders = true) (hh : ∀ W : Nat → Array Bool → (Nat → D) → Heap → Prop, W = wpS P n ops Q → W ops.size (Array.replicate ops.size false) fr h) : wpA P n (.region id ops true) Q fr h := by
  intro A M w0 a0 w1 r0
  refine wp_region_any hm ?_
  obtain ⟨q1, q2⟩ := r0.heap.quiet (w' := w1.drew) rfl rfl rfl rfl (Nat.le_succ _)
  exact hh _ rfl A M w0 a0 w1.drew (r0.turn q1 q2)

/-- What is to be shown of each operation that may come next. -/
def nextS (P : Program) (n : Nat) (ops : Array Oper) (Q : Post) (fuel : Nat) (li : Array Bool) (fr : Nat → D) (h : Heap) : List Nat → Prop
  | [] => True
  | i :: l => (∀ A M w0 a w, Rel n A M w0 fr h a w → wpOp P ops (Conc n A M w0 Q) i (fun a' w' => wpAny P .any ops (Conc n A M w0 Q) fuel (li.setIfInBounds i true) a' w') a w) ∧ nextS P n ops Q fuel li fr h l

theorem wpS_step {fuel : Nat} {li : Array Bool} {rs : List Nat} (hr : Region.ready .any ops li = rs) (hne : rs.isEmpty = false) (hall : nextS P n ops Q fuel li fr h rs) : wpS P n ops Q (fuel + 1) li fr h := by
  intro A M w0 a w r
  have : ∀ (l : List Nat), nextS P n ops Q fuel li fr h l → ∀ i ∈ l, wpOp P ops (Conc n A M w0 Q) i (fun a' w' => wpAny P .any ops (Conc n A M w0 Q) fuel (li.setIfInBounds i true) a' w') a w := by
    intro l
    induction l with
    | nil => intro _ i hi; cases hi
    | cons j l ih =>
      intro hl i hi
      rcases List.mem_cons.1 hi with rfl | hi
      · exact hl.1 A M w0 a w r
      · exact ih hl.2 i hi
  refine ⟨fun h0 => ?_, fun i hi => this rs hall i (hr ▸ hi)⟩
  rw [hr] at h0
  rw [h0] at hne; simp at hne
theorem wpS_op {fuel i d : Nat} {li li' : Array Bool} {o : Oper} (hi : ops[i]? = some o) (hg : o.guard = none) (hd : o.dst = some d) (hn : Nat.blt d n = true) (hl : li.setIfInBounds i true = li')
    (hh : OpA P o fr h fun x h' => wpS P n ops Q fuel li' (upd fr d x) h') : ∀ A M w0 a w, Rel n A M w0 fr h a w → wpOp P ops (Conc n A M w0 Q) i (fun a' w' => wpAny P .any ops (Conc n A M w0 Q) fuel (li.setIfInBounds i true) a' w') a w := by
  intro A M w0 a w r
  unfold wpOp
  simp only [hi]
  rw [if_pos (by simp [Region.wanted, hg])]
  refine .inl (hh A M w0 a w r.heap (fun x _ => r.ev x) _ _ ?_)
  intro v w' x h' hk hr hm hv
  rw [hl]
  exact hk A M w0 _ w' (by rw [hd]; exact r.put hr hm (by simpa [Nat.blt_eq] using hn) hv)
theorem wpS_eff {fuel i : Nat} {li li' : Array Bool} {o : Oper} (hi : ops[i]? = some o) (hg : o.guard = none) (hd : o.dst = none) (hl : li.setIfInBounds i true = li')
    (hh : OpA P o fr h fun x h' => wpS P n ops Q fuel li' fr h') : ∀ A M w0 a w, Rel n A M w0 fr h a w → wpOp P ops (Conc n A M w0 Q) i (fun a' w' => wpAny P .any ops (Conc n A M w0 Q) fuel (li.setIfInBounds i true) a' w') a w := by
  intro A M w0 a w r
  unfold wpOp
  simp only [hi]
  rw [if_pos (by simp [Region.wanted, hg])]
  refine .inl (hh A M w0 a w r.heap (fun x _ => r.ev x) _ _ ?_)
  intro v w' x h' hk hr hm hv
  rw [hl]
  exact hk A M w0 _ w' (by rw [hd]; exact r.turn hr hm)
theorem wpS_done {li : Array Bool} (hr : Region.ready .any ops li = []) (hq : Q .normal fr h) : wpS P n ops Q 0 li fr h := fun A M w0 a w r => ⟨hr, fr, h, hq, r⟩
theorem wpS_to {W : Nat → Array Bool → (Nat → D) → Heap → Prop} (hW : W = wpS P n ops Q) {fuel : Nat} {li : Array Bool} {fr0 : Nat → D} {h0 : Heap} (hs : W fuel li fr0 h0) (hc : Cov fr fr0) (hp : h.Perm h0) : wpS P n ops Q fuel li fr h := by
  subst hW
  intro A M w0 a w r
  obtain ⟨r1, m1⟩ := r.heap.perm hp
  exact hs A M w0 a w ((r.turn r1 m1).cov hc)
theorem wpS_of {W : Nat → Array Bool → (Nat → D) → Heap → Prop} (hW : W = wpS P n ops Q) {fuel : Nat} {li : Array Bool} (hs : wpS P n ops Q fuel li fr h) : W fuel li fr h := by subst hW; exact hs
/-- A move that nothing holds back may be done first. -/
theorem wpS_first {fuel i d s : Nat} {li li' : Array Bool} {o : Oper} (hi : ops[i]? = some o) (hg : o.guard = none) (hop : o.op = .move (.tmp s)) (hd : o.dst = some d) (hn : Nat.blt d n = true) (hae : o.after.toList.all (fun e => !Region.binds .any e) = true)
    (hfree : Region.free .any ops (Array.replicate ops.size false) i = true) (hsel : Region.noSelect ops = true) (hQ : ∀ c fr h, Q (.panic c) fr h → False) (hlf : li.getD i false = false) (hs : li.size = ops.size) (hl : li.setIfInBounds i true = li')
    (hh : wpS P n ops Q fuel li' (upd fr d (fr s)) h) : wpS P n ops Q (fuel + 1) li fr h := by
  intro A M w0 a w r
  have r' : Rel n A M w0 (upd fr d (fr s)) h (a.put o.dst (a.eval (.tmp s))) w := by
    rw [hd]; exact r.put r.heap (Mono.refl _ _) (by simpa [Nat.blt_eq] using hn) (r.frame s)
  have ha : ∀ e ∈ o.after.toList, Region.binds .any e = true → li.getD e.on false = true := fun e he hb => by
    have := List.all_eq_true.1 hae e he
    rw [hb] at this; simp at this
  have hy : Yields P ops o (a.eval (.tmp s)) a := .inl ⟨by simp [Region.wanted, hg], fun w => by simp [execOp, hop]⟩
  refine wpAny_first hi (fun j oj cs b => Region.noSelect_spec hsel j oj cs b) (fun c a w hc => by
      obtain ⟨fr', h', hq, _⟩ := hc
      exact (hQ c fr' h' hq).elim) fuel li a w (fun j oj hj hne _ hno => Region.free_spec hi hfree j oj hj hne (by
      have := (Array.getElem?_eq_some_iff.1 hj).1
      simp [this]) hno) (Lic.mem_ready hs |>.2 ⟨o, hi, hlf, ha⟩) hy ?_
  rw [hl]
  exact hh A M w0 _ w r'
theorem flip_goal {a b : Prop} (h1 : a → b) (h2 : a) : b := h1 h2
end
end Go.Lic
