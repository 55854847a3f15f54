/-
  A region whose order is drawn, of which some moves may come late.
-/
import Derived.Test.YtaofnefejkokdaaGreatDoorDraw
import Derived.Test.YtaofnefejkokdaaGreatDoorVr
import Derived.Sort.AssemblyPlain
import Derived.Shelf.SlSortCmp.Insertion
import Derived.Lib.BitFns
import Derived.Laws.StructEq
import Derived.KernelRfl
set_option linter.all false
namespace Go.Lic
section
variable {P : Program} {ops : Array Oper} {Q : Exit → Act → World → Prop}
end

section
end
end Go.Lic

set_option linter.all false
namespace Go.Lic

theorem pull1 {α : Type} {a b : α} {l : List α} : (a :: b :: l).Perm (b :: a :: l) := .swap _ _ _
theorem pull2 {α : Type} {a b c : α} {l : List α} : (a :: b :: c :: l).Perm (c :: a :: b :: l) := (pull1.cons a).trans pull1
theorem pull3 {α : Type} {a b c d : α} {l : List α} : (a :: b :: c :: d :: l).Perm (d :: a :: b :: c :: l) := (pull2.cons a).trans pull1
theorem CallH.mono {P : Program} {f : Nat} {ds : List D} {h : Heap} {K K' : D → Heap → Prop} (hc : CallH P f ds h K) (hk : ∀ d h', K d h' → K' d h') : CallH P f ds h K' := by
  intro A w vs hr hv
  refine (hc A w vs hr hv).mono ?_
  rintro e w' ⟨v, d, h', rfl, hK, q⟩
  exact ⟨v, d, h', rfl, hk d h' hK, q⟩

theorem CallH.shrink {P : Program} {f : Nat} {ds : List D} {h : Heap} {K : D → Heap → Prop} (hc : CallH P f ds h (fun d h' => ∃ h1 h0 : Heap, h'.Perm h1 ∧ List.Sublist h0 h1 ∧ K d h0)) : CallH P f ds h K := by
  intro A w vs hr hv
  refine (hc A w vs hr hv).mono ?_
  rintro e w' ⟨v, d, h', rfl, ⟨h1, h0, hp, hs, hk⟩, hrr, hm, hvv⟩
  obtain ⟨r1, m1⟩ := hrr.perm hp
  obtain ⟨r2, m2⟩ := r1.sub hs
  exact ⟨v, d, h0, rfl, hk, r2, (hm.trans m1).trans m2, hvv.mono (m1.trans m2)⟩

theorem CallH.of_bodyP {P : Program} {f : Nat} {fn : Func} {c : Code} {n : Nat} {ds : List D} {h : Heap} {K : D → Heap → Prop} (hf : P.funcs[f]? = some fn) (hb : fn.body = some c) (hn : fn.ntmps = n) (hd : Nat.ble ds.length n = true)
    (hh : wpA P n c (RetA P fn (fun d h' => ∃ h1 h0 : Heap, h'.Perm h1 ∧ List.Sublist h0 h1 ∧ K d h0)) (frOf ds) h) : CallH P f ds h K :=
  (CallH.of_body hf hb hn hd hh).shrink

section
variable {P : Program} {n : Nat} {ops : Array Oper} {l : List Oper} {Q : Post} {fr : Nat → D} {h h' : Heap}
theorem wpL_perm (hp : h.Perm h') (hh : wpL P n ops l Q fr h') : wpL P n ops l Q fr h :=
  fun A M w0 a w r => by
    obtain ⟨r1, m1⟩ := r.heap.perm hp
    exact hh A M w0 a w (r.turn r1 m1)
theorem Repl.same {c : Nat} {b : Blk} (hr : Repl c b c b h h') : h' = h := by
  obtain ⟨h1, h2, e1, e2⟩ := hr.split
  rw [e1, e2]
end

section
variable {P : Program} {o : Oper} {fr : Nat → D} {h : Heap} {K : D → Heap → Prop} {T : Type} [Inhabited T] {enc : T → D}
end
end Go.Lic

set_option linter.all false
namespace Go.Lic
open Go.Proofs Go.Sort

/-- What slices.SortFunc makes of a list. -/
def sortF {T : Type} [Inhabited T] (cf : T → T → Int) (l : List T) : List T := (pdq (ltOf cf) l.toArray 0 l.length (Lib.bitLen l.length) true true).toList
theorem sortF_perm {T : Type} [Inhabited T] {cf : T → T → Int} (hO : SWO (ltOf cf)) (l : List T) : (sortF cf l).Perm l := by
  have h := (pdq_sorts (ltOf cf) hO l.toArray 0 l.length (Lib.bitLen l.length) true true (Nat.zero_le _) (by simp) (Or.inl rfl)).1
  obtain ⟨h1, _, h3⟩ := h
  have e1 : (pdq (ltOf cf) l.toArray 0 l.length (Lib.bitLen l.length) true true).extract 0 l.length = pdq (ltOf cf) l.toArray 0 l.length (Lib.bitLen l.length) true true := by
    apply Array.ext'
    rw [Array.toList_extract]
    have : (pdq (ltOf cf) l.toArray 0 l.length (Lib.bitLen l.length) true true).toList.length = l.length := by rw [Array.length_toList, h1]; simp
    show ((pdq (ltOf cf) l.toArray 0 l.length (Lib.bitLen l.length) true true).toList.drop 0).take (l.length - 0) = _
    rw [List.drop_zero, Nat.sub_zero, List.take_of_length_le (by omega)]
  have e2 : l.toArray.extract 0 l.length = l.toArray := by
    apply Array.ext'
    rw [Array.toList_extract]
    simp [List.extract_eq_take_drop]
  rw [e1, e2] at h3
  simpa [sortF] using h3
theorem sortF_len {T : Type} [Inhabited T] {cf : T → T → Int} (hO : SWO (ltOf cf)) (l : List T) : (sortF cf l).length = l.length := (sortF_perm hO l).length_eq
theorem sortF_sorted {T : Type} [Inhabited T] {cf : T → T → Int} (hO : SWO (ltOf cf)) (l : List T) : ∀ i j, i < j → j < l.length → ¬ cf ((sortF cf l)[j]!) ((sortF cf l)[i]!) < 0 := by
  have h := (pdq_sorts (ltOf cf) hO l.toArray 0 l.length (Lib.bitLen l.length) true true (Nat.zero_le _) (by simp) (Or.inl rfl)).2
  intro i j hij hj
  have := h i j (Nat.zero_le _) hij hj
  simp only [ltOf, decide_eq_false_iff_not] at this
  unfold sortF
  rw [← List.getElem!_toArray, ← List.getElem!_toArray, Array.toArray_toList]
  exact this

end Go.Lic

set_option linter.all false
namespace Go.Lic

/-- Fields (offset, type) that are one cell each: equal or not. -/
inductive SEq (P : Program) (xs ys : List Value) : List (Nat × TypeId) → Bool → Prop
  | nil : SEq P xs ys [] true
  | str {o : Nat} {t : TypeId} {l : List (Nat × TypeId)} {r : Bool} {a c : ByteArray} (ht : P.underlying t = some .string) (hti : TI P t 1 false) (hx : xs[o]? = some (.string a)) (hy : ys[o]? = some (.string c)) (h : SEq P xs ys l r) : SEq P xs ys ((o, t) :: l) (decide (a = c) && r)
  | int {o : Nat} {t : TypeId} {l : List (Nat × TypeId)} {r : Bool} {k : IntKind} {a c : Int} (ht : P.underlying t = some (.int k)) (hti : TI P t 1 false) (hx : xs[o]? = some (.int k a)) (hy : ys[o]? = some (.int k c)) (h : SEq P xs ys l r) : SEq P xs ys ((o, t) :: l) (decide (a = c) && r)
  | bool {o : Nat} {t : TypeId} {l : List (Nat × TypeId)} {r : Bool} {a c : Bool} (ht : P.underlying t = some .bool) (hti : TI P t 1 false) (hx : xs[o]? = some (.bool a)) (hy : ys[o]? = some (.bool c)) (h : SEq P xs ys l r) : SEq P xs ys ((o, t) :: l) (decide (a = c) && r)

theorem run_part1 {P : Program} {t : TypeId} (hti : TI P t 1 false) {xs : List Value} {o : Nat} {v : Value} (h : xs[o]? = some v) (w : World) : (part t xs.toArray o).run P w = .ok v w := by
  simp only [part, Sem.run_bind, hti.isAgg, Result.andThen_ok, Bool.false_eq_true, if_false]
  simp [h]
theorem run_eqStr {P : Program} {t : TypeId} (ht : P.underlying t = some .string) (d : Nat) (a c : ByteArray) (w : World) : (Op.equalIn (d + 1) t (.string a) (.string c)).run P w = .ok (decide (a = c)) w := by
  simp only [Op.equalIn, Sem.run_bind, run_underlying ht, Result.andThen_ok, Sem.run_pure]
  rw [beq_toListBytes, str_beq]
theorem run_eqInt {P : Program} {t : TypeId} {k : IntKind} (ht : P.underlying t = some (.int k)) (d : Nat) (a c : Int) (w : World) : (Op.equalIn (d + 1) t (.int k a) (.int k c)).run P w = .ok (decide (a = c)) w := by
  simp [Op.equalIn, run_underlying ht]
  rw [Bool.eq_iff_iff]; simp
theorem run_eqBool {P : Program} {t : TypeId} (ht : P.underlying t = some .bool) (d : Nat) (a c : Bool) (w : World) : (Op.equalIn (d + 1) t (.bool a) (.bool c)).run P w = .ok (decide (a = c)) w := by
  simp [Op.equalIn, run_underlying ht]
  cases a <;> cases c <;> rfl
theorem SEq.run {P : Program} {xs ys : List Value} {l : List (Nat × TypeId)} {r : Bool} (h : SEq P xs ys l r) (d : Nat) (w : World) : ∀ fs : List Field, fs.map (fun f => (f.name == "_", f.offset, f.type)) = l.map (fun p => (false, p.1, p.2)) →
    (Op.eqFields (d + 1) xs.toArray ys.toArray fs).run P w = .ok r w := by
  induction h with
  | nil =>
    intro fs hf
    have : fs = [] := by simpa using hf
    subst this
    simp [Op.eqFields]
  | str ht hti hx hy _ ih =>
    intro fs hf
    cases fs with
    | nil => simp at hf
    | cons f fs =>
      simp only [List.map_cons, List.cons.injEq, Prod.mk.injEq] at hf
      obtain ⟨⟨h1, h2, h3⟩, hf⟩ := hf
      have h1' : f.name ≠ "_" := by simpa using h1
      simp only [Op.eqFields, h1', ne_eq, not_false_eq_true, if_true, Sem.run_bind, h2, h3, run_part1 hti hx, run_part1 hti hy, Result.andThen_ok, run_eqStr ht]
      split
      · next hc => simp at hc; simp [hc]
      · next hc => simp at hc; simp [hc, ih fs hf]
  | int ht hti hx hy _ ih =>
    intro fs hf
    cases fs with
    | nil => simp at hf
    | cons f fs =>
      simp only [List.map_cons, List.cons.injEq, Prod.mk.injEq] at hf
      obtain ⟨⟨h1, h2, h3⟩, hf⟩ := hf
      have h1' : f.name ≠ "_" := by simpa using h1
      simp only [Op.eqFields, h1', ne_eq, not_false_eq_true, if_true, Sem.run_bind, h2, h3, run_part1 hti hx, run_part1 hti hy, Result.andThen_ok, run_eqInt ht]
      split
      · next hc => simp at hc; simp [hc]
      · next hc => simp at hc; simp [hc, ih fs hf]
  | bool ht hti hx hy _ ih =>
    intro fs hf
    cases fs with
    | nil => simp at hf
    | cons f fs =>
      simp only [List.map_cons, List.cons.injEq, Prod.mk.injEq] at hf
      obtain ⟨⟨h1, h2, h3⟩, hf⟩ := hf
      have h1' : f.name ≠ "_" := by simpa using h1
      simp only [Op.eqFields, h1', ne_eq, not_false_eq_true, if_true, Sem.run_bind, h2, h3, run_part1 hti hx, run_part1 hti hy, Result.andThen_ok, run_eqBool ht]
      split
      · next hc => simp at hc; simp [hc]
      · next hc => simp at hc; simp [hc, ih fs hf]
theorem OpA.structcmp {P : Program} {o : Oper} {fr : Nat → D} {h : Heap} {K : D → Heap → Prop} {op : BinOp} {t t2 : TypeId} {x y : Operand} {xs ys : List Value} {r b : Bool} {l : List (Nat × TypeId)} (ho : o.op = .binOp op t x y t2) (hm : P.eqGuardType P.depth t = false)
    (hu : P.underlying t = some (.struct (P.fieldsOf t))) (hp : P.stoodInHeld t = false) (hl : (P.fieldsOf t).toList.map (fun f => (f.name == "_", f.offset, f.type)) = l.map (fun p => (false, p.1, p.2)))
    (hx : ev fr x = .agg (xs.map D.v)) (hy : ev fr y = .agg (ys.map D.v)) (hs : SEq P xs ys l r) (hop : (op = .eql ∧ b = r) ∨ (op = .neq ∧ b = !r)) (hk : K (.b b) h) : OpA P o fr h K :=
  .aggcmp ho hm hx hy (fun w => by rw [run_equalIn_struct w 9999 t _ _ hu hp]; exact hs.run 9998 w _ hl) hop hk
end Go.Lic

set_option linter.all false
namespace Go.Lic
/-- Which of n steps are done: the bits of a number. -/
def lv (n k : Nat) : Array Bool := ((List.range n).map fun i => k.testBit i).toArray
section
variable {P : Program} {n : Nat} {ops : Array Oper} {Q : Post} {fr : Nat → D} {h : Heap}
def wpS (P : Program) (n : Nat) (ops : Array Oper) (Q : Post) (fuel : Nat) (li : Array Bool) (fr : Nat → D) (h : Heap) : Prop :=
  ∀ A M w0 a w, Rel n A M w0 fr h a w → ∀ ro, wpAnyIn (Wd ro) 0 P .any ops (Conc n A M w0 Q) fuel li a w

theorem wpA_states {id : Nat} (hm : P.follows .mixedOrders = true) (hh : ∀ W : Nat → Array Bool → (Nat → D) → Heap → Prop, W = wpS P n ops Q → W ops.size (Array.replicate ops.size false) fr h) : wpA P n (.region id ops true) Q fr h := by
  intro A M w0 a0 w1 r0 ro hro
  refine wpIn_region_any hm ?_
  obtain ⟨q1, q2⟩ := r0.heap.quiet (w' := w1.drew) rfl rfl rfl rfl (Nat.le_succ _)
  exact hh _ rfl A M w0 a0 w1.drew (r0.turn q1 q2) ro

/-- What is to be shown of each operation that may come next. -/
def nextS (P : Program) (n : Nat) (ops : Array Oper) (Q : Post) (fuel : Nat) (li : Array Bool) (fr : Nat → D) (h : Heap) : List Nat → Prop
  | [] => True
  | i :: l => (∀ A M w0 a w, Rel n A M w0 fr h a w → ∀ ro, wpOpIn (Wd ro) 0 P ops (Conc n A M w0 Q) i (fun a' w' => wpAnyIn (Wd ro) 0 P .any ops (Conc n A M w0 Q) fuel (li.setIfInBounds i true) a' w') a w) ∧ nextS P n ops Q fuel li fr h l

theorem wpS_step {fuel : Nat} {li : Array Bool} {rs : List Nat} (hr : Region.ready .any ops li = rs) (hne : rs.isEmpty = false) (hall : nextS P n ops Q fuel li fr h rs) : wpS P n ops Q (fuel + 1) li fr h := by
  intro A M w0 a w r ro
  have : ∀ (l : List Nat), nextS P n ops Q fuel li fr h l → ∀ i ∈ l, wpOpIn (Wd ro) 0 P ops (Conc n A M w0 Q) i (fun a' w' => wpAnyIn (Wd ro) 0 P .any ops (Conc n A M w0 Q) fuel (li.setIfInBounds i true) a' w') a w := by
    intro l
    induction l with
    | nil => intro _ i hi; cases hi
    | cons j l ih =>
      intro hl i hi
      rcases List.mem_cons.1 hi with rfl | hi
      · exact hl.1 A M w0 a w r ro
      · exact ih hl.2 i hi
  refine ⟨fun h0 => ?_, fun i hi => this rs hall i (hr ▸ hi)⟩
  rw [hr] at h0
  rw [h0] at hne; simp at hne
theorem wpS_op {fuel i d : Nat} {li li' : Array Bool} {o : Oper} (hi : ops[i]? = some o) (hg : o.guard = none) (hd : o.dst = some d) (hn : Nat.blt d n = true) (hl : li.setIfInBounds i true = li')
    (hh : OpA P o fr h fun x h' => wpS P n ops Q fuel li' (upd fr d x) h') : ∀ A M w0 a w, Rel n A M w0 fr h a w → ∀ ro, wpOpIn (Wd ro) 0 P ops (Conc n A M w0 Q) i (fun a' w' => wpAnyIn (Wd ro) 0 P .any ops (Conc n A M w0 Q) fuel (li.setIfInBounds i true) a' w') a w := by
  intro A M w0 a w r ro
  unfold wpOpIn
  simp only [hi]
  rw [if_pos (by simp [Region.wanted, hg])]
  refine hh A M w0 a w r.heap (fun x _ => r.ev x) _ _ ?_ ro
  intro v w' x h' hk hr hm hv
  rw [hl]
  exact hk A M w0 _ w' (by rw [hd]; exact r.put hr hm (by simpa [Nat.blt_eq] using hn) hv) ro
theorem wpS_eff {fuel i : Nat} {li li' : Array Bool} {o : Oper} (hi : ops[i]? = some o) (hg : o.guard = none) (hd : o.dst = none) (hl : li.setIfInBounds i true = li')
    (hh : OpA P o fr h fun x h' => wpS P n ops Q fuel li' fr h') : ∀ A M w0 a w, Rel n A M w0 fr h a w → ∀ ro, wpOpIn (Wd ro) 0 P ops (Conc n A M w0 Q) i (fun a' w' => wpAnyIn (Wd ro) 0 P .any ops (Conc n A M w0 Q) fuel (li.setIfInBounds i true) a' w') a w := by
  intro A M w0 a w r ro
  unfold wpOpIn
  simp only [hi]
  rw [if_pos (by simp [Region.wanted, hg])]
  refine hh A M w0 a w r.heap (fun x _ => r.ev x) _ _ ?_ ro
  intro v w' x h' hk hr hm hv
  rw [hl]
  exact hk A M w0 _ w' (by rw [hd]; exact r.turn hr hm) ro
theorem wpS_done {li : Array Bool} (hr : Region.ready .any ops li = []) (hq : Q .normal fr h) : wpS P n ops Q 0 li fr h := fun A M w0 a w r ro => ⟨hr, fr, h, hq, r⟩
theorem wpS_to {W : Nat → Array Bool → (Nat → D) → Heap → Prop} (hW : W = wpS P n ops Q) {fuel : Nat} {li : Array Bool} {fr0 : Nat → D} {h0 : Heap} (hs : W fuel li fr0 h0) (hc : Cov fr fr0) (hp : h.Perm h0) : wpS P n ops Q fuel li fr h := by
  subst hW
  intro A M w0 a w r ro
  obtain ⟨r1, m1⟩ := r.heap.perm hp
  exact hs A M w0 a w ((r.turn r1 m1).cov hc) ro
theorem wpS_of {W : Nat → Array Bool → (Nat → D) → Heap → Prop} (hW : W = wpS P n ops Q) {fuel : Nat} {li : Array Bool} (hs : wpS P n ops Q fuel li fr h) : W fuel li fr h := by subst hW; exact hs
/-- What an operation yields, whatever the world is. -/
def Yield (P : Program) (o : Oper) (fr : Nat → D) (x : D) : Prop := ∀ (X : Nat → Prop) (w : World) (e : Operand → Value), (∀ y, y ∈ o.op.operands → V w X (ev fr y) (e y)) → ∃ v, (∀ w', (execOp e o).run P w' = .ok (.value v) w') ∧ V w X x v
theorem Yield.move {o : Oper} {x : Operand} (ho : o.op = .move x) : Yield P o fr (ev fr x) := fun X w e hv => ⟨e x, fun w' => by simp [execOp, ho], hv x (by simp [ho, Op.operands])⟩
theorem Yield.assign {o : Oper} {x : Operand} (ho : o.op = .assign x) : Yield P o fr (ev fr x) := fun X w e hv => ⟨e x, fun w' => by simp [execOp, ho], hv x (by simp [ho, Op.operands])⟩
theorem Yield.fieldAddr {o : Oper} {s : TypeId} {x : Operand} {f off c sz i k : Nat} (ho : o.op = .fieldAddr s x f) (hf : fieldOff P s f = some off) (hx : ev fr x = .ptr c sz i k) : Yield P o fr (.ptr c sz i (k + off)) := fun X w e hv => by
  have h1 := hv x (by simp [ho, Op.operands])
  rw [hx] at h1
  generalize hu : e x = u at h1
  cases h1 with
  | ptr hc =>
    refine ⟨_, fun w' => by simp only [execOp, ho, hu, Sem.run_bind, run_fieldAt hf, Result.andThen_ok, Sem.run_pure]; rfl, ?_⟩
    rw [Nat.add_assoc]; exact .ptr hc
theorem Yield.arith {o : Oper} {op : BinOp} {t t2 : TypeId} {x y : Operand} {a b r : Int} (ho : o.op = .binOp op t x y t2) (hx : ev fr x = .i a) (hy : ev fr y = .i b)
    (hop : (op = .add ∧ r = IntKind.i64.wrap (a + b)) ∨ (op = .sub ∧ r = IntKind.i64.wrap (a - b))) : Yield P o fr (.i r) := fun X w e hv => by
  have h1 := hv x (by simp [ho, Op.operands])
  have h2 := hv y (by simp [ho, Op.operands])
  rw [hx] at h1; rw [hy] at h2
  generalize hu : e x = u at h1
  generalize hu2 : e y = u2 at h2
  cases h1; cases h2
  refine ⟨_, fun w' => ?_, .v _⟩
  rcases hop with ⟨rfl, rfl⟩ | ⟨rfl, rfl⟩
  · simp [execOp, ho, hu, hu2, eqGuard_at_int, binOp_add, Op.intArith]
  · simp [execOp, ho, hu, hu2, eqGuard_at_int, binOp_sub, Op.intArith]
theorem Yield.addi {o : Oper} {t t2 : TypeId} {x y : Operand} {a b : Int} (ho : o.op = .binOp .add t x y t2) (hx : ev fr x = .i a) (hy : ev fr y = .i b) (hb : -9223372036854775808 ≤ a + b ∧ a + b ≤ 9223372036854775807) : Yield P o fr (.i (a + b)) :=
  .arith ho hx hy (.inl ⟨rfl, (wrap64_in hb).symm⟩)
theorem Yield.subi {o : Oper} {t t2 : TypeId} {x y : Operand} {a b : Int} (ho : o.op = .binOp .sub t x y t2) (hx : ev fr x = .i a) (hy : ev fr y = .i b) (hb : -9223372036854775808 ≤ a - b ∧ a - b ≤ 9223372036854775807) : Yield P o fr (.i (a - b)) :=
  .arith ho hx hy (.inr ⟨rfl, (wrap64_in hb).symm⟩)
theorem flip_goal {a b : Prop} (h1 : a → b) (h2 : a) : b := h1 h2
end
end Go.Lic
/-! short forms: what the kernel sees by itself is filled in -/
namespace Go.Lic
section
variable {P : Program} {n : Nat} {ops : Array Oper} {Q : Post} {fr : Nat → D} {h : Heap}
end
end Go.Lic
