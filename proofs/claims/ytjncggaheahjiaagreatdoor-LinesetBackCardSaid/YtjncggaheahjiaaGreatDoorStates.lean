/-
  A region whose order is drawn, state by state: what is done so far, the frame and the heap that belong to it.
-/
import Derived.Test.YtjncggaheahjiaaGreatDoorHv
import Derived.KernelRfl
set_option linter.all false
namespace Go.Lic
variable [Fl]
def lv (n k : Nat) : Array Bool := ((List.range n).map fun i => k.testBit i).toArray
section
variable {P : Program} {n : Nat} {ops : Array Oper} {Q : Post} {fr : Nat → D} {h : Heap}
def wpS (P : Program) (n : Nat) (ops : Array Oper) (Q : Post) (fuel : Nat) (li : Array Bool) (fr : Nat → D) (h : Heap) : Prop :=
 ∀ A M w0 a w, Rel n A M w0 fr h a w → ∀ ro, wpAnyIn (Wd ro) 0 P .any ops (Conc n A M w0 Q) fuel li a w
theorem wpA_states {id : Nat} (hm : P.follows .mixedOrders = true) (hh : ∀ W : Nat → Array Bool → (Nat → D) → Heap → Prop, W = wpS P n ops Q → W ops.size (Array.replicate ops.size false) fr h) : wpA P n (.region id ops true) Q fr h := by
 intro A M w0 a0 w1 r0 ro hro
 refine wpIn_region_any hm ?_
 obtain ⟨q1, q2⟩ := r0.heap.quiet (w' := w1.drew) rfl rfl rfl rfl (Nat.le_succ _)
 exact hh _ rfl A M w0 a0 w1.drew (r0.turn q1 q2) ro
def nextS (P : Program) (n : Nat) (ops : Array Oper) (Q : Post) (fuel : Nat) (li : Array Bool) (fr : Nat → D) (h : Heap) : List Nat → Prop
 | [] => True
 | i :: l => (∀ A M w0 a w, Rel n A M w0 fr h a w → ∀ ro, wpOpIn (Wd ro) 0 P ops (Conc n A M w0 Q) i (fun a' w' => wpAnyIn (Wd ro) 0 P .any ops (Conc n A M w0 Q) fuel (li.setIfInBounds i true) a' w') a w) ∧ nextS P n ops Q fuel li fr h l
theorem wpS_step {fuel : Nat} {li : Array Bool} {rs : List Nat} (hr : Region.ready .any ops li = rs) (hne : rs.isEmpty = false) (hall : nextS P n ops Q fuel li fr h rs) : wpS P n ops Q (fuel + 1) li fr h := by
 intro A M w0 a w r ro
 have : ∀ (l : List Nat), nextS P n ops Q fuel li fr h l → ∀ i ∈ l, wpOpIn (Wd ro) 0 P ops (Conc n A M w0 Q) i (fun a' w' => wpAnyIn (Wd ro) 0 P .any ops (Conc n A M w0 Q) fuel (li.setIfInBounds i true) a' w') a w := by
   intro l
   induction l with
   | nil => intro _ i hi; cases hi
   | cons j l ih =>
     intro hl i hi
     rcases List.mem_cons.1 hi with rfl | hi
     · exact hl.1 A M w0 a w r ro
     · exact ih hl.2 i hi
 refine ⟨fun h0 => ?_, fun i hi => this rs hall i (hr ▸ hi)⟩
 rw [hr] at h0
 rw [h0] at hne; simp at hne
theorem wpS_op {fuel i d : Nat} {li li' : Array Bool} {o : Oper} (hi : ops[i]? = some o) (hg : o.guard = none) (hd : o.dst = some d) (hn : Nat.blt d n = true) (hl : li.setIfInBounds i true = li')
   (hh : OpA P o fr h fun x h' => wpS P n ops Q fuel li' (upd fr d x) h') : ∀ A M w0 a w, Rel n A M w0 fr h a w → ∀ ro, wpOpIn (Wd ro) 0 P ops (Conc n A M w0 Q) i (fun a' w' => wpAnyIn (Wd ro) 0 P .any ops (Conc n A M w0 Q) fuel (li.setIfInBounds i true) a' w') a w := by
 intro A M w0 a w r ro
 unfold wpOpIn
 simp only [hi]
 rw [if_pos (by simp [Region.wanted, hg])]
 refine hh A M w0 a w r.heap (fun x _ => r.ev x) _ _ ?_ ro
 intro v w' x h' hk hr hm hv
 rw [hl]
 exact hk A M w0 _ w' (by rw [hd]; exact r.put hr hm (by simpa [Nat.blt_eq] using hn) hv) ro
theorem wpS_eff {fuel i : Nat} {li li' : Array Bool} {o : Oper} (hi : ops[i]? = some o) (hg : o.guard = none) (hd : o.dst = none) (hl : li.setIfInBounds i true = li')
   (hh : OpA P o fr h fun x h' => wpS P n ops Q fuel li' fr h') : ∀ A M w0 a w, Rel n A M w0 fr h a w → ∀ ro, wpOpIn (Wd ro) 0 P ops (Conc n A M w0 Q) i (fun a' w' => wpAnyIn (Wd ro) 0 P .any ops (Conc n A M w0 Q) fuel (li.setIfInBounds i true) a' w') a w := by
 intro A M w0 a w r ro
 unfold wpOpIn
 simp only [hi]
 rw [if_pos (by simp [Region.wanted, hg])]
 refine hh A M w0 a w r.heap (fun x _ => r.ev x) _ _ ?_ ro
 intro v w' x h' hk hr hm hv
 rw [hl]
 exact hk A M w0 _ w' (by rw [hd]; exact r.turn hr hm) ro
theorem wpS_done {li : Array Bool} (hr : Region.ready .any ops li = []) (hq : Q .normal fr h) : wpS P n ops Q 0 li fr h := fun A M w0 a w r ro => ⟨hr, fr, h, hq, r⟩
theorem wpS_to {W : Nat → Array Bool → (Nat → D) → Heap → Prop} (hW : W = wpS P n ops Q) {fuel : Nat} {li : Array Bool} {fr0 : Nat → D} {h0 : Heap} (hs : W fuel li fr0 h0) (hc : Cov fr fr0) (hp : h.Perm h0) : wpS P n ops Q fuel li fr h := by
 subst hW
 intro A M w0 a w r ro
 obtain ⟨r1, m1⟩ := r.heap.perm hp
 exact hs A M w0 a w ((r.turn r1 m1).cov hc) ro
theorem wpS_of {W : Nat → Array Bool → (Nat → D) → Heap → Prop} (hW : W = wpS P n ops Q) {fuel : Nat} {li : Array Bool} (hs : wpS P n ops Q fuel li fr h) : W fuel li fr h := by subst hW; exact hs
def Yield (P : Program) (o : Oper) (fr : Nat → D) (x : D) : Prop := ∀ (X : Nat → Prop) (w : World) (e : Operand → Value), (∀ y, y ∈ o.op.operands → V w X (ev fr y) (e y)) → ∃ v, (∀ w', (execOp e o).run P w' = .ok (.value v) w') ∧ V w X x v
theorem Yield.move {o : Oper} {x : Operand} (ho : o.op = .move x) : Yield P o fr (ev fr x) := fun X w e hv => ⟨e x, fun w' => by simp [execOp, ho], hv x (by simp [ho, Op.operands])⟩
theorem Yield.assign {o : Oper} {x : Operand} (ho : o.op = .assign x) : Yield P o fr (ev fr x) := fun X w e hv => ⟨e x, fun w' => by simp [execOp, ho], hv x (by simp [ho, Op.operands])⟩
theorem Yield.fieldAddr {o : Oper} {s : TypeId} {x : Operand} {f off c sz i k : Nat} (ho : o.op = .fieldAddr s x f) (hf : fieldOff P s f = some off) (hx : ev fr x = .ptr c sz i k) : Yield P o fr (.ptr c sz i (k + off)) := fun X w e hv => by
 have h1 := hv x (by simp [ho, Op.operands])
 rw [hx] at h1
 generalize hu : e x = u at h1
 cases h1 with
 | ptr hc =>
   refine ⟨_, fun w' => by simp only [execOp, ho, hu, Sem.run_bind, run_fieldAt hf, Result.andThen_ok, Sem.run_pure]; rfl, ?_⟩
   rw [Nat.add_assoc]; exact .ptr hc
theorem Yield.arith {o : Oper} {op : BinOp} {t t2 : TypeId} {x y : Operand} {a b r : Int} (ho : o.op = .binOp op t x y t2) (hx : ev fr x = .i a) (hy : ev fr y = .i b)
   (hop : (op = .add ∧ r = IntKind.i64.wrap (a + b)) ∨ (op = .sub ∧ r = IntKind.i64.wrap (a - b))) : Yield P o fr (.i r) := fun X w e hv => by
 have h1 := hv x (by simp [ho, Op.operands])
 have h2 := hv y (by simp [ho, Op.operands])
 rw [hx] at h1; rw [hy] at h2
 generalize hu : e x = u at h1
 generalize hu2 : e y = u2 at h2
 cases h1; cases h2
 refine ⟨_, fun w' => ?_, .v _⟩
 rcases hop with ⟨rfl, rfl⟩ | ⟨rfl, rfl⟩
 · simp [execOp, ho, hu, hu2, eqGuard_at_int, binOp_add, Op.intArith]
 · simp [execOp, ho, hu, hu2, eqGuard_at_int, binOp_sub, Op.intArith]
theorem Yield.addi {o : Oper} {t t2 : TypeId} {x y : Operand} {a b : Int} (ho : o.op = .binOp .add t x y t2) (hx : ev fr x = .i a) (hy : ev fr y = .i b) (hb : -9223372036854775808 ≤ a + b ∧ a + b ≤ 9223372036854775807) : Yield P o fr (.i (a + b)) :=
 .arith ho hx hy (.inl ⟨rfl, (wrap64_in hb).symm⟩)
theorem Yield.subi {o : Oper} {t t2 : TypeId} {x y : Operand} {a b : Int} (ho : o.op = .binOp .sub t x y t2) (hx : ev fr x = .i a) (hy : ev fr y = .i b) (hb : -9223372036854775808 ≤ a - b ∧ a - b ≤ 9223372036854775807) : Yield P o fr (.i (a - b)) :=
 .arith ho hx hy (.inr ⟨rfl, (wrap64_in hb).symm⟩)
theorem Yield.ifieldAddr {o : Oper} {s : TypeId} {x : Operand} {f off k : Nat} {d : D} (ho : o.op = .fieldAddr s x f) (hf : fieldOff P s f = some off) (hx : ev fr x = .iptr d k) : Yield P o fr (.iptr d (k + off)) := fun X w e hv => by
 have h1 := hv x (by simp [ho, Op.operands])
 rw [hx] at h1
 generalize hu : e x = u at h1
 cases h1 with
 | iptr h1 h2 h3 =>
   refine ⟨_, fun w' => by simp only [execOp, ho, hu, Sem.run_bind, run_fieldAt hf, Result.andThen_ok, Sem.run_pure]; rfl, ?_⟩
   rw [Nat.add_assoc]; exact .iptr h1 h2 h3
theorem Yield.conv {o : Oper} {s d : TypeId} {x : Operand} {k1 k2 : IntKind} {a : Int} (ho : o.op = .convert s d x) (hs : P.underlying s = some (.int k1)) (hd : P.underlying d = some (.int k2)) (hx : ev fr x = .v (.int k1 a)) : Yield P o fr (.v (.int k2 (k2.wrap a))) := fun X w e hv => by
 have h1 := hv x (by simp [ho, Op.operands])
 rw [hx] at h1
 generalize hu : e x = u at h1
 cases h1
 exact ⟨.int k2 (k2.wrap a), fun w' => by simp [execOp, ho, hu, convert, run_underlying hs, run_underlying hd, Conv.intToInt], .v _⟩
theorem Yield.len {o : Oper} {t e0 : TypeId} {c : Call} {x : Operand} {sz : Nat} {ds : List D} (ho : o.op = .call c) (hc : c.callee = .builtin .len) (ha : c.args = #[x]) (hty : c.argTypes = #[t]) (ht : P.underlying t = some (.slice e0)) (hx : ev fr x = .list sz ds) : Yield P o fr (.i ds.length) := fun X w e hv => by
 have h1 := hv x (by simp [ho, Op.operands, Call.operands, hc, ha])
 rw [hx] at h1
 generalize hu : e x = u at h1
 cases h1 with
 | list _ _ _ _ _ => exact ⟨.int .i64 ds.length, fun w' => by simp [execOp, ho, hc, resolve, invoke, builtin, Builtin.len_, hty, ha, hu, run_underlying ht, goInt], .v _⟩
theorem Yield.iix {T : Type} [Inhabited T] {enc : T → D} {o : Oper} {t et : TypeId} {bytes : Nat} {agg : Bool} {x ix : Operand} {kd : IntKind} {j : Int} {sz : Nat} {l : List T} (ho : o.op = .indexAddr t x ix) (ht : TS P t et sz bytes agg) (hsz : Nat.blt 0 sz = true) (hx : ev fr x = .list sz (l.map enc))
   (hi : ev fr ix = .v (.int kd j)) (hb : inL j l.length) : Yield P o fr (.iptr (enc (gi l j)) 0) := fun X w e hv => by
 have h1 := hv x (by simp [ho, Op.operands])
 have h2 := hv ix (by simp [ho, Op.operands])
 rw [hx] at h1; rw [hi] at h2
 have he : (l.map enc)[j.toNat]? = some (enc (gi l j)) := by rw [List.getElem?_map, gi_get? hb]; rfl
 generalize l.map enc = ds at *
 generalize enc (gi l j) = d at *
 have h0 := hb.1
 generalize hu : e x = u at h1
 generalize hu2 : e ix = u2 at h2
 cases h2
 have hlt := (List.getElem?_eq_some_iff.1 he).1
 have hsz : 0 < sz := by simpa [Nat.blt_eq] using hsz
 cases h1 with
 | @list _ _ cs _ b oo cap hok hvl ha hl hc =>
   have hll : (j : Int) < ds.length := by omega
   have hcs : cs ≠ [] := by
     intro hcs
     have := hvl.length
     rw [flats_length ds hok, hcs] at this
     have h3 : 0 < ds.length * sz := Nat.mul_pos (by omega) hsz
     simp at this; omega
   obtain rfl := ha hcs
   refine ⟨_, fun w' => by simp only [execOp, ho, hu, hu2, Instr.indexAt, asIntOf, Sem.run_bind, run_underlying ht.desc, Result.andThen_ok, Sem.run_pure, Sem.run_ite, if_pos (And.intro h0 hll), ht.elem.size, Addr.add_lit]; rfl, ?_⟩
   have hoke := hok d (List.mem_of_getElem? he)
   have hce := elem_cells hok hvl he
   refine .iptr (b := b) (o := oo + j.toNat * sz) (k := 0) hoke.2 hce ?_
   rcases hl with hl | ⟨hx1, hl⟩
   · exact absurd hl hcs
   · refine .inr ⟨hx1, fun q c' hq => ?_⟩
     have hqn : q < sz := by
       have := (List.getElem?_eq_some_iff.1 hq).1
       simp at this; omega
     rw [List.getElem?_take_of_lt hqn, List.getElem?_drop] at hq
     have := hl _ c' hq
     rwa [show oo + (j.toNat * sz + q) = oo + j.toNat * sz + q from by omega] at this
theorem wpS_firstY {x : D} {fuel i d : Nat} {li li' : Array Bool} {o : Oper} (hi : ops[i]? = some o) (hg : o.guard = none) (hY : Yield P o fr x) (hd : o.dst = some d) (hn : Nat.blt d n = true) (hae : o.after.toList.all (fun e => !Region.binds .any e || li.getD e.on false) = true)
   (hfree : Region.free .any ops li i = true) (hsel : Region.noSelect ops = true) (hQ : ∀ c fr h, Q (.panic c) fr h → False) (hlf : li.getD i false = false) (hs : li.size = ops.size) (hl : li.setIfInBounds i true = li')
   (hh : wpS P n ops Q fuel li' (upd fr d x) h) : wpS P n ops Q (fuel + 1) li fr h := by
 intro A M w0 a w r ro
 obtain ⟨v, hv1, hv2⟩ := hY (XX A h) w a.eval (fun y _ => r.ev y)
 have r' : Rel n A M w0 (upd fr d x) h (a.put o.dst v) w := by
   rw [hd]; exact r.put r.heap (Mono.refl _ _) (by simpa [Nat.blt_eq] using hn) hv2
 have ha : ∀ e ∈ o.after.toList, Region.binds .any e = true → li.getD e.on false = true := fun e he hb => by
   have := List.all_eq_true.1 hae e he
   rw [hb] at this; simpa using this
 have hy : Yields P ops o v a := .inl ⟨by simp [Region.wanted, hg], hv1⟩
 refine wpAnyW_first hi (fun j oj cs b => Region.noSelect_spec hsel j oj cs b) (fun c a w hc => by
     obtain ⟨fr', h', hq, _⟩ := hc
     exact (hQ c fr' h' hq).elim) fuel li a w (fun j oj hj hne hun hno => Region.free_spec hi hfree j oj hj hne hun hno) (Lic.mem_ready hs |>.2 ⟨o, hi, hlf, ha⟩) hy ?_
 rw [hl]
 exact hh A M w0 _ w r' ro
theorem flip_goal {a b : Prop} (h1 : a → b) (h2 : a) : b := h1 h2
end
end Go.Lic
namespace Go.Lic
variable [Fl]
section
variable {P : Program} {n : Nat} {ops : Array Oper} {Q : Post} {fr : Nat → D} {h : Heap}
end
end Go.Lic
