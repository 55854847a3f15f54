/-
  Functions that work on memory of the caller: contracts with a heap, and the rules that printed walks use for them.
-/
import Derived.Test.YtkifpidbpoghlaaGreatDoorVr
import Derived.Test.YtkifpidbpoghlaaGreatDoorDrawF
import Derived.Lib.Builder
import Derived.Lib.UnsafeStr
import Derived.Laws.Externs
import Derived.Test.YtkifpidbpoghlaaGreatDoorRange
import Derived.KernelRfl
set_option linter.all false
namespace Go.Lic
variable [Fl]
theorem pull1 {α : Type} {a b : α} {l : List α} : (a :: b :: l).Perm (b :: a :: l) := .swap _ _ _
theorem pull2 {α : Type} {a b c : α} {l : List α} : (a :: b :: c :: l).Perm (c :: a :: b :: l) := (pull1.cons a).trans pull1
theorem pull3 {α : Type} {a b c d : α} {l : List α} : (a :: b :: c :: d :: l).Perm (d :: a :: b :: c :: l) := (pull2.cons a).trans pull1
theorem pull4 {α : Type} {a b c d e : α} {l : List α} : (a :: b :: c :: d :: e :: l).Perm (e :: a :: b :: c :: d :: l) := (pull3.cons a).trans pull1
theorem pull5 {α : Type} {a b c d e f : α} {l : List α} : (a :: b :: c :: d :: e :: f :: l).Perm (f :: a :: b :: c :: d :: e :: l) := (pull4.cons a).trans pull1
theorem pull6 {α : Type} {a b c d e f g : α} {l : List α} : (a :: b :: c :: d :: e :: f :: g :: l).Perm (g :: a :: b :: c :: d :: e :: f :: l) := (pull5.cons a).trans pull1
theorem CallH.mono {P : Program} {f : Nat} {ds : List D} {h : Heap} {K K' : D → Heap → Prop} (hc : CallH P f ds h K) (hk : ∀ d h', K d h' → K' d h') : CallH P f ds h K' := by
 intro A w vs hr hv
 refine (hc A w vs hr hv).mono ?_
 rintro e w' ⟨v, d, h', rfl, hK, q⟩
 exact ⟨v, d, h', rfl, hk d h' hK, q⟩
theorem CallH.shrink {P : Program} {f : Nat} {ds : List D} {h : Heap} {K : D → Heap → Prop} (hc : CallH P f ds h (fun d h' => ∃ h1 h0 : Heap, h'.Perm h1 ∧ List.Sublist h0 h1 ∧ K d h0)) : CallH P f ds h K := by
 intro A w vs hr hv
 refine (hc A w vs hr hv).mono ?_
 rintro e w' ⟨v, d, h', rfl, ⟨h1, h0, hp, hs, hk⟩, hrr, hm, hvv⟩
 obtain ⟨r1, m1⟩ := hrr.perm hp
 obtain ⟨r2, m2⟩ := r1.sub hs
 exact ⟨v, d, h0, rfl, hk, r2, (hm.trans m1).trans m2, hvv.mono (m1.trans m2)⟩
theorem CallH.of_bodyP {P : Program} {f : Nat} {fn : Func} {c : Code} {n : Nat} {ds : List D} {h : Heap} {K : D → Heap → Prop} (hf : P.funcs[f]? = some fn) (hb : fn.body = some c) (hn : fn.ntmps = n) (hd : Nat.ble ds.length n = true)
   (hh : wpA P n c (RetA P fn (fun d h' => ∃ h1 h0 : Heap, h'.Perm h1 ∧ List.Sublist h0 h1 ∧ K d h0)) (frOf ds) h) : CallH P f ds h K :=
 (CallH.of_body hf hb hn hd hh).shrink
section
variable {P : Program} {n : Nat} {ops : Array Oper} {l : List Oper} {Q : Post} {fr : Nat → D} {h h' : Heap}
theorem wpL_perm (hp : h.Perm h') (hh : wpL P n ops l Q fr h') : wpL P n ops l Q fr h :=
 fun A M w0 a w r => by
   obtain ⟨r1, m1⟩ := r.heap.perm hp
   exact hh A M w0 a w (r.turn r1 m1)
theorem Repl.same {c : Nat} {b : Blk} (hr : Repl c b c b h h') : h' = h := by
 obtain ⟨h1, h2, e1, e2⟩ := hr.split
 rw [e1, e2]
end
section
variable {P : Program} {o : Oper} {fr : Nat → D} {h : Heap} {K : D → Heap → Prop} {T : Type} [Inhabited T] {enc : T → D}
end
end Go.Lic
set_option linter.all false
namespace Go.Lic
variable [Fl]
section
variable {P : Program} {o : Oper} {fr : Nat → D} {h : Heap} {K : D → Heap → Prop}
end
end Go.Lic
set_option linter.all false
namespace Go.Lic
variable [Fl]
section
variable {P : Program} {o : Oper} {fr : Nat → D} {h : Heap} {K : D → Heap → Prop} {T : Type} [Inhabited T] {enc : T → D}
end
section
variable {P : Program} {o : Oper} {fr : Nat → D} {h : Heap} {K : D → Heap → Prop}
end
end Go.Lic
set_option linter.all false
namespace Go.Lic
variable [Fl]
section
variable {P : Program} {o : Oper} {fr : Nat → D} {h : Heap} {K : D → Heap → Prop}
end
end Go.Lic
set_option linter.all false
namespace Go.Lic
variable [Fl]
def SeqC (P : Program) (g : Nat) (cs : List D) (hb : Heap) (n0 : Nat) (arg : Nat → List D) : Prop :=
 ∀ (c n : Nat) (fr : Nat → D) (ps : Array Tmp) (assign body : Code) (I : Nat → Heap → Prop), (∀ j h, j < n0 → I j h → RoundA P n fr ps assign body (arg j) h (I (j + 1))) → ∀ h0, I 0 h0 →
   CallH P g (.fn (.yield (c / 2)) [] [] :: cs) ((c, .loop n fr ps assign body) :: (hb ++ h0)) (fun _ h' => ∃ h1 h2, h'.Perm ((c, .loop n fr ps assign body) :: h1) ∧ List.Sublist h2 h1 ∧ I n0 h2)
abbrev seqArg {T : Type} [Inhabited T] (enc : T → D) (xs : List T) (j : Nat) : List D := [enc (gi xs (j : Int))]
theorem wpA_seqs {P : Program} {n : Nat} {fr : Nat → D} {h hb hr : Heap} {Q : Post} {T S G : Type} [Inhabited T] {enc : T → D} {xs : List T} {L : (S × Int → Prop) → S × Int → Prop} {s0 : S} {f : Operand} {g : Nat} {cs : List D} {ps : Array Tmp} {assign body : Code} (g0 : G) (H : G → S → Heap) (hf : ev fr f = .fn (.func g) [] cs)
   (he : entersB P g = true) (hit : SeqC P g cs hb xs.length (seqArg enc xs)) (hl : gfp L (s0, 0)) (hp : h.Perm (hb ++ hr)) (hh : List.Sublist (H g0 s0) hr)
   (hnr : (noRange assign && noRange body && ps.toList.all (fun p => Nat.blt p n) && Nat.beq ps.size 1) = true)
   (round : ∀ (again : S × Int → Prop) g s i, 0 ≤ i ∧ i < (xs.length : Int) → L again (s, i) → wpA P n assign (fun e fr1 h1 => match e with | .normal => wpA P n body (fun e _ h2 => match e with | .normal => ∃ g s', again (s', i + 1) ∧ List.Sublist (H g s') h2 | _ => False) fr1 h1 | _ => False) (setP fr ps.toList [enc (gi xs i)]) (H g s))
   (hq : ∀ (again : S × Int → Prop) g s i, ¬ (0 ≤ i ∧ i < (xs.length : Int)) → L again (s, i) → Q .normal fr (H g s)) : wpA P n (.rangeFunc f ps assign body) Q fr h := by
 obtain ⟨J, j0, hJ⟩ := hl
 refine wpA_perm hp ?_
 refine wpA_rangeFunc (I := fun h1 => ∃ g s, J (s, (xs.length : Int)) ∧ List.Sublist (H g s) h1) hf he (fun c => ?_) ?_
 · refine CallH.mono (hit c n fr ps assign body (fun j h1 => ∃ g s, J (s, (j : Int)) ∧ List.Sublist (H g s) h1) ?_ hr ⟨g0, s0, by simpa using j0, hh⟩) (fun _ h' ⟨h1, h2, q1, q2, g, s, q3, q4⟩ => ⟨h1, q1, g, s, q3, q4.trans q2⟩)
   rintro j h1 hj ⟨g, s, hs, hsub⟩
   refine ⟨hnr, wpA_sub hsub (wpA_mono (round J g s _ ⟨by omega, by omega⟩ (hJ _ hs)) ?_)⟩
   intro e fr1 h1 q
   cases e with
   | normal =>
     refine wpA_mono q ?_
     intro e fr2 h2 q
     cases e with
     | normal =>
       obtain ⟨g', s', k1, k2⟩ := q
       exact ⟨g', s', by rw [show ((j + 1 : Nat) : Int) = (j : Int) + 1 by omega]; exact k1, k2⟩
     | _ => exact q.elim
   | _ => exact q.elim
 · rintro h1 ⟨g, s, hs, hsub⟩
   exact ⟨H g s, hsub, hq J g s _ (by omega) (hJ _ hs)⟩
abbrev NoGo (Q : Post) : Post
 | .goto _, _, _ => False
 | e, fr, h => Q e fr h
theorem stepR_scope {P : Program} {b : Frame} {a : Act} {k : List Item} {cs : List Frame} {w : World} {c : Code} : step P (lone (b.atR a (.code (.scope c) :: k)) cs w) = .next (lone (b.atR a (.code c :: .inScope c :: k)) cs w) :=
 step_lone_go (by simp [stepG, stepG.exec, Frame.atR])
theorem stepR_inScope {P : Program} {b : Frame} {a : Act} {k : List Item} {cs : List Frame} {w : World} {c : Code} : step P (lone (b.atR a (.inScope c :: k)) cs w) = .next (lone (b.atR a k) cs w) :=
 step_lone_go (by simp [stepG, stepG.exec, Frame.atR])
theorem wpA_scope {P : Program} {n : Nat} {fr : Nat → D} {h : Heap} {Q : Post} {c : Code} (hh : wpA P n c (NoGo Q) fr h) : wpA P n (.scope c) Q fr h := by
 intro A M w0 a w r ro hro b k cs hbr hb hr
 have h0 : (lone (b.atR a (.code (.scope c) :: k)) cs w).fenced P (Wd ro) := fenced_calm hb hr rfl
 obtain ⟨e, a₁, w₁, ⟨fr1, h1, hq, r1⟩, harr⟩ := hh A M w0 a w r ro hro b (.inScope c :: k) cs hbr hb hr
 cases e with
 | normal => exact ⟨.normal, a₁, w₁, ⟨fr1, h1, hq, r1⟩, .head h0 stepR_scope (StepsIn.trans harr (.one (fenced_calm hb hr rfl) stepR_inScope))⟩
 | exit id => exact ⟨.exit id, a₁, w₁, ⟨fr1, h1, hq, r1⟩, fun k' hk => .head h0 stepR_scope (harr.1 k' (by simp [exitTo, hk])), fun hr' hk => let ⟨k₁, h1, h2⟩ := harr.2 hr' (by simpa [exitTo] using hk); ⟨k₁, h1, .head h0 stepR_scope h2⟩⟩
 | goto l => exact hq.elim
 | ret => exact ⟨_, a₁, w₁, ⟨fr1, h1, hq, r1⟩, .of_steps (.one h0 stepR_scope) harr⟩
 | panic ch => exact ⟨_, a₁, w₁, ⟨fr1, h1, hq, r1⟩, .of_steps (.one h0 stepR_scope) harr⟩
 | outgrown => exact ⟨_, a₁, w₁, ⟨fr1, h1, hq, r1⟩, .of_steps (.one h0 stepR_scope) harr⟩
end Go.Lic
set_option linter.all false
namespace Go.Lic
variable [Fl]
def lv (n k : Nat) : Array Bool := ((List.range n).map fun i => k.testBit i).toArray
section
variable {P : Program} {n : Nat} {ops : Array Oper} {Q : Post} {fr : Nat → D} {h : Heap}
def wpS (P : Program) (n : Nat) (ops : Array Oper) (Q : Post) (fuel : Nat) (li : Array Bool) (fr : Nat → D) (h : Heap) : Prop :=
 ∀ A M w0 a w, Rel n A M w0 fr h a w → ∀ ro, wpAnyIn (Wd ro) 0 P .any ops (Conc n A M w0 Q) fuel li a w
theorem wpA_states {id : Nat} (hm : P.follows .mixedOrders = true) (hh : ∀ W : Nat → Array Bool → (Nat → D) → Heap → Prop, W = wpS P n ops Q → W ops.size (Array.replicate ops.size false) fr h) : wpA P n (.region id ops true) Q fr h := by
 intro A M w0 a0 w1 r0 ro hro
 refine wpIn_region_any hm ?_
 obtain ⟨q1, q2⟩ := r0.heap.quiet (w' := w1.drew) rfl rfl rfl rfl (Nat.le_succ _)
 exact hh _ rfl A M w0 a0 w1.drew (r0.turn q1 q2) ro
def nextS (P : Program) (n : Nat) (ops : Array Oper) (Q : Post) (fuel : Nat) (li : Array Bool) (fr : Nat → D) (h : Heap) : List Nat → Prop
 | [] => True
 | i :: l => (∀ A M w0 a w, Rel n A M w0 fr h a w → ∀ ro, wpOpIn (Wd ro) 0 P ops (Conc n A M w0 Q) i (fun a' w' => wpAnyIn (Wd ro) 0 P .any ops (Conc n A M w0 Q) fuel (li.setIfInBounds i true) a' w') a w) ∧ nextS P n ops Q fuel li fr h l
theorem wpS_step {fuel : Nat} {li : Array Bool} {rs : List Nat} (hr : Region.ready .any ops li = rs) (hne : rs.isEmpty = false) (hall : nextS P n ops Q fuel li fr h rs) : wpS P n ops Q (fuel + 1) li fr h := by
 intro A M w0 a w r ro
 have : ∀ (l : List Nat), nextS P n ops Q fuel li fr h l → ∀ i ∈ l, wpOpIn (Wd ro) 0 P ops (Conc n A M w0 Q) i (fun a' w' => wpAnyIn (Wd ro) 0 P .any ops (Conc n A M w0 Q) fuel (li.setIfInBounds i true) a' w') a w := by
   intro l
   induction l with
   | nil => intro _ i hi; cases hi
   | cons j l ih =>
     intro hl i hi
     rcases List.mem_cons.1 hi with rfl | hi
     · exact hl.1 A M w0 a w r ro
     · exact ih hl.2 i hi
 refine ⟨fun h0 => ?_, fun i hi => this rs hall i (hr ▸ hi)⟩
 rw [hr] at h0
 rw [h0] at hne; simp at hne
theorem wpS_op {fuel i d : Nat} {li li' : Array Bool} {o : Oper} (hi : ops[i]? = some o) (hg : o.guard = none) (hd : o.dst = some d) (hn : Nat.blt d n = true) (hl : li.setIfInBounds i true = li')
   (hh : OpA P o fr h fun x h' => wpS P n ops Q fuel li' (upd fr d x) h') : ∀ A M w0 a w, Rel n A M w0 fr h a w → ∀ ro, wpOpIn (Wd ro) 0 P ops (Conc n A M w0 Q) i (fun a' w' => wpAnyIn (Wd ro) 0 P .any ops (Conc n A M w0 Q) fuel (li.setIfInBounds i true) a' w') a w := by
 intro A M w0 a w r ro
 unfold wpOpIn
 simp only [hi]
 rw [if_pos (by simp [Region.wanted, hg])]
 refine hh A M w0 a w r.heap (fun x _ => r.ev x) _ _ ?_ ro
 intro v w' x h' hk hr hm hv
 rw [hl]
 exact hk A M w0 _ w' (by rw [hd]; exact r.put hr hm (by simpa [Nat.blt_eq] using hn) hv) ro
theorem wpS_eff {fuel i : Nat} {li li' : Array Bool} {o : Oper} (hi : ops[i]? = some o) (hg : o.guard = none) (hd : o.dst = none) (hl : li.setIfInBounds i true = li')
   (hh : OpA P o fr h fun x h' => wpS P n ops Q fuel li' fr h') : ∀ A M w0 a w, Rel n A M w0 fr h a w → ∀ ro, wpOpIn (Wd ro) 0 P ops (Conc n A M w0 Q) i (fun a' w' => wpAnyIn (Wd ro) 0 P .any ops (Conc n A M w0 Q) fuel (li.setIfInBounds i true) a' w') a w := by
 intro A M w0 a w r ro
 unfold wpOpIn
 simp only [hi]
 rw [if_pos (by simp [Region.wanted, hg])]
 refine hh A M w0 a w r.heap (fun x _ => r.ev x) _ _ ?_ ro
 intro v w' x h' hk hr hm hv
 rw [hl]
 exact hk A M w0 _ w' (by rw [hd]; exact r.turn hr hm) ro
theorem wpS_done {li : Array Bool} (hr : Region.ready .any ops li = []) (hq : Q .normal fr h) : wpS P n ops Q 0 li fr h := fun A M w0 a w r ro => ⟨hr, fr, h, hq, r⟩
theorem wpS_to {W : Nat → Array Bool → (Nat → D) → Heap → Prop} (hW : W = wpS P n ops Q) {fuel : Nat} {li : Array Bool} {fr0 : Nat → D} {h0 : Heap} (hs : W fuel li fr0 h0) (hc : Cov fr fr0) (hp : h.Perm h0) : wpS P n ops Q fuel li fr h := by
 subst hW
 intro A M w0 a w r ro
 obtain ⟨r1, m1⟩ := r.heap.perm hp
 exact hs A M w0 a w ((r.turn r1 m1).cov hc) ro
theorem wpS_of {W : Nat → Array Bool → (Nat → D) → Heap → Prop} (hW : W = wpS P n ops Q) {fuel : Nat} {li : Array Bool} (hs : wpS P n ops Q fuel li fr h) : W fuel li fr h := by subst hW; exact hs
def Yield (P : Program) (o : Oper) (fr : Nat → D) (x : D) : Prop := ∀ (X : Nat → Prop) (w : World) (e : Operand → Value), (∀ y, y ∈ o.op.operands → V w X (ev fr y) (e y)) → ∃ v, (∀ w', (execOp e o).run P w' = .ok (.value v) w') ∧ V w X x v
theorem Yield.move {o : Oper} {x : Operand} (ho : o.op = .move x) : Yield P o fr (ev fr x) := fun X w e hv => ⟨e x, fun w' => by simp [execOp, ho], hv x (by simp [ho, Op.operands])⟩
theorem Yield.fieldAddr {o : Oper} {s : TypeId} {x : Operand} {f off c sz i k : Nat} (ho : o.op = .fieldAddr s x f) (hf : fieldOff P s f = some off) (hx : ev fr x = .ptr c sz i k) : Yield P o fr (.ptr c sz i (k + off)) := fun X w e hv => by
 have h1 := hv x (by simp [ho, Op.operands])
 rw [hx] at h1
 generalize hu : e x = u at h1
 cases h1 with
 | ptr hc =>
   refine ⟨_, fun w' => by simp only [execOp, ho, hu, Sem.run_bind, run_fieldAt hf, Result.andThen_ok, Sem.run_pure]; rfl, ?_⟩
   rw [Nat.add_assoc]; exact .ptr hc
theorem wpS_firstY {x : D} {fuel i d : Nat} {li li' : Array Bool} {o : Oper} (hi : ops[i]? = some o) (hg : o.guard = none) (hY : Yield P o fr x) (hd : o.dst = some d) (hn : Nat.blt d n = true) (hae : o.after.toList.all (fun e => !Region.binds .any e || li.getD e.on false) = true)
   (hfree : Region.free .any ops li i = true) (hsel : Region.noSelect ops = true) (hQ : ∀ c fr h, Q (.panic c) fr h → False) (hlf : li.getD i false = false) (hs : li.size = ops.size) (hl : li.setIfInBounds i true = li')
   (hh : wpS P n ops Q fuel li' (upd fr d x) h) : wpS P n ops Q (fuel + 1) li fr h := by
 intro A M w0 a w r ro
 obtain ⟨v, hv1, hv2⟩ := hY (XX A h) w a.eval (fun y _ => r.ev y)
 have r' : Rel n A M w0 (upd fr d x) h (a.put o.dst v) w := by
   rw [hd]; exact r.put r.heap (Mono.refl _ _) (by simpa [Nat.blt_eq] using hn) hv2
 have ha : ∀ e ∈ o.after.toList, Region.binds .any e = true → li.getD e.on false = true := fun e he hb => by
   have := List.all_eq_true.1 hae e he
   rw [hb] at this; simpa using this
 have hy : Yields P ops o v a := .inl ⟨by simp [Region.wanted, hg], hv1⟩
 refine wpAnyW_first hi (fun j oj cs b => Region.noSelect_spec hsel j oj cs b) (fun c a w hc => by
     obtain ⟨fr', h', hq, _⟩ := hc
     exact (hQ c fr' h' hq).elim) fuel li a w (fun j oj hj hne hun hno => Region.free_spec hi hfree j oj hj hne hun hno) (Lic.mem_ready hs |>.2 ⟨o, hi, hlf, ha⟩) hy ?_
 rw [hl]
 exact hh A M w0 _ w r' ro
theorem flip_goal {a b : Prop} (h1 : a → b) (h2 : a) : b := h1 h2
end
end Go.Lic
namespace Go.Lic
variable [Fl]
section
variable {P : Program} {n : Nat} {ops : Array Oper} {Q : Post} {fr : Nat → D} {h : Heap}
end
end Go.Lic
