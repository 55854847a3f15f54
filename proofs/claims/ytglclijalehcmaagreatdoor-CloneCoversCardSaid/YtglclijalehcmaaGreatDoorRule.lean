/-
  A region whose order is open, with one new variable in it: made, stored into once, looked at by nothing else of the region.
-/
import Derived.Test.YtglclijalehcmaaGreatDoorDraw
import Derived.ChangeKeysEq
set_option linter.all false
namespace Go.Lic
theorem HRel.base {A M : Nat → Prop} {w0 w : World} {h : Heap} (hr : HRel A M w0 h w) : HRel A (fun b => 2 * b ∈ keys h) w h w :=
 ⟨hr.nodup, hr.blk, hr.free, fun c hc he => .inl (by show 2 * (c / 2) ∈ keys h; rw [show 2 * (c / 2) = c from by omega]; exact hc), hr.bound, hr.old, Ext.refl _ _, hr.glob⟩
def isAllocB (o : Oper) : Bool := match o.op with | .alloc _ => true | _ => false
def DetStep1 (P : Program) (ops : Array Oper) (h : Heap) (tp sz : Nat) (o : Oper) (fr : Nat → D) (d : D) : Prop :=
 (o.dst.isSome = true ∧ isAllocB o = false ∧ DetStep P ops h o fr d) ∨
 (∃ e, o.op = .alloc e ∧ o.guard = none ∧ o.dst = some tp ∧ ((P.info? e).bind (·.zero)).map (·.cells.size) = some sz ∧ d = .top) ∨
 (∃ t agg y, o.op = .store t (.tmp tp) y ∧ o.guard = none ∧ o.dst = none ∧ TI P t sz agg ∧ ev fr y = d ∧ d.ok sz)
inductive DetL1 (P : Program) (ops : Array Oper) (h : Heap) (tp sz : Nat) : List Oper → (Nat → D) → List D → Prop
 | nil {fr : Nat → D} : DetL1 P ops h tp sz [] fr []
 | cons {o : Oper} {l : List Oper} {fr : Nat → D} {d : D} {ds : List D} (h1 : DetStep1 P ops h tp sz o fr d) (h2 : DetL1 P ops h tp sz l (updO fr o.dst d) ds) : DetL1 P ops h tp sz (o :: l) fr (d :: ds)
def DetK1 (P : Program) (ops : Array Oper) (h : Heap) (tp sz : Nat) (l : List Oper) (fr : Nat → D) (C : (Nat → D) → List D → Prop) : Prop := ∃ ds, DetL1 P ops h tp sz l fr ds ∧ C (runFr fr l ds) ds
section
variable {P : Program} {ops : Array Oper} {h : Heap} {tp sz : Nat} {fr : Nat → D} {C : (Nat → D) → List D → Prop} {o : Oper} {l : List Oper} {d : D}
theorem DetK1.nil (hh : C fr []) : DetK1 P ops h tp sz [] fr C := ⟨[], .nil, hh⟩
theorem DetK1.op (hg : o.guard = none) (hs : o.dst.isSome = true) (hna : isAllocB o = false) (h1 : OpA P o fr h fun d' h' => d' = d ∧ h' = h) (h2 : DetK1 P ops h tp sz l (updO fr o.dst d) fun fr' ds => C fr' (d :: ds)) : DetK1 P ops h tp sz (o :: l) fr C := by
 obtain ⟨ds, h3, h4⟩ := h2
 exact ⟨d :: ds, .cons (.inl ⟨hs, hna, .inl ⟨hg, h1⟩⟩) h3, h4⟩
theorem DetK1.opg {j s : Nat} {want b : Bool} (hg : o.guard = some (j, want)) (hs : o.dst.isSome = true) (hna : isAllocB o = false) (hj : (ops[j]?).bind (·.dst) = some s) (hb : fr s = .b b) (hne : (b == want) = true) (h1 : OpA P o fr h fun d' h' => d' = d ∧ h' = h)
   (h2 : DetK1 P ops h tp sz l (updO fr o.dst d) fun fr' ds => C fr' (d :: ds)) : DetK1 P ops h tp sz (o :: l) fr C := by
 obtain ⟨ds, h3, h4⟩ := h2
 exact ⟨d :: ds, .cons (.inl ⟨hs, hna, .inr (.inl ⟨j, want, s, b, hg, hj, hb, .inl ⟨hne, h1⟩⟩)⟩) h3, h4⟩
theorem DetK1.skip {j s : Nat} {want b : Bool} (hg : o.guard = some (j, want)) (hs : o.dst.isSome = true) (hna : isAllocB o = false) (hj : (ops[j]?).bind (·.dst) = some s) (hb : fr s = .b b) (hne : (b == want) = false)
   (h2 : DetK1 P ops h tp sz l (updO fr o.dst (.v undef)) fun fr' ds => C fr' (.v undef :: ds)) : DetK1 P ops h tp sz (o :: l) fr C := by
 obtain ⟨ds, h3, h4⟩ := h2
 exact ⟨.v undef :: ds, .cons (.inl ⟨hs, hna, .inr (.inl ⟨j, want, s, b, hg, hj, hb, .inr ⟨hne, rfl⟩⟩)⟩) h3, h4⟩
theorem DetK1.skipU {j s : Nat} {want : Bool} (hg : o.guard = some (j, want)) (hs : o.dst.isSome = true) (hna : isAllocB o = false) (hj : (ops[j]?).bind (·.dst) = some s) (hb : fr s = .v undef)
   (h2 : DetK1 P ops h tp sz l (updO fr o.dst (.v undef)) fun fr' ds => C fr' (.v undef :: ds)) : DetK1 P ops h tp sz (o :: l) fr C := by
 obtain ⟨ds, h3, h4⟩ := h2
 exact ⟨.v undef :: ds, .cons (.inl ⟨hs, hna, .inr (.inr ⟨j, want, s, hg, hj, hb, rfl⟩)⟩) h3, h4⟩
theorem DetK1.alloc {e : TypeId} (ho : o.op = .alloc e) (hg : o.guard = none) (hd : o.dst = some tp) (hz : ((P.info? e).bind (·.zero)).map (·.cells.size) = some sz)
   (h2 : DetK1 P ops h tp sz l (upd fr tp .top) fun fr' ds => C fr' (.top :: ds)) : DetK1 P ops h tp sz (o :: l) fr C := by
 obtain ⟨ds, h3, h4⟩ := h2
 refine ⟨.top :: ds, .cons (.inr (.inl ⟨e, ho, hg, hd, hz, rfl⟩)) (by rw [hd]; exact h3), ?_⟩
 have : runFr fr (o :: l) (.top :: ds) = runFr (upd fr tp .top) l ds := by
   show runFr (updO fr o.dst .top) l ds = _
   rw [hd]
 rw [this]; exact h4
theorem DetK1.store {t : TypeId} {agg : Bool} {y : Operand} (ho : o.op = .store t (.tmp tp) y) (hg : o.guard = none) (hd : o.dst = none) (ht : TI P t sz agg) (hy : ev fr y = d) (hok : d.ok sz)
   (h2 : DetK1 P ops h tp sz l fr fun fr' ds => C fr' (d :: ds)) : DetK1 P ops h tp sz (o :: l) fr C := by
 obtain ⟨ds, h3, h4⟩ := h2
 refine ⟨d :: ds, .cons (.inr (.inr ⟨t, agg, y, ho, hg, hd, ht, hy, hok⟩)) (by rw [hd]; exact h3), ?_⟩
 have : runFr fr (o :: l) (d :: ds) = runFr fr l ds := by
   show runFr (updO fr o.dst d) l ds = _
   rw [hd]
 rw [this]; exact h4
theorem DetL1.length {l : List Oper} {fr : Nat → D} {ds : List D} (hd : DetL1 P ops h tp sz l fr ds) : ds.length = l.length := by
 induction hd with
 | nil => rfl
 | cons _ _ ih => simp [ih]
theorem DetL1.nth {l : List Oper} {fr : Nat → D} {ds : List D} (hd : DetL1 P ops h tp sz l fr ds) : ∀ (i : Nat) (o : Oper) (d : D), l[i]? = some o → ds[i]? = some d → DetStep1 P ops h tp sz o (runFr fr (l.take i) (ds.take i)) d := by
 induction hd with
 | nil => intro i o d h1; simp at h1
 | cons h1 _ ih =>
   intro i o d h2 h3
   cases i with
   | zero => simp at h2 h3; subst h2; subst h3; exact h1
   | succ i => simpa [runFr] using ih i o d (by simpa using h2) (by simpa using h3)
end
section
variable {P : Program} {ops : Array Oper}
end
end Go.Lic
set_option linter.all false
namespace Go.Lic
@[reducible] def asg : List (Nat × D) → Nat → D
 | [], _ => .top
 | (k, d) :: l, t => sel (Nat.beq t k) d (asg l t)
def Cov (fr fr0 : Nat → D) : Prop := ∀ t, fr0 t = .top ∨ fr0 t = fr t
def covL (fr : Nat → D) : List (Nat × D) → Prop
 | [] => True
 | (k, d) :: l => fr k = d ∧ covL fr l
theorem Cov.asg {fr : Nat → D} : ∀ {l : List (Nat × D)}, covL fr l → Cov fr (asg l)
 | [], _, _ => .inl rfl
 | (k, d) :: l, h, t => by
   show sel (Nat.beq t k) d (Lic.asg l t) = .top ∨ sel (Nat.beq t k) d (Lic.asg l t) = fr t
   cases hb : Nat.beq t k with
   | true =>
     have := Nat.eq_of_beq_eq_true hb
     subst this
     exact .inr h.1.symm
   | false => exact Cov.asg h.2 t
theorem Rel.cov {n : Nat} {A M : Nat → Prop} {w0 : World} {fr fr0 : Nat → D} {h : Heap} {a : Act} {w : World} (r : Rel n A M w0 fr h a w) (hc : Cov fr fr0) : Rel n A M w0 fr0 h a w :=
 ⟨r.size, fun i => by rcases hc i with h1 | h1 <;> rw [h1]; exact .top _; exact r.frame i, r.defers, r.heap⟩
theorem D.ok.of {sz : Nat} {d : D} (h : (Nat.beq d.flat.length sz && d.flat.all D.cell) = true) : d.ok sz := by
 simp only [Bool.and_eq_true, List.all_eq_true] at h
 exact ⟨Nat.eq_of_beq_eq_true h.1, h.2⟩
section
variable {P : Program} {n : Nat} {ops : Array Oper} {Q : Post} {fr fr0 : Nat → D} {h : Heap} {l : List Oper}
theorem wpA_cov {c : Code} (hc : Cov fr fr0) (hh : wpA P n c Q fr0 h) : wpA P n c Q fr h := fun A M w0 a w r => hh A M w0 a w (r.cov hc)
theorem upd_self {s : Nat} {d : D} (h : fr s = d) : upd fr s d = fr := by
 funext t
 by_cases ht : t = s
 · subst ht; rw [upd_same, h]
 · rw [upd_ne _ _ ht]
theorem wpL_split {s : Nat} {b : Bool} (hb : fr s = .b b) (ht : b = true → wpL P n ops l Q (upd fr s (.b true)) h) (hf : b = false → wpL P n ops l Q (upd fr s (.b false)) h) : wpL P n ops l Q fr h := by
 cases b with
 | true => have := ht rfl; rwa [upd_self hb] at this
 | false => have := hf rfl; rwa [upd_self hb] at this
theorem DetK_split {C : (Nat → D) → Prop} {s : Nat} {b : Bool} (hb : fr s = .b b) (ht : b = true → DetK P ops h l (upd fr s (.b true)) C) (hf : b = false → DetK P ops h l (upd fr s (.b false)) C) : DetK P ops h l fr C := by
 cases b with
 | true => have := ht rfl; rwa [upd_self hb] at this
 | false => have := hf rfl; rwa [upd_self hb] at this
theorem wpA_condT {c : Operand} {x y : Code} (hb : ev fr c = .b true) (ht : wpA P n x Q fr h) : wpA P n (.cond c x y) Q fr h := wpA_cond hb (fun _ => ht) (fun h => by cases h)
theorem wpA_condF {c : Operand} {x y : Code} (hb : ev fr c = .b false) (hf : wpA P n y Q fr h) : wpA P n (.cond c x y) Q fr h := wpA_cond hb (fun h => by cases h) (fun _ => hf)
theorem wpA_freeze {c : Code} {s : Nat} {d d' : D} {h0 : Heap} {x : Nat × Blk} (hp : h.Perm (x :: h0)) (hd : fr s = d) (hsn : Snap false [x] [d] [d']) (hh : wpA P n c Q (upd fr s d') h0) : wpA P n c Q fr h :=
 fun A M w0 a w r => by
   obtain ⟨r1, m1⟩ := r.heap.perm hp
   obtain ⟨r2, m2⟩ := r1.tail
   have r' := r.turn r2 (m1.trans m2)
   refine hh A M w0 a w ⟨r'.size, fun i => ?_, r'.defers, r'.heap⟩
   by_cases hi : i = s
   · subst hi
     rw [upd_same]
     have hv := (r.frame i).mono m1
     rw [hd] at hv
     have hk : x.1 ∉ keys h0 := (List.nodup_cons.1 (by simpa using r1.nodup)).1
     have := hsn.sound (X' := XX A h0) r1 (fun c b hh => by cases hh with | head => exact .head | tail t => cases t) (fun _ b hb => by
         rcases hb with hb | hb
         · exact .inl hb
         · exact .inr (by simp [hb])) (fun c hc hev hx => by
         simp at hc; subst hc
         rcases hx with hx | hx
         · rw [show 2 * (x.1 / 2) = x.1 from by omega] at hx
           exact r1.free x.1 (by simp) hx
         · rw [show 2 * (x.1 / 2) = x.1 from by omega] at hx
           exact hk hx) [_] (.cons hv .nil)
     cases this with
     | cons h1 _ => exact h1
   · rw [upd_ne _ _ hi]
     exact r'.frame i
end
end Go.Lic
set_option linter.all false
namespace Go.Lic
inductive OkL (fr : Nat → D) (sz : Nat) : List (Nat × Operand) → Prop
 | nil : OkL fr sz []
 | cons {p : Nat × Operand} {l : List (Nat × Operand)} (h : (ev fr p.2).ok sz) (hs : OkL fr sz l) : OkL fr sz (p :: l)
inductive OkE (fr : Nat → D) : List (Nat × Operand) → Prop
 | nil : OkE fr []
 | cons {sz : Nat} {p : Nat × Operand} {l : List (Nat × Operand)} (h : (ev fr p.2).ok sz) (hs : OkE fr l) : OkE fr (p :: l)
theorem OkL.all {fr : Nat → D} {sz : Nat} : ∀ {l : List (Nat × Operand)}, OkL fr sz l → ∀ p ∈ l, (ev fr p.2).ok sz
 | _, .nil, _, h => by simp at h
 | _, .cons h hs, p, hp => by
   rcases List.mem_cons.1 hp with rfl | hp
   · exact h
   · exact hs.all p hp
theorem OkE.all {fr : Nat → D} : ∀ {l : List (Nat × Operand)}, OkE fr l → ∀ p ∈ l, ∃ sz, (ev fr p.2).ok sz
 | _, .nil, _, h => by simp at h
 | _, .cons h hs, p, hp => by
   rcases List.mem_cons.1 hp with rfl | hp
   · exact ⟨_, h⟩
   · exact hs.all p hp
section
variable {P : Program} {o : Oper} {fr : Nat → D} {h : Heap} {K : D → Heap → Prop}
theorem OpA.mv {x : Operand} {d : D} (ho : o.op = .move x) (hd : ev fr x = d) (hk : K d h) : OpA P o fr h K := .move ho (by rw [hd]; exact hk)
theorem OpA.asn {x : Operand} {d : D} (ho : o.op = .assign x) (hd : ev fr x = d) (hk : K d h) : OpA P o fr h K := .assign ho (by rw [hd]; exact hk)
theorem OpA.pck {c x y : Operand} {b : Bool} {d : D} (ho : o.op = .pick c x y) (hc : ev fr c = .b b) (hd : sel b (ev fr x) (ev fr y) = d) (hk : K d h) : OpA P o fr h K :=
 .pick ho hc (by cases b <;> (simp only [sel] at hd; subst hd; exact hk))
theorem OpA.bx {e : TypeId} {x : Operand} {sz : Nat} {d : D} (ho : o.op = .box e x) (hd : ev fr x = d) (hx : d.ok sz) (hk : ∀ c, c ∉ keys h → K (.ptr c sz 0 0) ((c, .cells sz [d]) :: h)) : OpA P o fr h K :=
 .box ho (by rw [hd]; exact hx) (by rw [hd]; exact hk)
theorem OpA.nc {x : Operand} {d : D} (ho : o.op = .nilCheck x) (hd : ev fr x = d) (hx : (∃ c sz i k, d = .ptr c sz i k) ∨ (∃ e k, d = .iptr e k) ∨ (∃ f cs, d = .fn (.func f) [] cs)) (hk : K d h) : OpA P o fr h K :=
 .nilCheck ho (by rw [hd]; exact hx) (by rw [hd]; exact hk)
theorem vl_vals {w : World} {X : Nat → Prop} : ∀ (xs ys : List Value), VL w X (xs.map D.v) ys → ys = xs
 | [], ys, h => by cases h; rfl
 | x :: xs, ys, h => by
   cases h with
   | cons h1 h2 => cases h1; rw [vl_vals xs _ h2]
theorem OpA.aggcmp {op : BinOp} {t t2 : TypeId} {x y : Operand} {xs ys : List Value} {r : Bool} (ho : o.op = .binOp op t x y t2) (hm : P.eqGuardType P.depth t = false) (hx : ev fr x = .agg (xs.map D.v)) (hy : ev fr y = .agg (ys.map D.v))
   (he : ∀ w, (Op.equalIn 10000 t (.agg xs.toArray) (.agg ys.toArray)).run P w = .ok r w) {b : Bool} (hop : (op = .eql ∧ b = r) ∨ (op = .neq ∧ b = !r)) (hk : K (.b b) h) : OpA P o fr h K :=
 .of_quiet (fun A M w0 ac w _ hv => by
   have h1 := hv x (by simp [ho, Op.operands])
   have h2 := hv y (by simp [ho, Op.operands])
   rw [hx] at h1; rw [hy] at h2
   generalize hu : ac.eval x = u at h1
   generalize hu2 : ac.eval y = u2 at h2
   cases h1 with
   | agg h1 =>
     cases h2 with
     | agg h2 =>
       have e1 := vl_vals _ _ h1
       have e2 := vl_vals _ _ h2
       subst e1; subst e2
       refine ⟨.bool b, ?_, .v _⟩
       have hg : ∀ op (xs ys : Array Value), (eqGuard op t x y (.agg xs) (.agg ys)).run P w = .ok () w := fun op xs ys => run_eqGuard_agg w op t x y xs ys hm
       rcases hop with ⟨rfl, rfl⟩ | ⟨rfl, rfl⟩
       · simp only [execOp, ho, hu, hu2, Sem.run_bind, hg, Result.andThen_ok, run_eql_struct, he, Sem.run_pure]
       · simp only [execOp, ho, hu, hu2, Sem.run_bind, hg, Result.andThen_ok, run_neq_struct, he, Sem.run_pure]) hk
theorem OpA.ibuildSliceO {t e : TypeId} {sz bytes len : Nat} {agg : Bool} {parts : Array (Nat × Operand)} (ho : o.op = .buildSlice t len parts) (ht : TS P t e sz bytes agg) (hidx : parts.toList.map (·.1) = List.range len)
   (hok : OkL fr sz parts.toList) (hb : len * sz ≤ 16777216) (hk : K (.list sz (parts.toList.map fun p => ev fr p.2)) h) : OpA P o fr h K := .ibuildSlice ho ht hidx hok.all hb hk
theorem OpA.buildSliceO {t e : TypeId} {sz bytes len : Nat} {agg : Bool} {parts : Array (Nat × Operand)} (ho : o.op = .buildSlice t len parts) (ht : TS P t e sz bytes agg) (hidx : parts.toList.map (·.1) = List.range len)
   (hok : OkL fr sz parts.toList) (hb : len * sz ≤ 16777216) (hk : ∀ c, K (.own c sz 0 len) ((c, .cells sz (parts.toList.map fun p => ev fr p.2)) :: h)) : OpA P o fr h K := .buildSlice ho ht hidx hok.all hb hk
theorem OpA.buildO {t : TypeId} {parts : Array (Nat × Operand)} {pl : List (Nat × Nat)} {zc : Array Value} {zs ds : List D} (ho : o.op = .build t parts) (hp : placesOf P t = some pl) (hz : (P.info? t).bind (·.zero) = some (.agg zc))
   (hzs : ∀ w X, VL w X zs zc.toList) (hok : OkE fr parts.toList) (hd : fillD (pl[·]?) zs (parts.toList.map fun p => (p.1, ev fr p.2)) = some ds) (hk : K (.agg ds) h) : OpA P o fr h K := .build ho hp hz hzs hok.all hd hk
end
theorem RetA.some {P : Program} {fn : Func} {K : D → Heap → Prop} {fr : Nat → D} {h : Heap} {ds : List D} (h1 : ResL P fr h fn.results.toList ds) (h2 : K (tupD ds) h) : RetA P fn K .ret fr h := ⟨ds, h1, h2⟩
end Go.Lic
set_option linter.all false
namespace Go.Lic
def AllTo {α : Type} (p : α → Bool) (l : List α) (i : Nat) : Prop := ∀ j, (h : j < l.length) → j < i → p l[j] = true
theorem AllTo.zero {α : Type} (p : α → Bool) (l : List α) : AllTo p l 0 := fun _ _ h => by omega
theorem AllTo.succ {α : Type} {p : α → Bool} {l : List α} {i : Nat} (h : AllTo p l i) (hi : i < l.length) (hp : p l[i] = true) : AllTo p l (i + 1) := fun j hj hji => by
 by_cases h1 : j = i
 · subst h1; exact hp
 · exact h j hj (by omega)
theorem AllTo.all {α : Type} {p : α → Bool} {l : List α} {i : Nat} (h : AllTo p l i) (hi : l.length ≤ i) : l.all p = true := by
 rw [List.all_eq_true]
 intro x hx
 obtain ⟨j, hj, rfl⟩ := List.mem_iff_getElem.1 hx
 exact h j hj (by omega)
def EqTo {α : Type} (l m : List α) (i : Nat) : Prop := ∀ j, (h : j < l.length) → (h2 : j < m.length) → j < i → l[j] = m[j]
theorem EqTo.zero {α : Type} (l m : List α) : EqTo l m 0 := fun _ _ _ h => by omega
theorem EqTo.succ {α : Type} {l m : List α} {i : Nat} (h : EqTo l m i) (hi : i < l.length) (hm : i < m.length) (hp : l[i] = m[i]) : EqTo l m (i + 1) := fun j hj hj2 hji => by
 by_cases h1 : j = i
 · subst h1; exact hp
 · exact h j hj hj2 (by omega)
theorem EqTo.eq {α : Type} {l m : List α} {i : Nat} (h : EqTo l m i) (hl : l.length = m.length) (hi : l.length ≤ i) : l = m :=
 List.ext_getElem hl fun j h1 h2 => h j h1 h2 (by omega)
end Go.Lic
set_option linter.all false
namespace Go.Lic
section
variable {P : Program} {o : Oper} {fr : Nat → D} {h : Heap} {K : D → Heap → Prop}
theorem setAt_to {α : Type} : ∀ (b a : List α) (i : Nat), a.length = i + b.length → setAt a i b = a.take i ++ b
 | [], a, i, h => by rw [List.length_nil] at h; rw [setAt, List.append_nil, List.take_of_length_le (by omega)]
 | x :: b, a, i, h => by
   rw [List.length_cons] at h
   rw [setAt, setAt_to b _ _ (by rw [List.length_set]; omega), List.take_succ_eq_append_getElem (by rw [List.length_set]; omega), List.getElem_set_self, List.take_set_of_le (Nat.le_refl i)]
   simp
theorem setAt_all {α : Type} (a b : List α) (h : a.length = b.length) : setAt a 0 b = b := by
 rw [setAt_to b a 0 (by omega)]; simp
theorem OpA.storeW {t : TypeId} {x y : Operand} {c sz i : Nat} {agg : Bool} {d e : D} {es : List D} {h' : Heap} (ho : o.op = .store t x y) (ht : TI P t sz agg) (hx : ev fr x = .ptr c sz i 0)
   (hy : ev fr y = d) (hok : d.ok sz) (he : es[i]? = some e) (hl : e.flat.length = sz) (hh : Repl c (.cells sz es) c (.cells sz (es.set i d)) h h') (hk : K (.v undef) h') : OpA P o fr h K :=
 .store (e' := d) ho ht hx (by rw [hy]; exact hok) he (by omega) (by rw [hy, setAt_all _ _ (by rw [hl, hok.1])]) hh hk
end
inductive GhostL (g sz : Nat) : List D → List D → Prop
 | nil : GhostL g sz [] []
 | same {d : D} {l l' : List D} (h : GhostL g sz l l') : GhostL g sz (d :: l) (d :: l')
 | turn {l l' : List D} (h : GhostL g sz l l') : GhostL g sz (.v (.slice none 0 0) :: l) (.own g sz 0 0 :: l')
theorem GhostL.vl {w : World} {X : Nat → Prop} {g sz : Nat} {l l' : List D} (h : GhostL g sz l l') : ∀ {vs : List Value}, VL w X l vs → VL w X l' vs := by
 induction h with
 | nil => exact fun h => h
 | same _ ih => intro vs h; cases h with | cons h1 h2 => exact .cons h1 (ih h2)
 | turn _ ih => intro vs h; cases h with | cons h1 h2 => cases h1; exact .cons (.own (Nat.le_refl _) (.inr ⟨rfl, rfl⟩)) (ih h2)
theorem wpA_ghostM {P : Program} {n : Nat} {Q : Post} {fr : Nat → D} {h : Heap} {c0 : Code} {c sz1 sz : Nat} {es : List D} {es' : Nat → List D} {h' : Nat → Heap} (hrepl : ∀ g, Repl c (.cells sz1 es) c (.cells sz1 (es' g)) h (h' g))
   (hfl : ∀ g, GhostL g sz (D.flats es) (D.flats (es' g))) (hlen : ∀ g, (es' g).length = es.length) (hok : ∀ g, ∀ d ∈ es' g, d.ok sz1) (hh : ∀ g, wpA P n c0 Q fr ((g, .cells sz []) :: h' g)) : wpA P n c0 Q fr h :=
 fun A M w0 a w r => by
   obtain ⟨g, _, _, hr, hm⟩ := r.heap.ghost sz
   have hk : keys (h' g) = keys h := (hrepl g).keys_eq
   obtain ⟨h1, h2, e1, e2⟩ := (hrepl g).split
   have hX : XX A ((g, .cells sz []) :: h' g) = XX A ((g, .cells sz []) :: h) := by
     funext b; simp only [XX, keys_cons, hk]
   have hb : BlkRel w (XX A ((g, .cells sz []) :: h)) c (.cells sz1 es) := hr.blk _ _ (by rw [e1]; simp)
   have hr' : HRel A M w0 ((g, .cells sz []) :: h' g) w := by
     refine ⟨by rw [keys_cons, hk]; exact hr.nodup, ?_, by rw [keys_cons, hk]; exact hr.free, by rw [keys_cons, hk]; exact hr.mine, hr.bound, hr.old, hr.ext, by rw [hX]; exact hr.glob⟩
     intro c' b' hc'
     rw [hX]
     rcases List.mem_cons.1 hc' with hc' | hc'
     · exact hr.blk _ _ (by rw [hc']; simp)
     · rw [e2] at hc'
       rcases List.mem_append.1 hc' with h3 | h3
       · exact hr.blk _ _ (by rw [e1]; simp [h3])
       · rcases List.mem_cons.1 h3 with h3 | h3
         · cases h3
           refine ⟨hok g, ?_⟩
           rcases hb.2 with ⟨q1, q2⟩ | ⟨q1, arr, e, cs, q2, q3, q4⟩
           · left; refine ⟨q1, ?_⟩
             have := hlen g; rw [q2] at this; exact List.eq_nil_of_length_eq_zero this
           · exact .inr ⟨q1, arr, e, cs, q2, (hfl g).vl q3, q4⟩
         · exact hr.blk _ _ (by rw [e1]; simp [h3])
   refine hh g A M w0 a w ⟨r.size, fun i => ?_, by rw [hX]; exact r.defers.mono hm, hr'⟩
   rw [hX]; exact (r.frame i).mono hm
def OwnRows (hs : Heap) (es : List D) (n m : Nat) (p : Nat → Prop) (T : Nat → Nat → Int) : Prop :=
 es.length = n + 1 ∧ (∀ d ∈ es, d.flat.length = 1) ∧ ∀ i, i ≤ n → p i → ∃ c, es[i]? = some (.own c 1 0 (m + 1)) ∧ Has c (.cells 1 (((List.range (m + 1)).map (T i)).map D.i)) hs
theorem OwnRows.zero {hs : Heap} {n m : Nat} {p : Nat → Prop} {T : Nat → Nat → Int} (hp : ∀ i, i ≤ n → ¬ p i) : OwnRows hs (List.replicate (n + 1) (.v (.slice none 0 0))) n m p T :=
 ⟨by simp, fun d hd => by rw [(List.mem_replicate.1 hd).2]; rfl, fun i hi h => absurd h (hp i hi)⟩
theorem OwnRows.at {hs : Heap} {es : List D} {n m : Nat} {p : Nat → Prop} {T : Nat → Nat → Int} (h : OwnRows hs es n m p T) (i : Nat) (hi : i ≤ n) (hp : p i) : ∃ c, es[i]? = some (.own c 1 0 (m + 1)) ∧ Has c (.cells 1 (((List.range (m + 1)).map (T i)).map D.i)) hs := h.2.2 i hi hp
theorem OwnRows.set {hs : Heap} {es : List D} {n m k c : Nat} {p p' : Nat → Prop} {T : Nat → Nat → Int} (h : OwnRows hs es n m p T) (hp : ∀ i, i ≤ n → p' i → p i ∧ i ≠ k) : OwnRows hs (es.set (0 + k) (.own c 1 0 (m + 1))) n m p' T := by
 refine ⟨by rw [List.length_set]; exact h.1, fun d hd => ?_, fun i hi h' => ?_⟩
 · rcases List.mem_or_eq_of_mem_set hd with hd | hd
   · exact h.2.1 d hd
   · rw [hd]; rfl
 · obtain ⟨h1, h2⟩ := hp i hi h'
   obtain ⟨c', h3, h4⟩ := h.2.2 i hi h1
   exact ⟨c', by rw [List.getElem?_set_ne (by omega)]; exact h3, h4⟩
theorem OwnRows.push {hs : Heap} {es : List D} {n m k c : Nat} {l : List Int} {p p' : Nat → Prop} {T : Nat → Nat → Int} (h : OwnRows hs es n m p T) (hk : es[k]? = some (.own c 1 0 (m + 1))) (hl : l.length = m + 1) (hv : ∀ j, j ≤ m → l[j]? = some (T k j))
   (hp : ∀ i, i ≤ n → p' i → p i ∨ i = k) : OwnRows ((c, .cells 1 (l.map D.i)) :: hs) es n m p' T := by
 refine ⟨h.1, h.2.1, fun i hi h' => ?_⟩
 rcases hp i hi h' with h1 | h1
 · obtain ⟨c', h3, h4⟩ := h.2.2 i hi h1
   exact ⟨c', h3, .tail h4⟩
 · subst h1
   have e : l = (List.range (m + 1)).map (T i) := by
     apply List.ext_getElem?
     intro j
     by_cases hj : j < m + 1
     · rw [hv j (by omega)]; simp [hj]
     · rw [List.getElem?_eq_none (by omega), List.getElem?_eq_none (by simp; omega)]
   exact ⟨c, hk, by rw [e]; exact .head⟩
theorem Snap.rows {h : Heap} {c m : Nat} {l : List Int} {T : Nat → Nat → Int} (hc : Has c (.cells 1 (l.map D.i)) h) : ∀ (is : List Nat), (∀ i ∈ is, i * m + m ≤ l.length) → (∀ i ∈ is, ∀ j, j < m → l[i * m + j]? = some (T i j)) →
   Snap false h (D.flats (is.map fun i => D.own c 1 (i * m) m)) (D.flats (is.map fun i => D.list 1 (((List.range m).map (T i)).map D.i)))
 | [], _, _ => .nil
 | i :: is, hl, hT => by
   have h1 := Snap.rows hc is (fun i hi => hl i (by simp [hi])) (fun i hi => hT i (by simp [hi]))
   have h2 := hl i (by simp)
   have e : ((l.map D.i).drop (i * m)).take m = ((List.range m).map (T i)).map D.i := by
     rw [← List.map_drop, ← List.map_take]
     congr 1
     apply List.ext_getElem?
     intro j
     rw [List.getElem?_take]
     split
     · rename_i hj
       rw [List.getElem?_drop, hT i (by simp) j hj]; simp [hj]
     · rename_i hj
       rw [List.getElem?_eq_none (by simp; omega)]
   have := Snap.ownp (f := false) (sz := 1) (i := i * m) (len := m) hc (by simp; omega) (by simp) h1
   rw [e] at this
   exact this
end Go.Lic
