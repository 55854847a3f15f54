/-
  A region whose order is open: operations that turn nothing and hand back one value each, in whatever order; behind them the rest in the order of the text.
-/
import Derived.Test.YtkifpidbpoghlaaGreatDoorCall
set_option linter.all false
namespace Go.Lic
variable [Fl]
@[reducible] def updO (fr : Nat → D) (t : Option Nat) (d : D) : Nat → D :=
 match t with
 | some t => upd fr t d
 | none => fr
def DetStep (P : Program) (ops : Array Oper) (h : Heap) (o : Oper) (fr : Nat → D) (d : D) : Prop :=
 (o.guard = none ∧ OpA P o fr h fun d' h' => d' = d ∧ h' = h) ∨
 (∃ j want s b, o.guard = some (j, want) ∧ (ops[j]?).bind (·.dst) = some s ∧ fr s = .b b ∧ (((b == want) = true ∧ OpA P o fr h fun d' h' => d' = d ∧ h' = h) ∨ ((b == want) = false ∧ d = .v undef))) ∨
 ∃ j want s, o.guard = some (j, want) ∧ (ops[j]?).bind (·.dst) = some s ∧ fr s = .v undef ∧ d = .v undef
inductive DetL (P : Program) (ops : Array Oper) (h : Heap) : List Oper → (Nat → D) → List D → Prop
 | nil {fr : Nat → D} : DetL P ops h [] fr []
 | cons {o : Oper} {l : List Oper} {fr : Nat → D} {d : D} {ds : List D} (h1 : DetStep P ops h o fr d) (h2 : DetL P ops h l (updO fr o.dst d) ds) : DetL P ops h (o :: l) fr (d :: ds)
@[reducible] def runFr (fr : Nat → D) : List Oper → List D → Nat → D
 | o :: l, d :: ds => runFr (updO fr o.dst d) l ds
 | _, _ => fr
def DetK (P : Program) (ops : Array Oper) (h : Heap) (l : List Oper) (fr : Nat → D) (C : (Nat → D) → Prop) : Prop := ∃ ds, DetL P ops h l fr ds ∧ C (runFr fr l ds)
section
variable {P : Program} {ops : Array Oper} {h : Heap} {fr : Nat → D} {C : (Nat → D) → Prop} {o : Oper} {l : List Oper} {d : D}
theorem DetK.nil (hh : C fr) : DetK P ops h [] fr C := ⟨[], .nil, hh⟩
theorem DetK.op (hg : o.guard = none) (h1 : OpA P o fr h fun d' h' => d' = d ∧ h' = h) (h2 : DetK P ops h l (updO fr o.dst d) C) : DetK P ops h (o :: l) fr C := by
 obtain ⟨ds, h3, h4⟩ := h2
 exact ⟨d :: ds, .cons (.inl ⟨hg, h1⟩) h3, h4⟩
theorem DetK.opg {j s : Nat} {want b : Bool} (hg : o.guard = some (j, want)) (hj : (ops[j]?).bind (·.dst) = some s) (hb : fr s = .b b) (hne : (b == want) = true) (h1 : OpA P o fr h fun d' h' => d' = d ∧ h' = h)
   (h2 : DetK P ops h l (updO fr o.dst d) C) : DetK P ops h (o :: l) fr C := by
 obtain ⟨ds, h3, h4⟩ := h2
 exact ⟨d :: ds, .cons (.inr (.inl ⟨j, want, s, b, hg, hj, hb, .inl ⟨hne, h1⟩⟩)) h3, h4⟩
theorem DetK.skip {j s : Nat} {want b : Bool} (hg : o.guard = some (j, want)) (hj : (ops[j]?).bind (·.dst) = some s) (hb : fr s = .b b) (hne : (b == want) = false)
   (h2 : DetK P ops h l (updO fr o.dst (.v undef)) C) : DetK P ops h (o :: l) fr C := by
 obtain ⟨ds, h3, h4⟩ := h2
 exact ⟨.v undef :: ds, .cons (.inr (.inl ⟨j, want, s, b, hg, hj, hb, .inr ⟨hne, rfl⟩⟩)) h3, h4⟩
theorem DetK.skipU {j s : Nat} {want : Bool} (hg : o.guard = some (j, want)) (hj : (ops[j]?).bind (·.dst) = some s) (hb : fr s = .v undef)
   (h2 : DetK P ops h l (updO fr o.dst (.v undef)) C) : DetK P ops h (o :: l) fr C := by
 obtain ⟨ds, h3, h4⟩ := h2
 exact ⟨.v undef :: ds, .cons (.inr (.inr ⟨j, want, s, hg, hj, hb, rfl⟩)) h3, h4⟩
theorem DetL.length {l : List Oper} {fr : Nat → D} {ds : List D} (hd : DetL P ops h l fr ds) : ds.length = l.length := by
 induction hd with
 | nil => rfl
 | cons _ _ ih => simp [ih]
theorem DetL.nth {l : List Oper} {fr : Nat → D} {ds : List D} (hd : DetL P ops h l fr ds) : ∀ (i : Nat) (o : Oper) (d : D), l[i]? = some o → ds[i]? = some d → DetStep P ops h o (runFr fr (l.take i) (ds.take i)) d := by
 induction hd with
 | nil => intro i o d h1; simp at h1
 | cons h1 _ ih =>
   intro i o d h2 h3
   cases i with
   | zero => simp at h2 h3; subst h2; subst h3; exact h1
   | succ i => simpa [runFr] using ih i o d (by simpa using h2) (by simpa using h3)
end
def befs (ops : List Oper) : List (List Nat) :=
 ops.foldl (fun acc o => acc ++ [(o.after.toList.flatMap fun e => if Region.binds .any e then e.on :: acc.getD e.on [] else []).eraseDups]) []
def tmpsOf (o : Oper) : List Nat := o.op.operands.toList.filterMap fun | .tmp t => some t | _ => none
def nodupB : List (Option Nat) → Bool
 | [] => true
 | x :: l => x.isSome && l.all (fun y => !(x == y)) && nodupB l
def drawOk (ops : List Oper) (m : Nat) : Bool :=
 let L := befs ops
 let dsts := (ops.take m).map (·.dst)
 (m ≤ ops.length) &&
 -- the lists are right
 (ops.zipIdx.all fun (o, i) => (L.getD i []).all fun j => o.after.toList.any fun e => Region.binds .any e && (e.on == j || (L.getD e.on []).contains j)) &&
 -- edges go back
 (ops.zipIdx.all fun (o, i) => o.after.toList.all fun e => !Region.binds .any e || decide (e.on < i)) &&
 nodupB dsts &&
 -- whatever a first one reads is written before it, or by none of them
 ((ops.take m).zipIdx.all fun (o, i) => (tmpsOf o).all fun t => dsts.zipIdx.all fun (x, j) => !(x == some t) || ((L.getD i []).contains j && decide (j < i)) || ((L.getD j []).contains i && decide (i < j))) &&
 ((ops.take m).zipIdx.all fun (o, i) => match o.guard with | none => true | some (j, _) => (L.getD i []).contains j && decide (j < i)) &&
 -- the last ones stand behind all
 (ops.zipIdx.all fun (_, i) => decide (i < m) || (List.range i).all fun j => (L.getD i []).contains j)
theorem zipIdx_all {α : Type} {l : List α} {p : α × Nat → Bool} (h : l.zipIdx.all p = true) : ∀ i x, l[i]? = some x → p (x, i) = true := by
 intro i x hx
 rw [List.all_eq_true] at h
 exact h _ (List.mem_zipIdx_iff_getElem?.2 hx)
theorem nodupB_spec : ∀ (l : List (Option Nat)), nodupB l = true → ∀ (i j : Nat) (a b : Option Nat), l[i]? = some a → l[j]? = some b → a = b → i = j ∧ a.isSome = true
 | [], _, i, j, a, b, h1, _, _ => by simp at h1
 | x :: l, h, i, j, a, b, h1, h2, hab => by
   simp only [nodupB, Bool.and_eq_true, List.all_eq_true] at h
   cases i with
   | zero =>
     simp at h1; subst h1
     cases j with
     | zero => exact ⟨rfl, h.1.1⟩
     | succ j =>
       have := h.1.2 b (List.mem_of_getElem? (by simpa using h2))
       subst hab; simp at this
   | succ i =>
     cases j with
     | zero =>
       simp at h2; subst h2
       have := h.1.2 a (List.mem_of_getElem? (by simpa using h1))
       subst hab; simp at this
     | succ j =>
       have := nodupB_spec l h.2 i j a b (by simpa using h1) (by simpa using h2) hab
       exact ⟨by omega, this.2⟩
def cnt (li : Array Bool) : Nat → Nat
 | 0 => 0
 | k + 1 => cnt li k + cond (li.getD k false) 0 1
theorem cnt_zero {li : Array Bool} : ∀ {k : Nat}, cnt li k = 0 → ∀ i, i < k → li.getD i false = true
 | 0, _, i, hi => by omega
 | k + 1, h, i, hi => by
   simp only [cnt] at h
   by_cases hik : i = k
   · subst hik
     cases hl : li.getD i false with
     | true => rfl
     | false => rw [hl] at h; simp at h
   · exact cnt_zero (k := k) (by omega) i (by omega)
theorem getD_set {li : Array Bool} {i j : Nat} (hi : i < li.size) : (li.setIfInBounds i true).getD j false = if j = i then true else li.getD j false := by
 by_cases h : j = i
 · subst h; simp [hi]
 · simp [h, Ne.symm h]
theorem cnt_set {li : Array Bool} {i : Nat} (hi : i < li.size) (hl : li.getD i false = false) : ∀ k, cnt (li.setIfInBounds i true) k + (if i < k then 1 else 0) = cnt li k
 | 0 => by simp [cnt]
 | k + 1 => by
   have ih := cnt_set hi hl k
   simp only [cnt, getD_set hi]
   by_cases hk : k = i
   · subst hk
     simp only [Nat.lt_irrefl, if_false] at ih
     rw [if_pos rfl, hl, if_pos (by omega)]
     simp; omega
   · rw [if_neg hk]
     by_cases hik : i < k
     · rw [if_pos hik] at ih; rw [if_pos (by omega)]; omega
     · rw [if_neg hik] at ih; rw [if_neg (by omega)]; omega
section
variable {P : Program} {ops : Array Oper} {Q : Exit → Act → World → Prop}
theorem mem_ready {li : Array Bool} {i : Nat} (hs : li.size = ops.size) : i ∈ Region.ready .any ops li ↔ ∃ o, ops[i]? = some o ∧ li.getD i false = false ∧ ∀ e ∈ o.after.toList, Region.binds .any e = true → li.getD e.on false = true := by
 unfold Region.ready
 rw [List.mem_filter, List.mem_range]
 constructor
 · rintro ⟨hi, h⟩
   simp only [Bool.and_eq_true, Bool.not_eq_true'] at h
   have ho : ops[i]? = some ops[i] := Array.getElem?_eq_getElem hi
   refine ⟨_, ho, ?_, ?_⟩
   · have := h.1
     simp [show i < li.size from by omega] at this ⊢
     exact this
   · intro e he hb
     have h2 := h.2
     rw [ho] at h2
     simp only [Option.map_some, Option.getD_some, Array.all_eq_true_iff_forall_mem] at h2
     have := h2 e (by simpa using he)
     simpa [hb] using this
 · rintro ⟨o, ho, hl, ha⟩
   have hi : i < ops.size := by
     rcases Nat.lt_or_ge i ops.size with h | h
     · exact h
     · rw [Array.getElem?_eq_none h] at ho; simp at ho
   refine ⟨hi, ?_⟩
   simp only [Bool.and_eq_true, Bool.not_eq_true']
   refine ⟨?_, ?_⟩
   · simp [show i < li.size from by omega] at hl ⊢
     exact hl
   · rw [ho]
     simp only [Option.map_some, Option.getD_some, Array.all_eq_true_iff_forall_mem]
     intro e he
     cases hb : Region.binds .any e with
     | false => simp
     | true => simpa using ha e (by simpa using he) hb
theorem semAt_put {ro : Option Nat} {o : Oper} (hs : ∀ cs b, o.op ≠ .select cs b) (a : Act) (dst : Option Tmp) (v : Value) (h : ∀ d, dst = some d → d ∉ o.looksAt ops) : o.semAt ro (a.put dst v).eval = o.semAt ro a.eval := by
 cases ro with
 | none => exact execOp_put o hs a dst v h
 | some l =>
   cases ho : o.op with
   | defer c =>
     simp only [Oper.semAt, ho]
     rw [resolve_congr c o.type (fun x hx => Act.eval_put fun d hd hxd => h d hd (by
       subst hxd
       exact List.mem_append_left _ (List.mem_filterMap.2 ⟨.tmp d, by rw [ho]; simpa [Op.operands] using hx, rfl⟩)))]
   | _ =>
     have hd : ∀ c, o.op ≠ .defer c := by rw [ho]; intro c hc; cases hc
     rw [Oper.semAt_eq _ _ _ hd, Oper.semAt_eq _ _ _ hd]
     exact execOp_put o hs a dst v h
theorem upon_put {ro : Option Nat} {oi oj : Oper} {v : Value} (h2 : ∀ d, oi.dst = some d → oj.dst ≠ some d) (hQ : ∀ c a w, Q (.panic c) (a.put oi.dst v) w → Q (.panic c) a w) {K K' : Act → World → Prop} {a : Act}
   (hv : ∀ u w, K ((a.put oj.dst u).put oi.dst v) w → K' (a.put oj.dst u) w) (hd : ∀ d u w, K (({ a with defers := d :: a.defers }.put oj.dst u).put oi.dst v) w → K' ({ a with defers := d :: a.defers }.put oj.dst u) w) :
   ∀ r : Result Next, oj.uponIn (Wd ro) 0 P (a.put oi.dst v) K Q r → oj.uponIn (Wd ro) 0 P a K' Q r := by
 have sw : ∀ u w, K ((a.put oi.dst v).put oj.dst u) w → K' (a.put oj.dst u) w := fun u w hk => hv u w (by rw [← Act.put_comm a v u h2]; exact hk)
 intro r hr
 match r, hr with
 | .ok (.value u) w, hr => exact sw u w hr
 | .ok .skip w, hr => exact sw undef w hr
 | .ok (.defer d) w, hr => exact hd d undef w (by rw [← Act.put_comm _ v undef h2, ← Act.put_defers]; exact hr)
 | .ok (.enter f args) w, hr => exact ⟨hr.1, hr.2.mono fun e w' he => by cases e <;> first | exact sw _ _ he | exact hQ _ _ _ he | exact he⟩
 | .ok (.row row args) w, hr => exact ⟨hr.1, hr.2.mono fun u w' he => sw u w' he⟩
 | .ok (.round l f tmps x y) w, hr => exact ⟨hr.1, hr.2.mono fun e w' he => by cases e <;> first | exact sw _ _ he | exact hQ _ _ _ he | exact he⟩
 | .halt (.panic u) w, hr => exact hQ _ _ _ hr
theorem op_yields {ro : Option Nat} {i : Nat} {o : Oper} {v : Value} {a : Act} (hi : ops[i]? = some o) (hy : Yields P ops o v a) {K : Act → World → Prop} {w : World} (h : K (a.put o.dst v) w) : wpOpIn (Wd ro) 0 P ops Q i K a w := by
 unfold wpOpIn
 simp only [hi]
 rcases hy with ⟨hw, hv⟩ | ⟨hw, rfl⟩
 · rw [if_pos hw]; exact wd_op (hv w) (by simp) h
 · rw [if_neg (by simp [hw])]; exact ⟨fun _ _ => trivial, h⟩
theorem op_put {ro : Option Nat} {j : Nat} {oi oj : Oper} {v : Value} (hj : ops[j]? = some oj) (hap : oi.apart ops oj = true) (hsi : ∀ cs b, oi.op ≠ .select cs b) (hsj : ∀ cs b, oj.op ≠ .select cs b)
   (hQ : ∀ c a w, Q (.panic c) (a.put oi.dst v) w → Q (.panic c) a w) {K : Act → World → Prop} {a : Act} {w : World} (hy : Yields P ops oi v a) (h : wpOpIn (Wd ro) 0 P ops Q j K (a.put oi.dst v) w) :
   wpOpIn (Wd ro) 0 P ops Q j (fun a' w' => Yields P ops oi v a' ∧ K (a'.put oi.dst v) w') a w := by
 obtain ⟨h1, h2, h3⟩ := Oper.apart_spec hap
 have keep : ∀ (b : Act), Yields P ops oi v b → ∀ u, Yields P ops oi v (b.put oj.dst u) := fun b hb u => hb.of_same (execOp_put oi hsi b oj.dst u h3) (wanted_put oi b oj.dst u h3)
 unfold wpOpIn at h ⊢
 simp only [hj] at h ⊢
 rw [wanted_put oj a oi.dst v h1] at h
 by_cases hw : Region.wanted oj (yielded ops a.tmps) = true
 · rw [if_pos hw] at h ⊢
   refine ⟨fun _ _ => trivial, ?_⟩
   have h := h.2
   rw [semAt_put hsj a oi.dst v h1] at h
   exact upon_put h2 hQ (fun u w hk => ⟨keep a hy u, hk⟩) (fun d u w hk => ⟨keep { a with defers := d :: a.defers } (hy.of_same rfl rfl) u, hk⟩) _ h
 · rw [if_neg hw] at h ⊢
   exact ⟨fun _ _ => trivial, keep a hy _, by rw [← Act.put_comm a v undef h2]; exact h.2⟩
theorem wpAnyW_first {ro : Option Nat} {i : Nat} {oi : Oper} {v : Value} (hi : ops[i]? = some oi) (hsel : ∀ (j : Nat) (o : Oper) cs b, ops[j]? = some o → o.op ≠ .select cs b) (hQ : ∀ c a w, Q (.panic c) (a.put oi.dst v) w → Q (.panic c) a w) :
   ∀ (fuel : Nat) (li : Array Bool) (a : Act) (w : World), (∀ j oj, ops[j]? = some oj → j ≠ i → li.getD j true = false → (∀ e ∈ oj.after, Region.binds .any e = true → e.on ≠ i) → oi.apart ops oj = true) →
     i ∈ Region.ready .any ops li → Yields P ops oi v a → wpAnyIn (Wd ro) 0 P .any ops Q fuel (li.setIfInBounds i true) (a.put oi.dst v) w → wpAnyIn (Wd ro) 0 P .any ops Q (fuel + 1) li a w := by
 intro fuel
 induction fuel with
 | zero =>
   intro li a w _ hr hy H
   refine ⟨fun h0 => (by rw [h0] at hr; cases hr), fun j hj => ?_⟩
   by_cases hji : j = i
   · subst hji; exact op_yields hi hy H
   · have := ready_mono hj hji
     rw [H.1] at this; cases this
 | succ fuel ih =>
   intro li a w hfree hr hy H
   refine ⟨fun h0 => (by rw [h0] at hr; cases hr), fun j hj => ?_⟩
   by_cases hji : j = i
   · subst hji; exact op_yields hi hy H
   · have hjr := H.2 j (ready_mono hj hji)
     obtain ⟨hun, oj, hoj, hall⟩ := Go.mem_ready.1 hj
     have hun' := (Go.mem_ready.1 hr).1
     have hno : ∀ e ∈ oj.after, Region.binds .any e = true → e.on ≠ i := fun e he hb heq => by
       have h1 := hall e he hb
       rw [heq] at h1
       rcases Nat.lt_or_ge i li.size with h' | h'
       · simp [h'] at h1 hun'; rw [h1] at hun'; cases hun'
       · simp [h'] at h1
     have hap := hfree j oj hoj hji hun hno
     refine wpOpIn_mono (fun a' w' hk => ?_) (op_put hoj hap (fun cs b => hsel i oi cs b hi) (fun cs b => hsel j oj cs b hoj) hQ hy hjr)
     obtain ⟨hy', hk⟩ := hk
     refine ih _ a' w' (fun x ox hox hxi hxu hxn => hfree x ox hox hxi ?_ hxn) (ready_mono hr (Ne.symm hji)) hy' ?_
     · by_cases hxj : x = j
       · subst hxj
         rcases Nat.lt_or_ge x li.size with h' | h'
         · simp [h'] at hxu
         · simp [h'] at hxu
       · rwa [getD_set_ne true (Ne.symm hxj)] at hxu
     · rw [Array.setIfInBounds_comm _ _ hji]; exact hk
theorem wpAny_tail {ro : Option Nat} (hback : ∀ i o, ops[i]? = some o → ∀ e ∈ o.after.toList, Region.binds .any e = true → e.on < i)
   : ∀ (fuel p : Nat) (li : Array Bool) (a : Act) (w : World), li.size = ops.size → (∀ i, i < ops.size → li.getD i false = decide (i < p)) → p + fuel = ops.size →
     (∀ i o, p ≤ i → ops[i]? = some o → ∀ j, j < i → ∀ li' : Array Bool, li'.size = ops.size → (∀ x y, ops[x]? = some y → li'.getD x false = true → ∀ e ∈ y.after.toList, Region.binds .any e = true → li'.getD e.on false = true) →
       (∀ e ∈ o.after.toList, Region.binds .any e = true → li'.getD e.on false = true) → li'.getD j false = true) →
     wpListIn (Wd ro) 0 P ops Q (ops.toList.drop p) a w → wpAnyIn (Wd ro) 0 P .any ops Q fuel li a w := by
 intro fuel
 induction fuel with
 | zero =>
   intro p li a w hs hli hp _ hw
   have hd : ops.toList.drop p = [] := List.drop_eq_nil_of_le (by simp; omega)
   rw [hd] at hw
   refine ⟨?_, hw⟩
   apply List.eq_nil_iff_forall_not_mem.2
   intro i hi
   obtain ⟨o, ho, hl, _⟩ := (mem_ready hs).1 hi
   have hlt : i < ops.size := (Array.getElem?_eq_some_iff.1 ho).1
   rw [hli i hlt] at hl
   simp at hl; omega
 | succ fuel ih =>
   intro p li a w hs hli hp htail hw
   have hlt : p < ops.size := by omega
   have ho : ops[p]? = some ops[p] := Array.getElem?_eq_getElem hlt
   have hd : ops.toList.drop p = ops[p] :: ops.toList.drop (p + 1) := by
     rw [List.drop_eq_getElem_cons (by simpa using hlt)]; simp
   rw [hd] at hw
   have hready : ∀ i, i ∈ Region.ready .any ops li ↔ i = p := by
     intro i
     rw [mem_ready hs]
     constructor
     · rintro ⟨o, ho', hl, ha⟩
       have hi := (Array.getElem?_eq_some_iff.1 ho').1
       rw [hli i hi] at hl
       simp at hl
       by_cases hip : i = p
       · exact hip
       · exfalso
         have := htail i o hl ho' p (by omega) li hs (by
           intro x y hy hx e he hb
           have hxl := (Array.getElem?_eq_some_iff.1 hy).1
           have he' := hback x y hy e he hb
           rw [hli _ hxl] at hx; rw [hli _ (by omega)]
           simp at hx ⊢; omega) ha
         rw [hli p hlt] at this
         simp at this
     · rintro rfl
       refine ⟨_, ho, by rw [hli _ hlt]; simp, fun e he hb => ?_⟩
       have := hback _ _ ho e he hb
       rw [hli _ (by omega)]; simpa using this
   refine ⟨fun hr => ?_, fun i hi => ?_⟩
   · have := (hready p).2 rfl
     rw [hr] at this; simp at this
   · obtain rfl := (hready i).1 hi
     have hK : ∀ a w, wpListIn (Wd ro) 0 P ops Q (ops.toList.drop (i + 1)) a w → wpAnyIn (Wd ro) 0 P .any ops Q fuel (li.setIfInBounds i true) a w := fun a w hw' =>
       ih (i + 1) _ a w (by simp [hs]) (fun j hj => by
         rw [getD_set (by omega)]
         by_cases hji : j = i
         · subst hji; simp
         · rw [if_neg hji, hli j hj]
           rw [decide_eq_decide]; omega) (by omega) (fun j o hj => htail j o (by omega)) hw'
     unfold wpOpIn
     simp only [ho]
     simp only [wpListIn] at hw
     split
     · rename_i hwt
       rw [if_pos hwt] at hw
       exact Oper.wpIn_mono hK hw
     · rename_i hwt
       rw [if_neg hwt] at hw
       exact ⟨fun _ _ => trivial, hK _ _ hw.2⟩
def slotOf (fr : Nat → D) (dsts : List (Option Nat)) (ds : List D) (li : Array Bool) (m : Nat) (t : Nat) : D :=
 match (List.range m).find? fun i => li.getD i false && dsts.getD i none == some t with
 | some i => ds.getD i (.v undef)
 | none => fr t
theorem slotOf_hit {fr : Nat → D} {dsts : List (Option Nat)} {ds : List D} {li : Array Bool} {m t i : Nat} (hd : nodupB dsts = true) (hi : i < m) (hl : li.getD i false = true) (ht : dsts[i]? = some (some t)) :
   slotOf fr dsts ds li m t = ds.getD i (.v undef) := by
 unfold slotOf
 cases hf : (List.range m).find? fun i => li.getD i false && dsts.getD i none == some t with
 | none =>
   have := List.find?_eq_none.1 hf i (List.mem_range.2 hi)
   simp [hl, ht] at this
 | some j =>
   have h1 := List.find?_some hf
   simp only [Bool.and_eq_true, beq_iff_eq] at h1
   have h2 : dsts[j]? = some (some t) := by
     cases hj : dsts[j]? with
     | none => have := h1.2; simp [hj] at this
     | some x => have := h1.2; simp [hj] at this; rw [this]
   have := (nodupB_spec dsts hd i j _ _ ht h2 rfl).1
   rw [this]
theorem slotOf_miss {fr : Nat → D} {dsts : List (Option Nat)} {ds : List D} {li : Array Bool} {m t : Nat} (h : ∀ i, i < m → li.getD i false = true → dsts[i]? ≠ some (some t)) : slotOf fr dsts ds li m t = fr t := by
 unfold slotOf
 cases hf : (List.range m).find? fun i => li.getD i false && dsts.getD i none == some t with
 | none => rfl
 | some j =>
   have h1 := List.find?_some hf
   have h0 := List.mem_range.1 (List.mem_of_find?_eq_some hf)
   simp only [Bool.and_eq_true, beq_iff_eq] at h1
   exfalso
   apply h j h0 h1.1
   cases hj : dsts[j]? with
   | none => have := h1.2; simp [hj] at this
   | some x => have := h1.2; simp [hj] at this; rw [this]
theorem runFr_get : ∀ (l : List Oper) (ds : List D) (fr : Nat → D) (t : Nat), ds.length = l.length → nodupB (l.map (·.dst)) = true →
   (∀ i : Nat, (l.map (·.dst))[i]? = some (some t) → runFr fr l ds t = ds.getD i (.v undef)) ∧ ((∀ i : Nat, (l.map (·.dst))[i]? ≠ some (some t)) → runFr fr l ds t = fr t)
 | [], ds, fr, t, _, _ => by
   refine ⟨fun i h => by simp at h, fun _ => by cases ds <;> rfl⟩
 | o :: l, [], fr, t, h, _ => by simp at h
 | o :: l, d :: ds, fr, t, h, hd => by
   simp only [List.map_cons, nodupB, Bool.and_eq_true, List.all_eq_true] at hd
   obtain ⟨ih1, ih2⟩ := runFr_get l ds (updO fr o.dst d) t (by simpa using h) hd.2
   constructor
   · intro i hi
     cases i with
     | zero =>
       simp at hi
       show runFr (updO fr o.dst d) l ds t = d
       rw [ih2 (fun j hj => by
         have := hd.1.2 _ (List.mem_of_getElem? hj)
         rw [hi] at this; simp at this), hi]
       exact upd_same _ _ _
     | succ i => simpa [runFr] using ih1 i (by simpa using hi)
   · intro hm
     show runFr (updO fr o.dst d) l ds t = fr t
     rw [ih2 (fun i hi => hm (i + 1) (by simpa using hi))]
     have h0 := hm 0
     simp at h0
     cases hq : o.dst with
     | none => rfl
     | some x =>
       rw [hq] at h0
       exact upd_ne _ _ (fun e => h0 (by rw [e]))
theorem take_dsts {l : List Oper} {i : Nat} (m : Nat) : ((l.take m).map (·.dst))[i]? = if i < m then (l[i]?).map (·.dst) else none := by
 rw [List.getElem?_map, List.getElem?_take]
 split <;> simp
theorem nodupB_take : ∀ (l : List (Option Nat)) (k : Nat), nodupB l = true → nodupB (l.take k) = true
 | [], k, _ => by simp [nodupB]
 | x :: l, 0, _ => rfl
 | x :: l, k + 1, h => by
   simp only [nodupB, Bool.and_eq_true, List.all_eq_true, List.take_succ_cons] at h ⊢
   exact ⟨⟨h.1.1, fun y hy => h.1.2 y (List.mem_of_mem_take hy)⟩, nodupB_take l k h.2⟩
theorem wpA_draw {P : Program} {n : Nat} {ops : Array Oper} {Q : Post} {fr : Nat → D} {h : Heap} {id m : Nat} (hm : P.follows .mixedOrders = true) (hok : drawOk ops.toList m = true) (hn : (ops.toList.take m).all (fun o => (o.dst.all fun d => Nat.blt d n)) = true)
   (hdet : DetK P ops h (ops.toList.take m) fr fun fr' => wpL P n ops (ops.toList.drop m) Q fr' h) : wpA P n (.region id ops true) Q fr h := by
 intro A M w0 a0 w1 r0 ro hro
 obtain ⟨ds, hds, hrest⟩ := hdet
 -- what the check says
 simp only [drawOk, Bool.and_eq_true] at hok
 obtain ⟨⟨⟨⟨⟨⟨k1, k2⟩, k3⟩, k4⟩, k5⟩, k6⟩, k7⟩ := hok
 generalize hL : befs ops.toList = L at *
 have hml : m ≤ ops.size := by simpa using k1
 have oget : ∀ (i : Nat) (o : Oper), ops[i]? = some o ↔ ops.toList[i]? = some o := fun i o => by rw [Array.getElem?_toList]
 have hback : ∀ i o, ops[i]? = some o → ∀ e ∈ o.after.toList, Region.binds .any e = true → e.on < i := by
   intro i o ho e he hb
   have := zipIdx_all k3 i o ((oget i o).1 ho)
   simp only [List.all_eq_true] at this
   have := this e he
   simpa [hb] using this
 -- a list's members have been done
 have hbef : ∀ (li : Array Bool), (∀ x y, ops[x]? = some y → li.getD x false = true → ∀ e ∈ y.after.toList, Region.binds .any e = true → li.getD e.on false = true) →
     ∀ N i o, i ≤ N → ops[i]? = some o → (∀ e ∈ o.after.toList, Region.binds .any e = true → li.getD e.on false = true) → ∀ j, (L.getD i []).contains j = true → li.getD j false = true := by
   intro li hcl N
   induction N with
   | zero =>
     intro i o hi ho ha j hj
     have := zipIdx_all k2 i o ((oget i o).1 ho)
     simp only [List.all_eq_true] at this
     have := this j (by simpa using hj)
     simp only [List.any_eq_true, Bool.and_eq_true, Bool.or_eq_true, beq_iff_eq] at this
     obtain ⟨e, he, hb, hj'⟩ := this
     have := hback i o ho e he hb
     omega
   | succ N ih =>
     intro i o hi ho ha j hj
     have := zipIdx_all k2 i o ((oget i o).1 ho)
     simp only [List.all_eq_true] at this
     have := this j (by simpa using hj)
     simp only [List.any_eq_true, Bool.and_eq_true, Bool.or_eq_true, beq_iff_eq] at this
     obtain ⟨e, he, hb, hj'⟩ := this
     have hlt := hback i o ho e he hb
     rcases hj' with rfl | hj'
     · exact ha e he hb
     · have hio := (Array.getElem?_eq_some_iff.1 ho).1
       have ho2 : ops[e.on]? = some ops[e.on] := Array.getElem?_eq_getElem (by omega)
       exact ih e.on _ (by omega) ho2 (hcl e.on _ ho2 (ha e he hb)) j hj'
 refine wpIn_region_any hm ?_
 -- the first operations, in whatever order
 have key : ∀ (fuel : Nat) (li : Array Bool) (a : Act) (w : World), li.size = ops.size → cnt li ops.size = fuel → (∀ x y, ops[x]? = some y → li.getD x false = true → ∀ e ∈ y.after.toList, Region.binds .any e = true → li.getD e.on false = true) →
     (∀ i, m ≤ i → li.getD i false = false) → Rel n A M w0 (slotOf fr ((ops.toList.take m).map (·.dst)) ds li m) h a w → wpAnyIn (Wd ro) 0 P .any ops (Conc n A M w0 Q) fuel li a w := by
   intro fuel
   induction fuel with
   | zero =>
     intro li a w hs hc hcl hpre r
     have hall := cnt_zero hc
     have hmm : m = ops.size := by
       rcases Nat.lt_or_ge m ops.size with hlt | hge
       · have := hall m hlt; rw [hpre m (Nat.le_refl _)] at this; simp at this
       · omega
     have hfr : slotOf fr ((ops.toList.take m).map (·.dst)) ds li m = runFr fr (ops.toList.take m) ds := by
       funext t
       obtain ⟨g1, g2⟩ := runFr_get (ops.toList.take m) ds fr t (hds.length) k4
       by_cases hex : ∃ i : Nat, ((ops.toList.take m).map (·.dst))[i]? = some (some t)
       · obtain ⟨i, hi⟩ := hex
         have him : i < m := by have := (List.getElem?_eq_some_iff.1 hi).1; simp at this; omega
         rw [slotOf_hit k4 him (hall i (by omega)) hi, g1 i hi]
       · rw [slotOf_miss (fun i _ _ hi => hex ⟨i, hi⟩), g2 (fun i hi => hex ⟨i, hi⟩)]
     rw [hfr] at r
     have := hrest A M w0 a w r ro
     have hd : ops.toList.drop m = [] := List.drop_eq_nil_of_le (by simp; omega)
     rw [hd] at this
     refine ⟨?_, this⟩
     apply List.eq_nil_iff_forall_not_mem.2
     intro i hi
     obtain ⟨o, ho, hl, _⟩ := (mem_ready hs).1 hi
     rw [hall i (Array.getElem?_eq_some_iff.1 ho).1] at hl
     simp at hl
   | succ fuel ih =>
     intro li a w hs hc hcl hpre r
     by_cases hdone : ∀ i, i < m → li.getD i false = true
     · -- all the first ones are done
       have hfr : slotOf fr ((ops.toList.take m).map (·.dst)) ds li m = runFr fr (ops.toList.take m) ds := by
         funext t
         obtain ⟨g1, g2⟩ := runFr_get (ops.toList.take m) ds fr t (hds.length) k4
         by_cases hex : ∃ i : Nat, ((ops.toList.take m).map (·.dst))[i]? = some (some t)
         · obtain ⟨i, hi⟩ := hex
           have him : i < m := by have := (List.getElem?_eq_some_iff.1 hi).1; simp at this; omega
           rw [slotOf_hit k4 him (hdone i him) hi, g1 i hi]
         · rw [slotOf_miss (fun i _ _ hi => hex ⟨i, hi⟩), g2 (fun i hi => hex ⟨i, hi⟩)]
       rw [hfr] at r
       have hcnt : ∀ k, m ≤ k → cnt li k = k - m := by
         intro k
         induction k with
         | zero => intro _; simp [cnt]
         | succ k ihk =>
           intro hk
           simp only [cnt]
           by_cases hkm : m ≤ k
           · rw [ihk hkm, hpre k hkm]; simp; omega
           · have hkk : m = k + 1 := by omega
             have hz : ∀ q, q ≤ k → cnt li q = 0 := by
               intro q
               induction q with
               | zero => intro _; rfl
               | succ q ihq => intro hq; simp only [cnt]; rw [ihq (by omega), hdone q (by omega)]; simp
             rw [hz k (Nat.le_refl _), hdone k (by omega)]; simp; omega
       have hf := hcnt ops.size hml
       refine wpAny_tail hback (fuel + 1) m li a w hs (fun i hi => ?_) (by omega) ?_ (hrest A M w0 a w r ro)
       · by_cases him : i < m
         · rw [hdone i him]; simp [him]
         · rw [hpre i (by omega)]; simp [him]
       · intro i o hmi ho j hj li' hs' hcl' ha'
         have h7 := zipIdx_all k7 i o ((oget i o).1 ho)
         simp only [Bool.or_eq_true, decide_eq_true_eq, List.all_eq_true] at h7
         rcases h7 with h7 | h7
         · omega
         · exact hbef li' hcl' i i o (Nat.le_refl _) ho ha' j (h7 j (List.mem_range.2 hj))
     · -- one of the first ones is next
       have hnot : ∃ i, i < m ∧ li.getD i false = false := by
         apply Classical.byContradiction
         intro hno
         apply hdone
         intro i hi
         cases hv : li.getD i false with
         | true => rfl
         | false => exact absurd ⟨i, hi, hv⟩ hno
       have hfirst : ∀ i, i ∈ Region.ready .any ops li → i < m := by
         intro i hi
         obtain ⟨o, ho, hl, ha⟩ := (mem_ready hs).1 hi
         rcases Nat.lt_or_ge i m with h1 | h1
         · exact h1
         · exfalso
           obtain ⟨j, hj, hjf⟩ := hnot
           have h7 := zipIdx_all k7 i o ((oget i o).1 ho)
           simp only [Bool.or_eq_true, decide_eq_true_eq, List.all_eq_true] at h7
           rcases h7 with h7 | h7
           · omega
           · have := hbef li hcl i i o (Nat.le_refl _) ho ha j (h7 j (List.mem_range.2 (by omega)))
             rw [hjf] at this; simp at this
       refine ⟨fun hr => ?_, fun i hi => ?_⟩
       · -- the least that is left is ready
         exfalso
         obtain ⟨j, hj, hjf⟩ := hnot
         have : ∀ N i, i ≤ N → i < ops.size → li.getD i false = false → False := by
           intro N
           induction N with
           | zero =>
             intro i hiN his hif
             have hmem : i ∈ Region.ready .any ops li := (mem_ready hs).2 ⟨_, Array.getElem?_eq_getElem his, hif, fun e he hb => by
               have := hback i _ (Array.getElem?_eq_getElem his) e he hb; omega⟩
             rw [hr] at hmem; simp at hmem
           | succ N ihN =>
             intro i hiN his hif
             have hmem : i ∈ Region.ready .any ops li := (mem_ready hs).2 ⟨_, Array.getElem?_eq_getElem his, hif, fun e he hb => by
               have := hback i _ (Array.getElem?_eq_getElem his) e he hb
               cases hv : li.getD e.on false with
               | true => rfl
               | false => exact (ihN e.on (by omega) (by omega) hv).elim⟩
             rw [hr] at hmem; simp at hmem
         exact this j j (Nat.le_refl _) (by omega) hjf
       · have him := hfirst i hi
         obtain ⟨o, ho, hl, ha⟩ := (mem_ready hs).1 hi
         have hio := (Array.getElem?_eq_some_iff.1 ho).1
         have hotl : (ops.toList.take m)[i]? = some o := by rw [List.getElem?_take, if_pos him]; exact (oget i o).1 ho
         have hdi : ∃ d, ds[i]? = some d := ⟨_, List.getElem?_eq_getElem (by rw [hds.length]; simp; omega)⟩
         obtain ⟨d, hd⟩ := hdi
         have hstep := hds.nth i o d hotl hd
         -- the slots that it reads
         have hslot : ∀ t, (∀ j : Nat, (((ops.toList.take m).map (·.dst))[j]? = some (some t)) → ((L.getD i []).contains j = true ∧ j < i) ∨ ((L.getD j []).contains i = true ∧ i < j)) →
             slotOf fr ((ops.toList.take m).map (·.dst)) ds li m t = runFr fr ((ops.toList.take m).take i) (ds.take i) t := by
           intro t ht
           have e1 : (ops.toList.take m).take i = ops.toList.take i := by rw [List.take_take]; congr 1; omega
           have hlen : (ds.take i).length = (ops.toList.take i).length := by simp [hds.length]; omega
           have hnd : nodupB ((ops.toList.take i).map (·.dst)) = true := by
             have := nodupB_take _ i k4
             rwa [← List.map_take, e1] at this
           rw [e1]
           obtain ⟨g1, g2⟩ := runFr_get (ops.toList.take i) (ds.take i) fr t hlen hnd
           by_cases hex : ∃ j : Nat, ((ops.toList.take m).map (·.dst))[j]? = some (some t)
           · obtain ⟨j, hj⟩ := hex
             rcases ht j hj with ⟨hb, hji⟩ | ⟨hb, hij⟩
             · have hjl := hbef li hcl i i o (Nat.le_refl _) ho ha j hb
               rw [slotOf_hit k4 (by omega) hjl hj]
               rw [take_dsts, if_pos (by omega)] at hj
               rw [g1 j (by rw [take_dsts, if_pos hji]; exact hj)]
               simp [hji]
             · -- what is written behind it has not been written yet
               have hjm : j < m := by have := (List.getElem?_eq_some_iff.1 hj).1; simp at this; omega
               have hjf : li.getD j false = false := by
                 cases hv : li.getD j false with
                 | false => rfl
                 | true =>
                   have hoj : ops[j]? = some ops[j] := Array.getElem?_eq_getElem (by omega)
                   have := hbef li hcl j j _ (Nat.le_refl _) hoj (hcl j _ hoj hv) i hb
                   rw [hl] at this; simp at this
               rw [slotOf_miss (fun q h1 h2 h3 => by
                 have := (nodupB_spec _ k4 q j _ _ h3 hj rfl).1
                 subst this
                 rw [hjf] at h2; simp at h2), g2 (fun q hq => by
                 rw [take_dsts] at hq
                 split at hq
                 · have hq' : ((ops.toList.take m).map (·.dst))[q]? = some (some t) := by rw [take_dsts, if_pos (by omega)]; exact hq
                   have := (nodupB_spec _ k4 q j _ _ hq' hj rfl).1
                   omega
                 · simp at hq)]
           · rw [slotOf_miss (fun j _ _ hj => hex ⟨j, hj⟩), g2 (fun j hj => by
               rw [take_dsts] at hj
               split at hj
               · apply hex; refine ⟨j, ?_⟩; rw [take_dsts, if_pos (by omega)]; exact hj
               · simp at hj)]
         have hops : ∀ x, x ∈ o.op.operands → ev (slotOf fr ((ops.toList.take m).map (·.dst)) ds li m) x = ev (runFr fr ((ops.toList.take m).take i) (ds.take i)) x := by
           intro x hx
           cases x with
           | tmp t =>
             apply hslot
             intro j hj
             have h5 := zipIdx_all k5 i o hotl
             simp only [List.all_eq_true] at h5
             have htm : t ∈ tmpsOf o := List.mem_filterMap.2 ⟨.tmp t, by simpa using hx, rfl⟩
             have := h5 t htm
             have := zipIdx_all (List.all_eq_true.2 this) j _ hj
             simp only [beq_self_eq_true, Bool.not_true, Bool.false_or, Bool.or_eq_true, Bool.and_eq_true, decide_eq_true_eq] at this
             exact this
           | const v => rfl
           | global g => rfl
           | func f => rfl
         -- the state behind it
         have hdst : ∃ dd, o.dst = some dd := by
           have hq : ((ops.toList.take m).map (·.dst))[i]? = some o.dst := by rw [List.getElem?_map, hotl]; rfl
           have := (nodupB_spec _ k4 i i _ _ hq hq rfl).2
           exact Option.isSome_iff_exists.1 this
         obtain ⟨dd, hdd⟩ := hdst
         have hddn : dd < n := by
           rw [List.all_eq_true] at hn
           have := hn o (List.mem_of_getElem? hotl)
           rw [hdd] at this
           simpa [Nat.blt_eq] using this
         have hnext : slotOf fr ((ops.toList.take m).map (·.dst)) ds (li.setIfInBounds i true) m = upd (slotOf fr ((ops.toList.take m).map (·.dst)) ds li m) dd d := by
           funext t
           have hqi : ((ops.toList.take m).map (·.dst))[i]? = some (some dd) := by rw [List.getElem?_map, hotl, Option.map_some, hdd]
           by_cases htd : t = dd
           · subst htd
             rw [upd_same, slotOf_hit k4 him (by rw [getD_set (by omega)]; simp) hqi]
             simp [hd]
           · rw [upd_ne _ _ htd]
             by_cases hex : ∃ j : Nat, j < m ∧ li.getD j false = true ∧ ((ops.toList.take m).map (·.dst))[j]? = some (some t)
             · obtain ⟨j, hj1, hj2, hj3⟩ := hex
               rw [slotOf_hit k4 hj1 hj2 hj3, slotOf_hit k4 hj1 (by rw [getD_set (by omega)]; split <;> simp [hj2]) hj3]
             · rw [slotOf_miss (fun j h1 h2 h3 => hex ⟨j, h1, h2, h3⟩), slotOf_miss]
               intro j h1 h2 h3
               rw [getD_set (by omega)] at h2
               by_cases hji : j = i
               · subst hji
                 rw [hqi] at h3
                 simp at h3; exact htd h3.symm
               · rw [if_neg hji] at h2
                 exact hex ⟨j, h1, h2, h3⟩
         have hgo : ∀ (v : Value) (w' : World), HRel A M w0 h w' → Mono w (XX A h) w' (XX A h) → V w' (XX A h) d v → wpAnyIn (Wd ro) 0 P .any ops (Conc n A M w0 Q) fuel (li.setIfInBounds i true) (a.put o.dst v) w' := by
           intro v w' hr' hm' hv'
           refine ih _ _ w' (by simp [hs]) ?_ ?_ ?_ ?_
           · have := cnt_set (li := li) (i := i) (by omega) hl ops.size
             rw [if_pos hio] at this
             omega
           · intro x y hy hx e he hb
             rw [getD_set (by omega)] at hx ⊢
             by_cases hxi : x = i
             · subst hxi
               rw [ho] at hy; cases hy
               split
               · rfl
               · exact ha e he hb
             · rw [if_neg hxi] at hx
               split
               · rfl
               · exact hcl x y hy hx e he hb
           · intro j hj
             rw [getD_set (by omega), if_neg (by omega)]
             exact hpre j hj
           · rw [hnext, hdd]
             exact r.put hr' hm' hddn hv'
         have hrun : OpA P o (runFr fr ((ops.toList.take m).take i) (ds.take i)) h (fun d' h' => d' = d ∧ h' = h) → o.wpIn (Wd ro) 0 P a w (wpAnyIn (Wd ro) 0 P .any ops (Conc n A M w0 Q) fuel (li.setIfInBounds i true)) (Conc n A M w0 Q) := by
           intro hop
           refine hop A M w0 a w r.heap (fun x hx => by rw [← hops x hx]; exact r.ev x) _ _ ?_ ro
           rintro v w' d' h' ⟨rfl, rfl⟩ hr' hm' hv'
           exact hgo v w' hr' hm' hv'
         unfold wpOpIn
         simp only [ho]
         rcases hstep with ⟨hg, hop⟩ | ⟨j, want, s, b, hg, hj, hb, hcase⟩ | ⟨j, want, s, hg, hj, hb, rfl⟩
         · rw [if_pos (by simp [Region.wanted, hg])]
           exact hrun hop
         · have hsl : slotOf fr ((ops.toList.take m).map (·.dst)) ds li m s = .b b := by
             rw [hslot s, hb]
             intro j' hj'
             have h6 := zipIdx_all k6 i o hotl
             simp only [hg, Bool.and_eq_true, decide_eq_true_eq] at h6
             left
             have hjs : ((ops.toList.take m).map (·.dst))[j]? = some (some s) := by
               rw [take_dsts, if_pos (by omega)]
               obtain ⟨oj, hoj, hojd⟩ := Option.bind_eq_some_iff.1 hj
               have := (oget j oj).1 hoj
               rw [this]; simp [hojd]
             have := (nodupB_spec _ k4 j' j _ _ hj' hjs rfl).1
             subst this
             exact h6
           have hy := yielded_of r hj hsl
           rcases hcase with ⟨hne, hop⟩ | ⟨hne, rfl⟩
           · have hw : Region.wanted o (yielded ops a.tmps) = true := by
               simp only [Region.wanted, hg, hy]
               cases b <;> cases want <;> first | rfl | simp at hne
             rw [if_pos hw]
             exact hrun hop
           · have hw : ¬ Region.wanted o (yielded ops a.tmps) = true := by
               simp only [Region.wanted, hg, hy]
               cases b <;> cases want <;> first | (simp at hne; done) | simp
             rw [if_neg hw]
             exact ⟨fun _ _ => trivial, hgo undef w r.heap (Mono.refl _ _) (.v _)⟩
         · have hsl : slotOf fr ((ops.toList.take m).map (·.dst)) ds li m s = .v undef := by
             rw [hslot s, hb]
             intro j' hj'
             have h6 := zipIdx_all k6 i o hotl
             simp only [hg, Bool.and_eq_true, decide_eq_true_eq] at h6
             left
             have hjs : ((ops.toList.take m).map (·.dst))[j]? = some (some s) := by
               rw [take_dsts, if_pos (by omega)]
               obtain ⟨oj, hoj, hojd⟩ := Option.bind_eq_some_iff.1 hj
               have := (oget j oj).1 hoj
               rw [this]; simp [hojd]
             have := (nodupB_spec _ k4 j' j _ _ hj' hjs rfl).1
             subst this
             exact h6
           have hy := yielded_undef r hj hsl
           have hw : ¬ Region.wanted o (yielded ops a.tmps) = true := by
             simp only [Region.wanted, hg, hy]; simp
           rw [if_neg hw]
           exact ⟨fun _ _ => trivial, hgo undef w r.heap (Mono.refl _ _) (.v _)⟩
 refine key ops.size (Array.replicate ops.size false) a0 w1.drew (by simp) ?_ ?_ ?_ ?_
 · have : ∀ k, k ≤ ops.size → cnt (Array.replicate ops.size false) k = k := by
     intro k
     induction k with
     | zero => intro _; rfl
     | succ k ihk => intro hk; simp only [cnt]; rw [ihk (by omega)]; simp [show k < ops.size from by omega]
   exact this _ (Nat.le_refl _)
 · intro x y hy hx
   have := (Array.getElem?_eq_some_iff.1 hy).1
   simp [this] at hx
 · intro i _
   by_cases hi : i < ops.size <;> simp [hi]
 · obtain ⟨q1, q2⟩ := r0.heap.quiet (w' := w1.drew) rfl rfl rfl rfl (Nat.le_succ _)
   have e0 : slotOf fr ((ops.toList.take m).map (·.dst)) ds (Array.replicate ops.size false) m = fr := by
     funext t
     apply slotOf_miss
     intro i _ hi
     exfalso
     by_cases hi2 : i < ops.size <;> simp [hi2] at hi
   rw [e0]
   exact r0.turn q1 q2
end
end Go.Lic
