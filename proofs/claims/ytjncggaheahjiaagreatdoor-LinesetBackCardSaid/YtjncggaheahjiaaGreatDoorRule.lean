/-
  Rules for scripts: frames that are written out, splits, loops with an invariant, known branches.
-/
import Derived.Test.YtjncggaheahjiaaGreatDoorDraw1
import Derived.ChangeKeysEq
set_option linter.all false
namespace Go.Lic
variable [Fl]
@[reducible] def asg : List (Nat × D) → Nat → D
 | [], _ => .top
 | (k, d) :: l, t => sel (Nat.beq t k) d (asg l t)
def Cov (fr fr0 : Nat → D) : Prop := ∀ t, fr0 t = .top ∨ fr0 t = fr t
def covL (fr : Nat → D) : List (Nat × D) → Prop
 | [] => True
 | (k, d) :: l => fr k = d ∧ covL fr l
theorem Cov.asg {fr : Nat → D} : ∀ {l : List (Nat × D)}, covL fr l → Cov fr (asg l)
 | [], _, _ => .inl rfl
 | (k, d) :: l, h, t => by
   show sel (Nat.beq t k) d (Lic.asg l t) = .top ∨ sel (Nat.beq t k) d (Lic.asg l t) = fr t
   cases hb : Nat.beq t k with
   | true =>
     have := Nat.eq_of_beq_eq_true hb
     subst this
     exact .inr h.1.symm
   | false => exact Cov.asg h.2 t
theorem Rel.cov {n : Nat} {A M : Nat → Prop} {w0 : World} {fr fr0 : Nat → D} {h : Heap} {a : Act} {w : World} (r : Rel n A M w0 fr h a w) (hc : Cov fr fr0) : Rel n A M w0 fr0 h a w :=
 ⟨r.size, fun i => by rcases hc i with h1 | h1 <;> rw [h1]; exact .top _; exact r.frame i, r.defers, r.heap⟩
theorem D.ok.of {sz : Nat} {d : D} (h : (Nat.beq d.flat.length sz && d.flat.all D.cell) = true) : d.ok sz := by
 simp only [Bool.and_eq_true, List.all_eq_true] at h
 exact ⟨Nat.eq_of_beq_eq_true h.1, h.2⟩
section
variable {P : Program} {n : Nat} {ops : Array Oper} {Q : Post} {fr fr0 : Nat → D} {h : Heap} {l : List Oper}
theorem wpA_cov {c : Code} (hc : Cov fr fr0) (hh : wpA P n c Q fr0 h) : wpA P n c Q fr h := fun A M w0 a w r => hh A M w0 a w (r.cov hc)
theorem upd_self {s : Nat} {d : D} (h : fr s = d) : upd fr s d = fr := by
 funext t
 by_cases ht : t = s
 · subst ht; rw [upd_same, h]
 · rw [upd_ne _ _ ht]
theorem wpL_split {s : Nat} {b : Bool} (hb : fr s = .b b) (ht : b = true → wpL P n ops l Q (upd fr s (.b true)) h) (hf : b = false → wpL P n ops l Q (upd fr s (.b false)) h) : wpL P n ops l Q fr h := by
 cases b with
 | true => have := ht rfl; rwa [upd_self hb] at this
 | false => have := hf rfl; rwa [upd_self hb] at this
theorem DetK_split {C : (Nat → D) → Prop} {s : Nat} {b : Bool} (hb : fr s = .b b) (ht : b = true → DetK P ops h l (upd fr s (.b true)) C) (hf : b = false → DetK P ops h l (upd fr s (.b false)) C) : DetK P ops h l fr C := by
 cases b with
 | true => have := ht rfl; rwa [upd_self hb] at this
 | false => have := hf rfl; rwa [upd_self hb] at this
theorem wpA_condT {c : Operand} {x y : Code} (hb : ev fr c = .b true) (ht : wpA P n x Q fr h) : wpA P n (.cond c x y) Q fr h := wpA_cond hb (fun _ => ht) (fun h => by cases h)
theorem wpA_condF {c : Operand} {x y : Code} (hb : ev fr c = .b false) (hf : wpA P n y Q fr h) : wpA P n (.cond c x y) Q fr h := wpA_cond hb (fun h => by cases h) (fun _ => hf)
end
end Go.Lic
set_option linter.all false
namespace Go.Lic
variable [Fl]
inductive OkL (fr : Nat → D) (sz : Nat) : List (Nat × Operand) → Prop
 | nil : OkL fr sz []
 | cons {p : Nat × Operand} {l : List (Nat × Operand)} (h : (ev fr p.2).ok sz) (hs : OkL fr sz l) : OkL fr sz (p :: l)
inductive OkE (fr : Nat → D) : List (Nat × Operand) → Prop
 | nil : OkE fr []
 | cons {sz : Nat} {p : Nat × Operand} {l : List (Nat × Operand)} (h : (ev fr p.2).ok sz) (hs : OkE fr l) : OkE fr (p :: l)
theorem OkL.all {fr : Nat → D} {sz : Nat} : ∀ {l : List (Nat × Operand)}, OkL fr sz l → ∀ p ∈ l, (ev fr p.2).ok sz
 | _, .nil, _, h => by simp at h
 | _, .cons h hs, p, hp => by
   rcases List.mem_cons.1 hp with rfl | hp
   · exact h
   · exact hs.all p hp
theorem OkE.all {fr : Nat → D} : ∀ {l : List (Nat × Operand)}, OkE fr l → ∀ p ∈ l, ∃ sz, (ev fr p.2).ok sz
 | _, .nil, _, h => by simp at h
 | _, .cons h hs, p, hp => by
   rcases List.mem_cons.1 hp with rfl | hp
   · exact ⟨_, h⟩
   · exact hs.all p hp
section
variable {P : Program} {o : Oper} {fr : Nat → D} {h : Heap} {K : D → Heap → Prop}
theorem OpA.mv {x : Operand} {d : D} (ho : o.op = .move x) (hd : ev fr x = d) (hk : K d h) : OpA P o fr h K := .move ho (by rw [hd]; exact hk)
theorem OpA.asn {x : Operand} {d : D} (ho : o.op = .assign x) (hd : ev fr x = d) (hk : K d h) : OpA P o fr h K := .assign ho (by rw [hd]; exact hk)
theorem OpA.pck {c x y : Operand} {b : Bool} {d : D} (ho : o.op = .pick c x y) (hc : ev fr c = .b b) (hd : sel b (ev fr x) (ev fr y) = d) (hk : K d h) : OpA P o fr h K :=
 .pick ho hc (by cases b <;> (simp only [sel] at hd; subst hd; exact hk))
theorem OpA.bx {e : TypeId} {x : Operand} {sz : Nat} {d : D} (ho : o.op = .box e x) (hd : ev fr x = d) (hx : d.ok sz) (hk : ∀ c, c ∉ keys h → K (.ptr c sz 0 0) ((c, .cells sz [d]) :: h)) : OpA P o fr h K :=
 .box ho (by rw [hd]; exact hx) (by rw [hd]; exact hk)
theorem OpA.nc {x : Operand} {d : D} (ho : o.op = .nilCheck x) (hd : ev fr x = d) (hx : (∃ c sz i k, d = .ptr c sz i k) ∨ (∃ e k, d = .iptr e k) ∨ (∃ f cs, d = .fn (.func f) [] cs)) (hk : K d h) : OpA P o fr h K :=
 .nilCheck ho (by rw [hd]; exact hx) (by rw [hd]; exact hk)
theorem vl_vals {w : World} {X : Nat → Prop} : ∀ (xs ys : List Value), VL w X (xs.map D.v) ys → ys = xs
 | [], ys, h => by cases h; rfl
 | x :: xs, ys, h => by
   cases h with
   | cons h1 h2 => cases h1; rw [vl_vals xs _ h2]
theorem OpA.aggcmp {op : BinOp} {t t2 : TypeId} {x y : Operand} {xs ys : List Value} {r : Bool} (ho : o.op = .binOp op t x y t2) (hm : P.eqGuardType P.depth t = false) (hx : ev fr x = .agg (xs.map D.v)) (hy : ev fr y = .agg (ys.map D.v))
   (he : ∀ w, (Op.equalIn 10000 t (.agg xs.toArray) (.agg ys.toArray)).run P w = .ok r w) {b : Bool} (hop : (op = .eql ∧ b = r) ∨ (op = .neq ∧ b = !r)) (hk : K (.b b) h) : OpA P o fr h K :=
 .of_quiet (fun A M w0 ac w _ hv => by
   have h1 := hv x (by simp [ho, Op.operands])
   have h2 := hv y (by simp [ho, Op.operands])
   rw [hx] at h1; rw [hy] at h2
   generalize hu : ac.eval x = u at h1
   generalize hu2 : ac.eval y = u2 at h2
   cases h1 with
   | agg h1 =>
     cases h2 with
     | agg h2 =>
       have e1 := vl_vals _ _ h1
       have e2 := vl_vals _ _ h2
       subst e1; subst e2
       refine ⟨.bool b, ?_, .v _⟩
       have hg : ∀ op (xs ys : Array Value), (eqGuard op t x y (.agg xs) (.agg ys)).run P w = .ok () w := fun op xs ys => run_eqGuard_agg w op t x y xs ys hm
       rcases hop with ⟨rfl, rfl⟩ | ⟨rfl, rfl⟩
       · simp only [execOp, ho, hu, hu2, Sem.run_bind, hg, Result.andThen_ok, run_eql_struct, he, Sem.run_pure]
       · simp only [execOp, ho, hu, hu2, Sem.run_bind, hg, Result.andThen_ok, run_neq_struct, he, Sem.run_pure]) hk
theorem OpA.ibuildSliceO {t e : TypeId} {sz bytes len : Nat} {agg : Bool} {parts : Array (Nat × Operand)} (ho : o.op = .buildSlice t len parts) (ht : TS P t e sz bytes agg) (hidx : parts.toList.map (·.1) = List.range len)
   (hok : OkL fr sz parts.toList) (hb : len * sz ≤ 16777216) (hk : K (.list sz (parts.toList.map fun p => ev fr p.2)) h) : OpA P o fr h K := .ibuildSlice ho ht hidx hok.all hb hk
theorem OpA.buildO {t : TypeId} {parts : Array (Nat × Operand)} {pl : List (Nat × Nat)} {zc : Array Value} {zs ds : List D} (ho : o.op = .build t parts) (hp : placesOf P t = some pl) (hz : (P.info? t).bind (·.zero) = some (.agg zc))
   (hzs : ∀ w X, VL w X zs zc.toList) (hok : OkE fr parts.toList) (hd : fillD (pl[·]?) zs (parts.toList.map fun p => (p.1, ev fr p.2)) = some ds) (hk : K (.agg ds) h) : OpA P o fr h K := .build ho hp hz hzs hok.all hd hk
end
theorem RetA.some {P : Program} {fn : Func} {K : D → Heap → Prop} {fr : Nat → D} {h : Heap} {ds : List D} (h1 : ResL P fr h fn.results.toList ds) (h2 : K (tupD ds) h) : RetA P fn K .ret fr h := ⟨ds, h1, h2⟩
end Go.Lic
set_option linter.all false
namespace Go.Lic
variable [Fl]
def AllTo {α : Type} (p : α → Bool) (l : List α) (i : Nat) : Prop := ∀ j, (h : j < l.length) → j < i → p l[j] = true
theorem AllTo.zero {α : Type} (p : α → Bool) (l : List α) : AllTo p l 0 := fun _ _ h => by omega
theorem AllTo.succ {α : Type} {p : α → Bool} {l : List α} {i : Nat} (h : AllTo p l i) (hi : i < l.length) (hp : p l[i] = true) : AllTo p l (i + 1) := fun j hj hji => by
 by_cases h1 : j = i
 · subst h1; exact hp
 · exact h j hj (by omega)
theorem AllTo.all {α : Type} {p : α → Bool} {l : List α} {i : Nat} (h : AllTo p l i) (hi : l.length ≤ i) : l.all p = true := by
 rw [List.all_eq_true]
 intro x hx
 obtain ⟨j, hj, rfl⟩ := List.mem_iff_getElem.1 hx
 exact h j hj (by omega)
def EqTo {α : Type} (l m : List α) (i : Nat) : Prop := ∀ j, (h : j < l.length) → (h2 : j < m.length) → j < i → l[j] = m[j]
theorem EqTo.zero {α : Type} (l m : List α) : EqTo l m 0 := fun _ _ _ h => by omega
theorem EqTo.succ {α : Type} {l m : List α} {i : Nat} (h : EqTo l m i) (hi : i < l.length) (hm : i < m.length) (hp : l[i] = m[i]) : EqTo l m (i + 1) := fun j hj hj2 hji => by
 by_cases h1 : j = i
 · subst h1; exact hp
 · exact h j hj hj2 (by omega)
theorem EqTo.eq {α : Type} {l m : List α} {i : Nat} (h : EqTo l m i) (hl : l.length = m.length) (hi : l.length ≤ i) : l = m :=
 List.ext_getElem hl fun j h1 h2 => h j h1 h2 (by omega)
end Go.Lic
set_option linter.all false
namespace Go.Lic
variable [Fl]
section
variable {P : Program} {o : Oper} {fr : Nat → D} {h : Heap} {K : D → Heap → Prop}
theorem setAt_to {α : Type} : ∀ (b a : List α) (i : Nat), a.length = i + b.length → setAt a i b = a.take i ++ b
 | [], a, i, h => by rw [List.length_nil] at h; rw [setAt, List.append_nil, List.take_of_length_le (by omega)]
 | x :: b, a, i, h => by
   rw [List.length_cons] at h
   rw [setAt, setAt_to b _ _ (by rw [List.length_set]; omega), List.take_succ_eq_append_getElem (by rw [List.length_set]; omega), List.getElem_set_self, List.take_set_of_le (Nat.le_refl i)]
   simp
theorem setAt_all {α : Type} (a b : List α) (h : a.length = b.length) : setAt a 0 b = b := by
 rw [setAt_to b a 0 (by omega)]; simp
theorem OpA.storeW {t : TypeId} {x y : Operand} {c sz i : Nat} {agg : Bool} {d e : D} {es : List D} {h' : Heap} (ho : o.op = .store t x y) (ht : TI P t sz agg) (hx : ev fr x = .ptr c sz i 0)
   (hy : ev fr y = d) (hok : d.ok sz) (he : es[i]? = some e) (hl : e.flat.length = sz) (hh : Repl c (.cells sz es) c (.cells sz (es.set i d)) h h') (hk : K (.v undef) h') : OpA P o fr h K :=
 .store (e' := d) ho ht hx (by rw [hy]; exact hok) he (by omega) (by rw [hy, setAt_all _ _ (by rw [hl, hok.1])]) hh hk
end
def OwnRows (hs : Heap) (es : List D) (n m : Nat) (p : Nat → Prop) (T : Nat → Nat → Int) : Prop :=
 es.length = n + 1 ∧ (∀ d ∈ es, d.flat.length = 1) ∧ ∀ i, i ≤ n → p i → ∃ c, es[i]? = some (.own c 1 0 (m + 1)) ∧ Has c (.cells 1 (((List.range (m + 1)).map (T i)).map D.i)) hs
theorem OwnRows.zero {hs : Heap} {n m : Nat} {p : Nat → Prop} {T : Nat → Nat → Int} (hp : ∀ i, i ≤ n → ¬ p i) : OwnRows hs (List.replicate (n + 1) (.v (.slice none 0 0))) n m p T :=
 ⟨by simp, fun d hd => by rw [(List.mem_replicate.1 hd).2]; rfl, fun i hi h => absurd h (hp i hi)⟩
theorem OwnRows.at {hs : Heap} {es : List D} {n m : Nat} {p : Nat → Prop} {T : Nat → Nat → Int} (h : OwnRows hs es n m p T) (i : Nat) (hi : i ≤ n) (hp : p i) : ∃ c, es[i]? = some (.own c 1 0 (m + 1)) ∧ Has c (.cells 1 (((List.range (m + 1)).map (T i)).map D.i)) hs := h.2.2 i hi hp
theorem OwnRows.set {hs : Heap} {es : List D} {n m k c : Nat} {p p' : Nat → Prop} {T : Nat → Nat → Int} (h : OwnRows hs es n m p T) (hp : ∀ i, i ≤ n → p' i → p i ∧ i ≠ k) : OwnRows hs (es.set (0 + k) (.own c 1 0 (m + 1))) n m p' T := by
 refine ⟨by rw [List.length_set]; exact h.1, fun d hd => ?_, fun i hi h' => ?_⟩
 · rcases List.mem_or_eq_of_mem_set hd with hd | hd
   · exact h.2.1 d hd
   · rw [hd]; rfl
 · obtain ⟨h1, h2⟩ := hp i hi h'
   obtain ⟨c', h3, h4⟩ := h.2.2 i hi h1
   exact ⟨c', by rw [List.getElem?_set_ne (by omega)]; exact h3, h4⟩
theorem OwnRows.push {hs : Heap} {es : List D} {n m k c : Nat} {l : List Int} {p p' : Nat → Prop} {T : Nat → Nat → Int} (h : OwnRows hs es n m p T) (hk : es[k]? = some (.own c 1 0 (m + 1))) (hl : l.length = m + 1) (hv : ∀ j, j ≤ m → l[j]? = some (T k j))
   (hp : ∀ i, i ≤ n → p' i → p i ∨ i = k) : OwnRows ((c, .cells 1 (l.map D.i)) :: hs) es n m p' T := by
 refine ⟨h.1, h.2.1, fun i hi h' => ?_⟩
 rcases hp i hi h' with h1 | h1
 · obtain ⟨c', h3, h4⟩ := h.2.2 i hi h1
   exact ⟨c', h3, .tail h4⟩
 · subst h1
   have e : l = (List.range (m + 1)).map (T i) := by
     apply List.ext_getElem?
     intro j
     by_cases hj : j < m + 1
     · rw [hv j (by omega)]; simp [hj]
     · rw [List.getElem?_eq_none (by omega), List.getElem?_eq_none (by simp; omega)]
   exact ⟨c, hk, by rw [e]; exact .head⟩
def rowsD (c n m : Nat) : List D := (List.range n).map fun i => D.own c 1 (i * m) m
theorem rowsD_length (c n m : Nat) : (rowsD c n m).length = n := by simp [rowsD]
theorem Snap.rows {h : Heap} {c m : Nat} {l : List Int} {T : Nat → Nat → Int} (hc : Has c (.cells 1 (l.map D.i)) h) : ∀ (is : List Nat), (∀ i ∈ is, i * m + m ≤ l.length) → (∀ i ∈ is, ∀ j, j < m → l[i * m + j]? = some (T i j)) →
   Snap false h (D.flats (is.map fun i => D.own c 1 (i * m) m)) (D.flats (is.map fun i => D.list 1 (((List.range m).map (T i)).map D.i)))
 | [], _, _ => .nil
 | i :: is, hl, hT => by
   have h1 := Snap.rows hc is (fun i hi => hl i (by simp [hi])) (fun i hi => hT i (by simp [hi]))
   have h2 := hl i (by simp)
   have e : ((l.map D.i).drop (i * m)).take m = ((List.range m).map (T i)).map D.i := by
     rw [← List.map_drop, ← List.map_take]
     congr 1
     apply List.ext_getElem?
     intro j
     rw [List.getElem?_take]
     split
     · rename_i hj
       rw [List.getElem?_drop, hT i (by simp) j hj]; simp [hj]
     · rename_i hj
       rw [List.getElem?_eq_none (by simp; omega)]
   have := Snap.ownp (f := false) (sz := 1) (i := i * m) (len := m) hc (by simp; omega) (by simp) h1
   rw [e] at this
   exact this
theorem Snap.table {h : Heap} {r c n m : Nat} {l : List Int} {T : Nat → Nat → Int} {ds ds' : List D} (hr : Has r (.cells 1 (rowsD c n m)) h) (hc : Has c (.cells 1 (l.map D.i)) h) (hl : l.length = n * m)
   (hT : ∀ i j, i < n → j < m → l[i * m + j]? = some (T i j)) (hs : Snap false h ds ds') :
   Snap false h (.own r 1 0 n :: ds) (.list 1 (((List.range n).map fun i => (List.range m).map (T i)).map fun x => .list 1 (x.map D.i)) :: ds') := by
 refine .own (es' := _) hr (by rw [rowsD_length]; omega) ?_ (by simp) ?_ hs
 · intro d hd
   obtain ⟨x, _, rfl⟩ := List.mem_map.1 hd
   exact .of rfl
 · rw [List.drop_zero, List.take_of_length_le (by rw [rowsD_length]; omega), List.map_map]
   exact Snap.rows hc _ (fun i hi => by
     have h1 := List.mem_range.1 hi
     have : (i + 1) * m ≤ n * m := Nat.mul_le_mul_right m h1
     rw [Nat.add_mul] at this; omega) (fun i hi j hj => hT i j (List.mem_range.1 hi) hj)
end Go.Lic
