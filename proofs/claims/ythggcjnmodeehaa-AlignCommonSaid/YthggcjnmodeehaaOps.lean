/-
  What each operation does, of abstract states.
-/
import Derived.Test.YthggcjnmodeehaaHeap
set_option linter.all false
namespace Go.Lic

/-- A type's facts: its number of cells, and whether its values are structs or arrays. -/
structure TI (P : Program) (t : TypeId) (n : Nat) (agg : Bool) : Prop where
  size : ∀ w, (sizeOf t).run P w = .ok n w
  isAgg : ∀ w, (Go.isAgg t).run P w = .ok agg w

def aggDesc : TypeDesc → Bool
  | .struct _ | .array _ _ => true
  | _ => false

theorem TI.mk' {P : Program} {t : TypeId} {n : Nat} {agg : Bool} (h1 : (P.info? t).map (·.size) = some n) (h2 : (P.underlying t).map aggDesc = some agg) : TI P t n agg where
  size := fun w => by
    obtain ⟨i, hi, rfl⟩ := Option.map_eq_some_iff.1 h1
    simp [sizeOf, typeInfo, hi]
  isAgg := fun w => by
    obtain ⟨d, hd, rfl⟩ := Option.map_eq_some_iff.1 h2
    simp only [Go.isAgg, Sem.run_bind, run_underlying hd, Result.andThen_ok]
    cases d <;> rfl

/-- A slice type's element: its type, its cells, its bytes. -/
structure TS (P : Program) (t e : TypeId) (sz bytes : Nat) (agg : Bool) : Prop where
  desc : P.underlying t = some (.slice e)
  elem : TI P e sz agg
  bytes : (P.info? e).map (·.bytes) = some bytes
  zero : ((P.info? e).bind (·.zero)).map (·.cells.size) = some sz

section
variable {P : Program} {o : Oper} {fr : Nat → D} {h : Heap} {K : D → Heap → Prop}

/-- An operation that hands back a value. -/
theorem OpA.of_run (hh : ∀ A M w0 (a : Act) w, HRel A M w0 h w → (∀ x, x ∈ o.op.operands → V w (XX A h) (ev fr x) (a.eval x)) →
    ∃ v w' d h', (execOp a.eval o).run P w = .ok (.value v) w' ∧ K d h' ∧ HRel A M w0 h' w' ∧ Mono w (XX A h) w' (XX A h') ∧ V w' (XX A h') d v) : OpA P o fr h K :=
  fun A M w0 a w hr hv next Q hn => by
    obtain ⟨v, w', d, h', h1, h2, h3, h4, h5⟩ := hh A M w0 a w hr hv
    unfold Oper.wp
    rw [h1]
    exact hn v w' d h' h2 h3 h4 h5

/-- One that reads at most. -/
theorem OpA.of_quiet {d : D} (hh : ∀ A M w0 (a : Act) w, HRel A M w0 h w → (∀ x, x ∈ o.op.operands → V w (XX A h) (ev fr x) (a.eval x)) →
    ∃ v, (execOp a.eval o).run P w = .ok (.value v) w ∧ V w (XX A h) d v) (hk : K d h) : OpA P o fr h K :=
  .of_run fun A M w0 a w hr hv => by
    obtain ⟨v, h1, h2⟩ := hh A M w0 a w hr hv
    exact ⟨v, w, d, h, h1, hk, hr, Mono.refl _ _, h2⟩

/-- One that writes. -/
theorem OpA.of_skip (hh : ∀ A M w0 (a : Act) w, HRel A M w0 h w → (∀ x, x ∈ o.op.operands → V w (XX A h) (ev fr x) (a.eval x)) →
    ∃ w' h', (execOp a.eval o).run P w = .ok .skip w' ∧ K (.v undef) h' ∧ HRel A M w0 h' w' ∧ Mono w (XX A h) w' (XX A h')) : OpA P o fr h K :=
  fun A M w0 a w hr hv next Q hn => by
    obtain ⟨w', h', h1, h2, h3, h4⟩ := hh A M w0 a w hr hv
    unfold Oper.wp
    rw [h1]
    exact hn undef w' _ h' h2 h3 h4 (.v _)

theorem OpA.move {x : Operand} (ho : o.op = .move x) (hk : K (ev fr x) h) : OpA P o fr h K :=
  .of_quiet (fun A M w0 a w _ hv => ⟨a.eval x, by simp [execOp, ho], hv x (by simp [ho, Op.operands])⟩) hk

theorem OpA.assign {x : Operand} (ho : o.op = .assign x) (hk : K (ev fr x) h) : OpA P o fr h K :=
  .of_quiet (fun A M w0 a w _ hv => ⟨a.eval x, by simp [execOp, ho], hv x (by simp [ho, Op.operands])⟩) hk

theorem OpA.pick {c x y : Operand} {b : Bool} (ho : o.op = .pick c x y) (hc : ev fr c = .b b) (hk : K (cond b (ev fr x) (ev fr y)) h) : OpA P o fr h K :=
  .of_quiet (fun A M w0 a w _ hv => by
    have h1 := hv c (by simp [ho, Op.operands])
    rw [hc] at h1
    generalize hx : a.eval c = u at h1
    cases h1
    refine ⟨if b then a.eval x else a.eval y, by simp [execOp, ho, hx, asBool], ?_⟩
    cases b
    · exact hv y (by simp [ho, Op.operands])
    · exact hv x (by simp [ho, Op.operands])) hk

theorem D.ok.shape {sz : Nat} {d : D} (hd : d.ok sz) : d.cell = true ∨ ∃ ds, d = .agg ds := by
  cases d with
  | agg ds => exact .inr ⟨ds, rfl⟩
  | _ => exact .inl (hd.2 _ (by simp [D.flat]))

theorem V.cells {w : World} {X : Nat → Prop} {d : D} {x : Value} {sz : Nat} (h : V w X d x) (hd : d.ok sz) : VL w X d.flat x.cells.toList := h.flat hd.shape

theorem V.cells_size {w : World} {X : Nat → Prop} {d : D} {x : Value} {sz : Nat} (h : V w X d x) (hd : d.ok sz) : x.cells.size = sz := by
  have := (h.cells hd).length
  rw [hd.1] at this
  simpa using this.symm

theorem VL.oneCell {w : World} {X : Nat → Prop} {ds : List D} {vs : List Value} (h : VL w X ds vs) (hd : ∀ d ∈ ds, d.cell = true) : ∀ v ∈ vs, v.oneCell' = true := by
  intro v hv
  obtain ⟨i, hi⟩ := List.mem_iff_getElem?.1 hv
  obtain ⟨d, h1, h2⟩ := h.get' i v hi
  exact h2.oneCell (hd d (List.mem_of_getElem? h1))

theorem OpA.box {e : TypeId} {x : Operand} {sz : Nat} (ho : o.op = .box e x) (hx : (ev fr x).ok sz) (hk : ∀ c, c ∉ keys h → K (.ptr c sz 0 0) ((c, .cells sz [ev fr x]) :: h)) : OpA P o fr h K :=
  .of_run fun A M w0 a w hr hv => by
    have h1 := hv x (by simp [ho, Op.operands])
    have hc : VL w (XX A h) (D.flats [ev fr x]) (a.eval x).cells.toList := by simpa [D.flats] using h1.cells hx
    obtain ⟨h2, h3, h4⟩ := hr.alloc (sz := sz) (a.eval x).cells e (by simpa using hx) hc (List.prefix_refl _)
    refine ⟨.pointer (some ⟨w.heap.size, 0, none⟩), _, _, _, by simp [execOp, ho, Instr.box, newVar, newRow], hk _ h2, h3, h4, ?_⟩
    have := V.ptr (w := w.alloc (.cells (a.eval x).cells e)) (X := XX A ((2 * w.heap.size, .cells sz [ev fr x]) :: h)) (c := 2 * w.heap.size) (sz := sz) (i := 0) (k := 0) (by omega)
    simpa using this

/-- A new variable: d is what its zero value reads as. -/
theorem OpA.alloc {e : TypeId} {sz : Nat} {z : Value} {d : D} (ho : o.op = .alloc e) (hz : (P.info? e).bind (·.zero) = some z) (hd : ∀ w X, V w X d z) (hok : d.ok sz)
    (hk : ∀ c, c ∉ keys h → K (.ptr c sz 0 0) ((c, .cells sz [d]) :: h)) : OpA P o fr h K :=
  .of_run fun A M w0 a w hr _ => by
    have hc : VL w (XX A h) (D.flats [d]) z.cells.toList := by simpa [D.flats] using (hd w (XX A h)).cells hok
    obtain ⟨h2, h3, h4⟩ := hr.alloc (sz := sz) z.cells e (by simpa using hok) hc (List.prefix_refl _)
    have hzr : ∀ w, (zeroValue e).run P w = .ok z w := fun w => by
      obtain ⟨i, hi, hi2⟩ := Option.bind_eq_some_iff.1 hz
      simp [zeroValue, typeInfo, hi, hi2]
    refine ⟨.pointer (some ⟨w.heap.size, 0, none⟩), _, _, _, by simp [execOp, ho, Instr.alloc, hzr, newVar, newRow], hk _ h2, h3, h4, ?_⟩
    have := V.ptr (w := w.alloc (.cells z.cells e)) (X := XX A ((2 * w.heap.size, .cells sz [d]) :: h)) (c := 2 * w.heap.size) (sz := sz) (i := 0) (k := 0) (by omega)
    simpa using this

/-- The cells of element i of an own block. -/
theorem elem_cells {w : World} {X : Nat → Prop} {sz i : Nat} {es : List D} {e : D} {cs : List Value} (hok : ∀ d ∈ es, d.ok sz) (hv : VL w X (D.flats es) cs) (he : es[i]? = some e) :
    VL w X e.flat ((cs.drop (i * sz)).take sz) := by
  rw [← flats_get es i e hok he]
  exact (hv.drop _).take _

theorem own_cell {w : World} {b : Nat} {arr : Array Value} {e : TypeId} {cs : List Value} (ha : OwnCells w b arr e) (hp : cs <+: arr.toList) :
    ∀ j c, cs[j]? = some c → w.cell? ⟨b, j, none⟩ = some c := by
  intro j c hj
  obtain ⟨t, ht⟩ := hp
  have : arr.toList[j]? = some c := by rw [← ht, List.getElem?_append_left (List.getElem?_eq_some_iff.1 hj).1]; exact hj
  rw [ha.cell]
  simpa using this

/-- What a load of n cells from cell k of an element reads as. -/
theorem run_loadVar' {t : TypeId} {n : Nat} {agg : Bool} (ht : TI P t n agg) {w : World} {X : Nat → Prop} {b o : Nat} {ds : List D} {cs : List Value} (hv : VL w X ds cs)
    (hc : ∀ j c, cs[j]? = some c → w.cell? ⟨b, o + j, none⟩ = some c) (hn : ds.length = n) :
    (agg = true → ∃ v, (loadVar t ⟨b, o, none⟩).run P w = .ok v w ∧ V w X (.agg ds) v) ∧ (agg = false → ∀ d, ds[0]? = some d → ∃ v, (loadVar t ⟨b, o, none⟩).run P w = .ok v w ∧ V w X d v) := by
  refine ⟨fun hag => ?_, fun hag d hd => ?_⟩
  · subst hag
    refine ⟨.agg cs.toArray, ?_, .agg hv⟩
    simp only [loadVar, Sem.run_bind, ht.isAgg, Result.andThen_ok, if_true, ht.size]
    have hl : n = cs.length := by rw [← hn]; exact hv.length
    rw [hl, run_loadCells' cs hc]
    rfl
  · subst hag
    obtain ⟨v, h1, h2⟩ := hv.get 0 d hd
    refine ⟨v, ?_, h2⟩
    have h0 := hc 0 v h1
    simp only [loadVar, Sem.run_bind, ht.isAgg, Result.andThen_ok, Bool.false_eq_true, if_false, run_load]
    rw [show (⟨b, o, none⟩ : Addr) = ⟨b, o + 0, none⟩ from rfl, h0]

/-- The cells of element i, from cell k on, n of them: the address and the data. -/
theorem own_part {A M : Nat → Prop} {w0 w : World} (hr : HRel A M w0 h w) {c sz i k n : Nat} {es : List D} {e : D} (hh : Has c (.cells sz es) h) (he : es[i]? = some e) (hkn : k + n ≤ e.flat.length) :
    c % 2 = 0 ∧ ∃ cs, VL w (XX A h) ((e.flat.drop k).take n) cs ∧ cs.length = n ∧ ∀ j c', cs[j]? = some c' → w.cell? ⟨c / 2, i * sz + k + j, none⟩ = some c' := by
  obtain ⟨hok, hb⟩ := hr.cells hh
  rcases hb with ⟨_, hb⟩ | ⟨hc, arr, et, cs, ha, hv, hp⟩
  · subst hb; simp at he
  · refine ⟨hc, _, ((elem_cells hok hv he).drop k).take n, ?_, ?_⟩
    · rw [← (((elem_cells hok hv he).drop k).take n).length]; simp; omega
    · intro j c' hj
      have hcell := own_cell ha hp (i * sz + k + j) c'
      apply hcell
      have hjn : j < n := by
        have := (List.getElem?_eq_some_iff.1 hj).1
        simp at this; omega
      rw [List.getElem?_take_of_lt hjn, List.getElem?_drop] at hj
      have hks : k + j < sz := by rw [(hok e (List.mem_of_getElem? he)).1] at hkn; omega
      rw [List.getElem?_take_of_lt hks, List.getElem?_drop] at hj
      rw [← hj]; congr 1; omega

/-- A load through an own pointer: a struct or an array. -/
theorem OpA.load_agg {t : TypeId} {x : Operand} {c sz i k n : Nat} {es ds : List D} {e : D} (ho : o.op = .load t x) (ht : TI P t n true) (hx : ev fr x = .ptr c sz i k) (hh : Has c (.cells sz es) h)
    (he : es[i]? = some e) (hd : (e.flat.drop k).take n = ds) (hl : ds.length = n) (hk : K (.agg ds) h) : OpA P o fr h K :=
  .of_quiet (fun A M w0 a w hr hv => by
    have h1 := hv x (by simp [ho, Op.operands])
    rw [hx] at h1
    generalize hu : a.eval x = u at h1
    cases h1
    have hkn : k + n ≤ e.flat.length ∨ n = 0 := by subst hd; simp at hl; omega
    rcases hkn with hkn | hn
    · obtain ⟨_, cs, hcs, hcl, hcell⟩ := own_part hr hh he hkn
      rw [hd] at hcs
      obtain ⟨v, hv1, hv2⟩ := (run_loadVar' ht hcs hcell hl).1 rfl
      exact ⟨v, by simp [execOp, ho, hu, Instr.loadAt, Instr.sureAddr, hv1], hv2⟩
    · have : ds = [] := by rw [← hd, hn]; simp
      subst this
      obtain ⟨v, hv1, hv2⟩ := (run_loadVar' (b := c / 2) (o := i * sz + k) ht (.nil : VL w (XX A h) [] []) (by simp) hl).1 rfl
      exact ⟨v, by simp [execOp, ho, hu, Instr.loadAt, Instr.sureAddr, hv1], hv2⟩) hk

/-- A whole element. -/
theorem OpA.load_whole {t : TypeId} {x : Operand} {c sz i n : Nat} {es : List D} {e : D} (ho : o.op = .load t x) (ht : TI P t n true) (hx : ev fr x = .ptr c sz i 0) (hn : Nat.beq sz n = true) (hh : Has c (.cells sz es) h)
    (he : es[i]? = some e) (hag : ∃ ds, e = .agg ds) (hk : K e h) : OpA P o fr h K := by
  intro A M w0 a w hr hv
  have hok := (hr.cells hh).1 e (List.mem_of_getElem? he)
  have hn := Nat.eq_of_beq_eq_true hn
  obtain ⟨ds, rfl⟩ := hag
  have hl : ds.length = n := by rw [← hn]; exact hok.1
  exact OpA.load_agg (ds := ds) ho ht hx hh he (by simp [D.flat, ← hl]) hl hk A M w0 a w hr hv

/-- One cell. -/
theorem OpA.load {t : TypeId} {x : Operand} {c sz i k : Nat} {es : List D} {e d : D} (ho : o.op = .load t x) (ht : TI P t 1 false) (hx : ev fr x = .ptr c sz i k) (hh : Has c (.cells sz es) h)
    (he : es[i]? = some e) (hd : e.flat[k]? = some d) (hk : K d h) : OpA P o fr h K :=
  .of_quiet (fun A M w0 a w hr hv => by
    have h1 := hv x (by simp [ho, Op.operands])
    rw [hx] at h1
    generalize hu : a.eval x = u at h1
    cases h1
    have hlt := (List.getElem?_eq_some_iff.1 hd).1
    obtain ⟨_, cs, hcs, hcl, hcell⟩ := own_part (k := k) (n := 1) hr hh he (by omega)
    have hd0 : ((e.flat.drop k).take 1)[0]? = some d := by simpa using hd
    obtain ⟨v, hv1, hv2⟩ := (run_loadVar' ht hcs hcell (by simp; omega)).2 rfl d hd0
    exact ⟨v, by simp [execOp, ho, hu, Instr.loadAt, Instr.sureAddr, hv1], hv2⟩) hk

/-- The same through an address in memory that nobody writes. -/
theorem iptr_part {w : World} {X : Nat → Prop} {e : D} {cs : List Value} {b o k n : Nat} (hv : VL w X e.flat cs) (hl : Lie w X b o cs) (_hkn : k + n ≤ e.flat.length) :
    VL w X ((e.flat.drop k).take n) ((cs.drop k).take n) ∧ ∀ j c', ((cs.drop k).take n)[j]? = some c' → w.cell? ⟨b, o + k + j, none⟩ = some c' := by
  refine ⟨(hv.drop k).take n, fun j c' hj => ?_⟩
  have hjn : j < n := by
    have := (List.getElem?_eq_some_iff.1 hj).1
    simp at this; omega
  rw [List.getElem?_take_of_lt hjn, List.getElem?_drop] at hj
  rcases hl with hl | ⟨_, hl⟩
  · subst hl; simp at hj
  · have := hl (k + j) c' hj
    rwa [show o + k + j = o + (k + j) from by omega]

theorem OpA.iload_agg {t : TypeId} {x : Operand} {k n : Nat} {ds : List D} {e : D} (ho : o.op = .load t x) (ht : TI P t n true) (hx : ev fr x = .iptr e k)
    (hd : (e.flat.drop k).take n = ds) (hl : ds.length = n) (hk : K (.agg ds) h) : OpA P o fr h K :=
  .of_quiet (fun A M w0 a w hr hv => by
    have h1 := hv x (by simp [ho, Op.operands])
    rw [hx] at h1
    generalize hu : a.eval x = u at h1
    cases h1 with
    | @iptr _ _ cs b oo _ hv hlie =>
      have hkn : k + n ≤ e.flat.length ∨ n = 0 := by subst hd; simp at hl; omega
      rcases hkn with hkn | hn
      · obtain ⟨h2, h3⟩ := iptr_part hv hlie hkn
        rw [hd] at h2
        obtain ⟨v, hv1, hv2⟩ := (run_loadVar' ht h2 h3 hl).1 rfl
        exact ⟨v, by simp [execOp, ho, hu, Instr.loadAt, Instr.sureAddr, hv1], hv2⟩
      · have : ds = [] := by rw [← hd, hn]; simp
        subst this
        obtain ⟨v, hv1, hv2⟩ := (run_loadVar' (b := b) (o := oo + k) ht (.nil : VL w (XX A h) [] []) (by simp) hl).1 rfl
        exact ⟨v, by simp [execOp, ho, hu, Instr.loadAt, Instr.sureAddr, hv1], hv2⟩) hk

theorem OpA.iload_whole {t : TypeId} {x : Operand} {n : Nat} {e : D} (ho : o.op = .load t x) (ht : TI P t n true) (hx : ev fr x = .iptr e 0) (hag : ∃ ds, e = .agg ds ∧ ds.length = n) (hk : K e h) : OpA P o fr h K := by
  obtain ⟨ds, rfl, hl⟩ := hag
  exact OpA.iload_agg (ds := ds) ho ht hx (by simp [D.flat, ← hl]) hl hk

theorem OpA.iload {t : TypeId} {x : Operand} {k : Nat} {e d : D} (ho : o.op = .load t x) (ht : TI P t 1 false) (hx : ev fr x = .iptr e k) (hd : e.flat[k]? = some d) (hk : K d h) : OpA P o fr h K :=
  .of_quiet (fun A M w0 a w hr hv => by
    have h1 := hv x (by simp [ho, Op.operands])
    rw [hx] at h1
    generalize hu : a.eval x = u at h1
    cases h1 with
    | @iptr _ _ cs b oo _ hv hlie =>
      have hlt := (List.getElem?_eq_some_iff.1 hd).1
      obtain ⟨h2, h3⟩ := iptr_part (k := k) (n := 1) hv hlie (by omega)
      have hd0 : ((e.flat.drop k).take 1)[0]? = some d := by simpa using hd
      obtain ⟨v, hv1, hv2⟩ := (run_loadVar' ht h2 h3 (by simp; omega)).2 rfl d hd0
      exact ⟨v, by simp [execOp, ho, hu, Instr.loadAt, Instr.sureAddr, hv1], hv2⟩) hk
end
end Go.Lic
