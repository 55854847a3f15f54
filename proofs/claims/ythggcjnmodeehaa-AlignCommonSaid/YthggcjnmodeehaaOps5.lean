/-
  Operations, fifth part: slice literals, make, append.
-/
import Derived.Test.YthggcjnmodeehaaOps4
set_option linter.all false
namespace Go.Lic

theorem setAt_eq {α : Type} (l xs : List α) (i : Nat) (h : i + xs.length ≤ l.length) : setAt l i xs = l.take i ++ xs ++ l.drop (i + xs.length) := by
  apply List.ext_getElem?
  intro j
  rw [setAt_get]
  by_cases h1 : i ≤ j ∧ j < i + xs.length ∧ j < l.length
  · rw [if_pos h1, List.append_assoc, List.getElem?_append_right (by simp; omega), List.getElem?_append_left (by simp; omega)]
    congr 1; simp; omega
  · rw [if_neg h1]
    by_cases h2 : j < i
    · rw [List.append_assoc, List.getElem?_append_left (by simp; omega), List.getElem?_take_of_lt h2]
    · rw [List.getElem?_append_right (by simp; omega), List.getElem?_drop]
      congr 1; simp; omega

theorem fillD_row {sz : Nat} : ∀ (ds : List D) (k : Nat) (cells : List D) (ps : List (Nat × D)), (∀ d ∈ ds, d.ok sz) → (k + ds.length) * sz ≤ cells.length → ps.map (·.1) = List.range' k ds.length → ps.map (·.2) = ds →
    fillD (fun i => some (i * sz, sz)) cells ps = some (cells.take (k * sz) ++ D.flats ds ++ cells.drop ((k + ds.length) * sz))
  | [], k, cells, ps, _, _, h1, _ => by
    have : ps = [] := by simpa using h1
    subst this
    simp [fillD, D.flats]
  | d :: ds, k, cells, [], _, _, _, h2 => by simp at h2
  | d :: ds, k, cells, (i, e) :: ps, hok, hl, h1, h2 => by
    simp only [List.map_cons, List.cons.injEq, List.length_cons, List.range'_succ] at h1 h2
    obtain ⟨rfl, h1⟩ := h1
    obtain ⟨rfl, h2⟩ := h2
    have he := (hok e (by simp)).1
    simp only [List.length_cons] at hl ⊢
    have e1 : (i + (ds.length + 1)) * sz = i * sz + sz + ds.length * sz := by rw [show i + (ds.length + 1) = i + 1 + ds.length from by omega, Nat.add_mul, Nat.succ_mul]
    have hb : (Nat.beq e.flat.length sz && Nat.ble (i * sz + e.flat.length) cells.length) = true := by
      rw [Bool.and_eq_true]
      refine ⟨?_, Nat.ble_eq_true_of_le (by omega)⟩
      rw [he]; simp
    simp only [fillD, hb, cond_true]
    have e2 : (i + 1 + ds.length) * sz = i * sz + sz + ds.length * sz := by rw [Nat.add_mul, Nat.succ_mul]
    rw [fillD_row ds (i + 1) _ ps (fun x hx => hok x (List.mem_cons_of_mem _ hx)) (by rw [setAt_length, e2]; omega) h1 h2]
    congr 1
    rw [setAt_eq _ _ _ (by omega), he, flats_cons, e1, e2, Nat.succ_mul]
    have t1 : (cells.take (i * sz) ++ e.flat ++ cells.drop (i * sz + sz)).take (i * sz + sz) = cells.take (i * sz) ++ e.flat := by
      rw [List.take_append_of_le_length (by simp; omega), List.take_of_length_le (by simp; omega)]
    have t2 : (cells.take (i * sz) ++ e.flat ++ cells.drop (i * sz + sz)).drop (i * sz + sz + ds.length * sz) = cells.drop (i * sz + sz + ds.length * sz) := by
      rw [List.drop_append, List.drop_eq_nil_of_le (by simp; omega), List.nil_append, List.drop_drop]
      congr 1; simp; omega
    rw [t1, t2]
    simp

theorem TS.zeroRun {P : Program} {t e : TypeId} {sz bytes : Nat} {agg : Bool} (h : TS P t e sz bytes agg) : ∃ z, (∀ w, (zeroValue e).run P w = .ok z w) ∧ z.cells.size = sz ∧ (P.info? e).bind (·.zero) = some z := by
  obtain ⟨z, h1, h2⟩ := Option.map_eq_some_iff.1 h.zero
  refine ⟨z, fun w => ?_, h2, h1⟩
  obtain ⟨i, hi, hi2⟩ := Option.bind_eq_some_iff.1 h1
  simp [zeroValue, typeInfo, hi, hi2]

theorem shape_alloc_new (w : World) (arr : Array Value) (e : TypeId) : (w.alloc (.cells arr e)).shape? w.heap.size = some (e, arr.size) := by
  unfold World.shape?; rw [get_alloc_new]

section
variable {P : Program} {o : Oper} {fr : Nat → D} {h : Heap} {K : D → Heap → Prop}

theorem buildSlice_run {A M : Nat → Prop} {w0 w : World} {ac : Act} {t e : TypeId} {sz bytes len : Nat} {agg : Bool} {parts : Array (Nat × Operand)} (ht : TS P t e sz bytes agg) (hidx : parts.toList.map (·.1) = List.range len)
    (hok : ∀ p ∈ parts.toList, (ev fr p.2).ok sz) (hb : len * sz ≤ 16777216) (hv : ∀ p ∈ parts.toList, V w (XX A h) (ev fr p.2) (ac.eval p.2)) (_hr : HRel A M w0 h w) :
    ∃ arr : Array Value, (Instr.buildSlice t len (parts.map fun (i, x) => (i, ac.eval x))).run P w = .ok (.slice (some ⟨w.heap.size, 0, none⟩) len len) (w.alloc (.cells arr e)) ∧
      VL w (XX A h) (D.flats (parts.toList.map fun p => ev fr p.2)) arr.toList ∧ arr.size = len * sz ∧ (parts.toList.map fun p => ev fr p.2).length = len := by
  obtain ⟨z, hz, hzs, _⟩ := ht.zeroRun
  have hlen : (parts.toList.map fun p => ev fr p.2).length = len := by
    have := congrArg List.length hidx
    simpa using this
  have hoks : ∀ d ∈ (parts.toList.map fun p => ev fr p.2), d.ok sz := fun d hd => by
    obtain ⟨p, hp, rfl⟩ := List.mem_map.1 hd
    exact hok p hp
  have hvs := parts_VL (ac := ac) parts.toList hv
  -- zero cells of data: any will do
  have hzero : ∀ (arr0 : Array Value), arr0.size = len * sz → ∃ cs', Instr.fill (fun i => some (i * sz, sz)) arr0 (parts.toList.map fun p => (p.1, ac.eval p.2)) = some cs' ∧ VL w (XX A h) (D.flats (parts.toList.map fun p => ev fr p.2)) cs'.toList := by
    intro arr0 h0
    have hv0 : VL w (XX A h) (arr0.toList.map D.v) arr0.toList := by
      generalize arr0.toList = l
      induction l with
      | nil => exact .nil
      | cons x l ih => exact .cons (.v x) ih
    have hf := fillD_row (sz := sz) (parts.toList.map fun p => ev fr p.2) 0 (arr0.toList.map D.v) (parts.toList.map fun p => (p.1, ev fr p.2)) hoks (by simp at hlen; simp [hlen, h0]) (by
      rw [hlen, List.map_map, ← List.range_eq_range', ← hidx]; rfl) (by rw [List.map_map]; rfl)
    have hll : (arr0.toList.map D.v).drop ((0 + (parts.toList.map fun p => ev fr p.2).length) * sz) = [] := by
      apply List.drop_eq_nil_of_le; rw [hlen]; simp [h0]
    rw [hll] at hf
    simp only [Nat.zero_mul, List.take_zero, List.nil_append, List.append_nil] at hf
    exact fill_of_fillD (place := fun i => some (i * sz, sz)) _ (parts.toList.map fun p => (p.1, ac.eval p.2)) _ _ arr0 hv0 (by simp) (by rw [List.map_map, List.map_map]; exact hvs)
      (by intro p hp; obtain ⟨q, hq, rfl⟩ := List.mem_map.1 hp; exact ⟨sz, hok q hq⟩) hf
  have hpt : (parts.map fun (x : Nat × Operand) => (x.1, ac.eval x.2)).toList = parts.toList.map fun p => (p.1, ac.eval p.2) := by simp
  have hb' : ¬ (len * sz > 2 ^ 24) := by omega
  by_cases h0 : len * sz = 0
  · obtain ⟨cs', h1, h2⟩ := hzero ((Array.range (len * sz)).map (fun j => (#[] : Array Value)[j % 0]!)) (by simp)
    refine ⟨cs', ?_, h2, ?_, hlen⟩
    · simp only [Instr.buildSlice, Sem.run_bind, run_underlying ht.desc, Result.andThen_ok, ht.elem.size, Sem.run_ite, if_neg hb', if_pos h0, Sem.run_pure, hpt]
      simp only [Array.size_empty] at h1 ⊢
      rw [h1]
      simp [newRow]
    · have := h2.length; rw [flats_length _ hoks, hlen] at this; simpa using this.symm
  · obtain ⟨cs', h1, h2⟩ := hzero ((Array.range (len * sz)).map (fun j => z.cells[j % z.cells.size]!)) (by simp)
    refine ⟨cs', ?_, h2, ?_, hlen⟩
    · simp only [Instr.buildSlice, Sem.run_bind, run_underlying ht.desc, Result.andThen_ok, ht.elem.size, Sem.run_ite, if_neg hb', if_neg h0, Sem.run_pure, hz, hpt]
      rw [h1]
      simp [newRow]
    · have := h2.length; rw [flats_length _ hoks, hlen] at this; simpa using this.symm

theorem buildSlice_operands {t : TypeId} {len : Nat} {parts : Array (Nat × Operand)} (ho : o.op = .buildSlice t len parts) : ∀ p ∈ parts.toList, p.2 ∈ o.op.operands := by
  intro p hp
  simp [ho, Op.operands]
  exact ⟨p.1, by simpa using hp⟩

/-- A slice literal that nobody will write. -/
theorem OpA.ibuildSlice {t e : TypeId} {sz bytes len : Nat} {agg : Bool} {parts : Array (Nat × Operand)} (ho : o.op = .buildSlice t len parts) (ht : TS P t e sz bytes agg) (hidx : parts.toList.map (·.1) = List.range len)
    (hok : ∀ p ∈ parts.toList, (ev fr p.2).ok sz) (hb : len * sz ≤ 16777216) (hk : K (.list sz (parts.toList.map fun p => ev fr p.2)) h) : OpA P o fr h K :=
  .of_run fun A M w0 ac w hr hv => by
    obtain ⟨arr, h1, h2, h3, h4⟩ := buildSlice_run (ac := ac) ht hidx hok hb (fun p hp => hv p.2 (buildSlice_operands ho p hp)) hr
    obtain ⟨h5, h6⟩ := hr.allocOut (.cells arr e)
    refine ⟨.slice (some ⟨w.heap.size, 0, none⟩) len len, _, _, h, by simp only [execOp, ho, Sem.run_bind, h1, Result.andThen_ok, Sem.run_pure], hk, h5, h6, ?_⟩
    have := V.list (w := w.alloc (.cells arr e)) (X := XX A h) (sz := sz) (a := some ⟨w.heap.size, 0, none⟩) (b := w.heap.size) (o := 0) (cap := len) (cs := arr.toList)
      (fun d hd => by obtain ⟨p, hp, rfl⟩ := List.mem_map.1 hd; exact hok p hp) (h2.mono h6) (fun _ => rfl) (.inr ⟨fun hx => by have := hr.xlt hx; omega, fun j c hj => by simpa using hj⟩) (by omega)
    rwa [h4] at this

/-- A slice literal of the call's own. -/
theorem OpA.buildSlice {t e : TypeId} {sz bytes len : Nat} {agg : Bool} {parts : Array (Nat × Operand)} (ho : o.op = .buildSlice t len parts) (ht : TS P t e sz bytes agg) (hidx : parts.toList.map (·.1) = List.range len)
    (hok : ∀ p ∈ parts.toList, (ev fr p.2).ok sz) (hb : len * sz ≤ 16777216) (hk : ∀ c, K (.own c sz 0 len) ((c, .cells sz (parts.toList.map fun p => ev fr p.2)) :: h)) : OpA P o fr h K :=
  .of_run fun A M w0 ac w hr hv => by
    obtain ⟨arr, h1, h2, h3, h4⟩ := buildSlice_run (ac := ac) ht hidx hok hb (fun p hp => hv p.2 (buildSlice_operands ho p hp)) hr
    obtain ⟨_, h5, h6⟩ := hr.alloc (sz := sz) arr e (fun d hd => by obtain ⟨p, hp, rfl⟩ := List.mem_map.1 hd; exact hok p hp) h2 (List.prefix_refl _)
    refine ⟨.slice (some ⟨w.heap.size, 0, none⟩) len len, _, _, _, by simp only [execOp, ho, Sem.run_bind, h1, Result.andThen_ok, Sem.run_pure], hk _, h5, h6, ?_⟩
    refine .own (Nat.le_refl _) (.inl ⟨by omega, by simp, e, arr.size, ?_, by rw [h3]; simp⟩)
    rw [show 2 * w.heap.size / 2 = w.heap.size from by omega, shape_alloc_new]

theorem made_add (z : Array Value) (a b : Nat) (ha : a % z.size = 0) : (madeCells z (a + b)).toList = (madeCells z a).toList ++ (madeCells z b).toList := by
  simp only [madeCells, Array.toList_map, Array.toList_range, List.range_add, List.map_append, List.map_map]
  congr 1
  apply List.map_congr_left
  intro x _
  simp only [Function.comp]
  rw [Nat.add_mod, ha, Nat.zero_add, Nat.mod_mod]

theorem made_one (z : Array Value) : (madeCells z z.size).toList = z.toList := by
  apply List.ext_getElem?
  intro j
  simp only [madeCells, Array.toList_map, Array.toList_range, List.getElem?_map]
  by_cases hj : j < z.size
  · rw [List.getElem?_range hj]
    simp [Nat.mod_eq_of_lt hj, hj]
  · rw [List.getElem?_eq_none (by simp; omega), List.getElem?_eq_none (by simp; omega)]
    rfl

theorem made_VL {w : World} {X : Nat → Prop} {z : Value} {d : D} {sz : Nat} (hd : V w X d z) (hok : d.ok sz) : ∀ n, VL w X (D.flats (List.replicate n d)) (madeCells z.cells (n * sz)).toList
  | 0 => by simp [madeCells, D.flats]; exact .nil
  | n + 1 => by
    have hs := hd.cells_size hok
    rw [List.replicate_succ', flats_append, Nat.succ_mul, made_add _ _ _ (by rw [hs]; simp)]
    refine (made_VL hd hok n).append ?_
    rw [← hs, made_one]
    simpa [D.flats] using hd.cells hok

/-- make([]T, l, c). -/
theorem OpA.makeSlice {t e : TypeId} {sz bytes : Nat} {agg : Bool} {x y : Operand} {kl kc : IntKind} {l c : Int} {z : Value} {d : D} (ho : o.op = .makeSlice t x y) (ht : TS P t e sz bytes agg) (hx : ev fr x = .v (.int kl l)) (hy : ev fr y = .v (.int kc c))
    (hz : (P.info? e).bind (·.zero) = some z) (hd : ∀ w X, V w X d z) (hok : d.ok sz) (h0 : 0 ≤ l) (hlc : l ≤ c) (hb : (bytes : Int) * c ≤ 281474976710656) (h63 : c ≤ 9223372036854775807)
    (hk : ∀ b, K (.own b sz 0 l.toNat) ((b, .cells sz (List.replicate l.toNat d)) :: h)) : OpA P o fr h K :=
  .of_run fun A M w0 ac w hr hv => by
    have h1 := hv x (by simp [ho, Op.operands])
    have h2 := hv y (by simp [ho, Op.operands])
    rw [hx] at h1; rw [hy] at h2
    generalize hu : ac.eval x = u at h1
    generalize hu2 : ac.eval y = u2 at h2
    cases h1; cases h2
    obtain ⟨i, hi, hiz⟩ := Option.bind_eq_some_iff.1 hz
    have hbi : i.bytes = bytes := by have := ht.bytes; simpa [hi] using this
    have hsi : i.size = sz := by have := ht.elem.size w; simpa [sizeOf, typeInfo, hi] using this
    have hrun := run_make (P := P) w t e i z ht.desc hi hiz kl kc l c h0 hlc (by rw [hbi]; exact hb) h63
    rw [hsi] at hrun
    have hvl := made_VL (hd w (XX A h)) hok
    have hle : l.toNat ≤ c.toNat := by omega
    have hpre : (madeCells z.cells (l.toNat * sz)).toList <+: (madeCells z.cells (c.toNat * sz)).toList := by
      have e1 : c.toNat * sz = l.toNat * sz + (c.toNat - l.toNat) * sz := by rw [← Nat.add_mul]; congr 1; omega
      rw [e1, made_add _ _ _ (by rw [(hd w (XX A h)).cells_size hok]; simp)]
      exact List.prefix_append _ _
    obtain ⟨_, h5, h6⟩ := hr.alloc (sz := sz) (es := List.replicate l.toNat d) (madeCells z.cells (c.toNat * sz)) e (fun d' hd' => by rw [List.eq_of_mem_replicate hd']; exact hok) (hvl _) hpre
    refine ⟨.slice (some ⟨w.heap.size, 0, none⟩) l.toNat c.toNat, _, _, _, by simp only [execOp, ho, hu, hu2, Sem.run_bind, hrun, Result.andThen_ok, Sem.run_pure], hk _, h5, h6, ?_⟩
    refine .own hle (.inl ⟨by omega, by simp, e, c.toNat * sz, ?_, by simp⟩)
    rw [show 2 * w.heap.size / 2 = w.heap.size from by omega, shape_alloc_new, size_madeCells]

/-- What a slice value reads as. -/
inductive SrcIs (h : Heap) (sz : Nat) : D → List D → Prop
  | list {ds : List D} : SrcIs h sz (.list sz ds) ds
  | own {c i len : Nat} {es : List D} (hh : Has c (.cells sz es) h) (hl : i + len ≤ es.length) : SrcIs h sz (.own c sz i len) ((es.drop i).take len)
  | nil : SrcIs h sz (.v (.slice none 0 0)) []

theorem SrcIs.val {A M : Nat → Prop} {w0 w : World} {sz : Nat} {d : D} {ds : List D} {v : Value} (hs : SrcIs h sz d ds) (hr : HRel A M w0 h w) (hv : V w (XX A h) d v) :
    ∃ a cap cs, v = .slice a ds.length cap ∧ ds.length ≤ cap ∧ (∀ x ∈ ds, x.ok sz) ∧ VL w (XX A h) (D.flats ds) cs ∧ (cs = [] ∨ ∃ b oo, a = some ⟨b, oo, none⟩ ∧ ∀ j c, cs[j]? = some c → w.cell? ⟨b, oo + j, none⟩ = some c) := by
  cases hs with
  | list =>
    cases hv with
    | @list _ _ cs a b oo cap hok hvl ha hl hc =>
      refine ⟨a, cap, cs, rfl, hc, hok, hvl, ?_⟩
      rcases hl with hl | ⟨_, hl⟩
      · exact .inl hl
      · by_cases hcs : cs = []
        · exact .inl hcs
        · exact .inr ⟨b, oo, ha hcs, hl⟩
  | @own c i len es hh hl =>
    cases hv with
    | @own _ _ _ _ cap a hc hd =>
      obtain ⟨hok, hb⟩ := hr.cells hh
      have hlen : ((es.drop i).take len).length = len := by simp; omega
      rw [hlen]
      have hoks : ∀ x ∈ (es.drop i).take len, x.ok sz := fun x hx => hok x (List.mem_of_mem_drop (List.mem_of_mem_take hx))
      rcases hb with ⟨_, hb⟩ | ⟨hc2, arr, et, cs, ha, hvl, hp⟩
      · subst hb
        refine ⟨a, cap, [], rfl, hc, hoks, by simp [D.flats]; exact .nil, .inl rfl⟩
      · refine ⟨a, cap, (cs.drop (i * sz)).take (len * sz), rfl, hc, hoks, ?_, ?_⟩
        · rw [flats_take _ (fun x hx => hok x (List.mem_of_mem_drop hx)), flats_drop _ hok]
          exact (hvl.drop _).take _
        · rcases hd with ⟨_, rfl, _⟩ | ⟨hz, _⟩
          · refine .inr ⟨c / 2, i * sz, rfl, fun j c' hj => ?_⟩
            have hlt := (List.getElem?_eq_some_iff.1 hj).1
            rw [List.length_take] at hlt
            rw [List.getElem?_take_of_lt (by omega), List.getElem?_drop] at hj
            exact own_cell ha hp _ _ hj
          · subst hz; exact .inl (by simp)
  | nil =>
    cases hv
    exact ⟨none, 0, [], rfl, Nat.le_refl _, by simp, by simp [D.flats]; exact .nil, .inl rfl⟩

theorem run_firstCells' {w : World} {sz n cap : Nat} {a : Option Addr} {cs : List Value} (hl : cs.length = n * sz) (hc : cs = [] ∨ ∃ b oo, a = some ⟨b, oo, none⟩ ∧ ∀ j c, cs[j]? = some c → w.cell? ⟨b, oo + j, none⟩ = some c) :
    (Builtin.firstCells sz n (.slice a n cap)).run P w = .ok cs.toArray w := by
  rcases hc with hc | ⟨b, oo, rfl, hc⟩
  · subst hc
    have h0 : n * sz = 0 := by simpa using hl.symm
    cases a with
    | none => simp [Builtin.firstCells]
    | some a => simp [Builtin.firstCells, h0, loadCells, loadCellsFrom]
  · simp only [Builtin.firstCells, ← hl]
    exact run_loadCells' cs hc

/-- append of elements to a slice of the call's own: the model's side. -/
theorem append_coreX {A M : Nat → Prop} {w0 w : World} {t ty e : TypeId} {sz bytes : Nat} {agg : Bool} (ht : TS P t e sz bytes agg) (hr : HRel A M w0 h w) {c i len : Nat} {es ds : List D} {hf : Nat → Blk → Heap} {v xv : Value} {d : D}
    (hrepl : ∀ c' b', Repl c (.cells sz es) c' b' h (hf c' b')) (hil : i + len ≤ es.length) (hv : V w (XX A h) (.own c sz i len) v) (hs : SrcIs h sz d ds) (hxv : V w (XX A h) d xv) (hbytes : (len + ds.length) * bytes ≤ 140737488355328) (hmax : len + ds.length ≤ 9223372036854775807) :
    ∃ v' w' c' pre, (Builtin.append_ #[t, t] ty #[v, xv]).run P w = .ok v' w' ∧ HRel A M w0 (hf c' (.cells sz (pre ++ (es.drop i).take len ++ ds))) w' ∧
      Mono w (XX A h) w' (XX A (hf c' (.cells sz (pre ++ (es.drop i).take len ++ ds)))) ∧ V w' (XX A (hf c' (.cells sz (pre ++ (es.drop i).take len ++ ds)))) (.own c' sz pre.length (len + ds.length)) v' ∧ (pre.length ≤ i ∧ ((c' = c ∧ ∀ a n cap, v = .slice a n cap → ∃ n', v' = .slice a n' cap) ∨ (∃ a cap, v' = .slice a (len + ds.length) cap ∧ 0 < cap ∧ 0 < len + ds.length ∧ ∃ n, w'.shape? (c' / 2) = some (e, n)))) := by
  obtain ⟨xa, xcap, cs, rfl, hxcap, hdok, hdv, hcs⟩ := hs.val hr hxv
  have hcl : cs.length = ds.length * sz := by rw [← hdv.length, flats_length ds hdok]
  have hfirst := run_firstCells' (P := P) (w := w) (n := ds.length) (cap := xcap) hcl hcs
  have hone : ∀ u ∈ cs, u.oneCell' = true := hdv.oneCell (fun x hx => by
    obtain ⟨y, hy, hxy⟩ := List.mem_flatMap.1 hx
    exact (hdok y hy).2 x hxy)
  obtain ⟨hok, hblk⟩ := hr.cells (hrepl c (.cells sz es)).has
  have hmid := SrcIs.val (SrcIs.own (hrepl c (.cells sz es)).has hil) hr hv
  have hmlen : ((es.drop i).take len).length = len := by simp; omega
  obtain ⟨a, cap, mcs, hve, hmcap, hmok, hmv, hmc⟩ := hmid
  rw [hmlen] at hve hmcap
  subst hve
  have hmcl : mcs.length = len * sz := by rw [← hmv.length, flats_length _ hmok, hmlen]
  have hfirstm := run_firstCells' (P := P) (w := w) (n := len) (cap := cap) hmcl hmc
  by_cases hroom : len + ds.length ≤ cap
  · -- within the capacity
    cases hv with
    | own hlc hd =>
      rcases hd with ⟨hc2, rfl, et0, n0, hsh, hn0⟩ | ⟨hz1, hz2⟩
      · rcases hblk with ⟨hodd, _⟩ | ⟨_, arr, et, ocs, ha, hov, hop⟩
        · omega
        · have hn : (i + cap) * sz ≤ arr.size := by
            simp only [ha.shape, Option.some.injEq, Prod.mk.injEq] at hsh
            rw [← hsh.2] at hn0; exact hn0
          have hfit : (i + len) * sz + cs.length ≤ arr.size := by
            rw [hcl, ← Nat.add_mul]
            exact Nat.le_trans (Nat.mul_le_mul_right _ (by omega)) hn
          obtain ⟨w', arr', g1, g2, g3, g4, g5, g6, g7, g8, g9⟩ := run_storeCells' (P := P) cs 0 ((i + len) * sz) w arr ha hone (by omega)
          simp only [Nat.add_zero] at g1 g3
          have hocl : ocs.length = es.length * sz := by rw [← hov.length, flats_length es hok]
          have hoarr : ocs.length ≤ arr.toList.length := hop.length_le
          have hle : (i + len) * sz ≤ ocs.length := by rw [hocl]; exact Nat.mul_le_mul_right _ hil
          have hpe : es.take i ++ (es.drop i).take len ++ ds = es.take (i + len) ++ ds := by rw [List.take_add]
          have hpl : (es.take i).length = i := by simp; omega
          obtain ⟨r1, r2⟩ := hr.write (sz' := sz) (es' := es.take i ++ (es.drop i).take len ++ ds) (cs' := ocs.take ((i + len) * sz) ++ cs) (hrepl c _) hc2 (by
              intro x hx; rw [hpe] at hx
              rcases List.mem_append.1 hx with hx | hx
              · exact hok x (List.mem_of_mem_take hx)
              · exact hdok x hx) ha g2 g4 (by
              rw [hpe, flats_append, flats_take _ hok]
              exact (hov.take _).append hdv) (by
              obtain ⟨tl, htl⟩ := hop
              rw [g3, setAt_eq _ _ _ (by simpa using hfit)]
              refine ⟨arr.toList.drop ((i + len) * sz + cs.length), ?_⟩
              congr 2
              rw [← htl, List.take_append_of_le_length hle]) g5 g6 g7 g8 g9
          refine ⟨.slice (some ⟨c / 2, i * sz, none⟩) (len + ds.length) cap, w', c, es.take i, ?_, r1, r2, ?_, by simp; omega, .inl ⟨rfl, fun a n cp hv => ⟨_, by cases hv; rfl⟩⟩⟩
          · simp only [Builtin.append_, Array.getElem?_eq_getElem, List.size_toArray, List.length_cons, List.length_nil, Nat.zero_add, Nat.reduceLT, Nat.reduceAdd, List.getElem_toArray, List.getElem_cons_zero, List.getElem_cons_succ,
              Sem.run_bind, run_underlying ht.desc, Result.andThen_ok, ht.elem.size, Sem.run_pure, Bool.false_eq_true, if_false, Builtin.lenOf, hroom, if_true, hfirst, Addr.add_lit, Bool.not_false, Sem.run_ite]
            rw [show i * sz + len * sz = (i + len) * sz from by rw [Nat.add_mul], g1]
            rfl
          · rw [hpl]
            refine .own hroom (.inl ⟨hc2, rfl, et0, n0, ?_, hn0⟩)
            rw [r2.shape _ (lt_of_shape hsh)]; exact hsh
      · -- nothing is appended to nothing
        have hds : ds = [] := List.eq_nil_of_length_eq_zero (by omega)
        subst hds; subst hz1; subst hz2
        have hcs0 : cs = [] := List.eq_nil_of_length_eq_zero (by simpa using hcl)
        subst hcs0
        have hfirst0 : (Builtin.firstCells sz 0 (.slice xa 0 xcap)).run P w = .ok #[] w := by simpa using hfirst
        refine ⟨.slice a 0 0, w, c, es.take i, ?_, ?_⟩
        · simp only [Builtin.append_, Array.getElem?_eq_getElem, List.size_toArray, List.length_cons, List.length_nil, Nat.zero_add, Nat.reduceLT, Nat.reduceAdd, List.getElem_toArray, List.getElem_cons_zero, List.getElem_cons_succ,
            Sem.run_bind, run_underlying ht.desc, Result.andThen_ok, ht.elem.size, Sem.run_pure, Bool.false_eq_true, if_false, Builtin.lenOf, Nat.le_refl, if_true, hfirst0, Bool.not_false, Sem.run_ite]
          cases a <;> simp [storeCells]
        · have hpl : (es.take i).length = i := by simp; omega
          have hkeys := (hrepl c (.cells sz (es.take i ++ (es.drop i).take 0 ++ []))).keys_eq
          have hxx : XX A (hf c (.cells sz (es.take i ++ (es.drop i).take 0 ++ []))) = XX A h := by funext b; simp only [XX, hkeys]
          have htk : es.take i ++ (es.drop i).take 0 ++ [] = es.take i := by simp
          refine ⟨?_, by rw [hxx]; exact Mono.refl _ _, by rw [hpl]; exact .own (Nat.le_refl _) (.inr ⟨rfl, rfl⟩), by simp; omega, .inl ⟨rfl, fun a n cp hv => ⟨_, by cases hv; rfl⟩⟩⟩
          obtain ⟨h0, p1, p2⟩ := (hrepl c (.cells sz (es.take i ++ (es.drop i).take 0 ++ []))).perm
          obtain ⟨q1, q2⟩ := hr.perm p1
          refine (HRel.perm (h := (c, .cells sz (es.take i ++ (es.drop i).take 0 ++ [])) :: h0) ?_ p2.symm).1
          rw [htk]
          refine ⟨q1.nodup, ?_, q1.free, q1.mine, q1.bound, q1.old, q1.ext⟩
          intro c1 b1 hc1
          rcases List.mem_cons.1 hc1 with hc1 | hc1
          · cases hc1
            have := q1.blk c (.cells sz es) (by simp)
            have hxx2 : XX A ((c, .cells sz (es.take i)) :: h0) = XX A ((c, .cells sz es) :: h0) := rfl
            rw [hxx2]
            refine ⟨fun x hx => hok x (List.mem_of_mem_take hx), ?_⟩
            rcases this.2 with ⟨hodd, he⟩ | ⟨hev, arr, et, ocs, ha, hov, hop⟩
            · exact .inl ⟨hodd, by rw [he]; simp⟩
            · refine .inr ⟨hev, arr, et, ocs.take (i * sz), ha, by rw [flats_take _ hok]; exact hov.take _, ?_⟩
              exact (List.take_prefix _ _).trans hop
          · exact q1.blk c1 b1 (by simp [hc1])
  · -- a new array
    obtain ⟨z, hz, hzs, hzi⟩ := ht.zeroRun
    obtain ⟨bi, hbi, hbb⟩ := Option.map_eq_some_iff.1 ht.bytes
    have hgrow := growslice_fits (need := len + ds.length) (old := cap) (by omega) hbytes
    have hnm : ¬ ((len + ds.length : Nat) : Int) > IntKind.i64.max := by rw [IntKind.max_i64]; omega
    have hng : ¬ (Builtin.nextslicecap (len + ds.length) cap * bytes > 2 ^ 48) := by omega
    obtain ⟨ncap, hncap, hncapge⟩ : ∃ ncap, (Question.appendCap (len + ds.length) cap e).cut (w.tape w.drawn (.appendCap (len + ds.length) cap e)) = ncap ∧ len + ds.length ≤ ncap := ⟨_, rfl, by simp [Question.cut]⟩
    have hinfo : (typeInfo e).run P w = .ok bi w := by simp [typeInfo, hbi]
    have hinfo' : (typeInfo e).run P w.drew = .ok bi w.drew := by simp [typeInfo, hbi]
    obtain ⟨r1, m1⟩ := hr.quiet (w' := w.drew) rfl rfl rfl rfl
    obtain ⟨h0, p1, _⟩ := (hrepl c (.cells sz es)).perm
    obtain ⟨q1, m2⟩ := r1.perm p1
    obtain ⟨q2, m3⟩ := q1.tail
    have hm : Mono w (XX A h) w.drew (XX A h0) := (m1.trans m2).trans m3
    obtain ⟨_, q3, m4⟩ := q2.alloc (sz := sz) (es := [] ++ (es.drop i).take len ++ ds) (cs := mcs ++ cs) (mcs.toArray ++ cs.toArray ++ Builtin.zeroCells z.cells (ncap - (len + ds.length))) e (by
        intro x hx
        simp only [List.nil_append, List.mem_append] at hx
        rcases hx with hx | hx
        · exact hmok x hx
        · exact hdok x hx) (by
        rw [List.nil_append, flats_append]
        exact (hmv.append hdv).mono hm) (by simp)
    obtain ⟨h0', p1', p2'⟩ := (hrepl (2 * w.heap.size) (.cells sz ([] ++ (es.drop i).take len ++ ds))).perm
    have hp00 : h0'.Perm h0 := List.Perm.cons_inv (p1'.symm.trans p1)
    have hp3 : ((2 * w.heap.size, Blk.cells sz ([] ++ (es.drop i).take len ++ ds)) :: h0).Perm (hf (2 * w.heap.size) (.cells sz ([] ++ (es.drop i).take len ++ ds))) := (List.Perm.cons _ hp00.symm).trans p2'.symm
    obtain ⟨q4, m5⟩ := q3.perm hp3
    refine ⟨.slice (some ⟨w.heap.size, 0, none⟩) (len + ds.length) ncap, _, 2 * w.heap.size, [], ?_, q4, (hm.trans m4).trans m5, ?_, by simp, .inr ⟨_, _, rfl, by omega, by omega, (mcs.toArray ++ cs.toArray ++ Builtin.zeroCells z.cells (ncap - (len + ds.length))).size, by rw [show 2 * w.heap.size / 2 = w.drew.heap.size from by show 2 * w.heap.size / 2 = w.heap.size; omega]; exact shape_alloc_new _ _ _⟩⟩
    · have hz' := hz w.drew
      have hfd : (Builtin.firstCells sz ds.length (.slice xa ds.length xcap)).run P w.drew = .ok cs.toArray w.drew := run_firstCells' (P := P) (w := w.drew) hcl hcs
      have hfm : (Builtin.firstCells sz len (.slice a len cap)).run P w.drew = .ok mcs.toArray w.drew := run_firstCells' (P := P) (w := w.drew) hmcl hmc
      have hfalse : ¬ (((len + ds.length : Nat) : Int) > IntKind.i64.max ∧ (False ∨ bi.bytes = 0)) := fun hh => hnm hh.1
      simp only [Builtin.append_, Array.getElem?_eq_getElem, List.size_toArray, List.length_cons, List.length_nil, Nat.zero_add, Nat.reduceLT, Nat.reduceAdd, List.getElem_toArray, List.getElem_cons_zero, List.getElem_cons_succ,
        Sem.run_bind, run_underlying ht.desc, Result.andThen_ok, ht.elem.size, Sem.run_pure, Bool.false_eq_true, if_false, Builtin.lenOf, hroom, hinfo, hinfo', hbb, hnm, false_and, hng, run_choose, Question.forced, World.drew_eq, hncap, run_askRoom, hfm, hfd, hz',
        Bool.not_false, if_true, newRow, run_newObj, World.alloc_eq, Sem.run_ite]
      rfl
    · refine .own hncapge (.inl ⟨by omega, by simp, e, (mcs.toArray ++ cs.toArray ++ Builtin.zeroCells z.cells (ncap - (len + ds.length))).size, ?_, ?_⟩)
      · rw [show 2 * w.heap.size / 2 = w.drew.heap.size from by show 2 * w.heap.size / 2 = w.heap.size; omega]; exact shape_alloc_new _ _ _
      · simp only [Array.size_append, List.size_toArray, hmcl, hcl, size_zeroCells, hzs, List.length_nil, Nat.zero_add]
        rw [← Nat.add_mul, ← Nat.add_mul]
        apply Nat.mul_le_mul_right
        omega

theorem append_core {A M : Nat → Prop} {w0 w : World} {t ty e : TypeId} {sz bytes : Nat} {agg : Bool} (ht : TS P t e sz bytes agg) (hr : HRel A M w0 h w) {c i len : Nat} {es ds : List D} {hf : Nat → Blk → Heap} {v xv : Value} {d : D}
    (hrepl : ∀ c' b', Repl c (.cells sz es) c' b' h (hf c' b')) (hil : i + len ≤ es.length) (hv : V w (XX A h) (.own c sz i len) v) (hs : SrcIs h sz d ds) (hxv : V w (XX A h) d xv) (hbytes : (len + ds.length) * bytes ≤ 140737488355328) (hmax : len + ds.length ≤ 9223372036854775807) :
    ∃ v' w' c' pre, (Builtin.append_ #[t, t] ty #[v, xv]).run P w = .ok v' w' ∧ HRel A M w0 (hf c' (.cells sz (pre ++ (es.drop i).take len ++ ds))) w' ∧
      Mono w (XX A h) w' (XX A (hf c' (.cells sz (pre ++ (es.drop i).take len ++ ds)))) ∧ V w' (XX A (hf c' (.cells sz (pre ++ (es.drop i).take len ++ ds)))) (.own c' sz pre.length (len + ds.length)) v' := by
  obtain ⟨v', w', c', pre, g1, g2, g3, g4, _⟩ := append_coreX (ty := ty) ht hr hrepl hil hv hs hxv hbytes hmax
  exact ⟨v', w', c', pre, g1, g2, g3, g4⟩

theorem append_operands {c : Call} {s x : Operand} (ho : o.op = .call c) (hc : c.callee = .builtin .append) (ha : c.args = #[s, x]) : s ∈ o.op.operands ∧ x ∈ o.op.operands := by
  simp [ho, Op.operands, Call.operands, hc, ha]

/-- append(s, x...), s of the call's own. -/
theorem OpA.append {t e : TypeId} {sz bytes : Nat} {agg : Bool} {cl : Call} {s x : Operand} {c i len : Nat} {es ds : List D} {hf : Nat → Blk → Heap} (ho : o.op = .call cl) (hc : cl.callee = .builtin .append) (ha : cl.args = #[s, x]) (hty : cl.argTypes = #[t, t])
    (ht : TS P t e sz bytes agg) (hs : ev fr s = .own c sz i len) (hrepl : ∀ c' b', Repl c (.cells sz es) c' b' h (hf c' b')) (hx : SrcIs h sz (ev fr x) ds) (hil : i + len ≤ es.length)
    (hbytes : (len + ds.length) * bytes ≤ 140737488355328) (hmax : len + ds.length ≤ 9223372036854775807) (hk : ∀ c' pre, K (.own c' sz pre.length (len + ds.length)) (hf c' (.cells sz (pre ++ (es.drop i).take len ++ ds)))) : OpA P o fr h K :=
  .of_run fun A M w0 ac w hr hv => by
    have h1 := hv s (append_operands ho hc ha).1
    have h2 := hv x (append_operands ho hc ha).2
    rw [hs] at h1
    obtain ⟨v', w', c', pre, g1, g2, g3, g4⟩ := append_core (ty := o.type) ht hr hrepl hil h1 hx h2 hbytes hmax
    refine ⟨v', w', _, _, ?_, hk c' pre, g2, g3, g4⟩
    simp only [execOp, ho, resolve, hc, Sem.run_bind, Sem.run_pure, Result.andThen_ok, invoke, builtin, hty, ha, List.map_toArray, List.map_cons, List.map_nil, g1]

/-- append(s, x...), s nil. -/
theorem OpA.append_nil {t e : TypeId} {sz bytes : Nat} {agg : Bool} {cl : Call} {s x : Operand} {ds : List D} (ho : o.op = .call cl) (hc : cl.callee = .builtin .append) (ha : cl.args = #[s, x]) (hty : cl.argTypes = #[t, t])
    (ht : TS P t e sz bytes agg) (hs : ev fr s = .v (.slice none 0 0)) (hx : SrcIs h sz (ev fr x) ds)
    (hbytes : ds.length * bytes ≤ 140737488355328) (hmax : ds.length ≤ 9223372036854775807) (hk : ∀ c' pre, K (.own c' sz pre.length ds.length) ((c', .cells sz (pre ++ ds)) :: h)) : OpA P o fr h K :=
  .of_run fun A M w0 ac w hr hv => by
    have h1 := hv s (append_operands ho hc ha).1
    have h2 := hv x (append_operands ho hc ha).2
    rw [hs] at h1
    generalize hu : ac.eval s = u at h1
    cases h1
    obtain ⟨g, _, _, hr', hm⟩ := hr.ghost sz
    have hx' : SrcIs ((g, .cells sz []) :: h) sz (ev fr x) ds := by
      generalize ev fr x = dx at hx
      cases hx with
      | list => exact .list
      | own hh hl => exact .own (.tail hh) hl
      | nil => exact .nil
    obtain ⟨v', w', c', pre, g1, g2, g3, g4⟩ := append_core (ty := o.type) (i := 0) (len := 0) (es := []) (hf := fun c b => (c, b) :: h) (v := .slice none 0 0) ht hr' (fun _ _ => .head) (by simp) (.own (Nat.le_refl _) (.inr ⟨rfl, rfl⟩)) hx' (h2.mono hm) (by simpa using hbytes) (by simpa using hmax)
    simp only [List.drop_zero, List.take_nil, List.append_nil, Nat.zero_add] at g2 g3 g4
    refine ⟨v', w', _, _, ?_, hk c' pre, g2, hm.trans g3, g4⟩
    simp only [execOp, ho, resolve, hc, Sem.run_bind, Sem.run_pure, Result.andThen_ok, invoke, builtin, hty, ha, List.map_toArray, List.map_cons, List.map_nil, hu, g1]
end
end Go.Lic
