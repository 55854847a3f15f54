/-
  append(nil, make(..)...): a new slice of zero values; cap of nil; a slice of nil.
-/
import Derived.Test.YtciihmjdccecgaaDoorHv
set_option linter.all false
namespace Go.Lic

theorem OpA.capNil {cl : Call} {s : Operand} {ti : TypeId} {P : Program} {o : Oper} {fr : Nat → D} {h : Heap} {K : D → Heap → Prop} (ho : o.op = .call cl) (hc : cl.callee = .builtin .cap) (ha : cl.args = #[s]) (hs : ev fr s = .v (.slice none 0 0)) {e : TypeId} (hty : cl.argTypes = #[ti]) (ht : P.underlying ti = some (.slice e)) (hk : K (.i 0) h) : OpA P o fr h K :=
  .of_quiet (fun A M w0 a w _ hv => by
    have h1 := hv s (by simp [ho, Op.operands, Call.operands, hc, ha])
    rw [hs] at h1
    generalize hu : a.eval s = u at h1
    cases h1
    exact ⟨.int .i64 0, by simp [execOp, ho, resolve, hc, invoke, builtin, ha, hu, hty, Builtin.cap_, run_underlying ht, goInt], .v _⟩) hk
theorem run_sliceBounds0 {P : Program} {w : World} : (Instr.sliceBounds true 0 0 none (some (.int .i64 0)) none).run P w = .ok (0, 0, 0) w := by
  simp [Instr.sliceBounds, run_sliceBound' (k := .i64) (i := 0) (y := 0) (by omega) (by simp)]
theorem OpA.sliceNil {t e : TypeId} {x y : Operand} {sz bytes : Nat} {agg : Bool} {P : Program} {o : Oper} {fr : Nat → D} {h : Heap} {K : D → Heap → Prop} (ho : o.op = .slice t x none (some y) none) (ht : TS P t e sz bytes agg) (hs : ev fr x = .v (.slice none 0 0)) (hy : ev fr y = .i 0) (hk : K (.v (.slice none 0 0)) h) : OpA P o fr h K :=
  .of_quiet (fun A M w0 a w _ hv => by
    have h1 := hv x (by simp [ho, Op.operands])
    have h2 := hv y (by simp [ho, Op.operands])
    rw [hs] at h1; rw [hy] at h2
    generalize hu : a.eval x = u at h1
    generalize hu2 : a.eval y = u2 at h2
    cases h1; cases h2
    exact ⟨.slice none 0 0, by simp [execOp, ho, hu, hu2, Instr.sliceAt, Instr.slice, run_underlying ht.desc, ht.elem.size, run_sliceBounds0], .v _⟩) hk
theorem zeroCells_made (z : Array Value) (n : Nat) : Builtin.zeroCells z n = madeCells z (n * z.size) := rfl
section
variable {P : Program} {o : Oper} {fr : Nat → D} {h : Heap} {K : D → Heap → Prop} {T : Type} [Inhabited T] {enc : T → D}
set_option maxRecDepth 20000 in
theorem OpA.appendZ {t ti e : TypeId} {sz bytes : Nat} {agg : Bool} {cl : Call} {s x : Operand} {n : Int} {z : Value} {v0 : T} (ho : o.op = .call cl) (hc : cl.callee = .builtin .append) (ha : cl.args = #[s, x]) (hty : cl.argTypes = #[t, ti])
    (ht : TS P t e sz bytes agg) (hti : P.underlying ti = some (.int .i64)) (hs : ev fr s = .v (.slice none 0 0)) (hx : ev fr x = .i n) (hz : (P.info? e).bind (·.zero) = some z) (hd : ∀ w X, V w X (enc v0) z) (hok : (enc v0).ok sz)
    (hb : 0 < n ∧ n * bytes ≤ 140737488355328 ∧ n ≤ 9223372036854775807) (hk : ∀ c, K (.own c sz ([] : List D).length (List.replicate n.toNat v0).length) ((c, .cells sz (winL enc [] (List.replicate n.toNat v0) [])) :: h)) : OpA P o fr h K :=
  .of_run fun A M w0 ac w hr hv => by
    have h1 := hv s (append_operands ho hc ha).1
    have h2 := hv x (append_operands ho hc ha).2
    rw [hs] at h1; rw [hx] at h2
    generalize hu : ac.eval s = u at h1
    generalize hu2 : ac.eval x = u2 at h2
    cases h1; cases h2
    obtain ⟨hn0, hnb, hn63⟩ := hb
    obtain ⟨m, rfl⟩ : ∃ m : Nat, n = m := ⟨n.toNat, by omega⟩
    obtain ⟨i, hi, hiz⟩ := Option.bind_eq_some_iff.1 hz
    have hbi : i.bytes = bytes := by have := ht.bytes; simpa [hi] using this
    have hsi : i.size = sz := by have := ht.elem.size w; simpa [sizeOf, typeInfo, hi] using this
    have hwrap : IntKind.i64.wrap (m : Int) = m := wrap64_in (by omega)
    have hmb : m * bytes ≤ 140737488355328 := by
      have h : ((m * bytes : Nat) : Int) ≤ 140737488355328 := by rw [Int.natCast_mul]; exact hnb
      omega
    have hgrow := growslice_fits (need := m) (old := 0) (by omega) hmb
    have hng : ¬ (Builtin.nextslicecap m 0 * bytes > 2 ^ 48) := by omega
    have has : ∀ w : World, (asInt (.int .i64 (m : Int))).run P w = .ok (m : Int) w := fun w => by simp [asInt, asIntOf]
    have hinfo : ∀ w : World, (typeInfo e).run P w = .ok i w := fun w => by simp [typeInfo, hi]
    have hzv : ∀ w : World, (zeroValue e).run P w = .ok z w := fun w => by simp [zeroValue, typeInfo, hi, hiz]
    have hzs : z.cells.size = sz := by rw [(hd w (XX A h)).cells_size hok]
    obtain ⟨ncap, hncap, hncapge⟩ : ∃ ncap, (Question.appendCap m 0 e).cut (w.tape w.drawn (.appendCap m 0 e)) = ncap ∧ m ≤ ncap := ⟨_, rfl, by simp [Question.cut]⟩
    obtain ⟨r1, m1⟩ := hr.quiet (w' := w.drew) rfl rfl rfl rfl (Nat.le_succ _)
    have hvl := made_VL (hd w.drew (XX A h)) hok
    have hpre : (madeCells z.cells (m * sz)).toList <+: (#[] ++ Builtin.zeroCells z.cells m ++ Builtin.zeroCells z.cells (ncap - m)).toList := by
      rw [zeroCells_made, hzs]
      simp only [Array.toList_append, Array.toList_empty, List.nil_append]
      exact List.prefix_append _ _
    obtain ⟨_, h5, h6⟩ := r1.alloc (sz := sz) (es := List.replicate m (enc v0)) (#[] ++ Builtin.zeroCells z.cells m ++ Builtin.zeroCells z.cells (ncap - m)) e (fun d' hd' => by rw [List.eq_of_mem_replicate hd']; exact hok) (hvl _) hpre
    have hk' := hk (2 * w.heap.size)
    have hw : winL enc [] (List.replicate m v0) [] = List.replicate m (enc v0) := by simp [winL]
    simp only [Int.toNat_natCast, List.length_replicate, List.length_nil] at hk'
    rw [hw] at hk'
    have hsz0 : m * sz ≠ 0 → True := fun _ => trivial
    have hfirst0 : ∀ w : World, (Builtin.firstCells sz 0 (.slice none 0 0)).run P w = .ok #[] w := fun w => by simp [Builtin.firstCells]
    refine ⟨.slice (some ⟨w.heap.size, 0, none⟩) m ncap, _, _, _, ?_, hk', h5, m1.trans h6, ?_⟩
    · have hroom : ¬ (m ≤ 0) := by omega
      have hnm : ¬ (((m : Nat) : Int) > IntKind.i64.max) := by rw [IntKind.max_i64]; omega
      have hl0 : ¬ ((m : Int) < 0) := by omega
      have hl1 : ¬ ((m : Int) * (i.bytes : Int) > 2 ^ 48) := by
        rw [hbi]
        omega
      by_cases hms : m * sz = 0
      · have hsz : sz = 0 := by
          rcases Nat.mul_eq_zero.1 hms with h | h
          · omega
          · exact h
        have hz0 : ∀ k, Builtin.zeroCells z.cells k = #[] := fun k => by simp [Builtin.zeroCells, hzs, hsz]
        simp only [execOp, ho, resolve, hc, Sem.run_bind, Sem.run_pure, Result.andThen_ok, invoke, builtin, hty, ha, List.map_toArray, List.map_cons, List.map_nil, hu, hu2, Builtin.append_, Array.getElem?_eq_getElem, List.size_toArray, List.length_cons, List.length_nil, Nat.zero_add, Nat.reduceLT, Nat.reduceAdd, List.getElem_toArray, List.getElem_cons_zero, List.getElem_cons_succ,
          run_underlying ht.desc, run_underlying hti, ht.elem.size, has, hwrap, hl0, hl1, hinfo, if_true, if_false, Int.toNat_natCast, hms, hz0]
        simp only [hroom, if_false, hnm, hng, hbi, false_and, run_choose, Question.forced, World.drew_eq, hncap, run_askRoom, hfirst0, Sem.run_bind, Result.andThen_ok, Sem.run_pure, hinfo, hzv, hz0, newRow, run_newObj, World.alloc_eq, Sem.run_ite]
        rfl
      · simp only [execOp, ho, resolve, hc, Sem.run_bind, Sem.run_pure, Result.andThen_ok, invoke, builtin, hty, ha, List.map_toArray, List.map_cons, List.map_nil, hu, hu2, Builtin.append_, Array.getElem?_eq_getElem, List.size_toArray, List.length_cons, List.length_nil, Nat.zero_add, Nat.reduceLT, Nat.reduceAdd, List.getElem_toArray, List.getElem_cons_zero, List.getElem_cons_succ,
          run_underlying ht.desc, run_underlying hti, ht.elem.size, has, hwrap, hl0, hl1, hinfo, if_true, if_false, Int.toNat_natCast, hms]
        simp only [hroom, if_false, hnm, hng, hbi, false_and, run_choose, Question.forced, World.drew_eq, hncap, run_askRoom, hfirst0, Sem.run_bind, Result.andThen_ok, Sem.run_pure, hinfo, hzv, newRow, run_newObj, World.alloc_eq, Sem.run_ite]
        rfl
    · refine .own hncapge (.inl ⟨by omega, by simp, e, (#[] ++ Builtin.zeroCells z.cells m ++ Builtin.zeroCells z.cells (ncap - m)).size, ?_, ?_⟩)
      · rw [show 2 * w.heap.size / 2 = w.drew.heap.size from by show 2 * w.heap.size / 2 = w.heap.size; omega]; exact shape_alloc_new _ _ _
      · simp only [Array.size_append, size_zeroCells, hzs, List.length_nil, Nat.zero_add, List.size_toArray]
        rw [← Nat.add_mul]
        apply Nat.mul_le_mul_right
        omega
end

section
variable {P : Program} {o : Oper} {fr : Nat → D} {h : Heap} {K : D → Heap → Prop}
end
end Go.Lic
