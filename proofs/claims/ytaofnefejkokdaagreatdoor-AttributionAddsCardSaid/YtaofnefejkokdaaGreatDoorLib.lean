/-
  append(nil, make(..)...): a new slice of zero values; cap of nil; a slice of nil.
-/
import Derived.Test.YtaofnefejkokdaaGreatDoorStates
import Derived.Test.YtaofnefejkokdaaGreatDoorVr
import Derived.Test.YtaofnefejkokdaaGreatDoorRange
import Derived.Lib.Builder
import Derived.Lib.UnsafeStr
import Derived.Laws.Externs
import Derived.Test.YtaofnefejkokdaaGreatDoorRel
import Derived.Test.YtaofnefejkokdaaGreatDoorTm
import Derived.Test.YtaofnefejkokdaaGreatDoorShelf
import Derived.Test.YtaofnefejkokdaaGreatDoorSort
import Derived.Test.YtaofnefejkokdaaGreatDoorMap
set_option linter.all false
namespace Go.Lic

theorem OpA.capNil {cl : Call} {s : Operand} {ti : TypeId} {P : Program} {o : Oper} {fr : Nat → D} {h : Heap} {K : D → Heap → Prop} (ho : o.op = .call cl) (hc : cl.callee = .builtin .cap) (ha : cl.args = #[s]) (hs : ev fr s = .v (.slice none 0 0)) {e : TypeId} (hty : cl.argTypes = #[ti]) (ht : P.underlying ti = some (.slice e)) (hk : K (.i 0) h) : OpA P o fr h K :=
  .of_quiet (fun A M w0 a w _ hv => by
    have h1 := hv s (by simp [ho, Op.operands, Call.operands, hc, ha])
    rw [hs] at h1
    generalize hu : a.eval s = u at h1
    cases h1
    exact ⟨.int .i64 0, by simp [execOp, ho, resolve, hc, invoke, builtin, ha, hu, hty, Builtin.cap_, run_underlying ht, goInt], .v _⟩) hk
theorem run_sliceBounds0 {P : Program} {w : World} : (Instr.sliceBounds true 0 0 none (some (.int .i64 0)) none).run P w = .ok (0, 0, 0) w := by
  simp [Instr.sliceBounds, run_sliceBound' (k := .i64) (i := 0) (y := 0) (by omega) (by simp)]
theorem OpA.sliceNil {t e : TypeId} {x y : Operand} {sz bytes : Nat} {agg : Bool} {P : Program} {o : Oper} {fr : Nat → D} {h : Heap} {K : D → Heap → Prop} (ho : o.op = .slice t x none (some y) none) (ht : TS P t e sz bytes agg) (hs : ev fr x = .v (.slice none 0 0)) (hy : ev fr y = .i 0) (hk : K (.v (.slice none 0 0)) h) : OpA P o fr h K :=
  .of_quiet (fun A M w0 a w _ hv => by
    have h1 := hv x (by simp [ho, Op.operands])
    have h2 := hv y (by simp [ho, Op.operands])
    rw [hs] at h1; rw [hy] at h2
    generalize hu : a.eval x = u at h1
    generalize hu2 : a.eval y = u2 at h2
    cases h1; cases h2
    exact ⟨.slice none 0 0, by simp [execOp, ho, hu, hu2, Instr.sliceAt, Instr.slice, run_underlying ht.desc, ht.elem.size, run_sliceBounds0], .v _⟩) hk
theorem zeroCells_made (z : Array Value) (n : Nat) : Builtin.zeroCells z n = madeCells z (n * z.size) := rfl
section
variable {P : Program} {o : Oper} {fr : Nat → D} {h : Heap} {K : D → Heap → Prop} {T : Type} [Inhabited T] {enc : T → D}
set_option maxRecDepth 20000 in
theorem OpA.appendZ {t ti e : TypeId} {sz bytes : Nat} {agg : Bool} {cl : Call} {s x : Operand} {n : Int} {z : Value} {v0 : T} (ho : o.op = .call cl) (hc : cl.callee = .builtin .append) (ha : cl.args = #[s, x]) (hty : cl.argTypes = #[t, ti])
    (ht : TS P t e sz bytes agg) (hti : P.underlying ti = some (.int .i64)) (hs : ev fr s = .v (.slice none 0 0)) (hx : ev fr x = .i n) (hz : (P.info? e).bind (·.zero) = some z) (hd : ∀ w X, V w X (enc v0) z) (hok : (enc v0).ok sz)
    (hb : 0 < n ∧ n * bytes ≤ 140737488355328 ∧ n ≤ 9223372036854775807) (hk : ∀ c, K (.own c sz ([] : List D).length (List.replicate n.toNat v0).length) ((c, .cells sz (winL enc [] (List.replicate n.toNat v0) [])) :: h)) : OpA P o fr h K :=
  .of_run fun A M w0 ac w hr hv => by
    have h1 := hv s (append_operands ho hc ha).1
    have h2 := hv x (append_operands ho hc ha).2
    rw [hs] at h1; rw [hx] at h2
    generalize hu : ac.eval s = u at h1
    generalize hu2 : ac.eval x = u2 at h2
    cases h1; cases h2
    obtain ⟨hn0, hnb, hn63⟩ := hb
    obtain ⟨m, rfl⟩ : ∃ m : Nat, n = m := ⟨n.toNat, by omega⟩
    obtain ⟨i, hi, hiz⟩ := Option.bind_eq_some_iff.1 hz
    have hbi : i.bytes = bytes := by have := ht.bytes; simpa [hi] using this
    have hsi : i.size = sz := by have := ht.elem.size w; simpa [sizeOf, typeInfo, hi] using this
    have hwrap : IntKind.i64.wrap (m : Int) = m := wrap64_in (by omega)
    have hmb : m * bytes ≤ 140737488355328 := by
      have h : ((m * bytes : Nat) : Int) ≤ 140737488355328 := by rw [Int.natCast_mul]; exact hnb
      omega
    have hgrow := growslice_fits (need := m) (old := 0) (by omega) hmb
    have hng : ¬ (Builtin.nextslicecap m 0 * bytes > 2 ^ 48) := by omega
    have has : ∀ w : World, (asInt (.int .i64 (m : Int))).run P w = .ok (m : Int) w := fun w => by simp [asInt, asIntOf]
    have hinfo : ∀ w : World, (typeInfo e).run P w = .ok i w := fun w => by simp [typeInfo, hi]
    have hzv : ∀ w : World, (zeroValue e).run P w = .ok z w := fun w => by simp [zeroValue, typeInfo, hi, hiz]
    have hzs : z.cells.size = sz := by rw [(hd w (XX A h)).cells_size hok]
    obtain ⟨ncap, hncap, hncapge⟩ : ∃ ncap, (Question.appendCap m 0 e).cut (w.tape w.drawn (.appendCap m 0 e)) = ncap ∧ m ≤ ncap := ⟨_, rfl, by simp [Question.cut]⟩
    obtain ⟨r1, m1⟩ := hr.quiet (w' := w.drew) rfl rfl rfl rfl (Nat.le_succ _)
    have hvl := made_VL (hd w.drew (XX A h)) hok
    have hpre : (madeCells z.cells (m * sz)).toList <+: (#[] ++ Builtin.zeroCells z.cells m ++ Builtin.zeroCells z.cells (ncap - m)).toList := by
      rw [zeroCells_made, hzs]
      simp only [Array.toList_append, Array.toList_empty, List.nil_append]
      exact List.prefix_append _ _
    obtain ⟨_, h5, h6⟩ := r1.alloc (sz := sz) (es := List.replicate m (enc v0)) (#[] ++ Builtin.zeroCells z.cells m ++ Builtin.zeroCells z.cells (ncap - m)) e (fun d' hd' => by rw [List.eq_of_mem_replicate hd']; exact hok) (hvl _) hpre
    have hk' := hk (2 * w.heap.size)
    have hw : winL enc [] (List.replicate m v0) [] = List.replicate m (enc v0) := by simp [winL]
    simp only [Int.toNat_natCast, List.length_replicate, List.length_nil] at hk'
    rw [hw] at hk'
    have hsz0 : m * sz ≠ 0 → True := fun _ => trivial
    have hfirst0 : ∀ w : World, (Builtin.firstCells sz 0 (.slice none 0 0)).run P w = .ok #[] w := fun w => by simp [Builtin.firstCells]
    refine ⟨.slice (some ⟨w.heap.size, 0, none⟩) m ncap, _, _, _, ?_, hk', h5, m1.trans h6, ?_⟩
    · have hroom : ¬ (m ≤ 0) := by omega
      have hnm : ¬ (((m : Nat) : Int) > IntKind.i64.max) := by rw [IntKind.max_i64]; omega
      have hl0 : ¬ ((m : Int) < 0) := by omega
      have hl1 : ¬ ((m : Int) * (i.bytes : Int) > 2 ^ 48) := by
        rw [hbi]
        omega
      by_cases hms : m * sz = 0
      · have hsz : sz = 0 := by
          rcases Nat.mul_eq_zero.1 hms with h | h
          · omega
          · exact h
        have hz0 : ∀ k, Builtin.zeroCells z.cells k = #[] := fun k => by simp [Builtin.zeroCells, hzs, hsz]
        simp only [execOp, ho, resolve, hc, Sem.run_bind, Sem.run_pure, Result.andThen_ok, invoke, builtin, hty, ha, List.map_toArray, List.map_cons, List.map_nil, hu, hu2, Builtin.append_, Array.getElem?_eq_getElem, List.size_toArray, List.length_cons, List.length_nil, Nat.zero_add, Nat.reduceLT, Nat.reduceAdd, List.getElem_toArray, List.getElem_cons_zero, List.getElem_cons_succ,
          run_underlying ht.desc, run_underlying hti, ht.elem.size, has, hwrap, hl0, hl1, hinfo, if_true, if_false, Int.toNat_natCast, hms, hz0]
        simp only [hroom, if_false, hnm, hng, hbi, false_and, run_choose, Question.forced, World.drew_eq, hncap, run_askRoom, hfirst0, Sem.run_bind, Result.andThen_ok, Sem.run_pure, hinfo, hzv, hz0, newRow, run_newObj, World.alloc_eq, Sem.run_ite]
        rfl
      · simp only [execOp, ho, resolve, hc, Sem.run_bind, Sem.run_pure, Result.andThen_ok, invoke, builtin, hty, ha, List.map_toArray, List.map_cons, List.map_nil, hu, hu2, Builtin.append_, Array.getElem?_eq_getElem, List.size_toArray, List.length_cons, List.length_nil, Nat.zero_add, Nat.reduceLT, Nat.reduceAdd, List.getElem_toArray, List.getElem_cons_zero, List.getElem_cons_succ,
          run_underlying ht.desc, run_underlying hti, ht.elem.size, has, hwrap, hl0, hl1, hinfo, if_true, if_false, Int.toNat_natCast, hms]
        simp only [hroom, if_false, hnm, hng, hbi, false_and, run_choose, Question.forced, World.drew_eq, hncap, run_askRoom, hfirst0, Sem.run_bind, Result.andThen_ok, Sem.run_pure, hinfo, hzv, newRow, run_newObj, World.alloc_eq, Sem.run_ite]
        rfl
    · refine .own hncapge (.inl ⟨by omega, by simp, e, (#[] ++ Builtin.zeroCells z.cells m ++ Builtin.zeroCells z.cells (ncap - m)).size, ?_, ?_⟩)
      · rw [show 2 * w.heap.size / 2 = w.drew.heap.size from by show 2 * w.heap.size / 2 = w.heap.size; omega]; exact shape_alloc_new _ _ _
      · simp only [Array.size_append, size_zeroCells, hzs, List.length_nil, Nat.zero_add, List.size_toArray]
        rw [← Nat.add_mul]
        apply Nat.mul_le_mul_right
        omega
end

section
variable {P : Program} {o : Oper} {fr : Nat → D} {h : Heap} {K : D → Heap → Prop}
theorem flats_empty {sz : Nat} (hs : 0 < sz) : ∀ ds : List D, (∀ d ∈ ds, d.ok sz) → D.flats ds = [] → ds = []
  | [], _, _ => rfl
  | d :: ds, hok, he => by
    have h1 := (hok d (by simp)).1
    rw [flats_cons, List.append_eq_nil_iff] at he
    rw [he.1] at h1
    simp at h1; omega
/-- A slice that nobody writes, held against nil: only an empty one can be nil. -/
theorem OpA.listNil {T : Type} {enc : T → D} {xs : List T} {t t2 e : TypeId} {x y : Operand} {sz : Nat} (ho : o.op = .binOp .eql t x y t2) (ht : P.underlying t = some (.slice e)) (hsz : Nat.blt 0 sz = true) (hx : ev fr x = .list sz (xs.map enc)) (hy : ev fr y = .v (.slice none 0 0))
    (hk : ∀ b : Bool, (b = true → xs = []) → K (.b b) h) : OpA P o fr h K :=
  .of_run fun A M w0 ac w hr hv => by
    have h1 := hv x (by simp [ho, Op.operands])
    have h2 := hv y (by simp [ho, Op.operands])
    rw [hx] at h1; rw [hy] at h2
    generalize hu : ac.eval x = u at h1
    generalize hu2 : ac.eval y = u2 at h2
    cases h2
    cases h1 with
    | @list _ _ cs a b off cap hok hvl ha hl hc =>
      have hd : ∀ (d n m : Nat) (a : Option Addr), (Op.equalIn (d + 1) t (.slice a n m) (.slice none 0 0)).run P w = .ok a.isNone w := fun d n m a => by
        cases a <;> simp [Op.equalIn, run_underlying ht]
      refine ⟨.bool a.isNone, w, .b a.isNone, h, ?_, hk a.isNone ?_, hr, Mono.refl _ _, .v _⟩
      · simp only [execOp, ho, hu, hu2]
        simp [eqGuard, binOp, Op.equal, Op.maxDepth, hd 9999]
      · intro hn
        have hcs : cs = [] := by
          apply Classical.byContradiction
          intro hne
          rw [ha hne] at hn; simp at hn
        subst hcs
        have hf : D.flats (xs.map enc) = [] := by
          have := hvl.length
          simpa using this
        have := flats_empty (by simpa [Nat.blt_eq] using hsz) _ hok hf
        simpa using this
end
end Go.Lic

set_option linter.all false
namespace Go.Lic

/-- What an iterator does: n0 rounds, each with its own arguments; between two rounds, I holds of our memory. -/
def BackC (P : Program) (g : Nat) (cs : List D) (n0 : Nat) (arg : Nat → List D) : Prop :=
  ∀ (c n : Nat) (fr : Nat → D) (ps : Array Tmp) (assign body : Code) (I : Nat → Heap → Prop), (∀ j h, j < n0 → I j h → RoundA P n fr ps assign body (arg j) h (I (j + 1))) → ∀ h0, I 0 h0 →
    CallH P g (.fn (.yield (c / 2)) [] [] :: cs) ((c, .loop n fr ps assign body) :: h0) (fun _ h' => ∃ h1, h'.Perm ((c, .loop n fr ps assign body) :: h1) ∧ I n0 h1)
/-- The arguments of a round of a loop over a slice backwards. -/
abbrev backArg {T : Type} [Inhabited T] (enc : T → D) (xs : List T) (j : Nat) : List D := [D.i ((xs.length : Int) - 1 - j), enc (gi xs ((xs.length : Int) - 1 - j))]

section
variable {P : Program} {n : Nat} {o : Oper} {fr : Nat → D} {h : Heap} {K : D → Heap → Prop} {Q : Post}
theorem wpA_back {T S G : Type} [Inhabited T] {enc : T → D} {xs : List T} {L : (S × Int → Prop) → S × Int → Prop} {s0 : S} {f : Operand} {g : Nat} {cs : List D} {ps : Array Tmp} {assign body : Code} (g0 : G) (H : G → S → Heap) (hf : ev fr f = .fn (.func g) [] cs)
    (he : entersB P g = true) (hit : BackC P g cs xs.length (backArg enc xs)) (hl : gfp L (s0, (xs.length : Int) - 1)) (hh : List.Sublist (H g0 s0) h)
    (hnr : (noRange assign && noRange body && ps.toList.all (fun p => Nat.blt p n) && Nat.beq ps.size 2) = true)
    (round : ∀ (again : S × Int → Prop) g s i, 0 ≤ i → L again (s, i) → wpA P n assign (fun e fr1 h1 => match e with | .normal => wpA P n body (fun e _ h2 => match e with | .normal => ∃ g s', again (s', i - 1) ∧ List.Sublist (H g s') h2 | _ => False) fr1 h1 | _ => False) (setP fr ps.toList [D.i i, enc (gi xs i)]) (H g s))
    (hq : ∀ (again : S × Int → Prop) g s i, ¬ 0 ≤ i → L again (s, i) → Q .normal fr (H g s)) : wpA P n (.rangeFunc f ps assign body) Q fr h := by
  obtain ⟨J, j0, hJ⟩ := hl
  refine wpA_rangeFunc (I := fun h1 => ∃ g s, J (s, (xs.length : Int) - 1 - (xs.length : Nat)) ∧ List.Sublist (H g s) h1) hf he (fun c => ?_) ?_
  · refine hit c n fr ps assign body (fun j h1 => ∃ g s, J (s, (xs.length : Int) - 1 - (j : Nat)) ∧ List.Sublist (H g s) h1) ?_ h ⟨g0, s0, by simpa using j0, hh⟩
    rintro j h1 hj ⟨g, s, hs, hsub⟩
    refine ⟨hnr, wpA_sub hsub (wpA_mono (round J g s _ (by omega) (hJ _ hs)) ?_)⟩
    intro e fr1 h1 q
    cases e with
    | normal =>
      refine wpA_mono q ?_
      intro e fr2 h2 q
      cases e with
      | normal =>
        obtain ⟨g', s', k1, k2⟩ := q
        exact ⟨g', s', by rw [show (xs.length : Int) - 1 - ((j + 1 : Nat) : Int) = (xs.length : Int) - 1 - (j : Nat) - 1 by omega]; exact k1, k2⟩
      | _ => exact q.elim
    | _ => exact q.elim
  · rintro h1 ⟨g, s, hs, hsub⟩
    exact ⟨H g s, hsub, hq J g s _ (by omega) (hJ _ hs)⟩

/-- a[:] of an array that nobody writes. -/
theorem OpA.isliceA {t et : TypeId} {len : Nat} {agg : Bool} {x : Operand} {ds : List D} (ho : o.op = .slice t x none none none) (ht : P.underlying t = some (.array len et)) (hte : TI P et 1 agg) (hx : ev fr x = .iptr (.agg ds) 0) (hl : Nat.beq ds.length len = true)
    (hp : Nat.blt 0 len = true) (hk : K (.list 1 ds) h) : OpA P o fr h K :=
  .of_quiet (fun A M w0 a w _ hv => by
    have h1 := hv x (by simp [ho, Op.operands])
    rw [hx] at h1
    generalize hu : a.eval x = u at h1
    have hl := Nat.eq_of_beq_eq_true hl
    have hp : 0 < len := by simpa [Nat.blt_eq] using hp
    cases h1 with
    | @iptr _ _ cs b oo hok hvl hlie =>
      refine ⟨.slice (some ⟨b, oo, none⟩) len len, ?_, ?_⟩
      · simp only [execOp, ho, Option.map_none, hu, Instr.sliceAt, Sem.run_bind, run_underlying ht, Result.andThen_ok, Instr.sureAddr, Instr.sliceBounds, Sem.run_pure, hte.size, Option.isSome_none]
        simp [show ¬ len = 0 by omega, Addr.add_lit]
      · have hfl : D.flats ds = ds := by
          have : ∀ l : List D, (∀ d ∈ l, d.cell = true) → D.flats l = l := by
            intro l
            induction l with
            | nil => intro _; rfl
            | cons d l ih =>
              intro hc
              have hd := hc d (by simp)
              have : d.flat = [d] := by cases d <;> first | rfl | simp [D.cell] at hd
              simp only [D.flats, List.flatMap_cons, this] at ih ⊢
              rw [ih fun x hx => hc x (by simp [hx])]; rfl
          exact this ds hok
        rw [← hl]
        refine .list (cs := cs) (b := b) (o := oo) (fun d hd => ?_) (by rw [hfl]; exact hvl) (fun _ => rfl) hlie (Nat.le_refl _)
        have hc := hok d hd
        have : d.flat = [d] := by cases d <;> first | rfl | simp [D.cell] at hc
        exact ⟨by rw [this]; rfl, by rw [this]; simpa using hc⟩) hk
end
end Go.Lic

set_option linter.all false
namespace Go.Lic

/-- The buffer: nil, or a slice of our own from the head of its row on. -/
@[reducible] def bufD (e g : Nat) : List Int → D
  | [] => .v (.slice none 0 0)
  | x :: l => .tbuf g e 0 (x :: l).length
abbrev bldD (T e c : Nat) (u : Bool) (g : Nat) (xs : List Int) : D := .agg [.tself c T u, bufD e g xs]
section
variable {P : Program} {o : Oper} {fr : Nat → D} {h : Heap} {K : D → Heap → Prop}

/-- Our memory, a block of it told in another way. -/
theorem HRel.reblk {A M : Nat → Prop} {w0 w : World} {h h' : Heap} {c : Nat} {b b' : Blk} (hr : HRel A M w0 h w) (hrepl : Repl c b c b' h h') (hb : BlkRel w (XX A h) c b') : HRel A M w0 h' w ∧ Mono w (XX A h) w (XX A h') := by
  have hk : keys h' = keys h := hrepl.keys_eq
  have hX : XX A h' = XX A h := by funext b; simp only [XX, hk]
  obtain ⟨h1, h2, e1, e2⟩ := hrepl.split
  refine ⟨⟨by rw [hk]; exact hr.nodup, ?_, by rw [hk]; exact hr.free, by rw [hk]; exact hr.mine, hr.bound, hr.old, hr.ext, by rw [hX]; exact hr.glob⟩, by rw [hX]; exact Mono.refl _ _⟩
  intro c' b2 hc'
  rw [hX]
  rw [e2] at hc'
  rcases List.mem_append.1 hc' with h3 | h3
  · exact hr.blk _ _ (by rw [e1]; simp [h3])
  · rcases List.mem_cons.1 h3 with h3 | h3
    · cases h3; exact hb
    · exact hr.blk _ _ (by rw [e1]; simp [h3])

theorem OpA.allocB {T e : TypeId} (ho : o.op = .alloc T) (hz : (P.info? T).bind (·.zero) = some (.agg #[.pointer none, .slice none 0 0]))
    (hk : ∀ c g, K (.ptr c 2 0 0) ((c, .cells 2 [bldD T e c false g []]) :: (g, .cells 1 (winL (D.k .u8) [] [] [])) :: h)) : OpA P o fr h K :=
  .of_run fun A M w0 a w hr _ => by
    obtain ⟨g, _, _, hr1, hm1⟩ := hr.ghost 1
    obtain ⟨h2, h3, h4⟩ := hr1.alloc (sz := 2) (es := [.agg [.v (.pointer none), .v (.slice none 0 0)]]) (cs := [.pointer none, .slice none 0 0]) #[.pointer none, .slice none 0 0] T (by intro d hd; simp at hd; subst hd; exact .of rfl) (.cons (.v _) (.cons (.v _) .nil)) (List.prefix_refl _)
    have hzr : ∀ w, (zeroValue T).run P w = .ok (.agg #[.pointer none, .slice none 0 0]) w := fun w => by
      obtain ⟨i, hi, hi2⟩ := Option.bind_eq_some_iff.1 hz
      simp [zeroValue, typeInfo, hi, hi2]
    have hsh : (w.alloc (.cells #[.pointer none, .slice none 0 0] T)).shape? (2 * w.heap.size / 2) = some (T, 2) := by
      rw [show 2 * w.heap.size / 2 = w.heap.size from by omega]; exact shape_alloc_new _ _ _
    obtain ⟨r5, m5⟩ := HRel.reblk (b' := .cells 2 [bldD T e (2 * w.heap.size) false g []]) h3 .head (by
      have hb := h3.blk (2 * w.heap.size) _ (List.mem_cons_self ..)
      refine ⟨by intro d hd; simp at hd; subst hd; exact .of rfl, ?_⟩
      rcases hb.2 with ⟨_, he⟩ | ⟨hc, arr, et, cs, ha, hv, hp⟩
      · cases he
      · refine .inr ⟨hc, arr, et, cs, ha, ?_, hp⟩
        have hv' : VL (w.alloc (.cells #[.pointer none, .slice none 0 0] T)) (XX A ((2 * w.heap.size, .cells 2 [.agg [.v (.pointer none), .v (.slice none 0 0)]]) :: (g, .cells 1 []) :: h)) [.v (.pointer none), .v (.slice none 0 0)] cs := hv
        cases hv' with
        | cons q1 q2 =>
          cases q1
          exact .cons (.tself (u := false) (by omega) hsh) q2)
    refine ⟨.pointer (some ⟨w.heap.size, 0, none⟩), _, _, _, by simp [execOp, ho, Instr.alloc, hzr, newVar, newRow, Value.cells], hk _ g, r5, (hm1.trans h4).trans m5, ?_⟩
    have := V.ptr (w := w.alloc (.cells #[.pointer none, .slice none 0 0] T)) (X := XX A ((2 * w.heap.size, .cells 2 [bldD T e (2 * w.heap.size) false g []]) :: (g, .cells 1 (winL (D.k .u8) [] [] [])) :: h)) (c := 2 * w.heap.size) (sz := 2) (i := 0) (k := 0) (by omega)
    simpa using this

end
end Go.Lic

set_option linter.all false
namespace Go.Lic
theorem glob_none (W : World) : Glob W (fun b => (fun _ : Nat => False) (2 * b)) := ⟨W, trivial, fun g hg => by cases hg⟩
end Go.Lic

set_option linter.all false
namespace Go.Lic
open Go.Proofs Go.Sort Go.Shelf

theorem Fun.of_same {P : Program} {f : Nat} {vs : List Value} {v : Value} (h : ∀ w, Calls P f vs.toArray w fun e w' => e = .returned v ∧ w' = w) : Fun false P f (vs.map D.v) (fun d => d = .v v) := by
  intro A w us hb ho hg hv
  obtain rfl := vl_vals _ _ hv
  refine (h w).mono ?_
  rintro e w' ⟨rfl, rfl⟩
  exact ⟨v, .v v, rfl, rfl, .v _, Ext.refl _ _⟩
theorem one_byte {sep : ByteArray} (h : sep.size = 1) : sep = ⟨#[sepOf sep]⟩ := by
  obtain ⟨⟨l⟩⟩ := sep
  have : l.length = 1 := h
  match l, this with
  | [c], _ => rfl
theorem sCompare_c (a b : ByteArray) : Fun false Tryz.prog 83 [D.s a, D.s b] (fun d => d = D.i (cmpB a b)) := Fun.of_same (vs := [.string a, .string b]) (Tryz.strings_Compare a b)
theorem iCompare_c (a b : Int) : Fun false Tryz.prog 85 [D.i a, D.i b] (fun d => d = D.i (cmpI a b)) := Fun.of_same (vs := [.int .i64 a, .int .i64 b]) (Tryz.cmp_Compare_int a b)
theorem count_c (s sep : ByteArray) (h : sep.size = 1) : Fun false Tryz.prog 129 [D.s s, D.s sep] (fun d => d = D.i (countF s sep)) := by
  have := Fun.of_same (vs := [.string s, .string ⟨#[sepOf sep]⟩]) (Tryz.strings_Count_one s (sepOf sep))
  rw [← one_byte h] at this
  exact this
theorem index_c (s sep : ByteArray) (h : sep.size = 1) : Fun false Tryz.prog 130 [D.s s, D.s sep] (fun d => d = D.i (indexF s sep)) := by
  have := Fun.of_same (vs := [.string s, .string ⟨#[sepOf sep]⟩]) (Tryz.strings_Index_one s (sepOf sep))
  rw [← one_byte h] at this
  exact this
theorem len_c (n : Int) (h0 : 0 ≤ n) (h1 : n ≤ 18446744073709551615) : Fun false Tryz.prog 98 [D.k .u64 n] (fun d => d = D.i (lenF n)) := Fun.of_same (vs := [.int .u64 n]) (fun w => Tryz.bits_Len n w h0 h1)
theorem mul64_c (a b : Int) (h0 : 0 ≤ a) (h1 : a ≤ 18446744073709551615) (h2 : 0 ≤ b) (h3 : b ≤ 18446744073709551615) : Fun false Tryz.prog 156 [D.k .u64 a, D.k .u64 b] (fun d => d = .tup [D.k .u64 (mul64F a b).1, D.k .u64 (mul64F a b).2]) := by
  obtain ⟨x, rfl⟩ := Int.eq_ofNat_of_zero_le h0
  obtain ⟨y, rfl⟩ := Int.eq_ofNat_of_zero_le h2
  intro A w us hb ho hg hv
  cases hv with
  | cons k2 k3 =>
    cases k2
    cases k3 with
    | cons k4 k5 =>
      cases k4; cases k5
      refine (Tryz.bits_Mul64 x y (by omega) (by omega) w).mono ?_
      rintro e w' ⟨rfl, rfl⟩
      refine ⟨_, _, rfl, rfl, .tup (.cons ?_ (.cons ?_ .nil)), Ext.refl _ _⟩
      · have : ((x * y / 18446744073709551616 : Nat) : Int) = (mul64F (x : Int) (y : Int)).1 := by simp [mul64F]
        rw [this]; exact .v _
      · have : ((x * y % 18446744073709551616 : Nat) : Int) = (mul64F (x : Int) (y : Int)).2 := by simp [mul64F]
        rw [this]; exact .v _
end Go.Lic
