/-
  Operations, second part: stores, addresses, slices, arithmetic, literals.
-/
import Derived.Test.YthggcjnmodeehaaOps
set_option linter.all false
namespace Go.Lic

section
variable {P : Program} {o : Oper} {fr : Nat → D} {h : Heap} {K : D → Heap → Prop}

theorem HRel.perm {A M : Nat → Prop} {w0 w : World} {h h' : Heap} (hr : HRel A M w0 h w) (hp : h.Perm h') : HRel A M w0 h' w ∧ Mono w (XX A h) w (XX A h') := by
  have hk : ∀ c, c ∈ keys h' ↔ c ∈ keys h := fun c => (hp.map _).symm.mem_iff
  have hx : XX A h' = XX A h := by funext b; simp [XX, hk]
  refine ⟨⟨(hp.map _).nodup_iff.1 hr.nodup, fun c b hc => by rw [hx]; exact hr.blk c b (hp.symm.subset hc), fun c hc => hr.free c ((hk c).1 hc), fun c hc => hr.mine c ((hk c).1 hc), hr.bound, hr.old, hr.ext⟩, ?_⟩
  rw [hx]; exact Mono.refl _ _

theorem HRel.tail {A M : Nat → Prop} {w0 w : World} {x : Nat × Blk} {h : Heap} (hr : HRel A M w0 (x :: h) w) : HRel A M w0 h w ∧ Mono w (XX A (x :: h)) w (XX A h) := by
  have hm : Mono w (XX A (x :: h)) w (XX A h) := .less fun b hb => by
    rcases hb with hb | hb
    · exact .inl hb
    · exact .inr (by simp [hb])
  refine ⟨⟨(List.nodup_cons.1 (by simpa using hr.nodup)).2, fun c b hc => (hr.blk c b (by simp [hc])).mono hm (fun _ => rfl), fun c hc => hr.free c (by simp [hc]), fun c hc => hr.mine c (by simp [hc]), hr.bound, hr.old, hr.ext⟩, hm⟩

theorem Repl.perm {c : Nat} {b : Blk} {c' : Nat} {b' : Blk} {h h' : Heap} (t : Repl c b c' b' h h') : ∃ h0, h.Perm ((c, b) :: h0) ∧ h'.Perm ((c', b') :: h0) := by
  obtain ⟨h1, h2, rfl, rfl⟩ := t.split
  exact ⟨h1 ++ h2, List.perm_middle, List.perm_middle⟩

/-- A key for a slice without memory. -/
theorem HRel.ghost {A M : Nat → Prop} {w0 w : World} {h : Heap} (hr : HRel A M w0 h w) (sz : Nat) : ∃ c, c ∉ keys h ∧ c % 2 = 1 ∧ HRel A M w0 ((c, .cells sz []) :: h) w ∧ Mono w (XX A h) w (XX A ((c, .cells sz []) :: h)) := by
  obtain ⟨N, hN⟩ := hr.bound
  obtain ⟨m, hm⟩ : ∃ m, ∀ c, c ∈ keys h → c ≤ m := by
    generalize keys h = l
    induction l with
    | nil => exact ⟨0, by simp⟩
    | cons x l ih =>
      obtain ⟨m, hm⟩ := ih
      refine ⟨max x m, fun c hc => ?_⟩
      rcases List.mem_cons.1 hc with h | h
      · subst h; omega
      · have := hm c h; omega
  have hodd : (2 * (N + m) + 1) % 2 = 1 := by omega
  have hnew : 2 * (N + m) + 1 ∉ keys h := fun hc => by have := hm _ hc; omega
  have hmono : Mono w (XX A h) w (XX A ((2 * (N + m) + 1, .cells sz []) :: h)) := .less fun b hb => by
    rcases hb with hb | hb
    · exact .inl hb
    · simp at hb; rcases hb with hb | hb
      · omega
      · exact .inr hb
  refine ⟨_, hnew, hodd, ⟨by simp only [keys_cons, List.nodup_cons]; exact ⟨hnew, hr.nodup⟩, ?_, ?_, ?_, hr.bound, hr.old, hr.ext⟩, hmono⟩
  · intro c b hc
    rcases List.mem_cons.1 hc with hc | hc
    · cases hc; exact ⟨by simp, .inl ⟨hodd, rfl⟩⟩
    · exact (hr.blk c b hc).mono hmono (fun _ => rfl)
  · intro c hc ha
    rcases List.mem_cons.1 (by simpa using hc) with hc | hc
    · subst hc; have := hN _ ha; omega
    · exact hr.free c hc ha
  · intro c hc he
    rcases List.mem_cons.1 (by simpa using hc) with hc | hc
    · subst hc; omega
    · exact hr.mine c hc he

theorem run_storeVar' {t : TypeId} {n : Nat} {agg : Bool} (ht : TI P t n agg) {b oo : Nat} {e : TypeId} {w : World} {arr : Array Value} {v : Value} (ha : OwnCells w b arr e)
    (hv : ∀ x ∈ v.cells.toList, x.oneCell' = true) (hl : v.cells.size = n) (hn : oo + n ≤ arr.size) :
    ∃ w' arr', (storeVar t ⟨b, oo, none⟩ v).run P w = .ok () w' ∧ OwnCells w' b arr' e ∧ arr'.toList = setAt arr.toList oo v.cells.toList ∧ arr'.size = arr.size ∧
      w'.heap.size = w.heap.size ∧ (∀ b', b' ≠ b → w'.heap[b']? = w.heap[b']?) ∧ w'.os = w.os ∧ w'.tape = w.tape ∧ w'.output = w.output := by
  obtain ⟨w', arr', h1, h2⟩ := run_storeCells' (P := P) v.cells.toList 0 oo w arr ha hv (by simp; omega)
  refine ⟨w', arr', ?_, by simpa using h2⟩
  simp only [storeVar, Sem.run_bind, ht.size, Result.andThen_ok, hl, ne_eq, not_true, if_false]
  simpa using h1

/-- A store into an element of an own block. -/
theorem OpA.store {t : TypeId} {x y : Operand} {c sz i k n : Nat} {agg : Bool} {es : List D} {e e' : D} {h' : Heap} (ho : o.op = .store t x y) (ht : TI P t n agg) (hx : ev fr x = .ptr c sz i k)
    (hd : (ev fr y).ok n) (he : es[i]? = some e) (hkn : k + n ≤ e.flat.length) (he' : e'.flat = setAt e.flat k (ev fr y).flat)
    (hh : Repl c (.cells sz es) c (.cells sz (es.set i e')) h h') (hk : K (.v undef) h') : OpA P o fr h K :=
  .of_skip fun A M w0 a w hr hv => by
    have h1 := hv x (by simp [ho, Op.operands])
    have h2 := hv y (by simp [ho, Op.operands])
    rw [hx] at h1
    generalize hu : a.eval x = u at h1
    cases h1
    obtain ⟨hok, hb⟩ := hr.cells hh.has
    rcases hb with ⟨_, hb⟩ | ⟨hc, arr, et, cs, ha, hvl, hp⟩
    · subst hb; simp at he
    · have hcells := h2.cells hd
      have hsz := h2.cells_size hd
      have hi := (List.getElem?_eq_some_iff.1 he).1
      have hesz : e.flat.length = sz := (hok e (List.mem_of_getElem? he)).1
      have hlen := hvl.length
      rw [flats_length es hok] at hlen
      have hpl : cs.length ≤ arr.size := by have := hp.length_le; simpa using this
      have hmul : (i + 1) * sz ≤ es.length * sz := Nat.mul_le_mul_right _ hi
      rw [Nat.succ_mul] at hmul
      obtain ⟨w', arr', g1, g2, g3, g4, g5, g6, g7, g8, g9⟩ := run_storeVar' (P := P) ht (oo := i * sz + k) ha (hcells.oneCell hd.2) hsz (by omega)
      have hok' : e'.ok sz := by
        refine ⟨by rw [he', setAt_length]; exact hesz, ?_⟩
        rw [he']
        intro z hz
        obtain ⟨j, hj⟩ := List.mem_iff_getElem?.1 hz
        rw [setAt_get] at hj
        split at hj
        · exact hd.2 z (List.mem_of_getElem? hj)
        · exact (hok e (List.mem_of_getElem? he)).2 z (List.mem_of_getElem? hj)
      have hoks : ∀ d ∈ es.set i e', d.ok sz := fun d hd' => by
        rcases List.mem_or_eq_of_mem_set hd' with hq | hq
        · exact hok d hq
        · exact hq ▸ hok'
      -- the flat cells behind the store
      have hflat : D.flats (es.set i e') = setAt (D.flats es) (i * sz + k) (ev fr y).flat := by
        rw [flats_set es hok i e' hi hok', he']
        apply List.ext_getElem?
        intro j
        have hpart : ∀ r, r < sz → (D.flats es)[i * sz + r]? = e.flat[r]? := fun r hr' => by
          rw [← flats_get es i e hok he]; simp [hr']
        simp only [setAt_get, setAt_length, flats_length es hok, hesz, hd.1]
        by_cases hj1 : i * sz ≤ j ∧ j < i * sz + sz ∧ j < es.length * sz
        · rw [if_pos hj1]
          by_cases hj2 : k ≤ j - i * sz ∧ j - i * sz < k + n ∧ j - i * sz < sz
          · rw [if_pos hj2, if_pos (by omega)]; congr 1; omega
          · rw [if_neg hj2, if_neg (by omega)]
            have := hpart (j - i * sz) (by omega)
            rw [show i * sz + (j - i * sz) = j from by omega] at this
            exact this.symm
        · rw [if_neg hj1, if_neg (by omega)]
      have hvl' : VL w (XX A h) (D.flats (es.set i e')) (setAt cs (i * sz + k) (a.eval y).cells.toList) := by
        rw [hflat]; exact VL.setAt hcells _ hvl
      have hp' : setAt cs (i * sz + k) (a.eval y).cells.toList <+: arr'.toList := by
        rw [g3]
        obtain ⟨tl, htl⟩ := hp
        refine ⟨tl, ?_⟩
        apply List.ext_getElem?
        intro j
        have hsz' : (a.eval y).cells.toList.length = n := by simpa using hsz
        rw [← htl]
        by_cases hj : j < cs.length
        · rw [List.getElem?_append_left (by rw [setAt_length]; exact hj), setAt_get, setAt_get]
          simp only [List.length_append, List.getElem?_append_left hj]
          by_cases hq : i * sz + k ≤ j ∧ j < i * sz + k + (a.eval y).cells.toList.length
          · rw [if_pos ⟨hq.1, hq.2, hj⟩, if_pos ⟨hq.1, hq.2, by omega⟩]
          · rw [if_neg (by omega), if_neg (by omega)]
        · rw [List.getElem?_append_right (by rw [setAt_length]; omega), setAt_length, setAt_get, if_neg (by omega), List.getElem?_append_right (by omega)]
      obtain ⟨r1, r2⟩ := hr.write hh hc hoks ha g2 g4 hvl' hp' g5 g6 g7 g8 g9
      exact ⟨w', h', by simp [execOp, ho, hu, Instr.storeAt, Instr.sureAddr, g1], hk, r1, r2⟩

def fieldOff (P : Program) (s : TypeId) (f : Nat) : Option Nat :=
  match P.underlying s with
  | some (.struct fs) => (fs[f]?).bind fun fl => (P.info? fl.type).bind fun i => if i.size = 0 then none else some fl.offset
  | _ => none

theorem run_fieldAt {s : TypeId} {f off : Nat} (hf : fieldOff P s f = some off) (w : World) (b oo : Nat) :
    (Instr.fieldAt s (.pointer (some ⟨b, oo, none⟩)) f).run P w = .ok (.pointer (some ⟨b, oo + off, none⟩)) w := by
  unfold fieldOff at hf
  split at hf
  · rename_i fs hs
    obtain ⟨fl, h1, h2⟩ := Option.bind_eq_some_iff.1 hf
    obtain ⟨i, h3, h4⟩ := Option.bind_eq_some_iff.1 h2
    by_cases hz : i.size = 0
    · simp [hz] at h4
    · rw [if_neg hz] at h4
      obtain rfl := Option.some.inj h4
      simp [Instr.fieldAt, run_underlying hs, h1, Instr.sureAddr, fieldPlace, sizeOf, typeInfo, h3, hz, Addr.add_lit]
  · simp at hf

theorem OpA.fieldAddr {s : TypeId} {x : Operand} {f off c sz i k : Nat} (ho : o.op = .fieldAddr s x f) (hf : fieldOff P s f = some off) (hx : ev fr x = .ptr c sz i k) (hk : K (.ptr c sz i (k + off)) h) : OpA P o fr h K :=
  .of_quiet (fun A M w0 a w _ hv => by
    have h1 := hv x (by simp [ho, Op.operands])
    rw [hx] at h1
    generalize hu : a.eval x = u at h1
    cases h1 with
    | ptr hc =>
      refine ⟨_, by simp only [execOp, ho, hu, Sem.run_bind, run_fieldAt hf, Result.andThen_ok, Sem.run_pure]; rfl, ?_⟩
      rw [Nat.add_assoc]; exact .ptr hc) hk

theorem OpA.ifieldAddr {s : TypeId} {x : Operand} {f off k : Nat} {e : D} (ho : o.op = .fieldAddr s x f) (hf : fieldOff P s f = some off) (hx : ev fr x = .iptr e k) (hk : K (.iptr e (k + off)) h) : OpA P o fr h K :=
  .of_quiet (fun A M w0 a w _ hv => by
    have h1 := hv x (by simp [ho, Op.operands])
    rw [hx] at h1
    generalize hu : a.eval x = u at h1
    cases h1 with
    | iptr h1 h2 h3 =>
      refine ⟨_, by simp only [execOp, ho, hu, Sem.run_bind, run_fieldAt hf, Result.andThen_ok, Sem.run_pure]; rfl, ?_⟩
      rw [Nat.add_assoc]; exact .iptr h1 h2 h3) hk

/-- An element of an own slice. -/
theorem OpA.indexAddr {t et : TypeId} {bytes : Nat} {agg : Bool} {x ix : Operand} {kd : IntKind} {j : Int} {c sz i len : Nat} (ho : o.op = .indexAddr t x ix) (ht : TS P t et sz bytes agg) (hx : ev fr x = .own c sz i len)
    (hi : ev fr ix = .v (.int kd j)) (h0 : 0 ≤ j) (hl : j < len) (hk : K (.ptr c sz (i + j.toNat) 0) h) : OpA P o fr h K :=
  .of_quiet (fun A M w0 a w _ hv => by
    have h1 := hv x (by simp [ho, Op.operands])
    have h2 := hv ix (by simp [ho, Op.operands])
    rw [hx] at h1; rw [hi] at h2
    generalize hu : a.eval x = u at h1
    generalize hu2 : a.eval ix = u2 at h2
    cases h2
    cases h1 with
    | own hc hh =>
      rcases hh with ⟨hc2, rfl, _⟩ | ⟨hz, _⟩
      · have e1 : i * sz + j.toNat * sz = (i + j.toNat) * sz + 0 := by rw [Nat.add_mul]; rfl
        refine ⟨_, by simp only [execOp, ho, hu, hu2, Instr.indexAt, asIntOf, Sem.run_bind, run_underlying ht.desc, Result.andThen_ok, Sem.run_pure, Sem.run_ite, if_pos (And.intro h0 hl), ht.elem.size, Addr.add_lit]; rfl, ?_⟩
        rw [e1]; exact .ptr hc2
      · omega) hk

/-- An element of a slice that nobody writes. -/
theorem OpA.iindexAddr {t et : TypeId} {bytes : Nat} {agg : Bool} {x ix : Operand} {kd : IntKind} {j : Int} {sz : Nat} {ds : List D} {e : D} (ho : o.op = .indexAddr t x ix) (ht : TS P t et sz bytes agg) (hsz : Nat.blt 0 sz = true) (hx : ev fr x = .list sz ds)
    (hi : ev fr ix = .v (.int kd j)) (h0 : 0 ≤ j) (he : ds[j.toNat]? = some e) (hk : K (.iptr e 0) h) : OpA P o fr h K :=
  .of_quiet (fun A M w0 a w _ hv => by
    have h1 := hv x (by simp [ho, Op.operands])
    have h2 := hv ix (by simp [ho, Op.operands])
    rw [hx] at h1; rw [hi] at h2
    generalize hu : a.eval x = u at h1
    generalize hu2 : a.eval ix = u2 at h2
    cases h2
    have hlt := (List.getElem?_eq_some_iff.1 he).1
    have hsz : 0 < sz := by simpa [Nat.blt_eq] using hsz
    cases h1 with
    | @list _ _ cs _ b oo cap hok hvl ha hl hc =>
      have hll : (j : Int) < ds.length := by omega
      have hcs : cs ≠ [] := by
        intro hcs
        have := hvl.length
        rw [flats_length ds hok, hcs] at this
        have h3 : 0 < ds.length * sz := Nat.mul_pos (by omega) hsz
        simp at this; omega
      obtain rfl := ha hcs
      refine ⟨_, by simp only [execOp, ho, hu, hu2, Instr.indexAt, asIntOf, Sem.run_bind, run_underlying ht.desc, Result.andThen_ok, Sem.run_pure, Sem.run_ite, if_pos (And.intro h0 hll), ht.elem.size, Addr.add_lit]; rfl, ?_⟩
      have hoke := hok e (List.mem_of_getElem? he)
      have hce := elem_cells hok hvl he
      refine .iptr (b := b) (o := oo + j.toNat * sz) (k := 0) hoke.2 hce ?_
      rcases hl with hl | ⟨hx1, hl⟩
      · exact absurd hl hcs
      · refine .inr ⟨hx1, fun q c' hq => ?_⟩
        have hqn : q < sz := by
          have := (List.getElem?_eq_some_iff.1 hq).1
          simp at this; omega
        rw [List.getElem?_take_of_lt hqn, List.getElem?_drop] at hq
        have := hl _ c' hq
        rwa [show oo + (j.toNat * sz + q) = oo + j.toNat * sz + q from by omega] at this) hk

/-- An array behind a pointer. -/
theorem OpA.aindexAddr {t et : TypeId} {len esz : Nat} {agg : Bool} {x ix : Operand} {kd : IntKind} {j : Int} {c sz i k : Nat} (ho : o.op = .indexAddr t x ix) (ht : P.underlying t = some (.array len et)) (hte : TI P et esz agg) (hx : ev fr x = .ptr c sz i k)
    (hi : ev fr ix = .v (.int kd j)) (h0 : 0 ≤ j) (hl : j < len) (hk : K (.ptr c sz i (k + j.toNat * esz)) h) : OpA P o fr h K :=
  .of_quiet (fun A M w0 a w _ hv => by
    have h1 := hv x (by simp [ho, Op.operands])
    have h2 := hv ix (by simp [ho, Op.operands])
    rw [hx] at h1; rw [hi] at h2
    generalize hu : a.eval x = u at h1
    generalize hu2 : a.eval ix = u2 at h2
    cases h2
    cases h1 with
    | ptr hc =>
      refine ⟨_, by simp only [execOp, ho, hu, hu2, Instr.indexAt, asIntOf, Instr.sureAddr, Sem.run_bind, run_underlying ht, Result.andThen_ok, Sem.run_pure, Sem.run_ite, if_pos (And.intro h0 hl), hte.size, Addr.add_lit]; rfl, ?_⟩
      rw [Nat.add_assoc]; exact .ptr hc) hk

theorem OpA.iaindexAddr {t et : TypeId} {len esz : Nat} {agg : Bool} {x ix : Operand} {kd : IntKind} {j : Int} {k : Nat} {e : D} (ho : o.op = .indexAddr t x ix) (ht : P.underlying t = some (.array len et)) (hte : TI P et esz agg) (hx : ev fr x = .iptr e k)
    (hi : ev fr ix = .v (.int kd j)) (h0 : 0 ≤ j) (hl : j < len) (hk : K (.iptr e (k + j.toNat * esz)) h) : OpA P o fr h K :=
  .of_quiet (fun A M w0 a w _ hv => by
    have h1 := hv x (by simp [ho, Op.operands])
    have h2 := hv ix (by simp [ho, Op.operands])
    rw [hx] at h1; rw [hi] at h2
    generalize hu : a.eval x = u at h1
    generalize hu2 : a.eval ix = u2 at h2
    cases h2
    cases h1 with
    | iptr h1 h2 h3 =>
      refine ⟨_, by simp only [execOp, ho, hu, hu2, Instr.indexAt, asIntOf, Instr.sureAddr, Sem.run_bind, run_underlying ht, Result.andThen_ok, Sem.run_pure, Sem.run_ite, if_pos (And.intro h0 hl), hte.size, Addr.add_lit]; rfl, ?_⟩
      rw [Nat.add_assoc]; exact .iptr h1 h2 h3) hk

theorem OpA.extract {x : Operand} {ix : Nat} {ds : List D} {d : D} (ho : o.op = .extract x ix) (hx : ev fr x = .tup ds) (hd : ds[ix]? = some d) (hk : K d h) : OpA P o fr h K :=
  .of_quiet (fun A M w0 a w _ hv => by
    have h1 := hv x (by simp [ho, Op.operands])
    rw [hx] at h1
    generalize hu : a.eval x = u at h1
    cases h1 with
    | @tup _ vs h1 =>
      obtain ⟨v, h2, h3⟩ := h1.get ix d hd
      exact ⟨v, by simp [execOp, ho, hu, Instr.extract, h2], h3⟩) hk

theorem OpA.makeFunc {f : Fn} {fs cs : Array Operand} (ho : o.op = .makeFunc f fs cs) (hk : K (.fn f (fs.toList.map (ev fr)) (cs.toList.map (ev fr))) h) : OpA P o fr h K :=
  .of_quiet (fun A M w0 a w _ hv => by
    have hl : ∀ l : List Operand, (∀ x ∈ l, V w (XX A h) (ev fr x) (a.eval x)) → VL w (XX A h) (l.map (ev fr)) (l.map a.eval) := by
      intro l
      induction l with
      | nil => intro _; exact .nil
      | cons x l ih => intro hx; exact .cons (hx x (by simp)) (ih fun y hy => hx y (List.mem_cons_of_mem _ hy))
    refine ⟨.func f (fs.toList.map a.eval).toArray (cs.toList.map a.eval).toArray, ?_, .fn (hl _ fun x hx => hv x ?_) (hl _ fun x hx => hv x ?_)⟩
    · simp only [execOp, ho, Instr.makeFunc, Sem.run_bind, Sem.run_pure, Result.andThen_ok]
      rw [show fs.map a.eval = (fs.toList.map a.eval).toArray from by apply Array.toList_inj.1; simp, show cs.map a.eval = (cs.toList.map a.eval).toArray from by apply Array.toList_inj.1; simp]
    · simp [ho, Op.operands]; exact .inl (by simpa using hx)
    · simp [ho, Op.operands]; exact .inr (by simpa using hx)) hk

theorem OpA.nilCheck {x : Operand} (ho : o.op = .nilCheck x) (hx : (∃ c sz i k, ev fr x = .ptr c sz i k) ∨ (∃ e k, ev fr x = .iptr e k) ∨ (∃ f cs, ev fr x = .fn (.func f) [] cs)) (hk : K (ev fr x) h) : OpA P o fr h K :=
  .of_quiet (fun A M w0 a w _ hv => by
    have h1 := hv x (by simp [ho, Op.operands])
    refine ⟨a.eval x, ?_, h1⟩
    generalize hu : a.eval x = u at h1
    rcases hx with ⟨c, sz, i, k, hx⟩ | ⟨e, k, hx⟩ | ⟨f, cs, hx⟩ <;> rw [hx] at h1 <;> cases h1
    · simp [execOp, ho, hu]
    · simp [execOp, ho, hu]
    · rename_i h3 h4; cases h3; simp [execOp, ho, hu]) hk
end
end Go.Lic
