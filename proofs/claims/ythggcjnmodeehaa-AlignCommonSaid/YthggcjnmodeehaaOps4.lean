/-
  Operations, fourth part: slices of slices and strings, literals, make, append.
-/
import Derived.Test.YthggcjnmodeehaaOps3
set_option linter.all false
namespace Go.Lic

/-- A bound of a slice expression: absent, or a number. -/
inductive Bd (fr : Nat → D) : Option Operand → Nat → Nat → Prop
  | none (n : Nat) : Bd fr none n n
  | some {x : Operand} {k : IntKind} {i : Int} {d : Nat} (hx : ev fr x = .v (.int k i)) (h0 : 0 ≤ i) : Bd fr (some x) d i.toNat

theorem run_sliceBound' {P : Program} {w : World} {k : IntKind} {i : Int} {y : Nat} {c : BoundsCode} (h0 : 0 ≤ i) (h : i.toNat ≤ y) : (Instr.sliceBound (.int k i) y c).run P w = .ok i.toNat w := by
  have : 0 ≤ i ∧ i ≤ y := ⟨h0, by omega⟩
  simp only [Instr.sliceBound, asIntOf, Sem.run_bind, Sem.run_pure, Result.andThen_ok, if_pos this]

theorem run_sliceBounds' {P : Program} {w : World} {X : Nat → Prop} {fr : Nat → D} {ac : Act} {lo hi : Option Operand} {b : Bool} {len cap l h : Nat} (hl : Bd fr lo 0 l) (hh : Bd fr hi len h)
    (hv : ∀ x, (x ∈ lo ∨ x ∈ hi) → V w X (ev fr x) (ac.eval x)) (h1 : l ≤ h) (h2 : h ≤ cap) : (Instr.sliceBounds b len cap (lo.map ac.eval) (hi.map ac.eval) none).run P w = .ok (l, h, cap) w := by
  have eval : ∀ x k i, (x ∈ lo ∨ x ∈ hi) → ev fr x = .v (.int k i) → ac.eval x = .int k i := fun x k i hx he => by
    have := hv x hx
    rw [he] at this
    generalize hu : ac.eval x = u at this
    cases this; rfl
  cases hl with
  | none =>
    cases hh with
    | none => simp [Instr.sliceBounds]
    | some hx h0 =>
      rename_i x k i
      have := eval x k i (.inr rfl) hx
      simp [Instr.sliceBounds, this, run_sliceBound' h0 h2]
  | some hx h0 =>
    rename_i x k i
    have e1 := eval x k i (.inl rfl) hx
    cases hh with
    | none => simp [Instr.sliceBounds, e1, run_sliceBound' h0 h1]
    | some hx' h0' =>
      rename_i x' k' i'
      have e2 := eval x' k' i' (.inr rfl) hx'
      simp [Instr.sliceBounds, e1, e2, run_sliceBound' h0' h2, run_sliceBound' h0 h1]

section
variable {P : Program} {o : Oper} {fr : Nat → D} {h : Heap} {K : D → Heap → Prop}

theorem slice_operands {t : TypeId} {x : Operand} {lo hi : Option Operand} (ho : o.op = .slice t x lo hi none) : x ∈ o.op.operands ∧ ∀ y, (y ∈ lo ∨ y ∈ hi) → y ∈ o.op.operands := by
  refine ⟨by simp [ho, Op.operands], fun y hy => ?_⟩
  simp only [ho, Op.operands]
  rcases hy with hy | hy
  · have : lo = some y := hy
    subst this; simp
  · have : hi = some y := hy
    subst this; simp

theorem OpA.slice {t et : TypeId} {bytes : Nat} {agg : Bool} {x : Operand} {lo hi : Option Operand} {c sz i len l r : Nat} (ho : o.op = .slice t x lo hi none) (ht : TS P t et sz bytes agg) (hx : ev fr x = .own c sz i len)
    (hl : Bd fr lo 0 l) (hh : Bd fr hi len r) (h1 : l ≤ r) (h2 : r ≤ len) (hk : K (.own c sz (i + l) (r - l)) h) : OpA P o fr h K :=
  .of_quiet (fun A M w0 ac w _ hv => by
    have h3 := hv x (slice_operands ho).1
    rw [hx] at h3
    generalize hu : ac.eval x = u at h3
    cases h3 with
    | @own _ _ _ _ cap a hc hd =>
      have hb := run_sliceBounds' (P := P) (b := true) (cap := cap) hl hh (fun y hy => hv y ((slice_operands ho).2 y hy)) h1 (by omega)
      refine ⟨.slice (if cap = l then a else a.map (·.add (l * sz))) (r - l) (cap - l), ?_, .own (by omega) ?_⟩
      · simp [execOp, ho, hu, Instr.sliceAt, Instr.slice, run_underlying ht.desc, hb, ht.elem.size]
      · rcases hd with ⟨hc2, rfl, e, n, hs, hn⟩ | ⟨hz, hz2⟩
        · by_cases hcl : cap = l
          · exact .inr ⟨by omega, by omega⟩
          · refine .inl ⟨hc2, by simp [if_neg hcl, Addr.add_lit, Nat.add_mul], e, n, hs, ?_⟩
            rwa [show i + l + (cap - l) = i + cap from by omega]
        · exact .inr ⟨by omega, by omega⟩) hk

theorem OpA.islice {t et : TypeId} {bytes : Nat} {agg : Bool} {x : Operand} {lo hi : Option Operand} {sz l r : Nat} {ds : List D} (ho : o.op = .slice t x lo hi none) (ht : TS P t et sz bytes agg) (hx : ev fr x = .list sz ds)
    (hl : Bd fr lo 0 l) (hh : Bd fr hi ds.length r) (h1 : l ≤ r) (h2 : r ≤ ds.length) (hk : K (.list sz ((ds.take r).drop l)) h) : OpA P o fr h K :=
  .of_quiet (fun A M w0 ac w _ hv => by
    have h3 := hv x (slice_operands ho).1
    rw [hx] at h3
    generalize hu : ac.eval x = u at h3
    cases h3 with
    | @list _ _ cs a b oo cap hok hvl ha hlie hc =>
      have hb := run_sliceBounds' (P := P) (b := true) (cap := cap) hl hh (fun y hy => hv y ((slice_operands ho).2 y hy)) h1 (by omega)
      refine ⟨.slice (if cap = l then a else a.map (·.add (l * sz))) (r - l) (cap - l), ?_, ?_⟩
      · simp [execOp, ho, hu, Instr.sliceAt, Instr.slice, run_underlying ht.desc, hb, ht.elem.size]
      · have hlen : ((ds.take r).drop l).length = r - l := by simp; omega
        have hoks : ∀ d ∈ (ds.take r).drop l, d.ok sz := fun d hd => hok d (List.mem_of_mem_take (List.mem_of_mem_drop hd))
        rw [← hlen]
        refine .list (cs := (cs.take (r * sz)).drop (l * sz)) (b := b) (o := oo + l * sz) hoks ?_ ?_ ?_ (by omega)
        · rw [flats_drop _ (fun d hd => hok d (List.mem_of_mem_take hd)), flats_take _ hok]
          exact (hvl.take _).drop _
        · intro hne
          have hcs : cs ≠ [] := fun e => hne (by simp [e])
          obtain rfl := ha hcs
          by_cases hcl : cap = l
          · exfalso; apply hne
            have : r = l := by omega
            subst this
            simp
          · simp [if_neg hcl, Addr.add_lit]
        · rcases hlie with hlie | ⟨hx1, hlie⟩
          · exact .inl (by simp [hlie])
          · refine .inr ⟨hx1, fun j c hj => ?_⟩
            rw [List.getElem?_drop] at hj
            have hlt := (List.getElem?_eq_some_iff.1 hj).1
            rw [List.length_take] at hlt
            rw [List.getElem?_take_of_lt (by omega)] at hj
            have := hlie _ c hj
            rwa [show oo + (l * sz + j) = oo + l * sz + j from by omega] at this) hk

theorem OpA.sslice {t : TypeId} {x : Operand} {lo hi : Option Operand} {l r : Nat} {s : ByteArray} (ho : o.op = .slice t x lo hi none) (ht : P.underlying t = some .string) (hx : ev fr x = .s s)
    (hl : Bd fr lo 0 l) (hh : Bd fr hi s.size r) (h1 : l ≤ r) (h2 : r ≤ s.size) (hk : K (.s (s.extract l r)) h) : OpA P o fr h K :=
  .of_quiet (fun A M w0 ac w _ hv => by
    have h3 := hv x (slice_operands ho).1
    rw [hx] at h3
    generalize hu : ac.eval x = u at h3
    cases h3
    have hb := run_sliceBounds' (P := P) (b := false) (cap := s.size) hl hh (fun y hy => hv y ((slice_operands ho).2 y hy)) h1 h2
    exact ⟨.string (s.extract l r), by simp [execOp, ho, hu, Instr.sliceAt, Instr.slice, run_underlying ht, hb], .v _⟩) hk

theorem foldl_sets (vs : List Value) : ∀ (k off : Nat) (cs : Array Value), ((vs.zipIdx k).foldl (fun cs (x : Value × Nat) => cs.setIfInBounds (off + x.2) x.1) cs).toList = setAt cs.toList (off + k) vs := by
  induction vs with
  | nil => intro k off cs; rfl
  | cons v vs ih =>
    intro k off cs
    simp only [List.zipIdx_cons, List.foldl_cons, setAt]
    rw [ih (k + 1) off]
    simp [Nat.add_assoc]

/-- Filling cells with parts, of data. -/
def fillD (place : Nat → Option (Nat × Nat)) (cells : List D) : List (Nat × D) → Option (List D)
  | [] => some cells
  | (i, d) :: rest =>
    match place i with
    | none => none
    | some (off, size) => cond (Nat.beq d.flat.length size && Nat.ble (off + d.flat.length) cells.length) (fillD place (setAt cells off d.flat) rest) none

theorem fill_of_fillD {w : World} {X : Nat → Prop} {place : Nat → Option (Nat × Nat)} : ∀ (ps : List (Nat × D)) (qs : List (Nat × Value)) (ds es : List D) (cs : Array Value), VL w X ds cs.toList →
    ps.map (·.1) = qs.map (·.1) → VL w X (ps.map (·.2)) (qs.map (·.2)) → (∀ p ∈ ps, ∃ sz, p.2.ok sz) → fillD place ds ps = some es → ∃ cs', Instr.fill place cs qs = some cs' ∧ VL w X es cs'.toList
  | [], qs, ds, es, cs, hv, h1, _, _, h2 => by
    cases qs with
    | nil => simp [fillD] at h2; subst h2; exact ⟨cs, rfl, hv⟩
    | cons _ _ => simp at h1
  | (i, d) :: ps, [], ds, es, cs, hv, h1, _, _, h2 => by simp at h1
  | (i, d) :: ps, (j, v) :: qs, ds, es, cs, hv, h1, hvs, hok, h2 => by
    simp only [List.map_cons, List.cons.injEq] at h1
    obtain ⟨rfl, h1⟩ := h1
    cases hvs with
    | cons hd hvs =>
      obtain ⟨sz, hsz⟩ := hok (i, d) (by simp)
      have hsz : d.ok sz := hsz
      have hcl : v.cells.size = sz := hd.cells_size hsz
      have hcv := hd.cells hsz
      simp only [fillD] at h2
      simp only [Instr.fill]
      cases hp : place i with
      | none => simp [hp] at h2
      | some os =>
        obtain ⟨off, size⟩ := os
        simp only [hp] at h2 ⊢
        cases hb : (Nat.beq d.flat.length size && Nat.ble (off + d.flat.length) ds.length) with
        | false => simp [hb] at h2
        | true =>
          rw [hb] at h2
          simp only [Bool.and_eq_true] at hb
          have e1 := Nat.eq_of_beq_eq_true hb.1
          have e2 := Nat.le_of_ble_eq_true hb.2
          have hlen := hv.length
          simp only [Array.length_toList] at hlen
          have hfl : d.flat.length = sz := hsz.1
          have hcond : ¬ ((decide (v.cells.size ≠ size) || decide (off + v.cells.size > cs.size)) = true) := by
            rw [Bool.or_eq_true, decide_eq_true_eq, decide_eq_true_eq]; omega
          rw [if_neg hcond]
          refine fill_of_fillD ps qs (setAt ds off d.flat) es _ ?_ h1 hvs (fun p hp => hok p (List.mem_cons_of_mem _ hp)) h2
          have := foldl_sets v.cells.toList 0 off cs
          rw [← Array.foldl_toList, Array.toList_zipIdx]
          rw [this]
          exact VL.setAt hcv off hv

def placesOf (P : Program) (t : TypeId) : Option (List (Nat × Nat)) :=
  match P.underlying t with
  | some (.struct fs) => fs.toList.mapM fun f => (P.info? f.type).map fun i => (f.offset, i.size)
  | _ => none

theorem mapM_places {w : World} : ∀ (fs : List Field) (l : List (Nat × Nat)), (fs.mapM fun f => (P.info? f.type).map fun i => (f.offset, i.size)) = some l →
    (fs.mapM fun f => do pure (f.offset, ← sizeOf f.type) : Sem (List (Nat × Nat))).run P w = .ok l w
  | [], l, hl => by simp at hl; subst hl; simp
  | f :: fs, l, hl => by
    rw [List.mapM_cons] at hl
    obtain ⟨x, h1, hl⟩ := Option.bind_eq_some_iff.1 hl
    obtain ⟨xs, h2, hl⟩ := Option.bind_eq_some_iff.1 hl
    obtain ⟨i, h3, rfl⟩ := Option.map_eq_some_iff.1 h1
    cases hl
    rw [List.mapM_cons]
    have hs : (sizeOf f.type).run P w = .ok i.size w := by simp [sizeOf, typeInfo, h3]
    simp only [Sem.run_bind, hs, Result.andThen_ok, Sem.run_pure, mapM_places fs xs h2]

theorem parts_VL {w : World} {X : Nat → Prop} {ac : Act} : ∀ (ps : List (Nat × Operand)), (∀ p ∈ ps, V w X (ev fr p.2) (ac.eval p.2)) → VL w X (ps.map fun p => ev fr p.2) (ps.map fun p => ac.eval p.2)
  | [], _ => .nil
  | p :: ps, hv => .cons (hv p (by simp)) (parts_VL ps fun q hq => hv q (List.mem_cons_of_mem _ hq))

/-- A struct literal. -/
theorem OpA.build {t : TypeId} {parts : Array (Nat × Operand)} {pl : List (Nat × Nat)} {zc : Array Value} {zs ds : List D} (ho : o.op = .build t parts) (hp : placesOf P t = some pl) (hz : (P.info? t).bind (·.zero) = some (.agg zc))
    (hzs : ∀ w X, VL w X zs zc.toList) (hok : ∀ p ∈ parts.toList, ∃ sz, (ev fr p.2).ok sz) (hd : fillD (pl[·]?) zs (parts.toList.map fun p => (p.1, ev fr p.2)) = some ds) (hk : K (.agg ds) h) : OpA P o fr h K :=
  .of_quiet (fun A M w0 ac w _ hv => by
    have hvs := parts_VL (ac := ac) parts.toList (fun p hp => hv p.2 (by simp [ho, Op.operands]; exact ⟨p.1, by simpa using hp⟩))
    obtain ⟨cs', h1, h2⟩ := fill_of_fillD (place := (pl[·]?)) (parts.toList.map fun p => (p.1, ev fr p.2)) (parts.toList.map fun p => (p.1, ac.eval p.2)) zs ds zc (hzs w _) (by simp) (by rw [List.map_map, List.map_map]; exact hvs)
      (by intro p hp; obtain ⟨q, hq, rfl⟩ := List.mem_map.1 hp; exact hok q hq) hd
    refine ⟨.agg cs', ?_, .agg (vs := cs'.toList) h2⟩
    unfold placesOf at hp
    split at hp
    · rename_i fs hs
      have hpl := mapM_places (P := P) (w := w) fs.toList pl hp
      have hzr : (zeroValue t).run P w = .ok (.agg zc) w := by
        obtain ⟨i, hi, hi2⟩ := Option.bind_eq_some_iff.1 hz
        simp [zeroValue, typeInfo, hi, hi2]
      have hpa : (fs.mapM fun f => do pure (f.offset, ← sizeOf f.type) : Sem (Array (Nat × Nat))).run P w = .ok pl.toArray w := by
        rw [Array.mapM_eq_mapM_toList]
        simp only [Sem.run_map, hpl, Result.andThen_ok]
      have hpt : (parts.map fun (x : Nat × Operand) => (x.1, ac.eval x.2)).toList = parts.toList.map fun p => (p.1, ac.eval p.2) := by simp
      simp only [execOp, ho, Instr.build, Sem.run_bind, hzr, Result.andThen_ok, run_underlying hs, hpa, Value.cells, hpt]
      have hpf : (fun x : Nat => (pl.toArray)[x]?) = fun x => pl[x]? := by funext x; simp
      rw [hpf, h1]
      rfl
    · simp at hp) hk
end
end Go.Lic
