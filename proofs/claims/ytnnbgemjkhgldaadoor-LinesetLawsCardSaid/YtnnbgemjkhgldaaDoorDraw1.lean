/-
  A region whose order is open, with one new variable in it: made, stored into once, looked at by nothing else of the region.
-/
import Derived.Test.YtnnbgemjkhgldaaDoorDraw
set_option linter.all false
namespace Go.Lic

theorem HRel.base {A M : Nat → Prop} {w0 w : World} {h : Heap} (hr : HRel A M w0 h w) : HRel A (fun b => 2 * b ∈ keys h) w h w :=
  ⟨hr.nodup, hr.blk, hr.free, fun c hc he => .inl (by show 2 * (c / 2) ∈ keys h; rw [show 2 * (c / 2) = c from by omega]; exact hc), hr.bound, hr.old, Ext.refl _ _, hr.glob⟩

theorem HRel.join {A M : Nat → Prop} {w0 w w' : World} {h h' : Heap} (hr : HRel A M w0 h w) (hr' : HRel A (fun b => 2 * b ∈ keys h) w h' w') : HRel A M w0 h' w' := by
  refine ⟨hr'.nodup, hr'.blk, hr'.free, ?_, hr'.bound, hr'.old, ?_, hr'.glob⟩
  · intro c hc he
    rcases hr'.mine c hc he with hm | hm
    · have hm : 2 * (c / 2) ∈ keys h := hm
      rw [show 2 * (c / 2) = c from by omega] at hm
      exact hr.mine c hm he
    · right; have := hr.ext.size; omega
  · have e := hr'.ext
    refine ⟨e.os.trans hr.ext.os, e.tape.trans hr.ext.tape, e.output.trans hr.ext.output, Nat.le_trans hr.ext.size e.size, fun b hb hn => ?_, fun b hb => (e.shape b (Nat.lt_of_lt_of_le hb hr.ext.size)).trans (hr.ext.shape b hb), Nat.le_trans hr.ext.drawn e.drawn⟩
    refine (e.keep b (Nat.lt_of_lt_of_le hb hr.ext.size) (fun hx => ?_)).trans (hr.ext.keep b hb hn)
    rcases hr.mine (2 * b) hx (by omega) with hq | hq
    · rw [show 2 * b / 2 = b from by omega] at hq; exact hn hq
    · rw [show 2 * b / 2 = b from by omega] at hq; omega

def isAllocB (o : Oper) : Bool := match o.op with | .alloc _ => true | _ => false

def DetStep1 (P : Program) (ops : Array Oper) (h : Heap) (tp sz : Nat) (o : Oper) (fr : Nat → D) (d : D) : Prop :=
  (o.dst.isSome = true ∧ isAllocB o = false ∧ DetStep P ops h o fr d) ∨
  (∃ e, o.op = .alloc e ∧ o.guard = none ∧ o.dst = some tp ∧ ((P.info? e).bind (·.zero)).map (·.cells.size) = some sz ∧ d = .top) ∨
  (∃ t agg y, o.op = .store t (.tmp tp) y ∧ o.guard = none ∧ o.dst = none ∧ TI P t sz agg ∧ ev fr y = d ∧ d.ok sz)

inductive DetL1 (P : Program) (ops : Array Oper) (h : Heap) (tp sz : Nat) : List Oper → (Nat → D) → List D → Prop
  | nil {fr : Nat → D} : DetL1 P ops h tp sz [] fr []
  | cons {o : Oper} {l : List Oper} {fr : Nat → D} {d : D} {ds : List D} (h1 : DetStep1 P ops h tp sz o fr d) (h2 : DetL1 P ops h tp sz l (updO fr o.dst d) ds) : DetL1 P ops h tp sz (o :: l) fr (d :: ds)

def DetK1 (P : Program) (ops : Array Oper) (h : Heap) (tp sz : Nat) (l : List Oper) (fr : Nat → D) (C : (Nat → D) → List D → Prop) : Prop := ∃ ds, DetL1 P ops h tp sz l fr ds ∧ C (runFr fr l ds) ds

section
variable {P : Program} {ops : Array Oper} {h : Heap} {tp sz : Nat} {fr : Nat → D} {C : (Nat → D) → List D → Prop} {o : Oper} {l : List Oper} {d : D}

theorem DetK1.nil (hh : C fr []) : DetK1 P ops h tp sz [] fr C := ⟨[], .nil, hh⟩

theorem DetK1.op (hg : o.guard = none) (hs : o.dst.isSome = true) (hna : isAllocB o = false) (h1 : OpA P o fr h fun d' h' => d' = d ∧ h' = h) (h2 : DetK1 P ops h tp sz l (updO fr o.dst d) fun fr' ds => C fr' (d :: ds)) : DetK1 P ops h tp sz (o :: l) fr C := by
  obtain ⟨ds, h3, h4⟩ := h2
  exact ⟨d :: ds, .cons (.inl ⟨hs, hna, .inl ⟨hg, h1⟩⟩) h3, h4⟩

theorem DetK1.opg {j s : Nat} {want b : Bool} (hg : o.guard = some (j, want)) (hs : o.dst.isSome = true) (hna : isAllocB o = false) (hj : (ops[j]?).bind (·.dst) = some s) (hb : fr s = .b b) (hne : (b == want) = true) (h1 : OpA P o fr h fun d' h' => d' = d ∧ h' = h)
    (h2 : DetK1 P ops h tp sz l (updO fr o.dst d) fun fr' ds => C fr' (d :: ds)) : DetK1 P ops h tp sz (o :: l) fr C := by
  obtain ⟨ds, h3, h4⟩ := h2
  exact ⟨d :: ds, .cons (.inl ⟨hs, hna, .inr (.inl ⟨j, want, s, b, hg, hj, hb, .inl ⟨hne, h1⟩⟩)⟩) h3, h4⟩

theorem DetK1.skip {j s : Nat} {want b : Bool} (hg : o.guard = some (j, want)) (hs : o.dst.isSome = true) (hna : isAllocB o = false) (hj : (ops[j]?).bind (·.dst) = some s) (hb : fr s = .b b) (hne : (b == want) = false)
    (h2 : DetK1 P ops h tp sz l (updO fr o.dst (.v undef)) fun fr' ds => C fr' (.v undef :: ds)) : DetK1 P ops h tp sz (o :: l) fr C := by
  obtain ⟨ds, h3, h4⟩ := h2
  exact ⟨.v undef :: ds, .cons (.inl ⟨hs, hna, .inr (.inl ⟨j, want, s, b, hg, hj, hb, .inr ⟨hne, rfl⟩⟩)⟩) h3, h4⟩

theorem DetK1.skipU {j s : Nat} {want : Bool} (hg : o.guard = some (j, want)) (hs : o.dst.isSome = true) (hna : isAllocB o = false) (hj : (ops[j]?).bind (·.dst) = some s) (hb : fr s = .v undef)
    (h2 : DetK1 P ops h tp sz l (updO fr o.dst (.v undef)) fun fr' ds => C fr' (.v undef :: ds)) : DetK1 P ops h tp sz (o :: l) fr C := by
  obtain ⟨ds, h3, h4⟩ := h2
  exact ⟨.v undef :: ds, .cons (.inl ⟨hs, hna, .inr (.inr ⟨j, want, s, hg, hj, hb, rfl⟩)⟩) h3, h4⟩

theorem DetK1.alloc {e : TypeId} (ho : o.op = .alloc e) (hg : o.guard = none) (hd : o.dst = some tp) (hz : ((P.info? e).bind (·.zero)).map (·.cells.size) = some sz)
    (h2 : DetK1 P ops h tp sz l (upd fr tp .top) fun fr' ds => C fr' (.top :: ds)) : DetK1 P ops h tp sz (o :: l) fr C := by
  obtain ⟨ds, h3, h4⟩ := h2
  refine ⟨.top :: ds, .cons (.inr (.inl ⟨e, ho, hg, hd, hz, rfl⟩)) (by rw [hd]; exact h3), ?_⟩
  have : runFr fr (o :: l) (.top :: ds) = runFr (upd fr tp .top) l ds := by
    show runFr (updO fr o.dst .top) l ds = _
    rw [hd]
  rw [this]; exact h4

theorem DetK1.store {t : TypeId} {agg : Bool} {y : Operand} (ho : o.op = .store t (.tmp tp) y) (hg : o.guard = none) (hd : o.dst = none) (ht : TI P t sz agg) (hy : ev fr y = d) (hok : d.ok sz)
    (h2 : DetK1 P ops h tp sz l fr fun fr' ds => C fr' (d :: ds)) : DetK1 P ops h tp sz (o :: l) fr C := by
  obtain ⟨ds, h3, h4⟩ := h2
  refine ⟨d :: ds, .cons (.inr (.inr ⟨t, agg, y, ho, hg, hd, ht, hy, hok⟩)) (by rw [hd]; exact h3), ?_⟩
  have : runFr fr (o :: l) (d :: ds) = runFr fr l ds := by
    show runFr (updO fr o.dst d) l ds = _
    rw [hd]
  rw [this]; exact h4

theorem DetK1_split {s : Nat} {b : Bool} (hb : fr s = .b b) (ht : b = true → DetK1 P ops h tp sz l (upd fr s (.b true)) C) (hf : b = false → DetK1 P ops h tp sz l (upd fr s (.b false)) C) : DetK1 P ops h tp sz l fr C := by
  have self : ∀ d, fr s = d → upd fr s d = fr := fun d hd => by
    funext t
    by_cases ht : t = s
    · subst ht; rw [upd_same, hd]
    · rw [upd_ne _ _ ht]
  cases b with
  | true => have := ht rfl; rwa [self _ hb] at this
  | false => have := hf rfl; rwa [self _ hb] at this

theorem DetL1.length {l : List Oper} {fr : Nat → D} {ds : List D} (hd : DetL1 P ops h tp sz l fr ds) : ds.length = l.length := by
  induction hd with
  | nil => rfl
  | cons _ _ ih => simp [ih]

theorem DetL1.nth {l : List Oper} {fr : Nat → D} {ds : List D} (hd : DetL1 P ops h tp sz l fr ds) : ∀ (i : Nat) (o : Oper) (d : D), l[i]? = some o → ds[i]? = some d → DetStep1 P ops h tp sz o (runFr fr (l.take i) (ds.take i)) d := by
  induction hd with
  | nil => intro i o d h1; simp at h1
  | cons h1 _ ih =>
    intro i o d h2 h3
    cases i with
    | zero => simp at h2 h3; subst h2; subst h3; exact h1
    | succ i => simpa [runFr] using ih i o d (by simpa using h2) (by simpa using h3)
end

/-- No slot is written twice. -/
def nodupS : List (Option Nat) → Bool
  | [] => true
  | x :: l => (x.isNone || l.all (fun y => !(x == y))) && nodupS l

theorem nodupS_spec : ∀ (l : List (Option Nat)), nodupS l = true → ∀ (i j a : Nat), l[i]? = some (some a) → l[j]? = some (some a) → i = j
  | [], _, i, j, a, h1, _ => by simp at h1
  | x :: l, h, i, j, a, h1, h2 => by
    simp only [nodupS, Bool.and_eq_true, Bool.or_eq_true, List.all_eq_true] at h
    have hx : ∀ k, l[k]? = some (some a) → x = some a → False := fun k hk hxa => by
      subst hxa
      rcases h.1 with h0 | h0
      · simp at h0
      · have := h0 _ (List.mem_of_getElem? hk); simp at this
    cases i with
    | zero =>
      cases j with
      | zero => rfl
      | succ j => exact (hx j (by simpa using h2) (by simpa using h1)).elim
    | succ i =>
      cases j with
      | zero => exact (hx i (by simpa using h1) (by simpa using h2)).elim
      | succ j => rw [nodupS_spec l h.2 i j a (by simpa using h1) (by simpa using h2)]

theorem nodupS_take : ∀ (l : List (Option Nat)) (k : Nat), nodupS l = true → nodupS (l.take k) = true
  | [], k, _ => by simp [nodupS]
  | x :: l, 0, _ => rfl
  | x :: l, k + 1, h => by
    simp only [nodupS, Bool.and_eq_true, Bool.or_eq_true, List.all_eq_true, List.take_succ_cons] at h ⊢
    exact ⟨h.1.imp id (fun h0 y hy => h0 y (List.mem_of_mem_take hy)), nodupS_take l k h.2⟩

theorem slotOf_hit1 {fr : Nat → D} {dsts : List (Option Nat)} {ds : List D} {li : Array Bool} {m t i : Nat} (hd : nodupS dsts = true) (hi : i < m) (hl : li.getD i false = true) (ht : dsts[i]? = some (some t)) :
    slotOf fr dsts ds li m t = ds.getD i (.v undef) := by
  unfold slotOf
  cases hf : (List.range m).find? fun i => li.getD i false && dsts.getD i none == some t with
  | none =>
    have := List.find?_eq_none.1 hf i (List.mem_range.2 hi)
    simp [hl, ht] at this
  | some j =>
    have h1 := List.find?_some hf
    simp only [Bool.and_eq_true, beq_iff_eq] at h1
    have h2 : dsts[j]? = some (some t) := by
      cases hj : dsts[j]? with
      | none => have := h1.2; simp [hj] at this
      | some x => have := h1.2; simp [hj] at this; rw [this]
    have := nodupS_spec dsts hd i j _ ht h2
    rw [this]

theorem runFr_get1 : ∀ (l : List Oper) (ds : List D) (fr : Nat → D) (t : Nat), ds.length = l.length → nodupS (l.map (·.dst)) = true →
    (∀ i : Nat, (l.map (·.dst))[i]? = some (some t) → runFr fr l ds t = ds.getD i (.v undef)) ∧ ((∀ i : Nat, (l.map (·.dst))[i]? ≠ some (some t)) → runFr fr l ds t = fr t)
  | [], ds, fr, t, _, _ => by
    refine ⟨fun i h => by simp at h, fun _ => by cases ds <;> rfl⟩
  | o :: l, [], fr, t, h, _ => by simp at h
  | o :: l, d :: ds, fr, t, h, hd => by
    simp only [List.map_cons, nodupS, Bool.and_eq_true, Bool.or_eq_true, List.all_eq_true] at hd
    obtain ⟨ih1, ih2⟩ := runFr_get1 l ds (updO fr o.dst d) t (by simpa using h) hd.2
    constructor
    · intro i hi
      cases i with
      | zero =>
        simp at hi
        show runFr (updO fr o.dst d) l ds t = d
        rw [ih2 (fun j hj => by
          rcases hd.1 with h0 | h0
          · rw [hi] at h0; simp at h0
          · have := h0 _ (List.mem_of_getElem? hj)
            rw [hi] at this; simp at this), hi]
        exact upd_same _ _ _
      | succ i => simpa [runFr] using ih1 i (by simpa using hi)
    · intro hm
      show runFr (updO fr o.dst d) l ds t = fr t
      rw [ih2 (fun i hi => hm (i + 1) (by simpa using hi))]
      have h0 := hm 0
      simp at h0
      cases hq : o.dst with
      | none => rfl
      | some x =>
        rw [hq] at h0
        exact upd_ne _ _ (fun e => h0 (by rw [e]))

/-- All that is asked of a region: p makes the variable, q stores into it. -/
def drawOk1 (ops : List Oper) (m p q tp : Nat) : Bool :=
  let L := befs ops
  let dsts := (ops.take m).map (·.dst)
  (m ≤ ops.length) &&
  (ops.zipIdx.all fun (o, i) => (L.getD i []).all fun j => o.after.toList.any fun e => Region.binds .any e && (e.on == j || (L.getD e.on []).contains j)) &&
  (ops.zipIdx.all fun (o, i) => o.after.toList.all fun e => !Region.binds .any e || decide (e.on < i)) &&
  nodupS dsts &&
  ((ops.take m).zipIdx.all fun (o, i) => (tmpsOf o).all fun t => (t == tp && i == q) || dsts.zipIdx.all fun (x, j) => !(x == some t) || ((L.getD i []).contains j && decide (j < i)) || ((L.getD j []).contains i && decide (i < j))) &&
  ((ops.take m).zipIdx.all fun (o, i) => match o.guard with | none => true | some (j, _) => (L.getD i []).contains j && decide (j < i)) &&
  (ops.zipIdx.all fun (_, i) => decide (i < m) || (List.range i).all fun j => (L.getD i []).contains j) &&
  -- the variable
  (decide (p < m) && decide (q < m) && (L.getD q []).contains p && (dsts.getD p none == some tp) &&
    ((ops.take m).zipIdx.all fun (o, i) => ((i == p) == isAllocB o) && ((i == q) == o.dst.isNone) && (i == q || (tmpsOf o).all fun t => !(t == tp))))

/-- The state while the variable is made and filled. -/
def St1 (n : Nat) (A M : Nat → Prop) (w0 : World) (h : Heap) (tp sz p q : Nat) (dq : D) (li : Array Bool) (fr : Nat → D) (a : Act) (w : World) : Prop :=
  (li.getD p false = false ∧ Rel n A M w0 fr h a w) ∨
  (li.getD p false = true ∧ ∃ b arr e, Rel n (fun c => A c ∨ c = 2 * b) M w0 fr h a w ∧ ¬ A (2 * b) ∧ 2 * b ∉ keys h ∧ w0.heap.size ≤ b ∧ a.tmps.getD tp undef = .pointer (some ⟨b, 0, none⟩) ∧ OwnCells w b arr e ∧ arr.size = sz ∧
    (li.getD q false = true → ∃ v, V w (XX (fun c => A c ∨ c = 2 * b) h) dq v ∧ arr.toList = v.cells.toList))

theorem St1.rel {n : Nat} {A M : Nat → Prop} {w0 : World} {h : Heap} {tp sz p q : Nat} {dq : D} {li : Array Bool} {fr : Nat → D} {a : Act} {w : World} (s : St1 n A M w0 h tp sz p q dq li fr a w) : ∃ A', Rel n A' M w0 fr h a w := by
  rcases s with ⟨_, r⟩ | ⟨_, b, arr, e, r, _⟩
  · exact ⟨_, r⟩
  · exact ⟨_, r⟩

theorem St1.adopt {n : Nat} {A M : Nat → Prop} {w0 : World} {h : Heap} {tp sz p q : Nat} {dq : D} {li : Array Bool} {fr : Nat → D} {a : Act} {w : World} (s : St1 n A M w0 h tp sz p q dq li fr a w) (hp : li.getD p false = true) (hq : li.getD q false = true) (hd : dq.ok sz) :
    ∃ c, Rel n A M w0 (upd fr tp (.ptr c sz 0 0)) ((c, .cells sz [dq]) :: h) a w := by
  rcases s with ⟨h0, _⟩ | ⟨_, b, arr, e, r, hA, hk, hw, htp, hb, hs, hv⟩
  · rw [hp] at h0; simp at h0
  · obtain ⟨v, hv1, hv2⟩ := hv hq
    have hxx : XX A ((2 * b, .cells sz [dq]) :: h) = XX (fun c => A c ∨ c = 2 * b) h := by
      funext b'
      simp only [XX, keys_cons, List.mem_cons, eq_iff_iff]
      constructor
      · rintro (h | h | h)
        · exact .inl (.inl h)
        · exact .inl (.inr h)
        · exact .inr h
      · rintro ((h | h) | h)
        · exact .inl h
        · exact .inr (.inl h)
        · exact .inr (.inr h)
    have hr := r.heap
    refine ⟨2 * b, r.size, fun i => ?_, r.defers, ?_⟩
    · rw [hxx]
      by_cases hi : i = tp
      · subst hi
        rw [upd_same, htp]
        have := V.ptr (w := w) (X := XX (fun c => A c ∨ c = 2 * b) h) (c := 2 * b) (sz := sz) (i := 0) (k := 0) (by omega)
        rwa [show 2 * b / 2 = b from by omega, show 0 * sz + 0 = 0 from by omega] at this
      · rw [upd_ne _ _ hi]; exact r.frame i
    · refine ⟨by simp only [keys_cons, List.nodup_cons]; exact ⟨hk, hr.nodup⟩, fun c blk hc => ?_, ?_, ?_, ?_, fun b' hb' => hr.old b' (.inl hb'), hr.ext, by rw [hxx]; exact hr.glob⟩
      · rw [hxx]
        rcases List.mem_cons.1 hc with hc | hc
        · cases hc
          refine ⟨by simpa using hd, .inr ⟨by omega, arr, e, v.cells.toList, ?_, ?_, ?_⟩⟩
          · rw [show 2 * b / 2 = b from by omega]; exact hb
          · simpa [D.flats] using hv1.cells hd
          · rw [hv2]; exact List.prefix_refl _
        · exact hr.blk c blk hc
      · intro c hc ha
        rcases List.mem_cons.1 (by simpa using hc) with hc | hc
        · subst hc; exact hA ha
        · exact hr.free c hc (.inl ha)
      · intro c hc he
        rcases List.mem_cons.1 (by simpa using hc) with hc | hc
        · subst hc; right; omega
        · exact hr.mine c hc he
      · obtain ⟨N, hN⟩ := hr.bound
        exact ⟨N, fun c hc => hN c (.inl hc)⟩

theorem run_alloc' {P : Program} {o : Oper} {e : TypeId} {sz : Nat} (ho : o.op = .alloc e) (hz : ((P.info? e).bind (·.zero)).map (·.cells.size) = some sz) (ρ : Operand → Value) (w : World) :
    ∃ arr, arr.size = sz ∧ (execOp ρ o).run P w = .ok (.value (.pointer (some ⟨w.heap.size, 0, none⟩))) (w.alloc (.cells arr e)) := by
  obtain ⟨z, h1, h2⟩ := Option.map_eq_some_iff.1 hz
  obtain ⟨i, hi, hi2⟩ := Option.bind_eq_some_iff.1 h1
  exact ⟨z.cells, h2, by simp [execOp, ho, Instr.alloc, zeroValue, typeInfo, hi, hi2, newVar, newRow]⟩

section
variable {P : Program} {ops : Array Oper}

set_option maxHeartbeats 2000000 in
theorem wpA_draw1 {P : Program} {n : Nat} {ops : Array Oper} {Q : Post} {fr : Nat → D} {h : Heap} {id m p q tp sz : Nat} (hm : P.follows .mixedOrders = true) (hok : drawOk1 ops.toList m p q tp = true) (hn : (ops.toList.take m).all (fun o => (o.dst.all fun d => Nat.blt d n)) = true)
    (hdet : DetK1 P ops h tp sz (ops.toList.take m) fr fun fr' ds => (ds.getD q .top).ok sz ∧ ∀ c, wpL P n ops (ops.toList.drop m) Q (upd fr' tp (.ptr c sz 0 0)) ((c, .cells sz [ds.getD q .top]) :: h)) : wpA P n (.region id ops true) Q fr h := by
  intro A M w0 a0 w1 r0
  obtain ⟨ds, hds, hdqok, hrest⟩ := hdet
  -- what the check says
  simp only [drawOk1, Bool.and_eq_true] at hok
  obtain ⟨⟨⟨⟨⟨⟨⟨k1, k2⟩, k3⟩, k4⟩, k5⟩, k6⟩, k7⟩, ⟨⟨⟨k8, k9⟩, k10⟩, k11⟩, k12⟩ := hok
  have k8 : p < m := by simpa using k8
  have k9 : q < m := by simpa using k9
  have k11 : ((ops.toList.take m).map (·.dst))[p]? = some (some tp) := by
    cases hv : ((ops.toList.take m).map (·.dst))[p]? with
    | none => rw [List.getD_eq_getElem?_getD, hv] at k11; simp at k11
    | some y => rw [List.getD_eq_getElem?_getD, hv] at k11; simp at k11; rw [k11]
  generalize hL : befs ops.toList = L at *
  have hml : m ≤ ops.size := by simpa using k1
  have oget : ∀ (i : Nat) (o : Oper), ops[i]? = some o ↔ ops.toList[i]? = some o := fun i o => by rw [Array.getElem?_toList]
  have hback : ∀ i o, ops[i]? = some o → ∀ e ∈ o.after.toList, Region.binds .any e = true → e.on < i := by
    intro i o ho e he hb
    have := zipIdx_all k3 i o ((oget i o).1 ho)
    simp only [List.all_eq_true] at this
    have := this e he
    simpa [hb] using this
  -- a list's members have been done
  have hbef : ∀ (li : Array Bool), (∀ x y, ops[x]? = some y → li.getD x false = true → ∀ e ∈ y.after.toList, Region.binds .any e = true → li.getD e.on false = true) →
      ∀ N i o, i ≤ N → ops[i]? = some o → (∀ e ∈ o.after.toList, Region.binds .any e = true → li.getD e.on false = true) → ∀ j, (L.getD i []).contains j = true → li.getD j false = true := by
    intro li hcl N
    induction N with
    | zero =>
      intro i o hi ho ha j hj
      have := zipIdx_all k2 i o ((oget i o).1 ho)
      simp only [List.all_eq_true] at this
      have := this j (by simpa using hj)
      simp only [List.any_eq_true, Bool.and_eq_true, Bool.or_eq_true, beq_iff_eq] at this
      obtain ⟨e, he, hb, hj'⟩ := this
      have := hback i o ho e he hb
      omega
    | succ N ih =>
      intro i o hi ho ha j hj
      have := zipIdx_all k2 i o ((oget i o).1 ho)
      simp only [List.all_eq_true] at this
      have := this j (by simpa using hj)
      simp only [List.any_eq_true, Bool.and_eq_true, Bool.or_eq_true, beq_iff_eq] at this
      obtain ⟨e, he, hb, hj'⟩ := this
      have hlt := hback i o ho e he hb
      rcases hj' with rfl | hj'
      · exact ha e he hb
      · have hio := (Array.getElem?_eq_some_iff.1 ho).1
        have ho2 : ops[e.on]? = some ops[e.on] := Array.getElem?_eq_getElem (by omega)
        exact ih e.on _ (by omega) ho2 (hcl e.on _ ho2 (ha e he hb)) j hj'
  refine wp_region_any hm ?_
  -- the first operations, in whatever order
  have key : ∀ (fuel : Nat) (li : Array Bool) (a : Act) (w : World), li.size = ops.size → cnt li ops.size = fuel → (∀ x y, ops[x]? = some y → li.getD x false = true → ∀ e ∈ y.after.toList, Region.binds .any e = true → li.getD e.on false = true) →
      (∀ i, m ≤ i → li.getD i false = false) → St1 n A M w0 h tp sz p q (ds.getD q .top) li (slotOf fr ((ops.toList.take m).map (·.dst)) ds li m) a w → wpAny P .any ops (Conc n A M w0 Q) fuel li a w := by
    intro fuel
    induction fuel with
    | zero =>
      intro li a w hs hc hcl hpre r
      have hall := cnt_zero hc
      have hmm : m = ops.size := by
        rcases Nat.lt_or_ge m ops.size with hlt | hge
        · have := hall m hlt; rw [hpre m (Nat.le_refl _)] at this; simp at this
        · omega
      have hfr : slotOf fr ((ops.toList.take m).map (·.dst)) ds li m = runFr fr (ops.toList.take m) ds := by
        funext t
        obtain ⟨g1, g2⟩ := runFr_get1 (ops.toList.take m) ds fr t (hds.length) k4
        by_cases hex : ∃ i : Nat, ((ops.toList.take m).map (·.dst))[i]? = some (some t)
        · obtain ⟨i, hi⟩ := hex
          have him : i < m := by have := (List.getElem?_eq_some_iff.1 hi).1; simp at this; omega
          rw [slotOf_hit1 k4 him (hall i (by omega)) hi, g1 i hi]
        · rw [slotOf_miss (fun i _ _ hi => hex ⟨i, hi⟩), g2 (fun i hi => hex ⟨i, hi⟩)]
      rw [hfr] at r
      obtain ⟨c, r'⟩ := r.adopt (hall p (by omega)) (hall q (by omega)) hdqok
      have := hrest c A M w0 a w r'
      have hd : ops.toList.drop m = [] := List.drop_eq_nil_of_le (by simp; omega)
      rw [hd] at this
      refine ⟨?_, this⟩
      apply List.eq_nil_iff_forall_not_mem.2
      intro i hi
      obtain ⟨o, ho, hl, _⟩ := (mem_ready hs).1 hi
      rw [hall i (Array.getElem?_eq_some_iff.1 ho).1] at hl
      simp at hl
    | succ fuel ih =>
      intro li a w hs hc hcl hpre r
      by_cases hdone : ∀ i, i < m → li.getD i false = true
      · -- all the first ones are done
        have hfr : slotOf fr ((ops.toList.take m).map (·.dst)) ds li m = runFr fr (ops.toList.take m) ds := by
          funext t
          obtain ⟨g1, g2⟩ := runFr_get1 (ops.toList.take m) ds fr t (hds.length) k4
          by_cases hex : ∃ i : Nat, ((ops.toList.take m).map (·.dst))[i]? = some (some t)
          · obtain ⟨i, hi⟩ := hex
            have him : i < m := by have := (List.getElem?_eq_some_iff.1 hi).1; simp at this; omega
            rw [slotOf_hit1 k4 him (hdone i him) hi, g1 i hi]
          · rw [slotOf_miss (fun i _ _ hi => hex ⟨i, hi⟩), g2 (fun i hi => hex ⟨i, hi⟩)]
        rw [hfr] at r
        have hcnt : ∀ k, m ≤ k → cnt li k = k - m := by
          intro k
          induction k with
          | zero => intro _; simp [cnt]
          | succ k ihk =>
            intro hk
            simp only [cnt]
            by_cases hkm : m ≤ k
            · rw [ihk hkm, hpre k hkm]; simp; omega
            · have hkk : m = k + 1 := by omega
              have hz : ∀ q, q ≤ k → cnt li q = 0 := by
                intro q
                induction q with
                | zero => intro _; rfl
                | succ q ihq => intro hq; simp only [cnt]; rw [ihq (by omega), hdone q (by omega)]; simp
              rw [hz k (Nat.le_refl _), hdone k (by omega)]; simp; omega
        have hf := hcnt ops.size hml
        obtain ⟨c, r'⟩ := r.adopt (hdone p k8) (hdone q k9) hdqok
        refine wpAny_tail hback (fuel + 1) m li a w hs (fun i hi => ?_) (by omega) ?_ (hrest c A M w0 a w r')
        · by_cases him : i < m
          · rw [hdone i him]; simp [him]
          · rw [hpre i (by omega)]; simp [him]
        · intro i o hmi ho j hj li' hs' hcl' ha'
          have h7 := zipIdx_all k7 i o ((oget i o).1 ho)
          simp only [Bool.or_eq_true, decide_eq_true_eq, List.all_eq_true] at h7
          rcases h7 with h7 | h7
          · omega
          · exact hbef li' hcl' i i o (Nat.le_refl _) ho ha' j (h7 j (List.mem_range.2 hj))
      · -- one of the first ones is next
        have hnot : ∃ i, i < m ∧ li.getD i false = false := by
          apply Classical.byContradiction
          intro hno
          apply hdone
          intro i hi
          cases hv : li.getD i false with
          | true => rfl
          | false => exact absurd ⟨i, hi, hv⟩ hno
        have hfirst : ∀ i, i ∈ Region.ready .any ops li → i < m := by
          intro i hi
          obtain ⟨o, ho, hl, ha⟩ := (mem_ready hs).1 hi
          rcases Nat.lt_or_ge i m with h1 | h1
          · exact h1
          · exfalso
            obtain ⟨j, hj, hjf⟩ := hnot
            have h7 := zipIdx_all k7 i o ((oget i o).1 ho)
            simp only [Bool.or_eq_true, decide_eq_true_eq, List.all_eq_true] at h7
            rcases h7 with h7 | h7
            · omega
            · have := hbef li hcl i i o (Nat.le_refl _) ho ha j (h7 j (List.mem_range.2 (by omega)))
              rw [hjf] at this; simp at this
        refine ⟨fun hr => ?_, fun i hi => ?_⟩
        · -- the least that is left is ready
          exfalso
          obtain ⟨j, hj, hjf⟩ := hnot
          have : ∀ N i, i ≤ N → i < ops.size → li.getD i false = false → False := by
            intro N
            induction N with
            | zero =>
              intro i hiN his hif
              have hmem : i ∈ Region.ready .any ops li := (mem_ready hs).2 ⟨_, Array.getElem?_eq_getElem his, hif, fun e he hb => by
                have := hback i _ (Array.getElem?_eq_getElem his) e he hb; omega⟩
              rw [hr] at hmem; simp at hmem
            | succ N ihN =>
              intro i hiN his hif
              have hmem : i ∈ Region.ready .any ops li := (mem_ready hs).2 ⟨_, Array.getElem?_eq_getElem his, hif, fun e he hb => by
                have := hback i _ (Array.getElem?_eq_getElem his) e he hb
                cases hv : li.getD e.on false with
                | true => rfl
                | false => exact (ihN e.on (by omega) (by omega) hv).elim⟩
              rw [hr] at hmem; simp at hmem
          exact this j j (Nat.le_refl _) (by omega) hjf
        · have him := hfirst i hi
          obtain ⟨o, ho, hl, ha⟩ := (mem_ready hs).1 hi
          have hio := (Array.getElem?_eq_some_iff.1 ho).1
          have hotl : (ops.toList.take m)[i]? = some o := by rw [List.getElem?_take, if_pos him]; exact (oget i o).1 ho
          have hdi : ∃ d, ds[i]? = some d := ⟨_, List.getElem?_eq_getElem (by rw [hds.length]; simp; omega)⟩
          obtain ⟨d, hd⟩ := hdi
          have hstep := hds.nth i o d hotl hd
          -- the slots that it reads
          have hslot : ∀ t, (∀ j : Nat, (((ops.toList.take m).map (·.dst))[j]? = some (some t)) → ((L.getD i []).contains j = true ∧ j < i) ∨ ((L.getD j []).contains i = true ∧ i < j)) →
              slotOf fr ((ops.toList.take m).map (·.dst)) ds li m t = runFr fr ((ops.toList.take m).take i) (ds.take i) t := by
            intro t ht
            have e1 : (ops.toList.take m).take i = ops.toList.take i := by rw [List.take_take]; congr 1; omega
            have hlen : (ds.take i).length = (ops.toList.take i).length := by simp [hds.length]; omega
            have hnd : nodupS ((ops.toList.take i).map (·.dst)) = true := by
              have := nodupS_take _ i k4
              rwa [← List.map_take, e1] at this
            rw [e1]
            obtain ⟨g1, g2⟩ := runFr_get1 (ops.toList.take i) (ds.take i) fr t hlen hnd
            by_cases hex : ∃ j : Nat, ((ops.toList.take m).map (·.dst))[j]? = some (some t)
            · obtain ⟨j, hj⟩ := hex
              rcases ht j hj with ⟨hb, hji⟩ | ⟨hb, hij⟩
              · have hjl := hbef li hcl i i o (Nat.le_refl _) ho ha j hb
                rw [slotOf_hit1 k4 (by omega) hjl hj]
                rw [take_dsts, if_pos (by omega)] at hj
                rw [g1 j (by rw [take_dsts, if_pos hji]; exact hj)]
                simp [hji]
              · -- what is written behind it has not been written yet
                have hjm : j < m := by have := (List.getElem?_eq_some_iff.1 hj).1; simp at this; omega
                have hjf : li.getD j false = false := by
                  cases hv : li.getD j false with
                  | false => rfl
                  | true =>
                    have hoj : ops[j]? = some ops[j] := Array.getElem?_eq_getElem (by omega)
                    have := hbef li hcl j j _ (Nat.le_refl _) hoj (hcl j _ hoj hv) i hb
                    rw [hl] at this; simp at this
                rw [slotOf_miss (fun q h1 h2 h3 => by
                  have := nodupS_spec _ k4 q j _ h3 hj
                  subst this
                  rw [hjf] at h2; simp at h2), g2 (fun q hq => by
                  rw [take_dsts] at hq
                  split at hq
                  · have hq' : ((ops.toList.take m).map (·.dst))[q]? = some (some t) := by rw [take_dsts, if_pos (by omega)]; exact hq
                    have := nodupS_spec _ k4 q j _ hq' hj
                    omega
                  · simp at hq)]
            · rw [slotOf_miss (fun j _ _ hj => hex ⟨j, hj⟩), g2 (fun j hj => by
                rw [take_dsts] at hj
                split at hj
                · apply hex; refine ⟨j, ?_⟩; rw [take_dsts, if_pos (by omega)]; exact hj
                · simp at hj)]
          have hk12 := zipIdx_all k12 i o hotl
          simp only [Bool.and_eq_true, beq_iff_eq] at hk12
          obtain ⟨⟨hk12a, hk12b⟩, hk12c⟩ := hk12
          have hread : ∀ t, t ∈ tmpsOf o → ¬ (t = tp ∧ i = q) → slotOf fr ((ops.toList.take m).map (·.dst)) ds li m t = runFr fr ((ops.toList.take m).take i) (ds.take i) t := by
            intro t htm hne
            apply hslot
            intro j hj
            have h5 := zipIdx_all k5 i o hotl
            simp only [List.all_eq_true] at h5
            have := h5 t htm
            rw [Bool.or_eq_true] at this
            rcases this with this | this
            · simp at this; exact absurd this hne
            · have := zipIdx_all this j _ hj
              simp only [beq_self_eq_true, Bool.not_true, Bool.false_or, Bool.or_eq_true, Bool.and_eq_true, decide_eq_true_eq] at this
              exact this
          have hevs : ∀ x, x ∈ o.op.operands → ¬ (x = .tmp tp ∧ i = q) → ev (slotOf fr ((ops.toList.take m).map (·.dst)) ds li m) x = ev (runFr fr ((ops.toList.take m).take i) (ds.take i)) x := by
            intro x hx hne
            cases x with
            | tmp t => exact hread t (List.mem_filterMap.2 ⟨.tmp t, by simpa using hx, rfl⟩) (fun ⟨h1, h2⟩ => hne ⟨by rw [h1], h2⟩)
            | const v => rfl
            | global g => rfl
            | func f => rfl
          have hli : ∀ k, (li.setIfInBounds i true).getD k false = if k = i then true else li.getD k false := fun k => getD_set (by omega)
          have hcnt' : cnt (li.setIfInBounds i true) ops.size = fuel := by
            have := cnt_set (li := li) (i := i) (by omega) hl ops.size
            rw [if_pos hio] at this
            omega
          have hcl' : ∀ x y, ops[x]? = some y → (li.setIfInBounds i true).getD x false = true → ∀ e ∈ y.after.toList, Region.binds .any e = true → (li.setIfInBounds i true).getD e.on false = true := by
            intro x y hy hx e he hb
            rw [hli] at hx ⊢
            by_cases hxi : x = i
            · subst hxi
              rw [ho] at hy; cases hy
              split
              · rfl
              · exact ha e he hb
            · rw [if_neg hxi] at hx
              split
              · rfl
              · exact hcl x y hy hx e he hb
          have hpre' : ∀ j, m ≤ j → (li.setIfInBounds i true).getD j false = false := fun j hj => by
            rw [hli, if_neg (by omega)]; exact hpre j hj
          have hqp : li.getD p false = false → li.getD q false = false := by
            intro hp0
            cases hv : li.getD q false with
            | false => rfl
            | true =>
              have hoq : ops[q]? = some ops[q] := Array.getElem?_eq_getElem (by omega)
              have := hbef li hcl q q _ (Nat.le_refl _) hoq (hcl q _ hoq hv) p k10
              rw [hp0] at this; simp at this
          -- slots behind it
          have hnext : ∀ dd, o.dst = some dd → slotOf fr ((ops.toList.take m).map (·.dst)) ds (li.setIfInBounds i true) m = upd (slotOf fr ((ops.toList.take m).map (·.dst)) ds li m) dd d := by
            intro dd hdd
            funext t
            have hqi : ((ops.toList.take m).map (·.dst))[i]? = some (some dd) := by rw [List.getElem?_map, hotl, Option.map_some, hdd]
            by_cases htd : t = dd
            · subst htd
              rw [upd_same, slotOf_hit1 k4 him (by rw [getD_set (by omega)]; simp) hqi]
              simp [hd]
            · rw [upd_ne _ _ htd]
              by_cases hex : ∃ j : Nat, j < m ∧ li.getD j false = true ∧ ((ops.toList.take m).map (·.dst))[j]? = some (some t)
              · obtain ⟨j, hj1, hj2, hj3⟩ := hex
                rw [slotOf_hit1 k4 hj1 hj2 hj3, slotOf_hit1 k4 hj1 (by rw [getD_set (by omega)]; split <;> simp [hj2]) hj3]
              · rw [slotOf_miss (fun j h1 h2 h3 => hex ⟨j, h1, h2, h3⟩), slotOf_miss]
                intro j h1 h2 h3
                rw [getD_set (by omega)] at h2
                by_cases hji : j = i
                · subst hji
                  rw [hqi] at h3
                  simp at h3; exact htd h3.symm
                · rw [if_neg hji] at h2
                  exact hex ⟨j, h1, h2, h3⟩
          have hnextN : o.dst = none → slotOf fr ((ops.toList.take m).map (·.dst)) ds (li.setIfInBounds i true) m = slotOf fr ((ops.toList.take m).map (·.dst)) ds li m := by
            intro hdd
            funext t
            have hqi : ((ops.toList.take m).map (·.dst))[i]? = some none := by rw [List.getElem?_map, hotl, Option.map_some, hdd]
            by_cases hex : ∃ j : Nat, j < m ∧ li.getD j false = true ∧ ((ops.toList.take m).map (·.dst))[j]? = some (some t)
            · obtain ⟨j, hj1, hj2, hj3⟩ := hex
              rw [slotOf_hit1 k4 hj1 hj2 hj3, slotOf_hit1 k4 hj1 (by rw [getD_set (by omega)]; split <;> simp [hj2]) hj3]
            · rw [slotOf_miss (fun j h1 h2 h3 => hex ⟨j, h1, h2, h3⟩), slotOf_miss]
              intro j h1 h2 h3
              rw [getD_set (by omega)] at h2
              by_cases hji : j = i
              · subst hji; rw [hqi] at h3; simp at h3
              · rw [if_neg hji] at h2
                exact hex ⟨j, h1, h2, h3⟩
          have hgoP : ∀ a' w', St1 n A M w0 h tp sz p q (ds.getD q .top) (li.setIfInBounds i true) (slotOf fr ((ops.toList.take m).map (·.dst)) ds (li.setIfInBounds i true) m) a' w' →
              wpAny P .any ops (Conc n A M w0 Q) fuel (li.setIfInBounds i true) a' w' := fun a' w' hst => ih _ a' w' (by simp [hs]) hcnt' hcl' hpre' hst
          have hddn : ∀ dd, o.dst = some dd → dd < n := by
            intro dd hdd
            rw [List.all_eq_true] at hn
            have := hn o (List.mem_of_getElem? hotl)
            rw [hdd] at this
            simpa [Nat.blt_eq] using this
          unfold wpOp
          simp only [ho]
          rcases hstep with ⟨hsome, hna, hdet⟩ | ⟨e, hop, hg, hdd, hz, rfl⟩ | ⟨ty, agg, y, hop, hg, hdd, hty, hy, hdok⟩
          · -- an operation like any other
            obtain ⟨dd, hdd⟩ := Option.isSome_iff_exists.1 hsome
            have hip : i ≠ p := fun e => by rw [hna] at hk12a; simp [e] at hk12a
            have hiq : i ≠ q := fun e => by rw [hdd] at hk12b; simp [e] at hk12b
            have hdtp : dd ≠ tp := fun e => hip (nodupS_spec _ k4 i p tp (by rw [List.getElem?_map, hotl, Option.map_some, hdd, e]) k11)
            have hops : ∀ x, x ∈ o.op.operands → ev (slotOf fr ((ops.toList.take m).map (·.dst)) ds li m) x = ev (runFr fr ((ops.toList.take m).take i) (ds.take i)) x := fun x hx => hevs x hx (fun h => hiq h.2)
            have hgo : ∀ (A' : Nat → Prop) (v : Value) (w' : World), (A' = A ∧ li.getD p false = false ∧ Rel n A M w0 (slotOf fr ((ops.toList.take m).map (·.dst)) ds li m) h a w) ∨ (li.getD p false = true ∧ ∃ b arr e, A' = (fun c => A c ∨ c = 2 * b) ∧ Rel n (fun c => A c ∨ c = 2 * b) M w0 (slotOf fr ((ops.toList.take m).map (·.dst)) ds li m) h a w ∧ ¬ A (2 * b) ∧ 2 * b ∉ keys h ∧ w0.heap.size ≤ b ∧ a.tmps.getD tp undef = .pointer (some ⟨b, 0, none⟩) ∧ OwnCells w b arr e ∧ arr.size = sz ∧
                (li.getD q false = true → ∃ v, V w (XX (fun c => A c ∨ c = 2 * b) h) (ds.getD q .top) v ∧ arr.toList = v.cells.toList)) →
                HRel A' (fun b => 2 * b ∈ keys h) w h w' → Mono w (XX A' h) w' (XX A' h) → V w' (XX A' h) d v → wpAny P .any ops (Conc n A M w0 Q) fuel (li.setIfInBounds i true) (a.put o.dst v) w' := by
              intro A' v w' hcase hr' hm' hv'
              apply hgoP
              rw [hnext dd hdd, hdd]
              rcases hcase with ⟨rfl, hp0, r⟩ | ⟨hp1, b, arr, e, rfl, r, g1, g2, g3, g4, g5, g6, g7⟩
              · exact .inl ⟨by rw [hli, if_neg (Ne.symm hip)]; exact hp0, r.put (r.heap.join hr') hm' (hddn dd hdd) hv'⟩
              · have hbl : b < w.heap.size := by
                  rcases Nat.lt_or_ge b w.heap.size with h1 | h1
                  · exact h1
                  · obtain ⟨z5, g5a, _⟩ := g5
                    rw [Array.getElem?_eq_none h1] at g5a; simp at g5a
                refine .inr ⟨by rw [hli, if_neg (Ne.symm hip)]; exact hp1, b, arr, e, r.put (r.heap.join hr') hm' (hddn dd hdd) hv', g1, g2, g3, ?_, g5.eq (hr'.ext.keep b hbl g2), g6, ?_⟩
                · rw [← g4]; simp [Act.put, hdtp]
                · intro hq1
                  rw [hli, if_neg (Ne.symm hiq)] at hq1
                  obtain ⟨v0, hv0, hv1⟩ := g7 hq1
                  exact ⟨v0, hv0.mono hm', hv1⟩
            have hrun : OpA P o (runFr fr ((ops.toList.take m).take i) (ds.take i)) h (fun d' h' => d' = d ∧ h' = h) → o.wp P a w (wpAny P .any ops (Conc n A M w0 Q) fuel (li.setIfInBounds i true)) (Conc n A M w0 Q) := by
              intro hop
              rcases r with ⟨hp0, r⟩ | ⟨hp1, b, arr, e, r, g⟩
              · refine hop A _ w a w r.heap.base (fun x hx => by rw [← hops x hx]; exact r.ev x) _ _ ?_
                rintro v w' d' h' ⟨rfl, rfl⟩ hr' hm' hv'
                exact hgo A v w' (.inl ⟨rfl, hp0, r⟩) hr' hm' hv'
              · refine hop (fun c => A c ∨ c = 2 * b) _ w a w r.heap.base (fun x hx => by rw [← hops x hx]; exact r.ev x) _ _ ?_
                rintro v w' d' h' ⟨rfl, rfl⟩ hr' hm' hv'
                exact hgo _ v w' (.inr ⟨hp1, b, arr, e, rfl, r, g⟩) hr' hm' hv'
            rcases hdet with ⟨hg, hop⟩ | ⟨j, want, s, b, hg, hj, hb, hcase⟩ | ⟨j, want, s, hg, hj, hb, rfl⟩
            · rw [if_pos (by simp [Region.wanted, hg])]
              exact .inl (hrun hop)
            · have hsl : slotOf fr ((ops.toList.take m).map (·.dst)) ds li m s = .b b := by
                rw [hslot s, hb]
                intro j' hj'
                have h6 := zipIdx_all k6 i o hotl
                simp only [hg, Bool.and_eq_true, decide_eq_true_eq] at h6
                left
                have hjs : ((ops.toList.take m).map (·.dst))[j]? = some (some s) := by
                  rw [take_dsts, if_pos (by omega)]
                  obtain ⟨oj, hoj, hojd⟩ := Option.bind_eq_some_iff.1 hj
                  have := (oget j oj).1 hoj
                  rw [this]; simp [hojd]
                have := nodupS_spec _ k4 j' j _ hj' hjs
                subst this
                exact h6
              obtain ⟨A'', r''⟩ := r.rel
              have hy := yielded_of r'' hj hsl
              rcases hcase with ⟨hne, hop⟩ | ⟨hne, rfl⟩
              · have hw : Region.wanted o (yielded ops a.tmps) = true := by
                  simp only [Region.wanted, hg, hy]
                  cases b <;> cases want <;> first | rfl | simp at hne
                rw [if_pos hw]
                exact .inl (hrun hop)
              · have hw : ¬ Region.wanted o (yielded ops a.tmps) = true := by
                  simp only [Region.wanted, hg, hy]
                  cases b <;> cases want <;> first | (simp at hne; done) | simp
                rw [if_neg hw]
                rcases r with ⟨hp0, r⟩ | ⟨hp1, b', arr, e, r, g⟩
                · exact hgo A undef w (.inl ⟨rfl, hp0, r⟩) r.heap.base (Mono.refl _ _) (.v _)
                · exact hgo _ undef w (.inr ⟨hp1, b', arr, e, rfl, r, g⟩) r.heap.base (Mono.refl _ _) (.v _)
            · have hsl : slotOf fr ((ops.toList.take m).map (·.dst)) ds li m s = .v undef := by
                rw [hslot s, hb]
                intro j' hj'
                have h6 := zipIdx_all k6 i o hotl
                simp only [hg, Bool.and_eq_true, decide_eq_true_eq] at h6
                left
                have hjs : ((ops.toList.take m).map (·.dst))[j]? = some (some s) := by
                  rw [take_dsts, if_pos (by omega)]
                  obtain ⟨oj, hoj, hojd⟩ := Option.bind_eq_some_iff.1 hj
                  have := (oget j oj).1 hoj
                  rw [this]; simp [hojd]
                have := nodupS_spec _ k4 j' j _ hj' hjs
                subst this
                exact h6
              obtain ⟨A'', r''⟩ := r.rel
              have hy := yielded_undef r'' hj hsl
              have hw : ¬ Region.wanted o (yielded ops a.tmps) = true := by
                simp only [Region.wanted, hg, hy]; simp
              rw [if_neg hw]
              rcases r with ⟨hp0, r⟩ | ⟨hp1, b', arr, e, r, g⟩
              · exact hgo A undef w (.inl ⟨rfl, hp0, r⟩) r.heap.base (Mono.refl _ _) (.v _)
              · exact hgo _ undef w (.inr ⟨hp1, b', arr, e, rfl, r, g⟩) r.heap.base (Mono.refl _ _) (.v _)
          · -- the variable is made
            have hip : i = p := by
              have : isAllocB o = true := by simp [isAllocB, hop]
              rw [this] at hk12a; simpa using hk12a
            subst hip
            rw [if_pos (by simp [Region.wanted, hg])]
            left
            rcases r with ⟨hp0, r⟩ | ⟨hp1, _⟩
            · obtain ⟨arr, harr, hrun⟩ := run_alloc' (P := P) hop hz a.eval w
              unfold Oper.wp
              rw [hrun]
              show wpAny P .any ops (Conc n A M w0 Q) fuel (li.setIfInBounds i true) (a.put o.dst _) _
              apply hgoP
              rw [hnext tp hdd, hdd]
              obtain ⟨r1, _⟩ := r.heap.allocOut (.cells arr e)
              have hnA : ¬ A (2 * w.heap.size) := fun hA => by have := r.heap.old _ hA; omega
              have hnk : 2 * w.heap.size ∉ keys h := fun hk => by have := r.heap.lt hk (by omega); omega
              have hm2 : Mono w (XX A h) (w.alloc (.cells arr e)) (XX (fun c => A c ∨ c = 2 * w.heap.size) h) := by
                refine ⟨by simp, fun b hb _ => get_alloc w _ b hb, fun b hb => shape_of_heap (get_alloc w _ b hb), fun b hb hx => ?_⟩
                rcases hx with (hx | hx) | hx
                · exact .inl hx
                · omega
                · exact .inr hx
              have hr2 : HRel (fun c => A c ∨ c = 2 * w.heap.size) M w0 h (w.alloc (.cells arr e)) := by
                refine ⟨r1.nodup, fun c b hc => (r.heap.blk c b hc).mono hm2 (fun he => get_alloc w _ _ ((r.heap.blk c b hc).lt he)), ?_, r1.mine, ?_, ?_, r1.ext, r.heap.glob.mono hm2⟩
                · rintro c hc (hA | hA)
                  · exact r1.free c hc hA
                  · subst hA; exact hnk hc
                · obtain ⟨N, hN⟩ := r1.bound
                  refine ⟨N + 2 * w.heap.size + 1, fun c hc => ?_⟩
                  rcases hc with hc | hc
                  · have := hN c hc; omega
                  · omega
                · rintro b (hb | hb)
                  · exact r1.old b hb
                  · simp; omega
              refine .inr ⟨by rw [hli, if_pos rfl], w.heap.size, arr, e, r.put hr2 hm2 (hddn tp hdd) (.top _), hnA, hnk, r.heap.ext.size, ?_, .of (get_alloc_new w _), harr, ?_⟩
              · have := hddn tp hdd
                have hlt : tp < a.tmps.size := by rw [r.size]; exact this
                simp [Act.put, hlt]
              · intro hq1
                rw [hli] at hq1
                by_cases hqi : q = i
                · rw [hqi] at k10
                  have := zipIdx_all k2 i o ((oget i o).1 ho)
                  have := hbef li hcl i i o (Nat.le_refl _) ho ha i k10
                  rw [hl] at this; simp at this
                · rw [if_neg hqi, hqp hp0] at hq1; simp at hq1
            · rw [hl] at hp1; simp at hp1
          · -- it is stored into
            have hiq : i = q := by rw [hdd] at hk12b; simpa using hk12b
            subst hiq
            rw [if_pos (by simp [Region.wanted, hg])]
            left
            have hp1 : li.getD p false = true := hbef li hcl i i o (Nat.le_refl _) ho ha p k10
            rcases r with ⟨hp0, _⟩ | ⟨_, b, arr, e, r, g1, g2, g3, g4, g5, g6, _⟩
            · rw [hp1] at hp0; simp at hp0
            · have hyo : y ∈ o.op.operands := by simp [hop, Op.operands]
              have hytp : y ≠ .tmp tp := by
                intro hyt
                subst hyt
                -- the variable's own slot is not what is stored
                have e0 : ev (runFr fr ((ops.toList.take m).take i) (ds.take i)) (.tmp tp) = d := hy
                have hpi : p < i := by
                  have h0 := hbef li hcl i i o (Nat.le_refl _) ho ha p k10
                  by_cases hh : p < i
                  · exact hh
                  · exfalso
                    have hedge : ∀ N j oj, j ≤ N → ops[j]? = some oj → ∀ z, (L.getD j []).contains z = true → z < j := by
                      intro N
                      induction N with
                      | zero =>
                        intro j oj hj hoj z hz
                        have := zipIdx_all k2 j oj ((oget j oj).1 hoj)
                        simp only [List.all_eq_true] at this
                        have := this z (by simpa using hz)
                        simp only [List.any_eq_true, Bool.and_eq_true, Bool.or_eq_true, beq_iff_eq] at this
                        obtain ⟨e, he, hb, _⟩ := this
                        have := hback j oj hoj e he hb
                        omega
                      | succ N ihN =>
                        intro j oj hj hoj z hz
                        have := zipIdx_all k2 j oj ((oget j oj).1 hoj)
                        simp only [List.all_eq_true] at this
                        have := this z (by simpa using hz)
                        simp only [List.any_eq_true, Bool.and_eq_true, Bool.or_eq_true, beq_iff_eq] at this
                        obtain ⟨e, he, hb, hz'⟩ := this
                        have hlt := hback j oj hoj e he hb
                        rcases hz' with rfl | hz'
                        · exact hlt
                        · have hjo := (Array.getElem?_eq_some_iff.1 hoj).1
                          have := ihN e.on _ (by omega) (Array.getElem?_eq_getElem (show e.on < ops.size by omega)) z hz'
                          omega
                    exact hh (hedge i i o (Nat.le_refl _) ho p k10)
                have e1 : (ops.toList.take m).take i = ops.toList.take i := by rw [List.take_take]; congr 1; omega
                have hlen : (ds.take i).length = (ops.toList.take i).length := by simp [hds.length]; omega
                have hnd : nodupS ((ops.toList.take i).map (·.dst)) = true := by
                  have := nodupS_take _ i k4
                  rwa [← List.map_take, e1] at this
                have hpd : ((ops.toList.take i).map (·.dst))[p]? = some (some tp) := by
                  have := k11
                  rw [take_dsts, if_pos (by omega)] at this
                  rw [take_dsts, if_pos hpi]; exact this
                have g := (runFr_get1 (ops.toList.take i) (ds.take i) fr tp hlen hnd).1 p hpd
                rw [e1] at e0
                have hop2 : ∃ op', ops[p]? = some op' := ⟨_, Array.getElem?_eq_getElem (by omega)⟩
                obtain ⟨op', hop'⟩ := hop2
                have hopt : (ops.toList.take m)[p]? = some op' := by rw [List.getElem?_take, if_pos k8]; exact (oget p op').1 hop'
                have hdp : ∃ dp, ds[p]? = some dp := ⟨_, List.getElem?_eq_getElem (by rw [hds.length]; simp; omega)⟩
                obtain ⟨dp, hdp⟩ := hdp
                have hsp := hds.nth p op' dp hopt hdp
                have htop : dp = .top := by
                  have hka := zipIdx_all k12 p op' hopt
                  simp only [Bool.and_eq_true, beq_iff_eq] at hka
                  rcases hsp with ⟨_, hna, _⟩ | ⟨_, _, _, _, _, hh⟩ | ⟨_, _, _, hh, _, hh2, _⟩
                  · rw [hna] at hka; simp at hka
                  · exact hh
                  · rw [hh2] at hka
                    have := hka.1.2
                    simp at this
                    rw [← this] at hpi; omega
                have : d = .top := by
                  rw [← e0]
                  show runFr fr (ops.toList.take i) (ds.take i) tp = .top
                  rw [g]
                  simp [List.getElem?_take, hpi, hdp, htop]
                rw [this] at hdok
                have := hdok.2 .top (by simp [D.flat])
                simp [D.cell] at this
              have hvy : V w (XX (fun c => A c ∨ c = 2 * b) h) d (a.eval y) := by
                have := r.ev y
                rw [hevs y hyo (fun h => hytp h.1), hy] at this
                exact this
              have hcells := hvy.cells hdok
              have hsz := hvy.cells_size hdok
              obtain ⟨w', arr', j1, j2, j3, j4, j5, j6, j7, j8, j9⟩ := run_storeVar' (P := P) hty (oo := 0) g5 (hcells.oneCell hdok.2) hsz (by omega)
              have hrun : (execOp a.eval o).run P w = .ok .skip w' := by
                have htpe : a.eval (.tmp tp) = .pointer (some ⟨b, 0, none⟩) := by
                  simpa [Act.eval] using g4
                simp [execOp, hop, Instr.storeAt, Instr.sureAddr, htpe, j1]
              unfold Oper.wp
              rw [hrun]
              show wpAny P .any ops (Conc n A M w0 Q) fuel (li.setIfInBounds i true) (a.put o.dst undef) w'
              apply hgoP
              rw [hnextN hdd, hdd]
              have hbx : XX (fun c => A c ∨ c = 2 * b) h b := .inl (.inr rfl)
              have hm2 : Mono w (XX (fun c => A c ∨ c = 2 * b) h) w' (XX (fun c => A c ∨ c = 2 * b) h) := by
                refine ⟨by omega, fun b' _ hx => j6 b' (fun e => hx (e ▸ hbx)), fun b' _ => ?_, fun _ _ hx => hx⟩
                by_cases hb' : b' = b
                · subst hb'; rw [g5.shape, j2.shape, j4]
                · exact shape_of_heap (j6 b' hb')
              have hr2 : HRel (fun c => A c ∨ c = 2 * b) M w0 h w' := by
                refine ⟨r.heap.nodup, fun c blk hc => (r.heap.blk c blk hc).mono hm2 (fun he => j6 _ (fun e => g2 ?_)), r.heap.free, r.heap.mine, r.heap.bound, by rw [j5]; exact r.heap.old, ?_, r.heap.glob.mono hm2⟩
                · rw [← e, show 2 * (c / 2) = c from by omega]; exact List.mem_map.2 ⟨_, hc, rfl⟩
                · refine ⟨j7.trans r.heap.ext.os, j8.trans r.heap.ext.tape, j9.1.trans r.heap.ext.output, by rw [j5]; exact r.heap.ext.size, fun b' hb' hn' => ?_, fun b' hb' => (hm2.shape b' (Nat.lt_of_lt_of_le hb' r.heap.ext.size)).trans (r.heap.ext.shape b' hb'), by rw [j9.2]; exact r.heap.ext.drawn⟩
                  exact (j6 b' (by omega)).trans (r.heap.ext.keep b' hb' hn')
              refine .inr ⟨by rw [hli]; split <;> simp [hp1], b, arr', e, r.turn hr2 hm2, g1, g2, g3, g4, j2, by rw [j4]; exact g6, fun _ => ⟨a.eval y, ?_, ?_⟩⟩
              · have hdq : ds.getD i .top = d := by simp [hd]
                rw [hdq]; exact hvy.mono hm2
              · rw [j3, setAt_eq _ _ _ (by simp; omega)]
                have hal : arr.toList.length = (a.eval y).cells.toList.length := by simp; omega
                simp [List.drop_eq_nil_of_le, hal]
  refine key ops.size (Array.replicate ops.size false) a0 w1.drew (by simp) ?_ ?_ ?_ ?_
  · have : ∀ k, k ≤ ops.size → cnt (Array.replicate ops.size false) k = k := by
      intro k
      induction k with
      | zero => intro _; rfl
      | succ k ihk => intro hk; simp only [cnt]; rw [ihk (by omega)]; simp [show k < ops.size from by omega]
    exact this _ (Nat.le_refl _)
  · intro x y hy hx
    have := (Array.getElem?_eq_some_iff.1 hy).1
    simp [this] at hx
  · intro i _
    by_cases hi : i < ops.size <;> simp [hi]
  · obtain ⟨q1, q2⟩ := r0.heap.quiet (w' := w1.drew) rfl rfl rfl rfl (Nat.le_succ _)
    have e0 : slotOf fr ((ops.toList.take m).map (·.dst)) ds (Array.replicate ops.size false) m = fr := by
      funext t
      apply slotOf_miss
      intro i _ hi
      exfalso
      by_cases hi2 : i < ops.size <;> simp [hi2] at hi
    rw [e0]
    exact .inl ⟨by by_cases hp : p < ops.size <;> simp [hp], r0.turn q1 q2⟩
end
end Go.Lic
