/-
  Rules for own tables: cells of one word, rows in memory of their own.
-/
import Derived.Test.YthggcjnmodeehaaPlain
set_option linter.all false
namespace Go.Lic

section
variable {P : Program} {o : Oper} {fr : Nat → D} {h : Heap} {K : D → Heap → Prop}

/-- A word is stored into own memory that is told as whole numbers. -/
theorem OpA.storeI {t : TypeId} {x y : Operand} {c i : Nat} {v : Int} {l : List Int} {h' : Heap} (ho : o.op = .store t x y) (ht : TI P t 1 false) (hx : ev fr x = .ptr c 1 i 0)
    (hy : ev fr y = .i v) (hi : i < l.length) (hh : Repl c (.cells 1 (l.map D.i)) c (.cells 1 ((l.set i v).map D.i)) h h') (hk : K (.v undef) h') : OpA P o fr h K := by
  have e1 : (l.set i v).map D.i = (l.map D.i).set i (.i v) := by rw [List.map_set]
  rw [e1] at hh
  exact .store (e := .i l[i]) (e' := .i v) ho ht hx (by rw [hy]; exact .of rfl) (getM D.i l i hi) (Nat.le_refl 1) (by rw [hy]; rfl) hh hk

theorem setAt_to {α : Type} : ∀ (b a : List α) (i : Nat), a.length = i + b.length → setAt a i b = a.take i ++ b
  | [], a, i, h => by rw [List.length_nil] at h; rw [setAt, List.append_nil, List.take_of_length_le (by omega)]
  | x :: b, a, i, h => by
    rw [List.length_cons] at h
    rw [setAt, setAt_to b _ _ (by rw [List.length_set]; omega), List.take_succ_eq_append_getElem (by rw [List.length_set]; omega), List.getElem_set_self, List.take_set_of_le (Nat.le_refl i)]
    simp
theorem setAt_all {α : Type} (a b : List α) (h : a.length = b.length) : setAt a 0 b = b := by
  rw [setAt_to b a 0 (by omega)]; simp

/-- A whole element is stored. -/
theorem OpA.storeW {t : TypeId} {x y : Operand} {c sz i : Nat} {agg : Bool} {d e : D} {es : List D} {h' : Heap} (ho : o.op = .store t x y) (ht : TI P t sz agg) (hx : ev fr x = .ptr c sz i 0)
    (hy : ev fr y = d) (hok : d.ok sz) (he : es[i]? = some e) (hl : e.flat.length = sz) (hh : Repl c (.cells sz es) c (.cells sz (es.set i d)) h h') (hk : K (.v undef) h') : OpA P o fr h K :=
  .store (e' := d) ho ht hx (by rw [hy]; exact hok) he (by omega) (by rw [hy, setAt_all _ _ (by rw [hl, hok.1])]) hh hk

/-- A descriptor of one cell is stored into own memory. -/
theorem OpA.storeR {t : TypeId} {x y : Operand} {c i : Nat} {d : D} {es : List D} {h' : Heap} (ho : o.op = .store t x y) (ht : TI P t 1 false) (hx : ev fr x = .ptr c 1 i 0)
    (hy : ev fr y = d) (hd : d.flat = [d]) (hok : d.ok 1) (hi : i < es.length) (he : ∀ d ∈ es, d.flat.length = 1) (hh : Repl c (.cells 1 es) c (.cells 1 (es.set i d)) h h') (hk : K (.v undef) h') : OpA P o fr h K := by
  have h1 := he es[i] (List.getElem_mem hi)
  refine .store (e' := d) ho ht hx (by rw [hy]; exact hok) (getL _ _ hi) (by omega) ?_ hh hk
  rw [hy, hd]
  match hh2 : es[i].flat, h1 with
  | [u], _ => simp [setAt]
end

/-- Some of the nil slices are from now on looked at as slices of our own without memory. -/
inductive GhostL (g sz : Nat) : List D → List D → Prop
  | nil : GhostL g sz [] []
  | same {d : D} {l l' : List D} (h : GhostL g sz l l') : GhostL g sz (d :: l) (d :: l')
  | turn {l l' : List D} (h : GhostL g sz l l') : GhostL g sz (.v (.slice none 0 0) :: l) (.own g sz 0 0 :: l')

theorem GhostL.vl {w : World} {X : Nat → Prop} {g sz : Nat} {l l' : List D} (h : GhostL g sz l l') : ∀ {vs : List Value}, VL w X l vs → VL w X l' vs := by
  induction h with
  | nil => exact fun h => h
  | same _ ih => intro vs h; cases h with | cons h1 h2 => exact .cons h1 (ih h2)
  | turn _ ih => intro vs h; cases h with | cons h1 h2 => cases h1; exact .cons (.own (Nat.le_refl _) (.inr ⟨rfl, rfl⟩)) (ih h2)

theorem wpA_ghostM {P : Program} {n : Nat} {Q : Post} {fr : Nat → D} {h : Heap} {c0 : Code} {c sz1 sz : Nat} {es : List D} {es' : Nat → List D} {h' : Nat → Heap} (hrepl : ∀ g, Repl c (.cells sz1 es) c (.cells sz1 (es' g)) h (h' g))
    (hfl : ∀ g, GhostL g sz (D.flats es) (D.flats (es' g))) (hlen : ∀ g, (es' g).length = es.length) (hok : ∀ g, ∀ d ∈ es' g, d.ok sz1) (hh : ∀ g, wpA P n c0 Q fr ((g, .cells sz []) :: h' g)) : wpA P n c0 Q fr h :=
  fun A M w0 a w r => by
    obtain ⟨g, _, _, hr, hm⟩ := r.heap.ghost sz
    have hk : keys (h' g) = keys h := (hrepl g).keys_eq
    obtain ⟨h1, h2, e1, e2⟩ := (hrepl g).split
    have hX : XX A ((g, .cells sz []) :: h' g) = XX A ((g, .cells sz []) :: h) := by
      funext b; simp only [XX, keys_cons, hk]
    have hb : BlkRel w (XX A ((g, .cells sz []) :: h)) c (.cells sz1 es) := hr.blk _ _ (by rw [e1]; simp)
    have hr' : HRel A M w0 ((g, .cells sz []) :: h' g) w := by
      refine ⟨by rw [keys_cons, hk]; exact hr.nodup, ?_, by rw [keys_cons, hk]; exact hr.free, by rw [keys_cons, hk]; exact hr.mine, hr.bound, hr.old, hr.ext⟩
      intro c' b' hc'
      rw [hX]
      rcases List.mem_cons.1 hc' with hc' | hc'
      · exact hr.blk _ _ (by rw [hc']; simp)
      · rw [e2] at hc'
        rcases List.mem_append.1 hc' with h3 | h3
        · exact hr.blk _ _ (by rw [e1]; simp [h3])
        · rcases List.mem_cons.1 h3 with h3 | h3
          · cases h3
            refine ⟨hok g, ?_⟩
            rcases hb.2 with ⟨q1, q2⟩ | ⟨q1, arr, e, cs, q2, q3, q4⟩
            · left; refine ⟨q1, ?_⟩
              have := hlen g; rw [q2] at this; exact List.eq_nil_of_length_eq_zero this
            · exact .inr ⟨q1, arr, e, cs, q2, (hfl g).vl q3, q4⟩
          · exact hr.blk _ _ (by rw [e1]; simp [h3])
    refine hh g A M w0 a w ⟨r.size, fun i => ?_, r.defers, hr'⟩
    rw [hX]; exact (r.frame i).mono hm

/-- The order in which our blocks are told does not matter. -/
theorem wpA_perm {P : Program} {n : Nat} {Q : Post} {fr : Nat → D} {h h' : Heap} {c : Code} (hp : h.Perm h') (hh : wpA P n c Q fr h') : wpA P n c Q fr h :=
  fun A M w0 a w r => by
    obtain ⟨r1, m1⟩ := r.heap.perm hp
    have r' := r.turn r1 m1
    exact hh A M w0 a w r'

theorem wpA_loopP {P : Program} {n : Nat} {Q : Post} {fr : Nat → D} {h : Heap} {c : Code} (I : Nat → (Nat → D) → Heap → Prop) (h0 : ∃ k fr0 h0, I k fr0 h0 ∧ h.Perm h0 ∧ Cov fr fr0)
    (round : ∀ k fr h, I k fr h → wpA P n c (fun e fr' h' => match e with | .normal => ∃ k' fr0 h0, k' < k ∧ I k' fr0 h0 ∧ h'.Perm h0 ∧ Cov fr' fr0 | e => Q e fr' h') fr h) : wpA P n (.loop c) Q fr h := by
  obtain ⟨k, fr0, h0, hI, hp, hc⟩ := h0
  refine wpA_loopE (fun k fr h => ∃ h0, I k fr h0 ∧ h.Perm h0) ⟨k, fr0, ⟨h0, hI, hp⟩, hc⟩ ?_
  rintro k fr h ⟨h0, hI, hp⟩
  refine wpA_perm hp ?_
  intro A M w0 a w r
  refine wp_mono (round k fr h0 hI A M w0 a w r) ?_
  rintro e a' w' ⟨fr', h', hq, r'⟩
  cases e with
  | normal =>
    obtain ⟨k', fr0, h0, hk, hI', hp', hc'⟩ := hq
    exact ⟨fr', h', ⟨k', fr0, hk, ⟨h0, hI', hp'⟩, hc'⟩, r'⟩
  | exit id => exact ⟨fr', h', hq, r'⟩
  | goto l => exact ⟨fr', h', hq, r'⟩
  | ret => exact ⟨fr', h', hq, r'⟩
  | panic ch => exact ⟨fr', h', hq, r'⟩
  | outgrown => exact ⟨fr', h', hq, r'⟩

theorem at0 {α : Type} {es : List α} {i : Nat} {d : α} (h : es[i]? = some d) : es[0 + i]? = some d := by rw [Nat.zero_add]; exact h

/-- Rows that lie in memories of their own: those from lo on are there. -/
def OwnRows (hs : Heap) (es : List D) (n m : Nat) (p : Nat → Prop) (T : Nat → Nat → Int) : Prop :=
  es.length = n + 1 ∧ (∀ d ∈ es, d.flat.length = 1) ∧ ∀ i, i ≤ n → p i → ∃ c, es[i]? = some (.own c 1 0 (m + 1)) ∧ Has c (.cells 1 (((List.range (m + 1)).map (T i)).map D.i)) hs

theorem OwnRows.zero {hs : Heap} {n m : Nat} {p : Nat → Prop} {T : Nat → Nat → Int} (hp : ∀ i, i ≤ n → ¬ p i) : OwnRows hs (List.replicate (n + 1) (.v (.slice none 0 0))) n m p T :=
  ⟨by simp, fun d hd => by rw [(List.mem_replicate.1 hd).2]; rfl, fun i hi h => absurd h (hp i hi)⟩
theorem OwnRows.at {hs : Heap} {es : List D} {n m : Nat} {p : Nat → Prop} {T : Nat → Nat → Int} (h : OwnRows hs es n m p T) (i : Nat) (hi : i ≤ n) (hp : p i) : ∃ c, es[i]? = some (.own c 1 0 (m + 1)) ∧ Has c (.cells 1 (((List.range (m + 1)).map (T i)).map D.i)) hs := h.2.2 i hi hp
theorem OwnRows.set {hs : Heap} {es : List D} {n m k c : Nat} {p p' : Nat → Prop} {T : Nat → Nat → Int} (h : OwnRows hs es n m p T) (hp : ∀ i, i ≤ n → p' i → p i ∧ i ≠ k) : OwnRows hs (es.set (0 + k) (.own c 1 0 (m + 1))) n m p' T := by
  refine ⟨by rw [List.length_set]; exact h.1, fun d hd => ?_, fun i hi h' => ?_⟩
  · rcases List.mem_or_eq_of_mem_set hd with hd | hd
    · exact h.2.1 d hd
    · rw [hd]; rfl
  · obtain ⟨h1, h2⟩ := hp i hi h'
    obtain ⟨c', h3, h4⟩ := h.2.2 i hi h1
    exact ⟨c', by rw [List.getElem?_set_ne (by omega)]; exact h3, h4⟩
theorem OwnRows.push {hs : Heap} {es : List D} {n m k c : Nat} {l : List Int} {p p' : Nat → Prop} {T : Nat → Nat → Int} (h : OwnRows hs es n m p T) (hk : es[k]? = some (.own c 1 0 (m + 1))) (hl : l.length = m + 1) (hv : ∀ j, j ≤ m → l[j]? = some (T k j))
    (hp : ∀ i, i ≤ n → p' i → p i ∨ i = k) : OwnRows ((c, .cells 1 (l.map D.i)) :: hs) es n m p' T := by
  refine ⟨h.1, h.2.1, fun i hi h' => ?_⟩
  rcases hp i hi h' with h1 | h1
  · obtain ⟨c', h3, h4⟩ := h.2.2 i hi h1
    exact ⟨c', h3, .tail h4⟩
  · subst h1
    have e : l = (List.range (m + 1)).map (T i) := by
      apply List.ext_getElem?
      intro j
      by_cases hj : j < m + 1
      · rw [hv j (by omega)]; simp [hj]
      · rw [List.getElem?_eq_none (by omega), List.getElem?_eq_none (by simp; omega)]
    exact ⟨c, hk, by rw [e]; exact .head⟩

theorem Snap.rowsIn {h : Heap} {m : Nat} {T : Nat → Nat → Int} : ∀ (es : List D) (k : Nat), (∀ i, i < es.length → ∃ c, es[i]? = some (.own c 1 0 (m + 1)) ∧ Has c (.cells 1 (((List.range (m + 1)).map (T (k + i))).map D.i)) h) →
    Snap false h (D.flats es) (D.flats ((List.range' k es.length).map fun i => D.list 1 (((List.range (m + 1)).map (T i)).map D.i)))
  | [], _, _ => .nil
  | d :: es, k, hc => by
    obtain ⟨c, h1, h2⟩ := hc 0 (by simp)
    have h3 := Snap.rowsIn es (k + 1) (fun i hi => by
      obtain ⟨c', h4, h5⟩ := hc (i + 1) (by simp; omega)
      exact ⟨c', by simpa using h4, by rw [show k + 1 + i = k + (i + 1) by omega]; exact h5⟩)
    simp only [List.getElem?_cons_zero, Option.some.injEq] at h1
    subst h1
    have h6 := Snap.ownp (f := false) (i := 0) (len := m + 1) h2 (by simp) (by simp) h3
    rw [List.drop_zero, List.take_of_length_le (by simp)] at h6
    exact h6
theorem OwnRows.snap {hs h : Heap} {es : List D} {n m r : Nat} {p : Nat → Prop} {T : Nat → Nat → Int} {ds ds' : List D} (hR : OwnRows hs es n m p T) (hp : ∀ i, i ≤ n → p i) (hr : Has r (.cells 1 es) h) (hsub : ∀ c b, Has c b hs → Has c b h) (hs' : Snap false h ds ds') :
    Snap false h (.own r 1 0 (n + 1) :: ds) (.list 1 (((List.range (n + 1)).map fun i => (List.range (m + 1)).map (T i)).map fun x => .list 1 (x.map D.i)) :: ds') := by
  refine .own (es' := _) hr (by rw [hR.1]; omega) ?_ (by simp) ?_ hs'
  · intro d hd
    obtain ⟨x, _, rfl⟩ := List.mem_map.1 hd
    exact .of rfl
  · rw [List.drop_zero, List.take_of_length_le (by rw [hR.1]; omega), List.map_map]
    have := Snap.rowsIn (h := h) (m := m) (T := T) es 0 (fun i hi => by
      obtain ⟨c, h1, h2⟩ := hR.2.2 i (by rw [hR.1] at hi; omega) (hp i (by rw [hR.1] at hi; omega))
      exact ⟨c, h1, by rw [Nat.zero_add]; exact hsub _ _ h2⟩)
    rw [hR.1, ← List.range_eq_range'] at this
    exact this

/-- Rows in one memory, side by side. -/
def rowsD (c n m : Nat) : List D := (List.range n).map fun i => D.own c 1 (i * m) m
theorem rowsD_length (c n m : Nat) : (rowsD c n m).length = n := by simp [rowsD]
theorem rowsD_get {c n m i : Nat} (h : i < n) : (rowsD c n m)[0 + i]? = some (.own c 1 (i * m) m) := by simp [rowsD, h]
theorem rows_val (c k m : Nat) : D.own c 1 (0 + ((k : Int) * (m : Int)).toNat) ((((k : Int) + 1) * (m : Int)).toNat - ((k : Int) * (m : Int)).toNat) = .own c 1 (k * m) m := by
  have h1 : ((k : Int) * (m : Int)).toNat = k * m := by rw [← Int.natCast_mul]; rfl
  have h2 : (((k : Int) + 1) * (m : Int)).toNat = k * m + m := by
    rw [show ((k : Int) + 1) * (m : Int) = ((k * m + m : Nat) : Int) by rw [Int.add_mul, Int.one_mul]; simp]; rfl
  rw [h1, h2]; congr 1 <;> omega
/-- Some rows are there, the others are nil. -/
def rowsTo (c n m k : Nat) : List D := rowsD c k m ++ List.replicate (n - k) (.v (.slice none 0 0))
theorem rowsTo_length {c n m k : Nat} (h : k ≤ n) : (rowsTo c n m k).length = n := by simp [rowsTo, rowsD_length]; omega
theorem rowsTo_flat {c n m k : Nat} : ∀ d ∈ rowsTo c n m k, d.flat.length = 1 := by
  intro d hd
  rcases List.mem_append.1 hd with h | h
  · obtain ⟨i, _, rfl⟩ := List.mem_map.1 h; rfl
  · rw [(List.mem_replicate.1 h).2]; rfl
theorem rowsTo_succ {c n m k : Nat} (h : k < n) {d : D} (hd : d = .own c 1 (k * m) m) : (rowsTo c n m k).set (0 + k) d = rowsTo c n m (k + 1) := by
  subst hd
  unfold rowsTo
  obtain ⟨q, hq⟩ : ∃ q, n - k = q + 1 := ⟨n - k - 1, by omega⟩
  have hq2 : n - (k + 1) = q := by omega
  rw [hq, hq2, Nat.zero_add, List.set_append_right _ _ (by rw [rowsD_length]; omega), rowsD_length, Nat.sub_self]
  simp [List.replicate_succ, rowsD, List.range_succ]
theorem rowsTo_zero {c n m : Nat} : rowsTo c n m 0 = List.replicate n (.v (.slice none 0 0)) := by simp [rowsTo, rowsD]
theorem rowsTo_all {c n m : Nat} : rowsTo c n m n = rowsD c n m := by simp [rowsTo]

theorem Snap.rows {h : Heap} {c m : Nat} {l : List Int} {T : Nat → Nat → Int} (hc : Has c (.cells 1 (l.map D.i)) h) : ∀ (is : List Nat), (∀ i ∈ is, i * m + m ≤ l.length) → (∀ i ∈ is, ∀ j, j < m → l[i * m + j]? = some (T i j)) →
    Snap false h (D.flats (is.map fun i => D.own c 1 (i * m) m)) (D.flats (is.map fun i => D.list 1 (((List.range m).map (T i)).map D.i)))
  | [], _, _ => .nil
  | i :: is, hl, hT => by
    have h1 := Snap.rows hc is (fun i hi => hl i (by simp [hi])) (fun i hi => hT i (by simp [hi]))
    have h2 := hl i (by simp)
    have e : ((l.map D.i).drop (i * m)).take m = ((List.range m).map (T i)).map D.i := by
      rw [← List.map_drop, ← List.map_take]
      congr 1
      apply List.ext_getElem?
      intro j
      rw [List.getElem?_take]
      split
      · rename_i hj
        rw [List.getElem?_drop, hT i (by simp) j hj]; simp [hj]
      · rename_i hj
        rw [List.getElem?_eq_none (by simp; omega)]
    have := Snap.ownp (f := false) (sz := 1) (i := i * m) (len := m) hc (by simp; omega) (by simp) h1
    rw [e] at this
    exact this

/-- A table in own memory, read as data. -/
theorem Snap.table {h : Heap} {r c n m : Nat} {l : List Int} {T : Nat → Nat → Int} {ds ds' : List D} (hr : Has r (.cells 1 (rowsD c n m)) h) (hc : Has c (.cells 1 (l.map D.i)) h) (hl : l.length = n * m)
    (hT : ∀ i j, i < n → j < m → l[i * m + j]? = some (T i j)) (hs : Snap false h ds ds') :
    Snap false h (.own r 1 0 n :: ds) (.list 1 (((List.range n).map fun i => (List.range m).map (T i)).map fun x => .list 1 (x.map D.i)) :: ds') := by
  refine .own (es' := _) hr (by rw [rowsD_length]; omega) ?_ (by simp) ?_ hs
  · intro d hd
    obtain ⟨x, _, rfl⟩ := List.mem_map.1 hd
    exact .of rfl
  · rw [List.drop_zero, List.take_of_length_le (by rw [rowsD_length]; omega), List.map_map]
    exact Snap.rows hc _ (fun i hi => by
      have h1 := List.mem_range.1 hi
      have : (i + 1) * m ≤ n * m := Nat.mul_le_mul_right m h1
      rw [Nat.add_mul] at this; omega) (fun i hi j hj => hT i j (List.mem_range.1 hi) hj)

end Go.Lic
