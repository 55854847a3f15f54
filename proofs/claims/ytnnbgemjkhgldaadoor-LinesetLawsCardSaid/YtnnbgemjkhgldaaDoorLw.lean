/-
  Sets of lines: the laws, over plain data.
-/
import Derived.Test.YtnnbgemjkhgldaaDoorLo1
set_option linter.all false
namespace Go.Lic
open Go.Proofs Go.Sort Go.Shelf

/-! what unions, meets and differences are -/
theorem ok_merge (t s : Span) (h1 : spanR t = true) (h2 : spanR s = true) : spanR ⟨t.path, t.from_, max t.to s.to⟩ = true := by
  rw [span_path] at *
  refine ⟨h1.1, ?_⟩
  have a := h1.2; have b := h2.2
  unfold insideF at *
  simp only [Bool.and_eq_true, decide_eq_true_eq] at *
  omega
theorem valid_ne {a : List Span} (h : validF a = true) : ∀ s ∈ a, NeS s := ((valid_chain a).1 h).1.ne
theorem merge_valid {l : List Span} (h : ∀ s ∈ l, spanR s = true) : validF (mergeF l) = true := by
  have hn : ∀ s ∈ l, NeS s := fun s hs => (span_inside (h s hs)).2.1
  exact (valid_chain _).2 ⟨merge_chain hn, merge_all hn ok_merge h⟩
theorem union_valid {a b : List Span} (ha : validF a = true) (hb : validF b = true) : validF (mergeF (a ++ b)) = true := by
  refine merge_valid fun s hs => ?_
  rcases List.mem_append.1 hs with hs | hs
  · exact valid_span ha s hs
  · exact valid_span hb s hs
theorem union_in {a b : List Span} (ha : validF a = true) (hb : validF b = true) (p : ByteArray) (n : Int) : In (mergeF (a ++ b)) p n ↔ In a p n ∨ In b p n := by
  rw [merge_in, in_app]
  intro s hs
  rcases List.mem_append.1 hs with hs | hs
  · exact valid_ne ha s hs
  · exact valid_ne hb s hs
theorem sub_ok {a : List Span} (ha : validF a = true) {l : List Span} (hc : Chain l) (h : ∀ u ∈ l, ∃ s ∈ a, u.path = s.path ∧ s.from_ ≤ u.from_ ∧ u.to ≤ s.to) : validF l = true := by
  refine (valid_chain _).2 ⟨hc, fun u hu => ?_⟩
  obtain ⟨s, hs, h1, h2, h3⟩ := h u hu
  have h4 := span_path.1 (valid_span ha s hs)
  have h5 := hc.ne u hu
  unfold NeS at h5
  refine span_path.2 ⟨by rw [h1]; exact h4.1, ?_⟩
  have := h4.2
  unfold insideF at *
  simp only [Bool.and_eq_true, decide_eq_true_eq] at *
  omega
theorem meet_valid {a b : List Span} (ha : validF a = true) (hb : validF b = true) : validF (commonF a b) = true :=
  sub_ok ha (common_chain ((valid_chain a).1 ha).1 ((valid_chain b).1 hb).1) (common_sub a b)
theorem meet_in {a b : List Span} (ha : validF a = true) (hb : validF b = true) (p : ByteArray) (n : Int) : In (commonF a b) p n ↔ In a p n ∧ In b p n := common_in ((valid_chain a).1 ha).1 ((valid_chain b).1 hb).1 p n
theorem minus_all {a b : List Span} (ha : validF a = true) (hb : validF b = true) : validF (minusL a (commonF a b)) = true ∧ ∀ p n, In (minusL a (commonF a b)) p n ↔ In a p n ∧ ¬ In b p n := by
  have h := minus_facts a (commonF a b) ((valid_chain a).1 ha).1 (common_chain ((valid_chain a).1 ha).1 ((valid_chain b).1 hb).1) (common_sub a b)
  refine ⟨sub_ok ha h.1 h.2.1, fun p n => ?_⟩
  rw [h.2.2, meet_in ha hb]
  constructor
  · rintro ⟨h1, h2⟩; exact ⟨h1, fun h3 => h2 ⟨h1, h3⟩⟩
  · rintro ⟨h1, h2⟩; exact ⟨h1, fun h3 => h2 h3.2⟩
theorem unionF_eq {a b : List Span} (ha : validF a = true) (hb : validF b = true) : unionF a b = (mergeF (a ++ b), 0) := by unfold unionF; rw [ha, hb]; rfl
theorem meetF_eq {a b : List Span} (ha : validF a = true) (hb : validF b = true) : meetF a b = (commonF a b, 0) := by unfold meetF; rw [ha, hb]; rfl
theorem minusF_eq {a b : List Span} (ha : validF a = true) (hb : validF b = true) : minusF a b = (minusL a (commonF a b), 0) := by unfold minusF; rw [ha, hb]; rfl
theorem union_len (a b : List Span) : (mergeF (a ++ b)).length ≤ a.length + b.length := by
  have := merge_len (a ++ b); simpa using this
theorem minus_len (a b : List Span) : (minusL a (commonF a b)).length ≤ 2 * a.length + b.length := by
  have h1 := minusL_len a (commonF a b); have h2 := common_len a b; omega
theorem valid_sizes {a : List Span} (h : validF a = true) : ∀ x ∈ a, x.path.size ≤ 1000000 := fun x hx => by
  have := span_size (valid_span h x hx); omega
theorem valid_ext {a b : List Span} (ha : validF a = true) (hb : validF b = true) (h : ∀ p n, In a p n ↔ In b p n) : a = b := chain_ext ((valid_chain a).1 ha).1 ((valid_chain b).1 hb).1 h
theorem has_iff {l : List Span} (h : validF l = true) (x : Line) : hasF l x = true ↔ In l x.path x.n := by
  unfold hasF
  rw [h, Bool.and_true, List.any_eq_true]
  unfold In
  constructor
  · rintro ⟨s, hs, h1⟩; exact ⟨s, hs, (has1_iff _ _).1 h1⟩
  · rintro ⟨s, hs, h1⟩; exact ⟨s, hs, (has1_iff _ _).2 h1⟩
theorem bool_eq {a b : Bool} (h : a = true ↔ b = true) : a = b := by cases a <;> cases b <;> simp_all
theorem has_union {a b : List Span} (ha : validF a = true) (hb : validF b = true) (y : Line) : hasF (mergeF (a ++ b)) y = (hasF a y || hasF b y) := by
  apply bool_eq
  rw [has_iff (union_valid ha hb), union_in ha hb, Bool.or_eq_true, has_iff ha, has_iff hb]
theorem has_meet {a b : List Span} (ha : validF a = true) (hb : validF b = true) (y : Line) : hasF (commonF a b) y = (hasF a y && hasF b y) := by
  apply bool_eq
  rw [has_iff (meet_valid ha hb), meet_in ha hb, Bool.and_eq_true, has_iff ha, has_iff hb]
theorem has_minus {a b : List Span} (ha : validF a = true) (hb : validF b = true) (y : Line) : hasF (minusL a (commonF a b)) y = (hasF a y && !hasF b y) := by
  apply bool_eq
  rw [has_iff (minus_all ha hb).1, (minus_all ha hb).2, Bool.and_eq_true, has_iff ha, Bool.not_eq_true', ← Bool.not_eq_true, has_iff hb]

/-! the laws' conditions -/
theorem long_any {l : List Line} (h : l.any (fun x0_ => longF x0_) = false) : ∀ x ∈ l, x.path.size ≤ 1000000 := by
  intro x hx
  have := List.any_eq_false.1 h x hx
  unfold longF at this
  simp at this
  omega
theorem few_len {l : List Span} (h : fewF l = true) : l.length ≤ 12 ∧ ∀ x ∈ l, x.path.size ≤ 1000000 := by
  unfold fewF at h
  simp only [Bool.and_eq_true, decide_eq_true_eq, List.all_eq_true] at h
  exact ⟨h.1, fun x hx => by have := h.2 x hx; omega⟩
theorem lawOf_ok (l : (List Line)) (Q : Bool → Prop)  (h : Q (true)) : lawOf_vc l Q := by
  refine ⟨nofun, fun _ => ⟨fun _ => ⟨by omega, fun _ _ => trivial⟩, fun _ => h, fun hc => ?_⟩⟩
  have hs := long_any hc.2
  refine ⟨by omega, hs, by omega, hs, fun _ => ?_, ?_⟩
  · have : (ofF l).1.length ≤ l.length := by
      unfold ofF
      split
      · simp
      · have := merge_len (l.map unitW)
        simpa using this
    omega
  · simpa using h
theorem list_len {l : List Span} (h : l.length ≤ 100) : ((listF l).length : Int) ≤ 200000 := by
  rw [list_count]
  unfold countL
  split
  · next hv =>
    have hs := valid_span hv
    have : ∀ l : List Span, (∀ s ∈ l, spanR s = true) → (l.map fun s => s.to - s.from_).sum ≤ 1024 * l.length := by
      intro l
      induction l with
      | nil => intro _; simp
      | cons s l ih =>
        intro hs
        have h1 := span_inside (hs s (by simp))
        have h2 := ih (fun t ht => hs t (by simp [ht]))
        rw [List.map_cons, List.sum_cons, List.length_cons]
        omega
    have := this l hs
    omega
  · omega
theorem lawValid_ok (l : (List Span)) (x : Line) (Q : Bool → Prop)  (h : Q (true)) : lawValid_vc l x Q := by
  refine ⟨nofun, fun _ => ⟨fun _ => h, fun hc => ?_⟩⟩
  obtain ⟨h1, h2⟩ := few_len hc.1
  have h3 := list_len (l := l) (by omega)
  exact ⟨by omega, h2, by omega, fun _ => by omega, by simpa using h⟩
theorem lawPoints_ok (a : (List Span)) (b : (List Span)) (x : Line) (Q : Bool → Prop)  (h : Q (true)) : lawPoints_vc a b x Q := by
  refine ⟨nofun, fun _ => ⟨fun hc => ?_, fun hc => ?_, fun _ => h, fun hc => ?_⟩⟩
  · have := few_len hc.1; exact ⟨by omega, this.2⟩
  · have := few_len hc.1.2; exact ⟨by omega, this.2⟩
  obtain ⟨⟨⟨fa, fb⟩, va⟩, vb⟩ := hc
  obtain ⟨la, sa⟩ := few_len fa
  obtain ⟨lb, sb⟩ := few_len fb
  rw [unionF_eq va vb, meetF_eq va vb, minusF_eq va vb]
  simp only
  have vu := union_valid va vb
  have vm := meet_valid va vb
  have vd := (minus_all va vb).1
  have lu := union_len a b
  have lm := common_len a b
  have ld := minus_len a b
  refine ⟨by omega, by omega, sa, sb, by omega, by omega, sa, sb, by omega, by omega, sa, sb, fun _ => ⟨by omega, valid_sizes vu⟩, fun _ => ⟨by omega, valid_sizes vm⟩, fun _ => ⟨by omega, valid_sizes vd⟩, fun hn => ?_, fun _ => ?_⟩
  · rcases hn with ((((hn | hn) | hn) | hn) | hn) | hn
    · exact absurd trivial (by simpa using hn)
    · exact absurd trivial (by simpa using hn)
    · exact absurd trivial (by simpa using hn)
    · rw [vu] at hn; cases hn
    · rw [vm] at hn; cases hn
    · rw [vd] at hn; cases hn
  refine lfp2 (lawPoints_L1 a b Q) (fun points x1 => 0 ≤ x1 ∧ x1 ≤ 2 ∧ (points.length : Int) ≤ 1 + x1 * 48) (fun _ x1 => (2 - x1).toNat) (fun points x1 hst again hag => ?_) ⟨by omega, by omega, by simp⟩
  obtain ⟨h0, h1, h2⟩ := hst
  have e2 : ([a, b] : List (List Span)).length = 2 := rfl
  refine ⟨fun hlt => ⟨by omega, ?_⟩, fun hn => ?_⟩
  · have hl : (gi ([a, b] : List (List Span)) x1).length ≤ 12 ∧ validF (gi ([a, b] : List (List Span)) x1) = true := by
      have : gi ([a, b] : List (List Span)) x1 ∈ ([a, b] : List (List Span)) := gi_mem (by omega)
      simp only [List.mem_cons, List.not_mem_nil, or_false] at this
      rcases this with h | h <;> rw [h]
      · exact ⟨la, va⟩
      · exact ⟨lb, vb⟩
    refine lfp2 (lawPoints_L2 a b x1 again) (fun points1 x2 => 0 ≤ x2 ∧ x2 ≤ (gi ([a, b] : List (List Span)) x1).length ∧ (points1.length : Int) ≤ 1 + x1 * 48 + x2 * 4) (fun _ x2 => ((gi ([a, b] : List (List Span)) x1).length - x2).toNat) (fun points1 x2 hst again8 hag8 => ?_) ⟨by omega, by omega, by omega⟩
    obtain ⟨g0, g1, g2⟩ := hst
    refine ⟨fun hlt2 => ?_, fun hn2 => ⟨by omega, hag _ _ ⟨by omega, by omega, by omega⟩ (by omega)⟩⟩
    have hs := span_inside (valid_span hl.2 _ (gi_mem (l := gi ([a, b] : List (List Span)) x1) (i := x2) (by omega)))
    refine ⟨by omega, by omega, by omega, ⟨?_, ?_⟩, by omega, hag8 _ _ ⟨by omega, by omega, ?_⟩ (by omega)⟩
    all_goals simp only [List.length_append, List.length_cons, List.length_nil]
    all_goals omega
  · refine lfp_of (fun x3 : Int => 0 ≤ x3 ∧ x3 ≤ points.length) (fun x3 => (points.length - x3).toNat) (fun x3 hx again13 hag13 => ?_) ⟨by omega, by omega⟩
    unfold lawPoints_L3
    rw [unionF_eq va vb, meetF_eq va vb, minusF_eq va vb]
    simp only
    refine ⟨fun hlt => ⟨by omega, by omega, sa, by omega, sb, by omega, valid_sizes vu, fun _ => ⟨by omega, valid_sizes vm⟩, fun _ => ⟨by omega, valid_sizes vd⟩, fun hn => ?_, fun _ => ⟨by omega, hag13 _ ⟨by omega, by omega⟩ (by omega)⟩⟩, fun _ => h⟩
    rw [has_union va vb, has_meet va vb, has_minus va vb] at hn
    simp at hn
end Go.Lic

set_option linter.all false
namespace Go.Lic
open Go.Proofs Go.Sort Go.Shelf

/-! the lines of a set -/
theorem linesOf_mem (s : Span) (y : Line) : y ∈ linesOf s ↔ inSpan s y.path y.n := by
  unfold linesOf inSpan
  rw [List.mem_map]
  constructor
  · rintro ⟨i, hi, rfl⟩
    have := List.mem_range.1 hi
    exact ⟨rfl, by simp only; omega, by simp only; omega⟩
  · rintro ⟨h1, h2, h3⟩
    refine ⟨(y.n - s.from_).toNat, List.mem_range.2 (by omega), ?_⟩
    obtain ⟨p, n⟩ := y
    simp only at h1 h2 h3 ⊢
    rw [h1]
    congr 1
    omega
theorem list_mem {l : List Span} (h : validF l = true) (y : Line) : y ∈ listF l ↔ In l y.path y.n := by
  unfold listF In
  rw [if_pos h, List.mem_flatMap]
  constructor
  · rintro ⟨s, hs, h1⟩; exact ⟨s, hs, (linesOf_mem s y).1 h1⟩
  · rintro ⟨s, hs, h1⟩; exact ⟨s, hs, (linesOf_mem s y).2 h1⟩
theorem linesOf_nodup (s : Span) : (linesOf s).Nodup := by
  unfold linesOf
  refine List.Pairwise.map _ (fun i j hij => ?_) List.nodup_range
  intro h
  simp only [Line.mk.injEq, true_and] at h
  exact hij (by omega)
theorem lines_nodup : ∀ {l : List Span}, Chain l → (l.flatMap linesOf).Nodup
  | [], _ => .nil
  | s :: l, hc => by
    obtain ⟨⟨hs, hsl⟩, hc'⟩ := chain_cons.1 hc
    rw [List.flatMap_cons]
    refine List.nodup_append.2 ⟨linesOf_nodup s, lines_nodup hc', fun y hy z hz e => ?_⟩
    subst e
    have h1 := (linesOf_mem s y).1 hy
    obtain ⟨t, ht, h2⟩ := List.mem_flatMap.1 hz
    have h3 := bh_pts (hsl t ht) h1 ((linesOf_mem t y).1 h2)
    rcases h3 with h3 | ⟨_, h3⟩
    · exact sl_irrefl _ h3
    · omega
theorem list_nodup {l : List Span} (h : validF l = true) : (listF l).Nodup := by
  unfold listF
  rw [if_pos h]
  exact lines_nodup ((valid_chain l).1 h).1
theorem nodup_len {a b : List Line} (ha : a.Nodup) (hb : b.Nodup) (h : ∀ y, y ∈ a ↔ y ∈ b) : a.length = b.length := ((List.perm_ext_iff_of_nodup ha hb).2 h).length_eq
theorem filter_len {α : Type} (p : α → Bool) (l : List α) : (l.filter p).length + (l.filter fun x => !p x).length = l.length := by
  have := (List.filter_append_perm p l).length_eq
  simpa using this
theorem count_meet {a b : List Span} (ha : validF a = true) (hb : validF b = true) : countL (commonF a b) = ((listF a).filter (fun y => hasF b y)).length := by
  rw [← list_count]
  congr 1
  refine nodup_len (list_nodup (meet_valid ha hb)) (List.Pairwise.filter _ (list_nodup ha)) fun y => ?_
  rw [list_mem (meet_valid ha hb), meet_in ha hb, List.mem_filter, list_mem ha, has_iff hb]
theorem count_minus {a b : List Span} (ha : validF a = true) (hb : validF b = true) : countL (minusL a (commonF a b)) = ((listF a).filter (fun y => !hasF b y)).length := by
  rw [← list_count]
  congr 1
  refine nodup_len (list_nodup (minus_all ha hb).1) (List.Pairwise.filter _ (list_nodup ha)) fun y => ?_
  rw [list_mem (minus_all ha hb).1, (minus_all ha hb).2, List.mem_filter, list_mem ha, Bool.not_eq_true', ← Bool.not_eq_true, has_iff hb]
theorem count_parts {a b : List Span} (ha : validF a = true) (hb : validF b = true) : countL (minusL a (commonF a b)) + countL (commonF a b) = countL a := by
  rw [count_minus ha hb, count_meet ha hb, ← list_count]
  have := filter_len (fun y => hasF b y) (listF a)
  omega
theorem count_comm {a b : List Span} (ha : validF a = true) (hb : validF b = true) : commonF a b = commonF b a :=
  valid_ext (meet_valid ha hb) (meet_valid hb ha) fun p n => by rw [meet_in ha hb, meet_in hb ha]; exact And.comm
theorem count_union {a b : List Span} (ha : validF a = true) (hb : validF b = true) : countL (mergeF (a ++ b)) + countL (commonF a b) = countL a + countL b := by
  have h1 : countL (mergeF (a ++ b)) = countL a + countL (minusL b (commonF b a)) := by
    rw [count_minus hb ha, ← list_count, ← list_count, ← Int.natCast_add, ← List.length_append]
    congr 1
    refine nodup_len (list_nodup (union_valid ha hb)) (List.nodup_append.2 ⟨list_nodup ha, List.Pairwise.filter _ (list_nodup hb), fun y hy z hz e => ?_⟩) fun y => ?_
    · subst e
      have := (List.mem_filter.1 hz).2
      rw [Bool.not_eq_true', ← Bool.not_eq_true, has_iff ha, ← list_mem ha] at this
      exact this hy
    · rw [list_mem (union_valid ha hb), union_in ha hb, List.mem_append, List.mem_filter, list_mem ha, list_mem hb, Bool.not_eq_true', ← Bool.not_eq_true, has_iff ha]
      constructor
      · rintro (h | h)
        · exact .inl h
        · by_cases h2 : In a y.path y.n
          · exact .inl h2
          · exact .inr ⟨h, h2⟩
      · rintro (h | h)
        · exact .inl h
        · exact .inr h.1
  have h2 := count_parts hb ha
  rw [count_comm ha hb]
  omega
theorem countL_le {l : List Span} (h : l.length ≤ 100) : 0 ≤ countL l ∧ countL l ≤ 200000 := by
  have := list_len h
  rw [← list_count]; omega
theorem under_valid {a : List Span} (ha : validF a = true) (dir : ByteArray) : validF (a.filter fun s => belowF s.path dir) = true := by
  have h := (valid_chain a).1 ha
  exact (valid_chain _).2 ⟨⟨h.1.bh.filter _, fun s hs => h.1.ne s (List.mem_filter.1 hs).1⟩, fun s hs => h.2 s (List.mem_filter.1 hs).1⟩
theorem prefix_iff (p d : List UInt8) : (d ++ [47]).isPrefixOf p = true ↔ d.length < p.length ∧ p.take d.length = d ∧ p[d.length]? = some 47 := by
  induction d generalizing p with
  | nil =>
    cases p with
    | nil => exact ⟨nofun, fun h => absurd h.1 (by simp)⟩
    | cons x p =>
      show (47 == x && [].isPrefixOf p) = true ↔ 0 < p.length + 1 ∧ [] = [] ∧ some x = some 47
      rw [show [].isPrefixOf p = true from rfl, Bool.and_true, beq_iff_eq, Option.some.injEq]
      exact ⟨fun h => ⟨by omega, rfl, h.symm⟩, fun h => h.2.2.symm⟩
  | cons c d ih =>
    cases p with
    | nil => exact ⟨nofun, fun h => absurd h.1 (by simp)⟩
    | cons x p =>
      rw [List.cons_append, List.isPrefixOf, Bool.and_eq_true, ih]
      have e1 : (x :: p)[(c :: d).length]? = p[d.length]? := rfl
      have e2 : (x :: p).take (c :: d).length = x :: p.take d.length := rfl
      rw [e1, e2, beq_iff_eq, List.cons.injEq]
      have e3 : (c :: d).length = d.length + 1 := rfl
      have e4 : (x :: p).length = p.length + 1 := rfl
      rw [e3, e4]
      constructor
      · rintro ⟨h1, h2, h3, h4⟩; exact ⟨by omega, ⟨h1.symm, h3⟩, h4⟩
      · rintro ⟨h1, ⟨h2, h3⟩, h4⟩; exact ⟨h2.symm, by omega, h3, h4⟩
theorem below_eq (p d : ByteArray) : belowF p d = (((decide ((p.size : Int) > (d.size : Int))) && (decide ((ssub p 0 (d.size : Int)) = d))) && ((sgi p (d.size : Int)) == 47)) := by
  rw [← ba_of p, ← ba_of d]
  generalize p.data.toList = l
  generalize d.data.toList = k
  have e : belowF (ba l) (ba k) = (k ++ [47]).isPrefixOf l := by
    unfold belowF hasPrefF
    rfl
  apply bool_eq
  rw [e, prefix_iff, ba_size, ba_size, ssub_ba]
  simp only [Bool.and_eq_true, decide_eq_true_eq, beq_iff_eq, Int.toNat_natCast, Int.toNat_zero, List.drop_zero, and_assoc]
  constructor
  · rintro ⟨h1, h2, h3⟩
    refine ⟨by omega, by rw [h2], ?_⟩
    rw [sgi_ba l k.length h1]
    rw [List.getElem?_eq_getElem h1, Option.some.injEq] at h3
    rw [h3]; rfl
  · rintro ⟨h1, h2, h3⟩
    have h1' : k.length < l.length := by omega
    refine ⟨h1', congrArg (fun b : ByteArray => b.data.toList) h2, ?_⟩
    rw [sgi_ba l k.length h1'] at h3
    rw [List.getElem?_eq_getElem h1', Option.some.injEq]
    exact UInt8.toNat_inj.1 (by simpa using Int.ofNat.inj h3)
theorem has_under {a : List Span} (ha : validF a = true) (dir : ByteArray) {s : Span} (hs : s ∈ a) : hasF (a.filter fun s => belowF s.path dir) ⟨s.path, s.from_⟩ = belowF s.path dir := by
  apply bool_eq
  rw [has_iff (under_valid ha dir)]
  constructor
  · rintro ⟨t, ht, h1⟩
    have h2 := (List.mem_filter.1 ht).2
    have h3 : t.path = s.path := h1.1
    rw [← h3]; exact h2
  · intro h
    exact ⟨s, List.mem_filter.2 ⟨hs, h⟩, rfl, by simp only; omega, valid_ne ha s hs⟩
theorem under_parts {a : List Span} (ha : validF a = true) (dir : ByteArray) : countL (a.filter fun s => belowF s.path dir) + countL (minusL a (commonF a (a.filter fun s => belowF s.path dir))) = countL a := by
  have hw := under_valid ha dir
  have e : commonF a (a.filter fun s => belowF s.path dir) = a.filter fun s => belowF s.path dir :=
    valid_ext (meet_valid ha hw) hw fun p n => by
      rw [meet_in ha hw]
      exact ⟨fun h => h.2, fun h => ⟨by obtain ⟨t, ht, h1⟩ := h; exact ⟨t, (List.mem_filter.1 ht).1, h1⟩, h⟩⟩
  have h := count_parts ha hw
  rw [e] at h ⊢
  omega
theorem lawCounts_ok (a : (List Span)) (b : (List Span)) (dir : ByteArray) (Q : Bool → Prop)  (h : Q (true)) : lawCounts_vc a b dir Q := by
  refine ⟨nofun, fun _ => ⟨fun hc => ?_, fun hc => ?_, fun _ => h, fun hc => ?_⟩⟩
  · have := few_len hc.1.1; exact ⟨by omega, this.2⟩
  · have := few_len hc.1.1.2; exact ⟨by omega, this.2⟩
  obtain ⟨⟨⟨⟨fa, fb⟩, hd⟩, va⟩, vb⟩ := hc
  obtain ⟨la, sa⟩ := few_len fa
  obtain ⟨lb, sb⟩ := few_len fb
  rw [unionF_eq va vb, meetF_eq va vb, minusF_eq va vb]
  simp only
  have vu := union_valid va vb
  have vm := meet_valid va vb
  have vd := (minus_all va vb).1
  have lu := union_len a b
  have lm := common_len a b
  have ld := minus_len a b
  have cu := countL_le (l := mergeF (a ++ b)) (by omega)
  have cm := countL_le (l := commonF a b) (by omega)
  have cd := countL_le (l := minusL a (commonF a b)) (by omega)
  have ca := countL_le (l := a) (by omega)
  have cb := countL_le (l := b) (by omega)
  have e1 := count_union va vb
  have e2 := count_parts va vb
  refine ⟨by omega, by omega, sa, sb, by omega, by omega, sa, sb, by omega, by omega, sa, sb, fun _ => ⟨by omega, valid_sizes vu, by omega, valid_sizes vm, by omega, by omega, sa, by omega, sb, by omega⟩, fun _ => ⟨by omega, valid_sizes vd, by omega, valid_sizes vm, by omega, by omega, sa⟩, fun hn => ?_, fun _ => ⟨by omega, sa, by omega, fun hu => ?_, fun hu => ?_⟩⟩
  · rcases hn with (((hn | hn) | hn) | hn) | hn
    · exact absurd trivial (by simpa using hn)
    · exact absurd trivial (by simpa using hn)
    · exact absurd trivial (by simpa using hn)
    · exact absurd e1 hn
    · exact absurd e2 hn
  · have : underF a dir = ([], 2) := by
      unfold underF at hu ⊢
      rw [if_pos va] at hu ⊢
      split at hu
      · exact absurd rfl hu
      · next hh => rw [if_neg hh]
    rw [this]; exact h
  · have hw : underF a dir = (a.filter fun s => belowF s.path dir, 0) := by
      unfold underF at hu ⊢
      rw [if_pos va] at hu ⊢
      split at hu
      · next hh => rw [if_pos hh]
      · cases hu
    have vw := under_valid va dir
    have lw : (a.filter fun s => belowF s.path dir).length ≤ a.length := List.length_filter_le _ _
    rw [hw, minusF_eq va vw]
    simp only
    have lr := minus_len a (a.filter fun s => belowF s.path dir)
    have cw := countL_le (l := a.filter fun s => belowF s.path dir) (by omega)
    have cr := countL_le (l := minusL a (commonF a (a.filter fun s => belowF s.path dir))) (by omega)
    have e3 := under_parts va dir
    refine ⟨by omega, by omega, sa, valid_sizes vw, fun _ => ⟨by omega, valid_sizes vw, by omega, valid_sizes (minus_all va vw).1, by omega, by omega, sa⟩, fun hn => ?_, fun _ => ?_⟩
    · rcases hn with hn | hn
      · exact absurd trivial (by simpa using hn)
      · exact absurd e3 hn
    · refine lfp_of (fun x : Int => 0 ≤ x ∧ x ≤ a.length) (fun x => (a.length - x).toNat) (fun x hx again7 hag7 => ?_) ⟨by omega, by omega⟩
      unfold lawCounts_L1
      rw [hw]
      simp only
      refine ⟨fun hlt => ?_, fun _ => h⟩
      have hm := has_under va dir (gi_mem (l := a) (i := x) (by omega))
      refine ⟨by omega, fun _ => by omega, fun _ => by omega, by omega, valid_sizes vw, fun hn => ?_, fun _ => ⟨by omega, hag7 _ ⟨by omega, by omega⟩ (by omega)⟩⟩
      rw [hm, below_eq] at hn
      simp at hn

/-! the example of the chapter -/
theorem awake_of : ofF [⟨⟨#[97, 47, 120]⟩, 3⟩, ⟨⟨#[97, 47, 121]⟩, 0⟩, ⟨⟨#[97, 47, 120]⟩, 1⟩, ⟨⟨#[97, 47, 120]⟩, 2⟩] = ([⟨⟨#[97, 47, 120]⟩, 1, 4⟩, ⟨⟨#[97, 47, 121]⟩, 0, 1⟩], 0) := by decide +kernel
theorem awake_minus : minusF [⟨⟨#[97, 47, 120]⟩, 1, 4⟩, ⟨⟨#[97, 47, 121]⟩, 0, 1⟩] [⟨⟨#[97, 47, 120]⟩, 2, 3⟩] = ([⟨⟨#[97, 47, 120]⟩, 1, 2⟩, ⟨⟨#[97, 47, 120]⟩, 3, 4⟩, ⟨⟨#[97, 47, 121]⟩, 0, 1⟩], 0) := by decide +kernel
theorem awake_print : printF [⟨⟨#[97, 47, 120]⟩, 1, 4⟩, ⟨⟨#[97, 47, 121]⟩, 0, 1⟩] = (⟨#[97, 47, 120, 32, 49, 32, 52, 10, 97, 47, 121, 32, 48, 32, 49, 10]⟩, 0) := by decide +kernel
theorem awake_under : underF [⟨⟨#[97, 47, 120]⟩, 1, 4⟩, ⟨⟨#[97, 47, 121]⟩, 0, 1⟩] ⟨#[97, 47, 120]⟩ = ([], 0) := by decide +kernel
theorem awake_count : countL [⟨⟨#[97, 47, 120]⟩, 1, 4⟩, ⟨⟨#[97, 47, 121]⟩, 0, 1⟩] = 4 := by decide +kernel
theorem awake_has : hasF [⟨⟨#[97, 47, 120]⟩, 1, 4⟩, ⟨⟨#[97, 47, 121]⟩, 0, 1⟩] ⟨⟨#[97, 47, 121]⟩, 0⟩ = true := by decide +kernel
theorem sizes2 : ∀ x ∈ ([⟨⟨#[97, 47, 120]⟩, 1, 4⟩, ⟨⟨#[97, 47, 121]⟩, 0, 1⟩] : List Span), x.path.size ≤ 1000000 := by decide +kernel
theorem sizes1 : ∀ x ∈ ([⟨⟨#[97, 47, 120]⟩, 2, 3⟩] : List Span), x.path.size ≤ 1000000 := by decide +kernel
theorem sizes4 : ∀ x ∈ ([⟨⟨#[97, 47, 120]⟩, 3⟩, ⟨⟨#[97, 47, 121]⟩, 0⟩, ⟨⟨#[97, 47, 120]⟩, 1⟩, ⟨⟨#[97, 47, 120]⟩, 2⟩] : List Line), x.path.size ≤ 1000000 := by decide +kernel
theorem awake_ok  (Q : Bool → Prop)  (h : Q (true)) : awake_vc  Q := by
  unfold awake_vc
  rw [awake_of]
  simp only
  rw [awake_minus, awake_print, awake_under, awake_count, awake_has]
  refine ⟨by decide, sizes4, by decide, by decide, sizes2, sizes1, by decide, sizes2, by decide, sizes2, by decide, fun _ => ⟨by decide, sizes2⟩, fun _ => by decide, fun _ => ⟨by decide, sizes2⟩, ?_⟩
  exact h
end Go.Lic

set_option linter.all false
namespace Go.Lic
open Go.Proofs Go.Sort Go.Shelf

theorem vU {a b : List Span} (ha : validF a = true) (hb : validF b = true) : validF (unionF a b).1 = true := by rw [unionF_eq ha hb]; exact union_valid ha hb
theorem vM {a b : List Span} (ha : validF a = true) (hb : validF b = true) : validF (meetF a b).1 = true := by rw [meetF_eq ha hb]; exact meet_valid ha hb
theorem vD {a b : List Span} (ha : validF a = true) (hb : validF b = true) : validF (minusF a b).1 = true := by rw [minusF_eq ha hb]; exact (minus_all ha hb).1
theorem iU {a b : List Span} (ha : validF a = true) (hb : validF b = true) (p : ByteArray) (n : Int) : In (unionF a b).1 p n ↔ In a p n ∨ In b p n := by rw [unionF_eq ha hb]; exact union_in ha hb p n
theorem iM {a b : List Span} (ha : validF a = true) (hb : validF b = true) (p : ByteArray) (n : Int) : In (meetF a b).1 p n ↔ In a p n ∧ In b p n := by rw [meetF_eq ha hb]; exact meet_in ha hb p n
theorem iD {a b : List Span} (ha : validF a = true) (hb : validF b = true) (p : ByteArray) (n : Int) : In (minusF a b).1 p n ↔ In a p n ∧ ¬ In b p n := by rw [minusF_eq ha hb]; exact (minus_all ha hb).2 p n
theorem lU {a b : List Span} (ha : validF a = true) (hb : validF b = true) : (unionF a b).1.length ≤ a.length + b.length := by rw [unionF_eq ha hb]; exact union_len a b
theorem lM {a b : List Span} (ha : validF a = true) (hb : validF b = true) : (meetF a b).1.length ≤ a.length + b.length := by rw [meetF_eq ha hb]; exact common_len a b
theorem lD {a b : List Span} (ha : validF a = true) (hb : validF b = true) : (minusF a b).1.length ≤ 2 * a.length + b.length := by rw [minusF_eq ha hb]; exact minus_len a b
theorem unionK_ok (x y : List Span) (Q : List Span → Prop) (ha : validF x = true) (hb : validF y = true) (hla : x.length ≤ 1000) (hlb : y.length ≤ 1000) (h : Q (unionF x y).1) : unionK_vc x y Q :=
  ⟨by omega, by omega, valid_sizes ha, valid_sizes hb, by rw [unionF_eq ha hb], h⟩
theorem meetK_ok (x y : List Span) (Q : List Span → Prop) (ha : validF x = true) (hb : validF y = true) (hla : x.length ≤ 1000) (hlb : y.length ≤ 1000) (h : Q (meetF x y).1) : meetK_vc x y Q :=
  ⟨by omega, by omega, valid_sizes ha, valid_sizes hb, by rw [meetF_eq ha hb], h⟩
theorem minusK_ok (x y : List Span) (Q : List Span → Prop) (ha : validF x = true) (hb : validF y = true) (hla : x.length ≤ 1000) (hlb : y.length ≤ 1000) (h : Q (minusF x y).1) : minusK_vc x y Q :=
  ⟨by omega, by omega, valid_sizes ha, valid_sizes hb, by rw [minusF_eq ha hb], h⟩
theorem lawLaws_ok (a b c : List Span) (Q : Bool → Prop) (h : Q true) : lawLaws_vc a b c Q := by
  refine ⟨nofun, fun _ => ⟨fun hc => ?_, fun hc => ?_, fun hc => ?_, fun _ => h, fun hc => ?_⟩⟩
  · have := few_len hc.1.1; exact ⟨by omega, this.2⟩
  · have := few_len hc.1.1.2; exact ⟨by omega, this.2⟩
  · have := few_len hc.1.1.2; exact ⟨by omega, this.2⟩
  obtain ⟨⟨⟨⟨⟨fa, fb⟩, fc⟩, va⟩, vb⟩, vc⟩ := hc
  have la := (few_len fa).1
  have lb := (few_len fb).1
  have lc := (few_len fc).1
  have vab := vU va vb; have vba := vU vb va; have vbc := vU vb vc; have vaa := vU va va
  have mab := vM va vb; have mba := vM vb va; have mac := vM va vc
  have dab := vD va vb
  have l1 := lU va vb; have l2 := lU vb va; have l3 := lU vb vc; have l4 := lU va va
  have l5 := lM va vb; have l6 := lM vb va; have l7 := lM va vc
  have l8 := lD va vb
  have l9 := lU va vbc; have l10 := lM va vbc; have l11 := lD va vbc; have l12 := lU dab mab; have l13 := lM va vab
  have e1 : (unionF a b).1 = (unionF b a).1 := valid_ext vab vba fun p n => by rw [iU va vb, iU vb va]; exact Or.comm
  have e2 : (meetF a b).1 = (meetF b a).1 := valid_ext mab mba fun p n => by rw [iM va vb, iM vb va]; exact And.comm
  have e3 : (unionF a (unionF b c).1).1 = (unionF (unionF a b).1 c).1 := valid_ext (vU va vbc) (vU vab vc) fun p n => by rw [iU va vbc, iU vb vc, iU vab vc, iU va vb, or_assoc]
  have e4 : (meetF a (unionF b c).1).1 = (unionF (meetF a b).1 (meetF a c).1).1 := valid_ext (vM va vbc) (vU mab mac) fun p n => by rw [iM va vbc, iU vb vc, iU mab mac, iM va vb, iM va vc]; exact and_or_left
  have e5 : (minusF a (unionF b c).1).1 = (minusF (minusF a b).1 c).1 := valid_ext (vD va vbc) (vD dab vc) fun p n => by rw [iD va vbc, iU vb vc, iD dab vc, iD va vb, not_or, and_assoc]
  have e6 : (unionF (minusF a b).1 (meetF a b).1).1 = a := valid_ext (vU dab mab) va fun p n => by
    rw [iU dab mab, iD va vb, iM va vb]
    constructor
    · rintro (h | h) <;> exact h.1
    · intro h
      by_cases h2 : In b p n
      · exact .inr ⟨h, h2⟩
      · exact .inl ⟨h, h2⟩
  have e7 : (meetF a (unionF a b).1).1 = a := valid_ext (vM va vab) va fun p n => by
    rw [iM va vab, iU va vb]
    exact ⟨fun h => h.1, fun h => ⟨h, .inl h⟩⟩
  have e8 : (unionF a a).1 = a := valid_ext vaa va fun p n => by rw [iU va va, or_self]
  have e9 : (minusF a a).1 = [] := valid_ext (vD va va) rfl fun p n => by
    rw [iD va va]
    exact ⟨fun h => absurd h.1 h.2, fun h => absurd h (in_nil _ _)⟩
  repeat' (first | apply And.intro | intro _)
  all_goals first | assumption | omega | skip
  rw [decide_eq_true e1, decide_eq_true e2, decide_eq_true e3, decide_eq_true e4, decide_eq_true e5, decide_eq_true e6, decide_eq_true e7, decide_eq_true e8, e9]
  exact h
end Go.Lic
