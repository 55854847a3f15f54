/-
  Sets of lines: what the reference's union, meet and difference are.
-/
import Derived.Test.YtnnbgemjkhgldaaGreatDoorLw
set_option linter.all false
namespace Go.Lic
open Go.Proofs Go.Sort Go.Shelf

theorem rbelow_ok (path dir : ByteArray) (Q : Bool → Prop) (h : Q (belowF path dir)) : rbelow_vc path dir Q := by
  refine ⟨fun h1 => by omega, fun h1 => by omega, ?_⟩
  rw [← below_eq]; exact h
theorem mergeR_nil1 (b : List Line) : mergeR [] b = b := by rw [mergeR]
theorem mergeR_nil2 (a : List Line) : mergeR a [] = a := by cases a <;> rw [mergeR]
theorem mergeR_cons (x y : Line) (a b : List Line) : mergeR (x :: a) (y :: b) = if beforeF x y then x :: mergeR a (y :: b) else y :: mergeR (x :: a) b := by rw [mergeR]
theorem mergeR_perm : ∀ (a b : List Line), (mergeR a b).Perm (a ++ b)
  | [], b => by rw [mergeR_nil1]; exact .refl _
  | x :: a, [] => by rw [mergeR_nil2, List.append_nil]
  | x :: a, y :: b => by
    rw [mergeR_cons]
    split
    · exact (mergeR_perm a (y :: b)).cons x
    · exact ((mergeR_perm (x :: a) b).cons y).trans List.perm_middle.symm
termination_by a b => a.length + b.length
theorem mergeR_sorted : ∀ {a b : List Line}, LSorted a → LSorted b → LSorted (mergeR a b)
  | [], b, _, hb => by rw [mergeR_nil1]; exact hb
  | x :: a, [], ha, _ => by rw [mergeR_nil2]; exact ha
  | x :: a, y :: b, ha, hb => by
    have ha' := List.pairwise_cons.1 ha
    have hb' := List.pairwise_cons.1 hb
    rw [mergeR_cons]
    split
    · next h =>
      refine List.pairwise_cons.2 ⟨fun z hz => ?_, mergeR_sorted ha'.2 hb⟩
      rcases List.mem_append.1 ((mergeR_perm _ _).mem_iff.1 hz) with hz | hz
      · exact ha'.1 z hz
      · rcases List.mem_cons.1 hz with rfl | hz
        · exact before_asymm h
        · exact before_ntrans (hb'.1 z hz) (before_asymm h)
    · next h =>
      have h : beforeF x y = false := by simpa using h
      refine List.pairwise_cons.2 ⟨fun z hz => ?_, mergeR_sorted ha hb'.2⟩
      rcases List.mem_append.1 ((mergeR_perm _ _).mem_iff.1 hz) with hz | hz
      · rcases List.mem_cons.1 hz with rfl | hz
        · exact h
        · exact before_ntrans (ha'.1 z hz) h
      · exact hb'.1 z hz
termination_by a b => a.length + b.length
theorem mergeR_len (a b : List Line) : (mergeR a b).length = a.length + b.length := by rw [(mergeR_perm a b).length_eq]; simp
theorem linesOf_sorted (s : Span) : LSorted (linesOf s) := by
  show List.Pairwise _ _
  unfold linesOf
  rw [List.pairwise_map]
  refine List.Pairwise.imp ?_ List.pairwise_lt_range
  intro i j hij
  rw [before_false]
  rintro (h | ⟨_, h⟩)
  · exact sl_irrefl _ h
  · simp only at h; omega
theorem lines_sorted : ∀ {l : List Span}, Chain l → LSorted (l.flatMap linesOf)
  | [], _ => .nil
  | s :: l, hc => by
    obtain ⟨⟨hs, hsl⟩, hc'⟩ := chain_cons.1 hc
    show List.Pairwise _ _
    rw [List.flatMap_cons, List.pairwise_append]
    refine ⟨linesOf_sorted s, lines_sorted hc', fun y hy z hz => ?_⟩
    obtain ⟨t, ht, h2⟩ := List.mem_flatMap.1 hz
    have h3 := bh_pts (hsl t ht) ((linesOf_mem s y).1 hy) ((linesOf_mem t z).1 h2)
    refine before_asymm ((before_iff _ _).2 ?_)
    exact pl_trans (.inr ⟨rfl, by omega⟩) h3
theorem list_sorted {l : List Span} (h : validF l = true) : LSorted (listF l) := by
  unfold listF
  rw [if_pos h]
  exact lines_sorted ((valid_chain l).1 h).1
theorem list_lines {l : List Span} (h : validF l = true) : ∀ y ∈ listF l, spanR (unit y) = true ∧ inI (y.n + 1) := by
  intro y hy
  obtain ⟨s, hs, h1, h2, h3⟩ := (list_mem h y).1 hy
  have h4 := valid_span h s hs
  have h5 := span_inside h4
  refine ⟨span_path.2 ⟨?_, ?_⟩, by omega⟩
  · have := (span_path.1 h4).1
    rw [h1] at this; exact this
  · unfold insideF unit
    simp only [Bool.and_eq_true, decide_eq_true_eq]
    omega
theorem pack_valid {r : List Line} (hs : LSorted r) (h : ∀ y ∈ r, spanR (unit y) = true) : validF (packF r) = true ∧ ∀ p n, In (packF r) p n ↔ InL r p n := by
  have := pack_facts (fun s => spanR s = true) ok_merge hs h
  exact ⟨(valid_chain _).2 ⟨this.1, this.2.2⟩, this.2.1⟩
theorem rmerge_ok (a b : List Line) (Q : List Line → Prop) (hp0 : a.length ≤ 2000000) (hp1 : b.length ≤ 2000000) (h : Q (mergeR a b)) : rmerge_vc a b Q := by
  refine lfp3 (rmerge_L1 a b Q) (fun out i k => 0 ≤ i ∧ 0 ≤ k ∧ i ≤ a.length ∧ k ≤ b.length ∧ (out.length : Int) = i + k ∧ out ++ mergeR (a.drop i.toNat) (b.drop k.toNat) = mergeR a b) (fun _ i k => (a.length + b.length - i - k).toNat) (fun out i k hst again hag => ?_) ⟨by simp, by simp, by simp, by simp, by simp, by simp⟩
  obtain ⟨h0, h1, h2, h3, h4, h5⟩ := hst
  refine ⟨fun hc => ⟨fun _ hi => ⟨by omega, by omega⟩, fun hx => ⟨by omega, ⟨?_, ?_⟩, by omega, hag _ _ _ ⟨by omega, by omega, by omega, by omega, ?_, ?_⟩ (by omega)⟩, fun hy => ⟨by omega, ⟨?_, ?_⟩, by omega, hag _ _ _ ⟨by omega, by omega, by omega, by omega, ?_, ?_⟩ (by omega)⟩⟩, fun hn => ?_⟩
  · simp only [List.length_cons, List.length_nil]; omega
  · simp only [List.length_cons, List.length_nil]; omega
  · simp only [List.length_append, List.length_cons, List.length_nil]; omega
  · have e : mergeR (a.drop i.toNat) (b.drop k.toNat) = gi a i :: mergeR (a.drop (i + 1).toNat) (b.drop k.toNat) := by
      rcases hx with hx | hx
      · rw [drop_end (l := b) (x := k) (by omega), mergeR_nil2, mergeR_nil2, drop_gi (by omega)]
      · by_cases hk : k < b.length
        · rw [drop_gi (l := a) (x := i) (by omega), drop_gi (l := b) (x := k) (by omega), mergeR_cons, if_pos hx.2]
        · rw [drop_end (l := b) (x := k) (by omega), mergeR_nil2, mergeR_nil2, drop_gi (by omega)]
    rw [e] at h5
    simpa using h5
  · simp only [List.length_cons, List.length_nil]; omega
  · simp only [List.length_cons, List.length_nil]; omega
  · simp only [List.length_append, List.length_cons, List.length_nil]; omega
  · have e : mergeR (a.drop i.toNat) (b.drop k.toNat) = gi b k :: mergeR (a.drop i.toNat) (b.drop (k + 1).toNat) := by
      by_cases hi : i < a.length
      · rw [drop_gi (l := a) (x := i) (by omega), drop_gi (l := b) (x := k) (by omega), mergeR_cons, if_neg]
        rcases hy.2 with h6 | h6
        · omega
        · rw [h6]; simp
      · rw [drop_end (l := a) (x := i) hi, mergeR_nil1, mergeR_nil1, drop_gi (by omega)]
    rw [e] at h5
    simpa using h5
  · rw [drop_end (l := a) (x := i) (by omega), mergeR_nil1, drop_end (l := b) (x := k) (by omega), List.append_nil] at h5
    rw [← h5] at h
    exact h
theorem rjoin_ok (a b : List Span) (Q : List Span → Prop) (va : validF a = true) (vb : validF b = true) (la : a.length ≤ 100) (lb : b.length ≤ 100) (h : Q (mergeF (a ++ b))) : rjoin_vc a b Q := by
  have h1 := list_len la
  have h2 := list_len lb
  have hl := mergeR_len (listF a) (listF b)
  have hm : ∀ y ∈ mergeR (listF a) (listF b), spanR (unit y) = true ∧ inI (y.n + 1) := by
    intro y hy
    rcases List.mem_append.1 ((mergeR_perm _ _).mem_iff.1 hy) with hy | hy
    · exact list_lines va y hy
    · exact list_lines vb y hy
  have hp := pack_valid (mergeR_sorted (list_sorted va) (list_sorted vb)) (fun y hy => (hm y hy).1)
  have e : packF (mergeR (listF a) (listF b)) = mergeF (a ++ b) := valid_ext hp.1 (union_valid va vb) fun p n => by
    rw [hp.2, union_in va vb]
    unfold InL
    constructor
    · rintro ⟨y, hy, rfl, rfl⟩
      rcases List.mem_append.1 ((mergeR_perm _ _).mem_iff.1 hy) with hy | hy
      · exact .inl ((list_mem va y).1 hy)
      · exact .inr ((list_mem vb y).1 hy)
    · rintro (h | h)
      · exact ⟨⟨p, n⟩, (mergeR_perm _ _).mem_iff.2 (List.mem_append.2 (.inl ((list_mem va ⟨p, n⟩).2 h))), rfl, rfl⟩
      · exact ⟨⟨p, n⟩, (mergeR_perm _ _).mem_iff.2 (List.mem_append.2 (.inr ((list_mem vb ⟨p, n⟩).2 h))), rfl, rfl⟩
  exact ⟨by omega, valid_sizes va, by omega, valid_sizes vb, by omega, by omega, by omega, fun y hy => (hm y hy).2, by rw [e]; exact h⟩
theorem part_eq {a b : List Span} (va : validF a = true) (vb : validF b = true) (i : Bool) : packF ((listF a).filter fun y => hasF b y == i) = partR a b i := by
  have hs : LSorted ((listF a).filter fun y => hasF b y == i) := List.Pairwise.filter _ (list_sorted va)
  have hp := pack_valid hs (fun y hy => (list_lines va y (List.mem_filter.1 hy).1).1)
  have key : ∀ p n, In (packF ((listF a).filter fun y => hasF b y == i)) p n ↔ In a p n ∧ (hasF b ⟨p, n⟩ == i) = true := by
    intro p n
    rw [hp.2]
    unfold InL
    constructor
    · rintro ⟨y, hy, rfl, rfl⟩
      have := List.mem_filter.1 hy
      exact ⟨(list_mem va y).1 this.1, this.2⟩
    · rintro ⟨h1, h2⟩
      exact ⟨⟨p, n⟩, List.mem_filter.2 ⟨(list_mem va ⟨p, n⟩).2 h1, h2⟩, rfl, rfl⟩
  unfold partR
  cases i with
  | true =>
    refine valid_ext hp.1 (meet_valid va vb) fun p n => ?_
    show _ ↔ In (commonF a b) p n
    rw [key, meet_in va vb, beq_iff_eq, has_iff vb]
  | false =>
    refine valid_ext hp.1 (minus_all va vb).1 fun p n => ?_
    show _ ↔ In (minusL a (commonF a b)) p n
    rw [key, (minus_all va vb).2, beq_iff_eq, ← Bool.not_eq_true, has_iff vb]
theorem rpart_ok (a b : List Span) (in_ : Bool) (Q : List Span → Prop) (va : validF a = true) (vb : validF b = true) (la : a.length ≤ 100) (lb : b.length ≤ 100) (h : Q (partR a b in_)) : rpart_vc a b in_ Q := by
  have h1 := list_len la
  have hm := list_lines va
  rw [← part_eq va vb] at h
  refine ⟨by omega, valid_sizes va, ?_⟩
  refine lfp2 (rpart_L1 a b in_ Q) (fun out i => 0 ≤ i ∧ i ≤ (listF a).length ∧ (out.length : Int) ≤ i ∧ out ++ ((listF a).drop i.toNat).filter (fun y => hasF b y == in_) = (listF a).filter fun y => hasF b y == in_) (fun _ i => ((listF a).length - i).toNat) (fun out i hst again hag => ?_) ⟨by simp, by simp, by simp, by simp⟩
  obtain ⟨g0, g1, g2, g3⟩ := hst
  refine ⟨fun hlt => ⟨by omega, by omega, valid_sizes vb, fun hb => ⟨by omega, ⟨?_, ?_⟩, by omega, hag _ _ ⟨by omega, by omega, ?_, ?_⟩ (by omega)⟩, fun hb => ⟨by omega, hag _ _ ⟨by omega, by omega, by omega, ?_⟩ (by omega)⟩⟩, fun hn => ?_⟩
  · simp only [List.length_cons, List.length_nil]; omega
  · simp only [List.length_cons, List.length_nil]; omega
  · simp only [List.length_append, List.length_cons, List.length_nil]; omega
  · rw [drop_gi (by omega), List.filter_cons_of_pos (p := fun y => hasF b y == in_) hb] at g3
    simpa using g3
  · rw [drop_gi (by omega), List.filter_cons_of_neg (p := fun y => hasF b y == in_) (by simp only [hb]; simp)] at g3
    exact g3
  · rw [drop_end hn, List.filter_nil, List.append_nil] at g3
    rw [g3]
    refine ⟨?_, fun y hy => (hm y (List.mem_filter.1 hy).1).2, h⟩
    have : ((listF a).filter fun y => hasF b y == in_).length ≤ (listF a).length := List.length_filter_le _ _
    omega
theorem runion_ok (a b : List Span) (Q : List Span × Int → Prop) (la : a.length ≤ 100) (lb : b.length ≤ 100) (sa : ∀ z_ ∈ a, z_.path.size ≤ 1000000) (sb : ∀ z_ ∈ b, z_.path.size ≤ 1000000) (h : Q (unionF a b)) : runion_vc a b Q := by
  unfold unionF at h
  refine ⟨by omega, sa, fun _ => ⟨by omega, sb⟩, fun hv => ?_, fun hv => ⟨hv.1, hv.2, by omega, by omega, ?_⟩⟩
  · rw [if_neg] at h
    · exact h
    · rcases hv with hv | hv <;> simp [hv]
  · rw [if_pos (by simp [hv])] at h; exact h
theorem rmeet_ok (a b : List Span) (Q : List Span × Int → Prop) (la : a.length ≤ 100) (lb : b.length ≤ 100) (sa : ∀ z_ ∈ a, z_.path.size ≤ 1000000) (sb : ∀ z_ ∈ b, z_.path.size ≤ 1000000) (h : Q (meetF a b)) : rmeet_vc a b Q := by
  unfold meetF at h
  refine ⟨by omega, sa, fun _ => ⟨by omega, sb⟩, fun hv => ?_, fun hv => ⟨hv.1, hv.2, by omega, by omega, ?_⟩⟩
  · rw [if_neg] at h
    · exact h
    · rcases hv with hv | hv <;> simp [hv]
  · rw [if_pos (by simp [hv])] at h; exact h
theorem rminus_ok (a b : List Span) (Q : List Span × Int → Prop) (la : a.length ≤ 100) (lb : b.length ≤ 100) (sa : ∀ z_ ∈ a, z_.path.size ≤ 1000000) (sb : ∀ z_ ∈ b, z_.path.size ≤ 1000000) (h : Q (minusF a b)) : rminus_vc a b Q := by
  unfold minusF at h
  refine ⟨by omega, sa, fun _ => ⟨by omega, sb⟩, fun hv => ?_, fun hv => ⟨hv.1, hv.2, by omega, by omega, ?_⟩⟩
  · rw [if_neg] at h
    · exact h
    · rcases hv with hv | hv <;> simp [hv]
  · rw [if_pos (by simp [hv])] at h; exact h
theorem runder_ok (l : List Span) (dir : ByteArray) (Q : List Span × Int → Prop) (hp0 : l.length ≤ 1000) (hp1 : ∀ z_ ∈ l, z_.path.size ≤ 1000000) (hp2 : dir.size ≤ 1000000) (h : Q (underF l dir)) : runder_vc l dir Q := by
  unfold underF at h
  refine ⟨by omega, hp1, fun hv => by rw [hv] at h; exact h, fun hv => ⟨hp2, fun hn => ?_, fun hp => ?_⟩⟩
  · have e : pathF dir = 2 := by unfold pathF; rw [hn]; rfl
    rw [if_pos hv, e] at h
    exact h
  have e : pathF dir = 0 := by unfold pathF; rw [hp]; rfl
  rw [if_pos hv, if_pos e] at h
  refine lfp2 (runder_L1 l dir Q) (fun out x => 0 ≤ x ∧ x ≤ l.length ∧ (out.length : Int) ≤ x ∧ out ++ (l.drop x.toNat).filter (fun s => belowF s.path dir) = l.filter fun s => belowF s.path dir) (fun _ x => (l.length - x).toNat) (fun out x hst again hag => ?_) ⟨by simp, by simp, by simp, by simp⟩
  obtain ⟨h0, h1, h2, h3⟩ := hst
  refine ⟨fun hlt => ⟨by omega, fun hb => ⟨by omega, ⟨?_, ?_⟩, by omega, hag _ _ ⟨by omega, by omega, ?_, ?_⟩ (by omega)⟩, fun hb => ⟨by omega, hag _ _ ⟨by omega, by omega, by omega, ?_⟩ (by omega)⟩⟩, fun hn => ?_⟩
  · simp only [List.length_cons, List.length_nil]; omega
  · simp only [List.length_cons, List.length_nil]; omega
  · simp only [List.length_append, List.length_cons, List.length_nil]; omega
  · rw [drop_gi (by omega), List.filter_cons_of_pos (p := fun s : Span => belowF s.path dir) hb] at h3
    simpa using h3
  · rw [drop_gi (by omega), List.filter_cons_of_neg (p := fun s : Span => belowF s.path dir) (by simp only [hb]; simp)] at h3
    exact h3
  · rw [drop_end hn, List.filter_nil, List.append_nil] at h3
    rw [← h3] at h
    exact h
theorem unionF_len {a b : List Span} (la : a.length ≤ 12) (lb : b.length ≤ 12) : (unionF a b).1.length ≤ 100 := by
  unfold unionF; split
  · have := union_len a b; simp only; omega
  · simp
theorem meetF_len {a b : List Span} (la : a.length ≤ 12) (lb : b.length ≤ 12) : (meetF a b).1.length ≤ 100 := by
  unfold meetF; split
  · have := common_len a b; simp only; omega
  · simp
theorem minusF_len {a b : List Span} (la : a.length ≤ 12) (lb : b.length ≤ 12) : (minusF a b).1.length ≤ 100 := by
  unfold minusF; split
  · have := minus_len a b; simp only; omega
  · simp
theorem underF_len {a : List Span} (la : a.length ≤ 12) (dir : ByteArray) : (underF a dir).1.length ≤ 100 := by
  unfold underF; split
  · split
    · have := List.length_filter_le (fun s : Span => belowF s.path dir) a; simp only; omega
    · simp
  · simp
theorem lawCombines_ok (a b : List Span) (dir : ByteArray) (Q : Bool → Prop) (h : Q true) : lawCombines_vc a b dir Q := by
  refine ⟨nofun, fun _ => ⟨fun _ => h, fun hc => ?_⟩⟩
  obtain ⟨⟨fa, fb⟩, hd⟩ := hc
  obtain ⟨la, sa⟩ := few_len fa
  obtain ⟨lb, sb⟩ := few_len fb
  have l1 := unionF_len la lb; have l2 := meetF_len la lb; have l3 := minusF_len la lb; have l4 := underF_len la dir
  repeat' (first | apply And.intro | intro _)
  all_goals first | assumption | omega | exact sa _ (by assumption) | exact sb _ (by assumption) | skip
  simpa using h
end Go.Lic
