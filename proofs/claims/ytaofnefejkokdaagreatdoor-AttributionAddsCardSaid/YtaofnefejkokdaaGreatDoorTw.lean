/-
  The conditions of functions of chapter 30 hold: the reference's best cover; texts of the example. No program in sight.
-/
import Derived.Test.YtaofnefejkokdaaGreatDoorTo5
import Derived.Test.YtaofnefejkokdaaGreatDoorTx
set_option linter.all false
namespace Go.Lic
open Go.Proofs Go.Sort Go.Shelf

end Go.Lic

set_option linter.all false
namespace Go.Lic
open Go.Proofs Go.Sort Go.Shelf

theorem fewW_ok {l : List Lexeme} (h : fewW l = true) : okW l := by
  unfold fewW at h
  rw [Bool.and_eq_true, decide_eq_true_eq, List.all_eq_true] at h
  exact ⟨by omega, fun w hw => by have := of_decide_eq_true (h.2 w hw); omega⟩
theorem fewT_ok {t : Text} (h : fewTs [t] = true) : okT t := by
  unfold fewTs at h
  rw [Bool.and_eq_true, List.all_cons, Bool.and_eq_true, Bool.and_eq_true, decide_eq_true_eq, decide_eq_true_eq] at h
  exact ⟨by omega, fewW_ok h.2.1.1⟩
theorem fewTs_ok {l : List Text} (h : fewTs l = true) : okTs l := by
  unfold fewTs at h
  rw [Bool.and_eq_true, decide_eq_true_eq, List.all_eq_true] at h
  refine ⟨by omega, fun t ht => ?_⟩
  have := h.2 t ht
  rw [Bool.and_eq_true, decide_eq_true_eq] at this
  exact ⟨by omega, fewW_ok this.1⟩
theorem fewTs_len {l : List Text} (h : fewTs l = true) : l.length ≤ 5 := by
  unfold fewTs at h
  rw [Bool.and_eq_true, decide_eq_true_eq] at h; exact h.1
theorem fewC_ok {c : Corpus} (h : fewC c = true) : okC c := by
  unfold fewC at h
  rw [Bool.and_eq_true, decide_eq_true_eq] at h
  exact ⟨fewTs_ok h.1, by omega⟩
theorem fewC_len {c : Corpus} (h : fewC c = true) : c.texts.length ≤ 5 := by
  unfold fewC at h
  rw [Bool.and_eq_true] at h
  exact fewTs_len h.1
theorem okC_no : okC noC := ⟨⟨by simp [noC], (fun t ht => by cases ht)⟩, by simp [noC]⟩
theorem okC_new (k w : Int) : okC (newF k w).1 := by
  unfold newF
  split
  · exact ⟨⟨by simp, (fun t ht => by cases ht)⟩, by simp⟩
  · exact okC_no
/-! attributions -/
theorem fewT_len {t : Text} (h : fewTs [t] = true) : t.words.length ≤ 40 := by
  unfold fewTs fewW at h
  simp only [Bool.and_eq_true, List.all_cons, decide_eq_true_eq] at h
  omega
theorem small_parts {c : Corpus} {t : Text} {a : Attribution} (h : smallF c t a = true) : okC c ∧ okT t ∧ okA a ∧ t.words.length ≤ 40 ∧ a.pieces.length ≤ 60 ∧ c.texts.length ≤ 5 := by
  unfold smallF at h
  simp only [Bool.and_eq_true, decide_eq_true_eq] at h
  exact ⟨fewC_ok h.1.1.1, fewT_ok h.1.1.2, ⟨by omega, by omega⟩, fewT_len h.1.1.2, h.1.2, fewC_len h.1.1.1⟩
theorem attr_split (c : Corpus) (t : Text) (least : Int) : (rightA c t least ≠ 0 ∧ attrF c t least = (noA, rightA c t least)) ∨ (rightA c t least = 0 ∧ 1 ≤ least ∧ attrF c t least = (⟨t.path, piecesF c t least.toNat⟩, 0)) := by
  by_cases h : rightA c t least = 0
  · refine .inr ⟨h, ?_, by unfold attrF; rw [if_pos h]⟩
    rcases rightA_split (c := c) (t := t) (least := least) with ⟨_, e⟩ | ⟨_, _, e⟩ | ⟨_, h1, _, _⟩
    · omega
    · omega
    · exact h1
  · exact .inl ⟨h, by unfold attrF; rw [if_neg h]⟩
theorem pieces_few {c : Corpus} {t : Text} {least : Int} (hl : 1 ≤ least) : ∀ (l : List Piece) (e : Int), checkPs c t least e l = 0 → (l.length : Int) ≤ coverF l
  | [], _, _ => by simp [coverF]
  | p :: l, e, h => by
    rw [checkPs_cons] at h
    have h1 := (pieceOk_iff c t least p).1 h.1
    have h2 := pieces_few hl l _ h.2.2
    rw [coverF_cons, List.length_cons]
    omega
theorem found_few {c : Corpus} {t : Text} {least : Int} (hl : 1 ≤ least) : (piecesF c t least.toNat).length ≤ t.words.length := by
  have h1 := pieces_few hl _ 0 (found_right (c := c) (t := t) hl)
  have h2 := cover_le _ 0 (by omega) (found_right (c := c) (t := t) hl)
  omega
theorem okA_no : okA noA := ⟨by decide, by decide⟩
theorem okA_attr {c : Corpus} {t : Text} {least : Int} (h : okT t) : okA (attrF c t least).1 := by
  rcases attr_split c t least with ⟨_, e⟩ | ⟨_, h1, e⟩
  · rw [e]; exact okA_no
  · rw [e]
    have := found_few (c := c) (t := t) h1
    have h2 := h.2.1
    exact ⟨h.1, by show (piecesF c t least.toNat).length ≤ 1000000; omega⟩
theorem okV_right {c : Corpus} {t : Text} {least : Int} {l : List Piece} (ht : t.words.length ≤ 1000000) (hn : l.length ≤ 1000000) (h : checkPs c t least 0 l = 0) (path : ByteArray) : okV ⟨path, l⟩ := by
  refine ⟨hn, fun p hp => ?_⟩
  have := (pieceOk_iff c t least p).1 (checkPs_mem l 0 h p hp)
  omega
theorem okV_attr {c : Corpus} {t : Text} {least : Int} (ht : t.words.length ≤ 1000000) : okV (attrF c t least).1 := by
  rcases attr_split c t least with ⟨_, e⟩ | ⟨_, h1, e⟩
  · rw [e]; exact ⟨by simp [noA], by simp [noA]⟩
  · rw [e]
    have := found_few (c := c) (t := t) h1
    exact okV_right ht (by omega) (found_right h1) _
theorem check_zero {c : Corpus} {t : Text} {least : Int} {a : Attribution} (h : checkA c t least a = 0) : rightA c t least = 0 ∧ a.path = t.path ∧ checkPs c t least 0 a.pieces = 0 := by
  unfold checkA at h
  split at h
  · next h1 =>
    split at h
    · next h2 => exact ⟨h1, h2, h⟩
    · cases h
  · next h1 => exact absurd h h1
theorem check_bad {c : Corpus} {t : Text} {least : Int} {a : Attribution} (h : rightA c t least ≠ 0) : checkA c t least a = rightA c t least := by
  unfold checkA; rw [if_neg h]
theorem check_found {c : Corpus} {t : Text} {least : Int} (h : rightA c t least = 0) (h1 : 1 ≤ least) : checkA c t least ⟨t.path, piecesF c t least.toNat⟩ = 0 := by
  unfold checkA; rw [if_pos h, if_pos rfl]; exact found_right h1
theorem Q_true {b : Bool} {Q : Bool → Prop} (e : b = true) (h : Q true) : Q b := e ▸ h

/-! the functions of the statements -/
theorem byte_ssub {s : ByteArray} {x : Int} (h : inL x s.size) : ssub s x (x + 1) = bstr [gi (sbytes s) x] := by
  have hn : x.toNat < s.data.toList.length := by have : s.data.toList.length = s.size := rfl; omega
  apply ba_eq
  have hg : gi (sbytes s) x = ((s.data.toList[x.toNat]'hn).toNat : Int) := by
    rw [gi_lt (by rw [sbytes_len]; exact h)]; simp [sbytes]
  rw [hg]
  have h2 : (ssub s x (x + 1)).data.toList = (s.data.toList.take (x + 1).toNat).drop x.toNat := by
    simp [ssub, ByteArray.extract, ByteArray.copySlice, List.take_drop]
    rw [show x.toNat + ((x + 1).toNat - x.toNat) = (x + 1).toNat by omega]
  rw [h2, show (x + 1).toNat = x.toNat + 1 by omega, List.take_succ_eq_append_getElem hn, List.drop_append, List.drop_eq_nil_of_le (by simp; omega)]
  have hm : min x.toNat s.size = x.toNat := by omega
  simp [bstr, hm]
theorem ltext_ok (path : ByteArray) (s_ : ByteArray) (Q : Text → Prop) (hp0 : s_.size ≤ 1000) (h : Q (textF path s_)) : ltext_vc path s_ Q := by
  have hb := sbytes_len s_
  refine lfp2 (ltext_L1 path s_ Q) (fun xs x => 0 ≤ x ∧ x ≤ s_.size ∧ (xs.length : Int) = x ∧ xs = ((sbytes s_).take x.toNat).map fun b => ⟨bstr [b], 0⟩) (fun _ x => (s_.size - x).toNat) (fun xs x hst again hag => ?_) ⟨by omega, by omega, rfl, rfl⟩
  obtain ⟨h0, h1, h2, h3⟩ := hst
  refine ⟨fun hlt => ?_, fun hn => ?_⟩
  · have hx : inL x (sbytes s_).length := by omega
    refine ⟨by omega, by omega, ⟨by simp only [List.length_singleton]; omega, by simp only [List.length_singleton]; omega⟩, by omega, hag _ _ ⟨by omega, by omega, by simp only [List.length_append, List.length_singleton]; omega, ?_⟩ (by omega)⟩
    rw [h3, byte_ssub (by omega), show (x + 1).toNat = x.toNat + 1 by omega, List.take_succ_eq_append_getElem (by omega), List.map_append, gi_lt hx]; rfl
  · rw [h3, List.take_of_length_le (by omega)]; exact h
theorem lsmall_ok (c : Corpus) (t : Text) (a : Attribution) (Q : Bool → Prop)  (h : Q (smallF c t a)) : lsmall_vc c t a Q := by
  unfold smallF at h
  have e1 : decide ((a.pieces.length : Int) ≤ 60) = decide (a.pieces.length ≤ 60) := by congr 1; rw [eq_iff_iff]; omega
  have e2 : decide ((a.path.size : Int) ≤ 200) = decide (a.path.size ≤ 200) := by congr 1; rw [eq_iff_iff]; omega
  show Q _
  rw [e1, e2]; exact h
theorem lcover_ok (a : Attribution) (Q : Int → Prop) (hp0 : okV a) (h : Q ((coverF a.pieces))) : lcover_vc a Q := by
  obtain ⟨hn, hv⟩ := hp0
  refine lfp2 (lcover_L1 a Q) (fun out x => 0 ≤ x ∧ x ≤ a.pieces.length ∧ 0 ≤ out ∧ out ≤ 1000000 * x ∧ out + coverF (a.pieces.drop x.toNat) = coverF a.pieces) (fun _ x => (a.pieces.length - x).toNat) (fun out x hst again hag => ?_) ⟨by omega, by omega, by omega, by omega, by simp⟩
  obtain ⟨h0, h1, h2, h3, h4⟩ := hst
  refine ⟨fun hlt => ?_, fun hnl => ?_⟩
  · have hx : inL x a.pieces.length := by omega
    have hb := hv _ (gi_mem hx)
    have hc : coverF (a.pieces.drop x.toNat) = ((gi a.pieces x).to - (gi a.pieces x).from_) + coverF (a.pieces.drop (x + 1).toNat) := by
      rw [List.drop_eq_getElem_cons (by omega), coverF_cons, gi_lt hx, show (x + 1).toNat = x.toNat + 1 by omega]
    refine ⟨by omega, by omega, by omega, by omega, hag _ _ ⟨by omega, by omega, by omega, by omega, by omega⟩ (by omega)⟩
  · rw [List.drop_eq_nil_of_le (by omega)] at h4
    have : out = coverF a.pieces := by rw [← h4]; simp [coverF]
    rw [this]; exact h
theorem awake_ok  (Q : Bool → Prop)  (h : Q (true)) : awake_vc  Q := by
  refine ⟨by decide +kernel, okC_new 1 1, fewT_ok (by decide +kernel), by decide +kernel, fewC_ok (by decide +kernel), fewT_ok (by decide +kernel), by decide +kernel, ⟨fewC_ok (by decide +kernel), fewT_ok (by decide +kernel), ⟨fewC_ok (by decide +kernel), fewT_ok (by decide +kernel), okA_attr (fewT_ok (by decide +kernel)),
    fun _ => by decide +kernel, fun _ => ⟨fewC_ok (by decide +kernel), fewT_ok (by decide +kernel), okA_attr (fewT_ok (by decide +kernel))⟩, fun _ => ⟨fewC_ok (by decide +kernel), fewT_ok (by decide +kernel), okA_attr (fewT_ok (by decide +kernel))⟩, Q_true (by decide +kernel) h⟩⟩⟩

/-! statements -/
theorem lawBest_ok (c : Corpus) (t : Text) (least : Int) (other : Attribution) (Q : Bool → Prop)  (h : Q (true)) : lawBest_vc c t least other Q := by
  refine ⟨nofun, fun _ => ⟨fun _ => h, fun hs => ?_⟩⟩
  obtain ⟨h1, h2, h3, h4, h5, _⟩ := small_parts hs
  refine ⟨h1, h2, fun hn => ⟨fun _ => ⟨h1, h2, h3⟩, ?_⟩, fun hz => ?_⟩
  · rcases attr_split c t least with ⟨k1, e⟩ | ⟨_, _, e⟩
    · rw [e]
      exact Q_true (by rw [check_bad k1]; simp [noA]) h
    · rw [e] at hn; exact absurd rfl hn
  · rcases attr_split c t least with ⟨k1, e⟩ | ⟨k1, k2, e⟩
    · rw [e] at hz; exact absurd hz k1
    · refine ⟨h1, h2, okA_attr h2, fun hb => ?_, fun _ => ⟨h1, h2, h3, fun _ => h, fun hc => ?_⟩⟩
      · rw [e] at hb; exact absurd (check_found k1 k2) hb
      · obtain ⟨_, _, c3⟩ := check_zero hc
        have hb := found_best k2 c3
        refine ⟨okV_attr (by omega), okV_right (by omega) (by omega) c3 _, Q_true ?_ h⟩
        rw [e]
        simp only [Bool.or_eq_true, Bool.and_eq_true, decide_eq_true_eq, beq_iff_eq]
        omega
theorem of_fin (l : List Line) : (ofF l).1.length ≤ l.length := by
  unfold ofF
  split
  · simp
  · have := merge_len (l.map unitW)
    simpa using this
theorem unknown_fin (t : Text) (a : Attribution) : (unknownF t a).1.length ≤ t.words.length := by
  unfold unknownF
  split
  · split
    · split
      · next l hl =>
        obtain ⟨w, hw, rfl⟩ := restL_sub _ 0 _ (by omega) hl
        have h1 := of_fin (linesW t w)
        have h2 := hw.length_le
        rw [linesW_len] at h1
        simp only [List.length_drop] at h2
        omega
      · simp
    · simp
  · simp
end Go.Lic

set_option linter.all false
namespace Go.Lic
open Go.Proofs Go.Sort Go.Shelf

theorem ok_merge (t s : Span) (h1 : spanR t = true) (h2 : spanR s = true) : spanR ⟨t.path, t.from_, max t.to s.to⟩ = true := by
  rw [span_path] at *
  refine ⟨h1.1, ?_⟩
  have a := h1.2; have b := h2.2
  unfold insideF at *
  simp only [Bool.and_eq_true, decide_eq_true_eq] at *
  omega
theorem valid_chain (l : List Span) : validF l = true ↔ Chain l ∧ ∀ s ∈ l, spanR s = true := by
  constructor
  · intro h
    have hs := valid_span h
    refine ⟨⟨?_, fun s hm => (span_inside (hs s hm)).2.1⟩, hs⟩
    rw [List.pairwise_iff_getElem]
    have key : ∀ d i : Nat, ∀ (h1 : i < l.length) (h2 : i + d + 1 < l.length), Bh l[i] l[i + d + 1] := by
      intro d
      induction d with
      | zero =>
        intro i h1 h2
        have := ((valid_iff l).1 h ((i + 1 : Nat) : Int) (by omega) (by omega)).2 (by omega)
        rw [gi_nat (by omega), show (((i + 1 : Nat) : Int) - 1) = ((i : Nat) : Int) by omega, gi_nat h1] at this
        exact this
      | succ d ih =>
        intro i h1 h2
        have h3 := ih i h1 (by omega)
        have h4 := ((valid_iff l).1 h ((i + (d + 1) + 1 : Nat) : Int) (by omega) (by omega)).2 (by omega)
        rw [gi_nat (by omega), show (((i + (d + 1) + 1 : Nat) : Int) - 1) = ((i + d + 1 : Nat) : Int) by omega, gi_nat (by omega)] at h4
        exact bh_trans (span_inside (hs _ (List.getElem_mem _))).2.1 h3 h4
    intro i j hi hj hij
    have := key (j - i - 1) i hi (by omega)
    have e : i + (j - i - 1) + 1 = j := by omega
    simpa only [e] using this
  · rintro ⟨hc, hs⟩
    rw [valid_iff]
    intro x h0 h1
    refine ⟨hs _ (gi_mem (by omega)), fun hx => ?_⟩
    have := List.pairwise_iff_getElem.1 hc.bh (x - 1).toNat x.toNat (by omega) (by omega) (by omega)
    rw [gi_lt (by omega), gi_lt (by omega)]
    exact this
theorem merge_valid {l : List Span} (h : ∀ s ∈ l, spanR s = true) : validF (mergeF l) = true := by
  have hn : ∀ s ∈ l, NeS s := fun s hs => (span_inside (h s hs)).2.1
  exact (valid_chain _).2 ⟨merge_chain hn, merge_all hn ok_merge h⟩
theorem span_size {s : Span} (h : spanR s = true) : s.path.size ≤ 128 := by
  unfold spanR pathB at h
  simp only [Bool.and_eq_true, decide_eq_true_eq] at h
  exact h.1.1.1
theorem valid_sizes {a : List Span} (h : validF a = true) : ∀ x ∈ a, x.path.size ≤ 1000000 := fun x hx => by
  have := span_size (valid_span h x hx); omega
theorem has1_iff (s : Span) (x : Line) : has1F s x = true ↔ inSpan s x.path x.n := by
  unfold has1F inSpan
  simp only [Bool.and_eq_true, decide_eq_true_eq, and_assoc]
theorem has_iff {l : List Span} (h : validF l = true) (x : Line) : hasF l x = true ↔ In l x.path x.n := by
  unfold hasF
  rw [h, Bool.and_true, List.any_eq_true]
  unfold In
  constructor
  · rintro ⟨s, hs, h1⟩; exact ⟨s, hs, (has1_iff _ _).1 h1⟩
  · rintro ⟨s, hs, h1⟩; exact ⟨s, hs, (has1_iff _ _).2 h1⟩
theorem linesOf_mem (s : Span) (y : Line) : y ∈ linesOf s ↔ inSpan s y.path y.n := by
  unfold linesOf inSpan
  rw [List.mem_map]
  constructor
  · rintro ⟨i, hi, rfl⟩
    have := List.mem_range.1 hi
    exact ⟨rfl, by simp only; omega, by simp only; omega⟩
  · rintro ⟨h1, h2, h3⟩
    refine ⟨(y.n - s.from_).toNat, List.mem_range.2 (by omega), ?_⟩
    obtain ⟨p, n⟩ := y
    simp only at h1 h2 h3 ⊢
    rw [h1]
    congr 1
    omega
theorem list_mem {l : List Span} (h : validF l = true) (y : Line) : y ∈ listF l ↔ In l y.path y.n := by
  unfold listF In
  rw [if_pos h, List.mem_flatMap]
  constructor
  · rintro ⟨s, hs, h1⟩; exact ⟨s, hs, (linesOf_mem s y).1 h1⟩
  · rintro ⟨s, hs, h1⟩; exact ⟨s, hs, (linesOf_mem s y).2 h1⟩
theorem linesOf_nodup (s : Span) : (linesOf s).Nodup := by
  unfold linesOf
  refine List.Pairwise.map _ (fun i j hij => ?_) List.nodup_range
  intro h
  simp only [Line.mk.injEq, true_and] at h
  exact hij (by omega)
theorem lines_nodup : ∀ {l : List Span}, Chain l → (l.flatMap linesOf).Nodup
  | [], _ => .nil
  | s :: l, hc => by
    obtain ⟨⟨hs, hsl⟩, hc'⟩ := chain_cons.1 hc
    rw [List.flatMap_cons]
    refine List.nodup_append.2 ⟨linesOf_nodup s, lines_nodup hc', fun y hy z hz e => ?_⟩
    subst e
    have h1 := (linesOf_mem s y).1 hy
    obtain ⟨t, ht, h2⟩ := List.mem_flatMap.1 hz
    have h3 := bh_pts (hsl t ht) h1 ((linesOf_mem t y).1 h2)
    rcases h3 with h3 | ⟨_, h3⟩
    · exact sl_irrefl _ h3
    · omega
theorem list_nodup {l : List Span} (h : validF l = true) : (listF l).Nodup := by
  unfold listF
  rw [if_pos h]
  exact lines_nodup ((valid_chain l).1 h).1
theorem nodup_len {a b : List Line} (ha : a.Nodup) (hb : b.Nodup) (h : ∀ y, y ∈ a ↔ y ∈ b) : a.length = b.length := ((List.perm_ext_iff_of_nodup ha hb).2 h).length_eq
theorem linesOf_len (s : Span) : (linesOf s).length = (s.to - s.from_).toNat := by simp [linesOf]
theorem list_count (l : List Span) : ((listF l).length : Int) = countL l := by
  unfold listF countL
  split
  · next hv =>
    have hs := valid_span hv
    clear hv
    induction l with
    | nil => rfl
    | cons s l ih =>
      have h1 := span_inside (hs s (by simp))
      have h2 := ih (fun t ht => hs t (by simp [ht]))
      rw [List.flatMap_cons, List.length_append, linesOf_len, List.map_cons, List.sum_cons, ← h2]
      omega
  · rfl
end Go.Lic

set_option linter.all false
namespace Go.Lic
open Go.Proofs Go.Sort Go.Shelf

theorem wrap8 {n : Int} (h : inL n 256) : IntKind.i64.wrap n = n := wrap_small (by omega)
/-! words -/
theorem words_mem : ∀ {l : List Lexeme} {least : Int}, wordsF least l = true → ∀ w ∈ l, ∃ m, wordF m w = true
  | [], _, _, w, hw => by cases hw
  | x :: l, least, h, w, hw => by
    rw [wordsF, Bool.and_eq_true] at h
    rcases List.mem_cons.1 hw with rfl | hw
    · exact ⟨_, h.1⟩
    · exact words_mem h.2 w hw
theorem word_new {m n : Int} {w : Lexeme} (h : wordF m w = true) (h1 : n < 1024) {k : Int} (hk : k ≤ n) : wordF k ⟨w.text, n⟩ = true := by
  unfold wordF at h ⊢
  simp only [Bool.and_eq_true, decide_eq_true_eq] at h ⊢
  exact ⟨⟨h.1.1, hk⟩, h1⟩
theorem words_snoc : ∀ {l : List Lexeme} {least n : Int} {w : Lexeme}, wordsF least l = true → (∀ x ∈ l, x.line ≤ n) → least ≤ n → (∀ k : Int, k ≤ n → wordF k ⟨w.text, n⟩ = true) → wordsF least (l ++ [⟨w.text, n⟩]) = true
  | [], least, n, w, _, _, h1, h2 => by
    show wordsF least [_] = true
    rw [wordsF, Bool.and_eq_true]
    exact ⟨h2 _ h1, rfl⟩
  | x :: l, least, n, w, h, hl, h1, h2 => by
    rw [wordsF, Bool.and_eq_true] at h
    rw [List.cons_append, wordsF, Bool.and_eq_true]
    exact ⟨h.1, words_snoc h.2 (fun y hy => hl y (by simp [hy])) (hl x (by simp)) h2⟩
theorem words_app {least n : Int} (h1 : least ≤ n) (hn : n < 1024) : ∀ (ys : List Lexeme) {l : List Lexeme}, wordsF least l = true → (∀ x ∈ l, x.line ≤ n) → (∀ w ∈ ys, ∃ m, wordF m w = true) → wordsF least (l ++ ys.map fun w => ⟨w.text, n⟩) = true
  | [], l, h, _, _ => by simpa using h
  | y :: ys, l, h, hl, hy => by
    obtain ⟨m, hm⟩ := hy y (by simp)
    have := words_app h1 hn ys (l := l ++ [⟨y.text, n⟩]) (words_snoc h hl h1 (fun k hk => word_new hm hn hk)) (fun x hx => by
      rcases List.mem_append.1 hx with hx | hx
      · exact hl x hx
      · rw [List.mem_singleton.1 hx]; exact Int.le_refl _) (fun w hw => hy w (by simp [hw]))
    rw [List.append_assoc] at this
    exact this
theorem few_mem {c : Corpus} (h : fewC c = true) {i : Int} (hi : inL i c.texts.length) : (gi c.texts i).words.length ≤ 40 ∧ ∀ w ∈ (gi c.texts i).words, w.text.size ≤ 40 := by
  unfold fewC fewTs fewW at h
  simp only [Bool.and_eq_true, decide_eq_true_eq, List.all_eq_true] at h
  exact (h.1.2 _ (gi_mem hi)).1

/-! a known text -/
theorem lawKnown_ok (c : Corpus) (which : Int) (Q : Bool → Prop) (hp0 : inL which 256) (h : Q (true)) : lawKnown_vc c which Q := by
  unfold lawKnown_vc
  rw [wrap8 hp0]
  refine ⟨nofun, fun _ => ⟨fun hf => fewC_ok hf, fun _ => h, fun hg => ?_⟩⟩
  obtain ⟨⟨hf, hc⟩, hn⟩ := hg
  have hC := fewC_ok hf
  have hk : inL (which % (c.texts.length : Int)) c.texts.length := ⟨Int.emod_nonneg _ (by omega), Int.emod_lt_of_pos _ (by omega)⟩
  generalize which % (c.texts.length : Int) = k at hk ⊢
  have hT : okT (gi c.texts k) := hC.1.2 _ (gi_mem hk)
  refine ⟨⟨hp0.1, by omega⟩, hk, fun _ => h, fun hw => ?_⟩
  obtain ⟨i, a, hi, hil, hp⟩ := known_one hk (by omega)
  have hval : validT (gi c.texts k) = true := ((checkF_iff c).1 hc).val _ (gi_mem hk)
  have hr : rightA c (gi c.texts k) 1 = 0 := by
    unfold rightA rightCT
    rw [hc, hval]; rfl
  have he : attrF c (gi c.texts k) 1 = (⟨(gi c.texts k).path, [⟨0, ((gi c.texts k).words.length : Int), (i : Int), (a : Int)⟩]⟩, 0) := by
    unfold attrF; rw [if_pos hr, show (1 : Int).toNat = 1 from rfl, hp]
  have hA : okA (attrF c (gi c.texts k) 1).1 := okA_attr hT
  have hck : checkA c (gi c.texts k) 1 ⟨(gi c.texts k).path, [⟨0, ((gi c.texts k).words.length : Int), (i : Int), (a : Int)⟩]⟩ = 0 := by
    have := check_found (c := c) (t := gi c.texts k) hr (by omega)
    rwa [show (1 : Int).toNat = 1 from rfl, hp] at this
  rw [he] at hA ⊢
  generalize ht : gi c.texts k = t at *
  have hi2 : inL (i : Int) c.texts.length := by omega
  have g0 : gi [(⟨0, (t.words.length : Int), (i : Int), (a : Int)⟩ : Piece)] 0 = ⟨0, (t.words.length : Int), (i : Int), (a : Int)⟩ := rfl
  have hu : unknownF t ⟨t.path, [⟨0, (t.words.length : Int), (i : Int), (a : Int)⟩]⟩ = ([], 0) := by
    have hrg : rangedF t ⟨0, (t.words.length : Int), (i : Int), (a : Int)⟩ = true := (rangedF_iff _ _).2 ⟨by simp, by simp only; omega, by simp⟩
    have hrl : restL t 0 [⟨0, (t.words.length : Int), (i : Int), (a : Int)⟩] = some [] := by
      unfold restL
      rw [hrg]
      simp [restL, linesW, lsub]
    unfold unknownF
    rw [if_pos hval, if_pos rfl, hrl]
    show ofF [] = ([], 0)
    decide +kernel
  have hm : mainF c t ⟨t.path, [⟨0, (t.words.length : Int), (i : Int), (a : Int)⟩]⟩ 100 = ((gi c.texts (i : Int)).path, true) := by
    have hrc : rightCT c t = true := by unfold rightCT; rw [hc, hval]; rfl
    have hs : shareF c t ⟨t.path, [⟨0, (t.words.length : Int), (i : Int), (a : Int)⟩]⟩ = (si (List.replicate c.texts.length 0) (i : Int) (t.words.length : Int), 0) := by
      unfold shareF
      rw [if_pos hrc, if_pos hck]
      show (si _ _ (gi (List.replicate c.texts.length (0 : Int)) (i : Int) + ((t.words.length : Int) - 0)), (0 : Int)) = _
      rw [gi_rep]; simp
    have hsl : (si (List.replicate c.texts.length (0 : Int)) (i : Int) (t.words.length : Int)).length = c.texts.length := by simp [si]
    have hgi : ∀ j : Int, 0 ≤ j → gi (si (List.replicate c.texts.length (0 : Int)) (i : Int) (t.words.length : Int)) j = if j = (i : Int) then (t.words.length : Int) else 0 := fun j hj => by
      rw [gi_siA (by rw [List.length_replicate]; exact hi2) _ hj, gi_rep]
    have hmx : maxF (si (List.replicate c.texts.length (0 : Int)) (i : Int) (t.words.length : Int)) = (t.words.length : Int) := by
      rw [maxF_at (b := (i : Int)) (by rw [hsl]; exact hi2) (fun j hj => ?_), hgi _ hi2.1, if_pos rfl]
      rw [hgi j hj.1, hgi _ hi2.1, if_pos rfl]
      split <;> omega
    have hfi := (find_first (l := si (List.replicate c.texts.length (0 : Int)) (i : Int) (t.words.length : Int)) (p := fun x => decide (x = (t.words.length : Int))) (b := (i : Int)) (by rw [hsl]; exact hi2) (by rw [hgi _ hi2.1, if_pos rfl]; simp) (fun j h0 hj => by rw [hgi j h0, if_neg (by omega)]; simp; omega)).1
    unfold mainF
    rw [hs, if_pos ⟨rfl, by rw [hsl]; omega, by omega, by omega⟩, hmx, if_neg (by omega), hfi]
  rw [hu, hm]
  refine ⟨hC, hT, fun _ => ⟨by omega, by simp⟩, fun _ => ⟨by omega, by simp⟩, fun _ => ⟨by omega, by simp⟩, fun _ => ⟨by omega, by simp⟩, fun hb => ?_, fun _ => ⟨hT, hA, hC, hT, hA, fun _ => ⟨⟨by omega, by simp⟩, hi2⟩, Q_true (by simp [g0]) h⟩⟩
  exfalso; simp [g0] at hb; omega

/-! a text made of runs -/
theorem lawAssembled_ok (c : Corpus) (runs : (List Piece)) (least : Int) (Q : Bool → Prop) (hp0 : inL least 256) (h : Q (true)) : lawAssembled_vc c runs least Q := by
  unfold lawAssembled_vc
  have hw8 := wrap8 hp0
  refine ⟨nofun, fun _ => ⟨⟨by omega, by omega⟩, by rw [hw8]; omega, fun hf => fewC_ok hf.1, fun _ => h, fun hg => ?_⟩⟩
  obtain ⟨⟨⟨hf, hr8⟩, hc⟩, hn⟩ := hg
  have hC := fewC_ok hf
  have hG := (checkF_iff c).1 hc
  have hL0 : 1 ≤ 1 + IntKind.i64.wrap least % 4 ∧ 1 + IntKind.i64.wrap least % 4 ≤ 8192 := by omega
  refine lfp3 (lawAssembled_L1 c runs least Q) (fun xs many x => 0 ≤ x ∧ x ≤ runs.length ∧ 0 ≤ many ∧ many ≤ x ∧ (xs.length : Int) ≤ 40 * x ∧ (∀ w ∈ xs, w.text.size ≤ 40 ∧ w.line ≤ many) ∧ wordsF 0 xs = true ∧ ∃ ps, Made c (1 + IntKind.i64.wrap least % 4) xs many ps) (fun _ _ x => (runs.length - x).toNat) (fun xs many x hst again hag => ?_)
    ⟨by omega, by omega, by omega, by omega, by simp, (fun w hw => by cases hw), rfl, [], ⟨rfl, rfl, rfl⟩⟩
  obtain ⟨x0, x1, m0, m1, xl, xw, xv, ps, hM⟩ := hst
  unfold lawAssembled_L1
  generalize hL : 1 + IntKind.i64.wrap least % 4 = L at hL0 hM hag ⊢
  refine ⟨fun hlt => ?_, fun hnl => ?_⟩
  · have hb1 : 0 ≤ gmax (gi runs x).text [0] := by rw [gmax1]; omega
    have hb2 : 0 ≤ gmax (gi runs x).from_ [0] := by rw [gmax1]; omega
    have hb3 : 0 ≤ gmax (gi runs x).to [0] := by rw [gmax1]; omega
    have hk : inL (gmax (gi runs x).text [0] % (c.texts.length : Int)) c.texts.length := ⟨Int.emod_nonneg _ (by omega), Int.emod_lt_of_pos _ (by omega)⟩
    generalize e1 : gmax (gi runs x).text [0] = g1 at hb1 hk ⊢
    generalize e2 : gmax (gi runs x).from_ [0] = g2 at hb2 ⊢
    generalize e3 : gmax (gi runs x).to [0] = g3 at hb3 ⊢
    generalize e4 : g1 % (c.texts.length : Int) = k at hk ⊢
    have hfw := few_mem hf hk
    have hval := hG.val _ (gi_mem hk)
    have hf0 : 0 ≤ g2 % (((gi c.texts k).words.length : Int) + 1) ∧ g2 % (((gi c.texts k).words.length : Int) + 1) ≤ (gi c.texts k).words.length := ⟨Int.emod_nonneg _ (by omega), by have := Int.emod_lt_of_pos g2 (show (0 : Int) < ((gi c.texts k).words.length : Int) + 1 by omega); omega⟩
    generalize e5 : g2 % (((gi c.texts k).words.length : Int) + 1) = f at hf0 ⊢
    have hm0 : f ≤ f + g3 % ((((gi c.texts k).words.length : Int) - f) + 1) ∧ f + g3 % ((((gi c.texts k).words.length : Int) - f) + 1) ≤ (gi c.texts k).words.length := ⟨by have := Int.emod_nonneg g3 (show (((gi c.texts k).words.length : Int) - f) + 1 ≠ 0 by omega); omega, by have := Int.emod_lt_of_pos g3 (show (0 : Int) < (((gi c.texts k).words.length : Int) - f) + 1 by omega); omega⟩
    generalize e6 : f + g3 % ((((gi c.texts k).words.length : Int) - f) + 1) = e at hm0 ⊢
    have hsl : (lsub (gi c.texts k).words f e).length = (e - f).toNat := lsub_length ⟨hf0.1, hm0.1, hm0.2⟩
    refine ⟨by omega, ⟨hb1, by omega⟩, hk, by omega, ⟨hb2, by omega⟩, by omega, by omega, ⟨hb3, by omega⟩, by omega, by omega, fun _ => ⟨by omega, hag _ _ _ ⟨by omega, by omega, m0, by omega, by omega, xw, xv, ps, hM⟩ (by omega)⟩, fun hge => ⟨by omega, ⟨hf0.1, hm0.1, hm0.2⟩, ?_⟩⟩
    have hsub : ∀ w ∈ lsub (gi c.texts k).words f e, w ∈ (gi c.texts k).words := fun w hw => List.mem_of_mem_take (List.mem_of_mem_drop hw)
    refine lfp2 (lawAssembled_L2 c runs many x again) (fun xs1 x1 => 0 ≤ x1 ∧ x1 ≤ (lsub (gi c.texts k).words f e).length ∧ (xs1.length : Int) = xs.length + x1 ∧ xs1 = xs ++ ((lsub (gi c.texts k).words f e).take x1.toNat).map fun w => ⟨w.text, many + 1⟩) (fun _ x1 => ((lsub (gi c.texts k).words f e).length - x1).toNat) (fun xs1 x1 hst again10 hag10 => ?_) ⟨by omega, by omega, by omega, by simp⟩
    obtain ⟨y0, y1, y2, y3⟩ := hst
    unfold lawAssembled_L2
    simp only [e1, e2, e3, e4, e5, e6]
    refine ⟨fun hl => ?_, fun hnl => ?_⟩
    · have hx1 : inL x1 (lsub (gi c.texts k).words f e).length := by omega
      refine ⟨hx1, ⟨by simp only [List.length_singleton]; omega, by simp only [List.length_singleton]; omega⟩, by omega, hag10 _ _ ⟨by omega, by omega, by simp only [List.length_append, List.length_singleton]; omega, ?_⟩ (by omega)⟩
      rw [y3, show (x1 + 1).toNat = x1.toNat + 1 by omega, List.take_succ_eq_append_getElem (by omega), List.map_append, gi_lt hx1, List.append_assoc]; rfl
    · rw [List.take_of_length_le (by omega)] at y3
      refine ⟨by omega, ?_⟩
      rw [y3]
      refine hag _ _ _ ⟨by omega, by omega, by omega, by omega, by simp only [List.length_append, List.length_map]; omega, fun w hw => ?_, words_app (by omega) (by omega) _ xv (fun w hw => by have := xw w hw; omega) (fun w hw => words_mem (valid_parts hval).2.2 w (hsub w hw)), _, hM.step hk hf0.1 hm0.1 hm0.2 (by omega) hL0.1 (by simp)⟩ (by omega)
      rcases List.mem_append.1 hw with hw | hw
      · have := xw w hw; omega
      · obtain ⟨v, hv, rfl⟩ := List.mem_map.1 hw
        have := hfw.2 v (hsub v hv)
        exact ⟨this, by simp only; omega⟩
  · have hT : okT ⟨⟨#[116]⟩, xs⟩ := ⟨(by decide : (⟨#[116]⟩ : ByteArray).size ≤ 1000000), by show xs.length ≤ 1000000; omega, fun w hw => by have := xw w hw; omega⟩
    have hv : validT ⟨⟨#[116]⟩, xs⟩ = true := by
      unfold validT
      rw [Bool.and_eq_true, Bool.and_eq_true, decide_eq_true_eq]
      exact ⟨⟨by show xs.length ≤ 8192; omega, (by decide +kernel : pathB (⟨#[116]⟩ : ByteArray) = true)⟩, xv⟩
    have hr : rightA c ⟨⟨#[116]⟩, xs⟩ L = 0 := by
      unfold rightA rightCT
      rw [hc, hv, if_pos (by rfl), if_pos hL0]
    have he : attrF c ⟨⟨#[116]⟩, xs⟩ L = (⟨⟨#[116]⟩, piecesF c ⟨⟨#[116]⟩, xs⟩ L.toNat⟩, 0) := by unfold attrF; rw [if_pos hr]
    obtain ⟨k1, k2⟩ := made_found hM hL0.1 ⟨#[116]⟩
    refine ⟨hC, hT, fun _ => okV_attr (by show xs.length ≤ 1000000; omega), Q_true ?_ h⟩
    rw [he]
    simp only [Bool.and_eq_true, decide_eq_true_eq, beq_iff_eq]
    exact ⟨⟨trivial, k1⟩, k2⟩
end Go.Lic
