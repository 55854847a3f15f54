/-
  Sets of lines: the laws, over plain data.
-/
import Derived.Test.YtciihmjdccecgaaDoorLo1
set_option linter.all false
namespace Go.Lic
open Go.Proofs Go.Sort Go.Shelf

/-! what unions, meets and differences are -/
theorem ok_merge (t s : Span) (h1 : spanR t = true) (h2 : spanR s = true) : spanR ⟨t.path, t.from_, max t.to s.to⟩ = true := by
  rw [span_path] at *
  refine ⟨h1.1, ?_⟩
  have a := h1.2; have b := h2.2
  unfold insideF at *
  simp only [Bool.and_eq_true, decide_eq_true_eq] at *
  omega
theorem valid_ne {a : List Span} (h : validF a = true) : ∀ s ∈ a, NeS s := ((valid_chain a).1 h).1.ne
theorem merge_valid {l : List Span} (h : ∀ s ∈ l, spanR s = true) : validF (mergeF l) = true := by
  have hn : ∀ s ∈ l, NeS s := fun s hs => (span_inside (h s hs)).2.1
  exact (valid_chain _).2 ⟨merge_chain hn, merge_all hn ok_merge h⟩
theorem union_valid {a b : List Span} (ha : validF a = true) (hb : validF b = true) : validF (mergeF (a ++ b)) = true := by
  refine merge_valid fun s hs => ?_
  rcases List.mem_append.1 hs with hs | hs
  · exact valid_span ha s hs
  · exact valid_span hb s hs
theorem union_in {a b : List Span} (ha : validF a = true) (hb : validF b = true) (p : ByteArray) (n : Int) : In (mergeF (a ++ b)) p n ↔ In a p n ∨ In b p n := by
  rw [merge_in, in_app]
  intro s hs
  rcases List.mem_append.1 hs with hs | hs
  · exact valid_ne ha s hs
  · exact valid_ne hb s hs
theorem sub_ok {a : List Span} (ha : validF a = true) {l : List Span} (hc : Chain l) (h : ∀ u ∈ l, ∃ s ∈ a, u.path = s.path ∧ s.from_ ≤ u.from_ ∧ u.to ≤ s.to) : validF l = true := by
  refine (valid_chain _).2 ⟨hc, fun u hu => ?_⟩
  obtain ⟨s, hs, h1, h2, h3⟩ := h u hu
  have h4 := span_path.1 (valid_span ha s hs)
  have h5 := hc.ne u hu
  unfold NeS at h5
  refine span_path.2 ⟨by rw [h1]; exact h4.1, ?_⟩
  have := h4.2
  unfold insideF at *
  simp only [Bool.and_eq_true, decide_eq_true_eq] at *
  omega
theorem meet_valid {a b : List Span} (ha : validF a = true) (hb : validF b = true) : validF (commonF a b) = true :=
  sub_ok ha (common_chain ((valid_chain a).1 ha).1 ((valid_chain b).1 hb).1) (common_sub a b)
theorem meet_in {a b : List Span} (ha : validF a = true) (hb : validF b = true) (p : ByteArray) (n : Int) : In (commonF a b) p n ↔ In a p n ∧ In b p n := common_in ((valid_chain a).1 ha).1 ((valid_chain b).1 hb).1 p n
theorem minus_all {a b : List Span} (ha : validF a = true) (hb : validF b = true) : validF (minusL a (commonF a b)) = true ∧ ∀ p n, In (minusL a (commonF a b)) p n ↔ In a p n ∧ ¬ In b p n := by
  have h := minus_facts a (commonF a b) ((valid_chain a).1 ha).1 (common_chain ((valid_chain a).1 ha).1 ((valid_chain b).1 hb).1) (common_sub a b)
  refine ⟨sub_ok ha h.1 h.2.1, fun p n => ?_⟩
  rw [h.2.2, meet_in ha hb]
  constructor
  · rintro ⟨h1, h2⟩; exact ⟨h1, fun h3 => h2 ⟨h1, h3⟩⟩
  · rintro ⟨h1, h2⟩; exact ⟨h1, fun h3 => h2 h3.2⟩
theorem unionF_eq {a b : List Span} (ha : validF a = true) (hb : validF b = true) : unionF a b = (mergeF (a ++ b), 0) := by unfold unionF; rw [ha, hb]; rfl
theorem meetF_eq {a b : List Span} (ha : validF a = true) (hb : validF b = true) : meetF a b = (commonF a b, 0) := by unfold meetF; rw [ha, hb]; rfl
theorem minusF_eq {a b : List Span} (ha : validF a = true) (hb : validF b = true) : minusF a b = (minusL a (commonF a b), 0) := by unfold minusF; rw [ha, hb]; rfl
theorem union_len (a b : List Span) : (mergeF (a ++ b)).length ≤ a.length + b.length := by
  have := merge_len (a ++ b); simpa using this
theorem minus_len (a b : List Span) : (minusL a (commonF a b)).length ≤ 2 * a.length + b.length := by
  have h1 := minusL_len a (commonF a b); have h2 := common_len a b; omega
theorem valid_sizes {a : List Span} (h : validF a = true) : ∀ x ∈ a, x.path.size ≤ 1000000 := fun x hx => by
  have := span_size (valid_span h x hx); omega
theorem valid_ext {a b : List Span} (ha : validF a = true) (hb : validF b = true) (h : ∀ p n, In a p n ↔ In b p n) : a = b := chain_ext ((valid_chain a).1 ha).1 ((valid_chain b).1 hb).1 h
/-! the laws' conditions -/
theorem few_len {l : List Span} (h : fewF l = true) : l.length ≤ 12 ∧ ∀ x ∈ l, x.path.size ≤ 1000000 := by
  unfold fewF at h
  simp only [Bool.and_eq_true, decide_eq_true_eq, List.all_eq_true] at h
  exact ⟨h.1, fun x hx => by have := h.2 x hx; omega⟩
end Go.Lic

set_option linter.all false
namespace Go.Lic
open Go.Proofs Go.Sort Go.Shelf

/-! the lines of a set -/
/-! the example of the chapter -/
theorem awake_of : ofF [⟨⟨#[97, 47, 120]⟩, 3⟩, ⟨⟨#[97, 47, 121]⟩, 0⟩, ⟨⟨#[97, 47, 120]⟩, 1⟩, ⟨⟨#[97, 47, 120]⟩, 2⟩] = ([⟨⟨#[97, 47, 120]⟩, 1, 4⟩, ⟨⟨#[97, 47, 121]⟩, 0, 1⟩], 0) := by decide +kernel
theorem awake_minus : minusF [⟨⟨#[97, 47, 120]⟩, 1, 4⟩, ⟨⟨#[97, 47, 121]⟩, 0, 1⟩] [⟨⟨#[97, 47, 120]⟩, 2, 3⟩] = ([⟨⟨#[97, 47, 120]⟩, 1, 2⟩, ⟨⟨#[97, 47, 120]⟩, 3, 4⟩, ⟨⟨#[97, 47, 121]⟩, 0, 1⟩], 0) := by decide +kernel
theorem awake_print : printF [⟨⟨#[97, 47, 120]⟩, 1, 4⟩, ⟨⟨#[97, 47, 121]⟩, 0, 1⟩] = (⟨#[97, 47, 120, 32, 49, 32, 52, 10, 97, 47, 121, 32, 48, 32, 49, 10]⟩, 0) := by decide +kernel
theorem awake_under : underF [⟨⟨#[97, 47, 120]⟩, 1, 4⟩, ⟨⟨#[97, 47, 121]⟩, 0, 1⟩] ⟨#[97, 47, 120]⟩ = ([], 0) := by decide +kernel
theorem awake_count : countL [⟨⟨#[97, 47, 120]⟩, 1, 4⟩, ⟨⟨#[97, 47, 121]⟩, 0, 1⟩] = 4 := by decide +kernel
theorem awake_has : hasF [⟨⟨#[97, 47, 120]⟩, 1, 4⟩, ⟨⟨#[97, 47, 121]⟩, 0, 1⟩] ⟨⟨#[97, 47, 121]⟩, 0⟩ = true := by decide +kernel
theorem sizes2 : ∀ x ∈ ([⟨⟨#[97, 47, 120]⟩, 1, 4⟩, ⟨⟨#[97, 47, 121]⟩, 0, 1⟩] : List Span), x.path.size ≤ 1000000 := by decide +kernel
theorem sizes1 : ∀ x ∈ ([⟨⟨#[97, 47, 120]⟩, 2, 3⟩] : List Span), x.path.size ≤ 1000000 := by decide +kernel
theorem sizes4 : ∀ x ∈ ([⟨⟨#[97, 47, 120]⟩, 3⟩, ⟨⟨#[97, 47, 121]⟩, 0⟩, ⟨⟨#[97, 47, 120]⟩, 1⟩, ⟨⟨#[97, 47, 120]⟩, 2⟩] : List Line), x.path.size ≤ 1000000 := by decide +kernel
theorem awake_ok  (Q : Bool → Prop)  (h : Q (true)) : awake_vc  Q := by
  unfold awake_vc
  rw [awake_of]
  simp only
  rw [awake_minus, awake_print, awake_under, awake_count, awake_has]
  refine ⟨by decide, sizes4, by decide, by decide, sizes2, sizes1, by decide, sizes2, by decide, sizes2, by decide, fun _ => ⟨by decide, sizes2⟩, fun _ => by decide, fun _ => ⟨by decide, sizes2⟩, ?_⟩
  exact h
end Go.Lic

set_option linter.all false
namespace Go.Lic
open Go.Proofs Go.Sort Go.Shelf

theorem vU {a b : List Span} (ha : validF a = true) (hb : validF b = true) : validF (unionF a b).1 = true := by rw [unionF_eq ha hb]; exact union_valid ha hb
theorem vM {a b : List Span} (ha : validF a = true) (hb : validF b = true) : validF (meetF a b).1 = true := by rw [meetF_eq ha hb]; exact meet_valid ha hb
theorem vD {a b : List Span} (ha : validF a = true) (hb : validF b = true) : validF (minusF a b).1 = true := by rw [minusF_eq ha hb]; exact (minus_all ha hb).1
theorem iU {a b : List Span} (ha : validF a = true) (hb : validF b = true) (p : ByteArray) (n : Int) : In (unionF a b).1 p n ↔ In a p n ∨ In b p n := by rw [unionF_eq ha hb]; exact union_in ha hb p n
theorem iM {a b : List Span} (ha : validF a = true) (hb : validF b = true) (p : ByteArray) (n : Int) : In (meetF a b).1 p n ↔ In a p n ∧ In b p n := by rw [meetF_eq ha hb]; exact meet_in ha hb p n
theorem iD {a b : List Span} (ha : validF a = true) (hb : validF b = true) (p : ByteArray) (n : Int) : In (minusF a b).1 p n ↔ In a p n ∧ ¬ In b p n := by rw [minusF_eq ha hb]; exact (minus_all ha hb).2 p n
theorem lU {a b : List Span} (ha : validF a = true) (hb : validF b = true) : (unionF a b).1.length ≤ a.length + b.length := by rw [unionF_eq ha hb]; exact union_len a b
theorem lM {a b : List Span} (ha : validF a = true) (hb : validF b = true) : (meetF a b).1.length ≤ a.length + b.length := by rw [meetF_eq ha hb]; exact common_len a b
theorem lD {a b : List Span} (ha : validF a = true) (hb : validF b = true) : (minusF a b).1.length ≤ 2 * a.length + b.length := by rw [minusF_eq ha hb]; exact minus_len a b
theorem unionK_ok (x y : List Span) (Q : List Span → Prop) (ha : validF x = true) (hb : validF y = true) (hla : x.length ≤ 1000) (hlb : y.length ≤ 1000) (h : Q (unionF x y).1) : unionK_vc x y Q :=
  ⟨by omega, by omega, valid_sizes ha, valid_sizes hb, by rw [unionF_eq ha hb], h⟩
theorem meetK_ok (x y : List Span) (Q : List Span → Prop) (ha : validF x = true) (hb : validF y = true) (hla : x.length ≤ 1000) (hlb : y.length ≤ 1000) (h : Q (meetF x y).1) : meetK_vc x y Q :=
  ⟨by omega, by omega, valid_sizes ha, valid_sizes hb, by rw [meetF_eq ha hb], h⟩
theorem minusK_ok (x y : List Span) (Q : List Span → Prop) (ha : validF x = true) (hb : validF y = true) (hla : x.length ≤ 1000) (hlb : y.length ≤ 1000) (h : Q (minusF x y).1) : minusK_vc x y Q :=
  ⟨by omega, by omega, valid_sizes ha, valid_sizes hb, by rw [minusF_eq ha hb], h⟩
theorem lawLaws_ok (a b c : List Span) (Q : Bool → Prop) (h : Q true) : lawLaws_vc a b c Q := by
  refine ⟨nofun, fun _ => ⟨fun hc => ?_, fun hc => ?_, fun hc => ?_, fun _ => h, fun hc => ?_⟩⟩
  · have := few_len hc.1.1; exact ⟨by omega, this.2⟩
  · have := few_len hc.1.1.2; exact ⟨by omega, this.2⟩
  · have := few_len hc.1.1.2; exact ⟨by omega, this.2⟩
  obtain ⟨⟨⟨⟨⟨fa, fb⟩, fc⟩, va⟩, vb⟩, vc⟩ := hc
  have la := (few_len fa).1
  have lb := (few_len fb).1
  have lc := (few_len fc).1
  have vab := vU va vb; have vba := vU vb va; have vbc := vU vb vc; have vaa := vU va va
  have mab := vM va vb; have mba := vM vb va; have mac := vM va vc
  have dab := vD va vb
  have l1 := lU va vb; have l2 := lU vb va; have l3 := lU vb vc; have l4 := lU va va
  have l5 := lM va vb; have l6 := lM vb va; have l7 := lM va vc
  have l8 := lD va vb
  have l9 := lU va vbc; have l10 := lM va vbc; have l11 := lD va vbc; have l12 := lU dab mab; have l13 := lM va vab
  have e1 : (unionF a b).1 = (unionF b a).1 := valid_ext vab vba fun p n => by rw [iU va vb, iU vb va]; exact Or.comm
  have e2 : (meetF a b).1 = (meetF b a).1 := valid_ext mab mba fun p n => by rw [iM va vb, iM vb va]; exact And.comm
  have e3 : (unionF a (unionF b c).1).1 = (unionF (unionF a b).1 c).1 := valid_ext (vU va vbc) (vU vab vc) fun p n => by rw [iU va vbc, iU vb vc, iU vab vc, iU va vb, or_assoc]
  have e4 : (meetF a (unionF b c).1).1 = (unionF (meetF a b).1 (meetF a c).1).1 := valid_ext (vM va vbc) (vU mab mac) fun p n => by rw [iM va vbc, iU vb vc, iU mab mac, iM va vb, iM va vc]; exact and_or_left
  have e5 : (minusF a (unionF b c).1).1 = (minusF (minusF a b).1 c).1 := valid_ext (vD va vbc) (vD dab vc) fun p n => by rw [iD va vbc, iU vb vc, iD dab vc, iD va vb, not_or, and_assoc]
  have e6 : (unionF (minusF a b).1 (meetF a b).1).1 = a := valid_ext (vU dab mab) va fun p n => by
    rw [iU dab mab, iD va vb, iM va vb]
    constructor
    · rintro (h | h) <;> exact h.1
    · intro h
      by_cases h2 : In b p n
      · exact .inr ⟨h, h2⟩
      · exact .inl ⟨h, h2⟩
  have e7 : (meetF a (unionF a b).1).1 = a := valid_ext (vM va vab) va fun p n => by
    rw [iM va vab, iU va vb]
    exact ⟨fun h => h.1, fun h => ⟨h, .inl h⟩⟩
  have e8 : (unionF a a).1 = a := valid_ext vaa va fun p n => by rw [iU va va, or_self]
  have e9 : (minusF a a).1 = [] := valid_ext (vD va va) rfl fun p n => by
    rw [iD va va]
    exact ⟨fun h => absurd h.1 h.2, fun h => absurd h (in_nil _ _)⟩
  repeat' (first | apply And.intro | intro _)
  all_goals first | assumption | omega | skip
  rw [decide_eq_true e1, decide_eq_true e2, decide_eq_true e3, decide_eq_true e4, decide_eq_true e5, decide_eq_true e6, decide_eq_true e7, decide_eq_true e8, e9]
  exact h
end Go.Lic
