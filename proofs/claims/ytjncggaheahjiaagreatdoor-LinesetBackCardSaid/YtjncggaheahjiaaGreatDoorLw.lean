/-
  Sets of lines: the laws, over plain data.
-/
import Derived.Test.YtjncggaheahjiaaGreatDoorLo1
set_option linter.all false
namespace Go.Lic
open Go.Proofs Go.Sort Go.Shelf
theorem ok_merge (t s : Span) (h1 : spanR t = true) (h2 : spanR s = true) : spanR ⟨t.path, t.from_, max t.to s.to⟩ = true := by
 rw [span_path] at *
 refine ⟨h1.1, ?_⟩
 have a := h1.2; have b := h2.2
 unfold insideF at *
 simp only [Bool.and_eq_true, decide_eq_true_eq] at *
 omega
theorem merge_valid {l : List Span} (h : ∀ s ∈ l, spanR s = true) : validF (mergeF l) = true := by
 have hn : ∀ s ∈ l, NeS s := fun s hs => (span_inside (h s hs)).2.1
 exact (valid_chain _).2 ⟨merge_chain hn, merge_all hn ok_merge h⟩
theorem valid_sizes {a : List Span} (h : validF a = true) : ∀ x ∈ a, x.path.size ≤ 1000000 := fun x hx => by
 have := span_size (valid_span h x hx); omega
theorem valid_ext {a b : List Span} (ha : validF a = true) (hb : validF b = true) (h : ∀ p n, In a p n ↔ In b p n) : a = b := chain_ext ((valid_chain a).1 ha).1 ((valid_chain b).1 hb).1 h
theorem few_len {l : List Span} (h : fewF l = true) : l.length ≤ 12 ∧ ∀ x ∈ l, x.path.size ≤ 1000000 := by
 unfold fewF at h
 simp only [Bool.and_eq_true, decide_eq_true_eq, List.all_eq_true] at h
 exact ⟨h.1, fun x hx => by have := h.2 x hx; omega⟩
theorem list_len {l : List Span} (h : l.length ≤ 100) : ((listF l).length : Int) ≤ 200000 := by
 rw [list_count]
 unfold countL
 split
 · next hv =>
   have hs := valid_span hv
   have : ∀ l : List Span, (∀ s ∈ l, spanR s = true) → (l.map fun s => s.to - s.from_).sum ≤ 1024 * l.length := by
     intro l
     induction l with
     | nil => intro _; simp
     | cons s l ih =>
       intro hs
       have h1 := span_inside (hs s (by simp))
       have h2 := ih (fun t ht => hs t (by simp [ht]))
       rw [List.map_cons, List.sum_cons, List.length_cons]
       omega
   have := this l hs
   omega
 · omega
end Go.Lic
set_option linter.all false
namespace Go.Lic
open Go.Proofs Go.Sort Go.Shelf
theorem linesOf_mem (s : Span) (y : Line) : y ∈ linesOf s ↔ inSpan s y.path y.n := by
 unfold linesOf inSpan
 rw [List.mem_map]
 constructor
 · rintro ⟨i, hi, rfl⟩
   have := List.mem_range.1 hi
   exact ⟨rfl, by simp only; omega, by simp only; omega⟩
 · rintro ⟨h1, h2, h3⟩
   refine ⟨(y.n - s.from_).toNat, List.mem_range.2 (by omega), ?_⟩
   obtain ⟨p, n⟩ := y
   simp only at h1 h2 h3 ⊢
   rw [h1]
   congr 1
   omega
theorem list_mem {l : List Span} (h : validF l = true) (y : Line) : y ∈ listF l ↔ In l y.path y.n := by
 unfold listF In
 rw [if_pos h, List.mem_flatMap]
 constructor
 · rintro ⟨s, hs, h1⟩; exact ⟨s, hs, (linesOf_mem s y).1 h1⟩
 · rintro ⟨s, hs, h1⟩; exact ⟨s, hs, (linesOf_mem s y).2 h1⟩
theorem awake_of : ofF [⟨⟨#[97, 47, 120]⟩, 3⟩, ⟨⟨#[97, 47, 121]⟩, 0⟩, ⟨⟨#[97, 47, 120]⟩, 1⟩, ⟨⟨#[97, 47, 120]⟩, 2⟩] = ([⟨⟨#[97, 47, 120]⟩, 1, 4⟩, ⟨⟨#[97, 47, 121]⟩, 0, 1⟩], 0) := by decide +kernel
theorem awake_minus : minusF [⟨⟨#[97, 47, 120]⟩, 1, 4⟩, ⟨⟨#[97, 47, 121]⟩, 0, 1⟩] [⟨⟨#[97, 47, 120]⟩, 2, 3⟩] = ([⟨⟨#[97, 47, 120]⟩, 1, 2⟩, ⟨⟨#[97, 47, 120]⟩, 3, 4⟩, ⟨⟨#[97, 47, 121]⟩, 0, 1⟩], 0) := by decide +kernel
theorem awake_print : printF [⟨⟨#[97, 47, 120]⟩, 1, 4⟩, ⟨⟨#[97, 47, 121]⟩, 0, 1⟩] = (⟨#[97, 47, 120, 32, 49, 32, 52, 10, 97, 47, 121, 32, 48, 32, 49, 10]⟩, 0) := by decide +kernel
theorem awake_under : underF [⟨⟨#[97, 47, 120]⟩, 1, 4⟩, ⟨⟨#[97, 47, 121]⟩, 0, 1⟩] ⟨#[97, 47, 120]⟩ = ([], 0) := by decide +kernel
theorem awake_count : countL [⟨⟨#[97, 47, 120]⟩, 1, 4⟩, ⟨⟨#[97, 47, 121]⟩, 0, 1⟩] = 4 := by decide +kernel
theorem awake_has : hasF [⟨⟨#[97, 47, 120]⟩, 1, 4⟩, ⟨⟨#[97, 47, 121]⟩, 0, 1⟩] ⟨⟨#[97, 47, 121]⟩, 0⟩ = true := by decide +kernel
theorem sizes2 : ∀ x ∈ ([⟨⟨#[97, 47, 120]⟩, 1, 4⟩, ⟨⟨#[97, 47, 121]⟩, 0, 1⟩] : List Span), x.path.size ≤ 1000000 := by decide +kernel
theorem sizes1 : ∀ x ∈ ([⟨⟨#[97, 47, 120]⟩, 2, 3⟩] : List Span), x.path.size ≤ 1000000 := by decide +kernel
theorem sizes4 : ∀ x ∈ ([⟨⟨#[97, 47, 120]⟩, 3⟩, ⟨⟨#[97, 47, 121]⟩, 0⟩, ⟨⟨#[97, 47, 120]⟩, 1⟩, ⟨⟨#[97, 47, 120]⟩, 2⟩] : List Line), x.path.size ≤ 1000000 := by decide +kernel
theorem awake_ok (Q : Bool → Prop)  (h : Q (true)) : awake_vc  Q := by
 unfold awake_vc
 rw [awake_of]
 simp only
 rw [awake_minus, awake_print, awake_under, awake_count, awake_has]
 refine ⟨by decide, sizes4, by decide, by decide, sizes2, sizes1, by decide, sizes2, by decide, sizes2, by decide, fun _ => ⟨by decide, sizes2⟩, fun _ => by decide, fun _ => ⟨by decide, sizes2⟩, ?_⟩
 exact h
end Go.Lic
set_option linter.all false
namespace Go.Lic
open Go.Proofs Go.Sort Go.Shelf
end Go.Lic
