/-
  Loops that count.
-/
import Derived.Test.YthggcjnmodeehaaGo
set_option linter.all false
namespace Go.Lic

/-- A loop that passes through given states, in order. -/
theorem lfp_seq {S : Type} {body : (S → Prop) → S → Prop} (n : Nat) (st : Nat → S) (round : ∀ i, i < n → ∀ again : S → Prop, again (st (i + 1)) → body again (st i)) (last : ∀ again : S → Prop, body again (st n)) : lfp body (st 0) := by
  intro I hI
  have : ∀ k, k ≤ n → I (st (n - k)) := by
    intro k
    induction k with
    | zero => intro _; exact hI _ (last I)
    | succ k ih =>
      intro hk
      refine hI _ (round _ (by omega) I ?_)
      have := ih (by omega)
      rwa [show n - (k + 1) + 1 = n - k by omega]
  simpa using this n (Nat.le_refl n)
/-- A loop that counts in its last variable. -/
theorem lfp_for {S : Type} {body : (S × Int → Prop) → S × Int → Prop} (n : Nat) (st : Nat → S) (round : ∀ i : Nat, i < n → ∀ again : S × Int → Prop, again (st (i + 1), (i : Int) + 1) → body again (st i, (i : Int))) (last : ∀ again : S × Int → Prop, body again (st n, (n : Int))) : lfp body (st 0, 0) :=
  lfp_seq (S := S × Int) n (fun i => (st i, (i : Int))) round last
theorem lfp_for1 {body : (Int → Prop) → Int → Prop} (n : Nat) (round : ∀ i : Nat, i < n → ∀ again : Int → Prop, again ((i : Int) + 1) → body again (i : Int)) (last : ∀ again : Int → Prop, body again (n : Int)) : lfp body 0 :=
  lfp_seq (S := Int) n (fun i => (i : Int)) round last
/-- What a counting loop has made after n rounds. -/
def fori {S : Type} (f : S → Nat → S) (s : S) (n : Nat) : S := (List.range n).foldl f s
@[simp] theorem fori_zero {S : Type} (f : S → Nat → S) (s : S) : fori f s 0 = s := rfl
theorem fori_succ {S : Type} (f : S → Nat → S) (s : S) (n : Nat) : fori f s (n + 1) = f (fori f s n) n := by simp [fori, List.range_succ]
theorem fori_inv {S : Type} {f : S → Nat → S} {s : S} (P : S → Prop) (h0 : P s) (h1 : ∀ s i, P s → P (f s i)) (n : Nat) : P (fori f s n) := by
  induction n with
  | zero => exact h0
  | succ n ih => rw [fori_succ]; exact h1 _ _ ih
theorem fori_len {α : Type} {f : List α → Nat → List α} {s : List α} (h1 : ∀ s i, (f s i).length = s.length) (n : Nat) : (fori f s n).length = s.length :=
  fori_inv (fun t : List α => t.length = s.length) rfl (fun t i h => by rw [h1, h]) n
theorem wrap_nn {k : IntKind} (hk : k.signed = false) (n : Int) : 0 ≤ k.wrap n := by
  cases k <;> simp [IntKind.signed] at hk <;> simp [IntKind.wrap, IntKind.signed, IntKind.bits] <;> omega
end Go.Lic
