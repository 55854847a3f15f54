/- The law DigestPermutations returns true whatever its arguments are, and each argument reads behind the call as it read before. -/
import Derived.Test.YtchidogjhgelpaaV5
import Derived.Test.YtchidogjhgelpaaRead3
import Derived.Test.YtchidogjhgelpaaRows
import Derived.KernelRfl
set_option linter.all false
namespace Go.Proofs.Ytchidogjhgelpaa.LawP3
open Go Go.Proofs.Ytchidogjhgelpaa Go.Lic Go.ChangeShapes Go.WideShapes Go.ChangeAt Go.RowKit

theorem rd26 : Reads Try.prog 26 25 (fun a : {l : List Int // l.length = 25 ∧ ∀ x ∈ l, inK .u64 x} => encArr 25 (D.k .u64) a.1) := .arrInt (e := 25) (by kernel_rfl) (by kernel_rfl) (by kernel_rfl) (by kernel_rfl)
theorem und26 : Try.prog.underlying 26 = some (.array 25 25) := by kernel_rfl
theorem und4 : Try.prog.underlying 4 = some .bool := by kernel_rfl
theorem laid : laidOutB Try.prog = true := by kernel_rfl
theorem ownK : ownKnob Try.prog.godebug = none := by kernel_rfl

set_option maxRecDepth 100000 in
theorem digestPermutations_lifted (os : Os) (started : os.Started) (H : Type) (enc : TypeId × Value → H) :
    ReturnsInHanded {} Try.checked os 5 .any (Rows.digestPermutationsSpec.pre6 enc Try.prog Try.f5 Rows.digestPermutationsRow.domain false) (Rows.digestPermutationsSpec.post enc Try.prog Try.f5 false true false false) := by
  refine returnsInHanded_of_change (C := Try.checked) ownK started (by kernel_rfl) Try.func5 (ChangeSpec.witness6 (enc := enc) (C := Try.checked) false ⟨#[], #[.agg #[.int .u64 0, .int .u64 0, .int .u64 0, .int .u64 0, .int .u64 0, .int .u64 0, .int .u64 0, .int .u64 0, .int .u64 0, .int .u64 0, .int .u64 0, .int .u64 0, .int .u64 0, .int .u64 0, .int .u64 0, .int .u64 0, .int .u64 0, .int .u64 0, .int .u64 0, .int .u64 0, .int .u64 0, .int .u64 0, .int .u64 0, .int .u64 0, .int .u64 0], .agg #[.int .u64 0, .int .u64 0, .int .u64 0, .int .u64 0, .int .u64 0, .int .u64 0, .int .u64 0, .int .u64 0, .int .u64 0, .int .u64 0, .int .u64 0, .int .u64 0, .int .u64 0, .int .u64 0, .int .u64 0, .int .u64 0, .int .u64 0, .int .u64 0, .int .u64 0, .int .u64 0, .int .u64 0, .int .u64 0, .int .u64 0, .int .u64 0, .int .u64 0]], []⟩ 8 (by kernel_rfl) (by kernel_rfl) (by kernel_rfl) (by kernel_rfl)) ?_
  intro W base args ds gs before hval0 hW hcnd _
  have hval : ∀ (j : Nat) t v, Try.f5.params[j]? = some t → args[j]? = some v → Value.okWide Try.prog W .any base t v := hval0
  have hW' := hW
  obtain ⟨p, q, hA0, hV, rfl, hfz, hnd⟩ := hW
  have hA : DataW.TrodAll enc Try.prog W 0 (fun _ => true) true Try.f5.params.toList args.toList ds p := hA0
  rw [Try.params5] at hA hval
  obtain ⟨v0, vs0, d0, ds0, p0, q0, hargs, rfl, rfl, h0, r0⟩ := trodAll_cons hA
  obtain ⟨v1, vs1, d1, ds1, p1, q1, rfl, rfl, rfl, h1, r1⟩ := trodAll_cons r0
  obtain ⟨rfl, rfl, rfl⟩ := trodAll_nil r1
  obtain rfl : args = #[v0, v1] := by cases args; simp_all
  obtain ⟨rfl, rfl⟩ := trodVars_none hV
  obtain ⟨a0, e0⟩ := rd26.argA und26 (fun _ => rfl) (hval 0 26 v0 rfl rfl) h0
  obtain ⟨a1, e1⟩ := rd26.argA und26 (fun _ => rfl) (hval 1 26 v1 rfl rfl) h1
  clear hA0 hval0
  refine (lawPermutations_c a0.1 a1.1 a0.2 a1.2 (fun _ => False) W [v0, v1] ⟨0, fun _ h => h.elim⟩ (fun _ h => h.elim) (.cons e0 (.cons e1 .nil))).mono fun e W' h => ?_
  obtain ⟨v, d, he, hd, hv, hx⟩ := h
  subst hd
  cases hv
  exact ⟨_, he, post_law (bt := 4) laid (by rw [Try.params5]; decide +kernel) rfl und4 rfl (by simp [Rows.digestPermutationsSpec]) hW' hx⟩

theorem digestPermutations_over : Rows.digestPermutationsRow.holds Try.pinned (OpenSpec.ofChange Rows.digestPermutationsSpec) :=
  OpenClaim.holds_of_wide 5 Try.f5 rfl rfl rfl rfl rfl rfl rfl ⟨rfl, rfl, rfl, rfl, rfl⟩ rfl rfl rfl rfl rfl (by kernel_rfl) Try.func5 (by kernel_rfl)
    (of_decide_eq_true (by kernel_rfl)) (by unfold Func.isWrapper; first | (rw [if_pos (by decide +kernel)]; kernel_rfl) | (rw [if_neg (by decide +kernel)]; exact ⟨rfl, rfl⟩))
    (fun os started H enc _ => digestPermutations_lifted os started H enc)

/-- The given statement. -/
theorem digestPermutations_proved : Rows.DigestPermutationsSaid := digestPermutations_over

#print axioms digestPermutations_proved
end Go.Proofs.Ytchidogjhgelpaa.LawP3
