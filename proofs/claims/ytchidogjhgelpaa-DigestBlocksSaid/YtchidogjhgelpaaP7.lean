/- The law DigestBlocks returns true whatever its arguments are, and each argument reads behind the call as it read before. -/
import Derived.Test.YtchidogjhgelpaaV5
import Derived.Test.YtchidogjhgelpaaRead3
import Derived.Test.YtchidogjhgelpaaRows
import Derived.KernelRfl
set_option linter.all false
namespace Go.Proofs.Ytchidogjhgelpaa.LawP7
open Go Go.Proofs.Ytchidogjhgelpaa Go.Lic Go.ChangeShapes Go.WideShapes Go.ChangeAt Go.RowKit

theorem rd9 : Reads Try.prog 9 1 D.s := .string (by kernel_rfl)
theorem und9 : Try.prog.underlying 9 = some .string := by kernel_rfl
theorem und4 : Try.prog.underlying 4 = some .bool := by kernel_rfl
theorem laid : laidOutB Try.prog = true := by kernel_rfl
theorem ownK : ownKnob Try.prog.godebug = none := by kernel_rfl

set_option maxRecDepth 100000 in
theorem digestBlocks_lifted (os : Os) (started : os.Started) (H : Type) (enc : TypeId × Value → H) :
    ReturnsInHanded {} Try.checked os 9 .any (Rows.digestBlocksSpec.pre6 enc Try.prog Try.f9 Rows.digestBlocksRow.domain false) (Rows.digestBlocksSpec.post enc Try.prog Try.f9 false true false false) := by
  refine returnsInHanded_of_change (C := Try.checked) ownK started (by kernel_rfl) Try.func9 (ChangeSpec.witness6 (enc := enc) (C := Try.checked) false ⟨#[], #[.string ⟨#[]⟩], []⟩ 8 (by kernel_rfl) (by kernel_rfl) (by kernel_rfl) (by kernel_rfl)) ?_
  intro W base args ds gs before hval0 hW hcnd _
  have hval : ∀ (j : Nat) t v, Try.f9.params[j]? = some t → args[j]? = some v → Value.okWide Try.prog W .any base t v := hval0
  have hW' := hW
  obtain ⟨p, q, hA0, hV, rfl, hfz, hnd⟩ := hW
  have hA : DataW.TrodAll enc Try.prog W 0 (fun _ => true) true Try.f9.params.toList args.toList ds p := hA0
  rw [Try.params9] at hA hval
  obtain ⟨v0, vs0, d0, ds0, p0, q0, hargs, rfl, rfl, h0, r0⟩ := trodAll_cons hA
  obtain ⟨rfl, rfl, rfl⟩ := trodAll_nil r0
  obtain rfl : args = #[v0] := by cases args; simp_all
  obtain ⟨rfl, rfl⟩ := trodVars_none hV
  obtain ⟨a0, e0⟩ := rd9.arg1 (fun _ => rfl) (by intro cs hc; simp [Value.okWide, und9, Cell.okWide, Cell.ok] at hc) (hval 0 9 v0 rfl rfl) h0
  clear hA0 hval0
  refine (lawBlocks_c a0  (fun _ => False) W [v0] ⟨0, fun _ h => h.elim⟩ (fun _ h => h.elim) (.cons e0 .nil)).mono fun e W' h => ?_
  obtain ⟨v, d, he, hd, hv, hx⟩ := h
  subst hd
  cases hv
  exact ⟨_, he, post_law (bt := 4) laid (by rw [Try.params9]; decide +kernel) rfl und4 rfl (by simp [Rows.digestBlocksSpec]) hW' hx⟩

theorem digestBlocks_over : Rows.digestBlocksRow.holds Try.pinned (OpenSpec.ofChange Rows.digestBlocksSpec) :=
  OpenClaim.holds_of_wide 9 Try.f9 rfl rfl rfl rfl rfl rfl rfl ⟨rfl, rfl, rfl, rfl, rfl⟩ rfl rfl rfl rfl rfl (by kernel_rfl) Try.func9 (by kernel_rfl)
    (of_decide_eq_true (by kernel_rfl)) (by unfold Func.isWrapper; first | (rw [if_pos (by decide +kernel)]; kernel_rfl) | (rw [if_neg (by decide +kernel)]; exact ⟨rfl, rfl⟩))
    (fun os started H enc _ => digestBlocks_lifted os started H enc)

/-- The given statement. -/
theorem digestBlocks_proved : Rows.DigestBlocksSaid := digestBlocks_over

#print axioms digestBlocks_proved
end Go.Proofs.Ytchidogjhgelpaa.LawP7
