/- The law DigestStream returns true whatever its arguments are, and each argument reads behind the call as it read before. -/
import Derived.Test.YtchidogjhgelpaaV6
import Derived.Test.YtchidogjhgelpaaRead3
import Derived.Test.YtchidogjhgelpaaRows
import Derived.KernelRfl
set_option linter.all false
namespace Go.Proofs.Ytchidogjhgelpaa.LawP4
open Go Go.Proofs.Ytchidogjhgelpaa Go.Lic Go.ChangeShapes Go.WideShapes Go.ChangeAt Go.RowKit

theorem rd9 : Reads Try.prog 9 1 D.s := .string (by kernel_rfl)
theorem und9 : Try.prog.underlying 9 = some .string := by kernel_rfl
theorem rd33 : Reads Try.prog 33 1 (encL 1 D.s) := .slice (e := 9) (sz := 1) (by kernel_rfl) (by kernel_rfl) (by decide) rd9
theorem und33 : Try.prog.underlying 33 = some (.slice 9) := by kernel_rfl
theorem rd30 : Reads Try.prog 30 1 (encL 1 (encL 1 D.s)) := .slice (e := 33) (sz := 1) (by kernel_rfl) (by kernel_rfl) (by decide) rd33
theorem und30 : Try.prog.underlying 30 = some (.slice 33) := by kernel_rfl
theorem und4 : Try.prog.underlying 4 = some .bool := by kernel_rfl
theorem laid : laidOutB Try.prog = true := by kernel_rfl
theorem ownK : ownKnob Try.prog.godebug = none := by kernel_rfl

set_option maxRecDepth 100000 in
theorem digestStream_lifted (os : Os) (started : os.Started) (H : Type) (enc : TypeId × Value → H) :
    ReturnsInHanded {} Try.checked os 6 .any (Rows.digestStreamSpec.pre6 enc Try.prog Try.f6 Rows.digestStreamRow.domain false) (Rows.digestStreamSpec.post enc Try.prog Try.f6 false true false false) := by
  refine returnsInHanded_of_change (C := Try.checked) ownK started (by kernel_rfl) Try.func6 (ChangeSpec.witness6 (enc := enc) (C := Try.checked) false ⟨#[], #[.slice none 0 0], []⟩ 8 (by kernel_rfl) (by kernel_rfl) (by kernel_rfl) (by kernel_rfl)) ?_
  intro W base args ds gs before hval0 hW hcnd _
  have hval : ∀ (j : Nat) t v, Try.f6.params[j]? = some t → args[j]? = some v → Value.okWide Try.prog W .any base t v := hval0
  have hW' := hW
  obtain ⟨p, q, hA0, hV, rfl, hfz, hnd⟩ := hW
  have hA : DataW.TrodAll enc Try.prog W 0 (fun _ => true) true Try.f6.params.toList args.toList ds p := hA0
  rw [Try.params6] at hA hval
  obtain ⟨v0, vs0, d0, ds0, p0, q0, hargs, rfl, rfl, h0, r0⟩ := trodAll_cons hA
  obtain ⟨rfl, rfl, rfl⟩ := trodAll_nil r0
  obtain rfl : args = #[v0] := by cases args; simp_all
  obtain ⟨rfl, rfl⟩ := trodVars_none hV
  obtain ⟨a0, e0⟩ := rd30.arg1 (fun _ => rfl) (by intro cs hc; simp [Value.okWide, und30, Cell.okWide, Cell.ok] at hc) (hval 0 30 v0 rfl rfl) h0
  clear hA0 hval0
  refine (lawStream_c a0  (fun _ => False) W [v0] ⟨0, fun _ h => h.elim⟩ (fun _ h => h.elim) (.cons e0 .nil)).mono fun e W' h => ?_
  obtain ⟨v, d, he, hd, hv, hx⟩ := h
  subst hd
  cases hv
  exact ⟨_, he, post_law (bt := 4) laid (by rw [Try.params6]; decide +kernel) rfl und4 rfl (by simp [Rows.digestStreamSpec]) hW' hx⟩

theorem digestStream_over : Rows.digestStreamRow.holds Try.pinned (OpenSpec.ofChange Rows.digestStreamSpec) :=
  OpenClaim.holds_of_wide 6 Try.f6 rfl rfl rfl rfl rfl rfl rfl ⟨rfl, rfl, rfl, rfl, rfl⟩ rfl rfl rfl rfl rfl (by kernel_rfl) Try.func6 (by kernel_rfl)
    (of_decide_eq_true (by kernel_rfl)) (by unfold Func.isWrapper; first | (rw [if_pos (by decide +kernel)]; kernel_rfl) | (rw [if_neg (by decide +kernel)]; exact ⟨rfl, rfl⟩))
    (fun os started H enc _ => digestStream_lifted os started H enc)

/-- The given statement. -/
theorem digestStream_proved : Rows.DigestStreamSaid := digestStream_over

#print axioms digestStream_proved
end Go.Proofs.Ytchidogjhgelpaa.LawP4
