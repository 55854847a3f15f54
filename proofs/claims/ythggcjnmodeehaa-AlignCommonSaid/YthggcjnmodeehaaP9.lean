/- The law AlignCommon returns true whatever its arguments are, and each argument reads behind the call as it read before. -/
import Derived.Test.YthggcjnmodeehaaV6
import Derived.Test.YthggcjnmodeehaaRead3
import Derived.Test.YthggcjnmodeehaaRows
import Derived.KernelRfl
set_option linter.all false
namespace Go.Proofs.Ythggcjnmodeehaa.LawP9
open Go Go.Proofs.Ythggcjnmodeehaa Go.Lic Go.ChangeShapes Go.WideShapes Go.ChangeAt Go.RowKit

theorem rd9 : Reads Try.prog 9 1 D.s := .string (by kernel_rfl)
theorem und9 : Try.prog.underlying 9 = some .string := by kernel_rfl
theorem rd3 : Reads Try.prog 3 1 D.i := .int (by kernel_rfl)
theorem und3 : Try.prog.underlying 3 = some (.int .i64) := by kernel_rfl
theorem rd40 : Reads Try.prog 40 2 encLex := (Reads.rec (l := [(0, 9), (1, 3)]) (by kernel_rfl) (by kernel_rfl) (n := 2) (by kernel_rfl) (.cons (n0 := 1) (by kernel_rfl) rd9 (.cons (n0 := 1) (by kernel_rfl) rd3 .nil))).conv (fun a => ⟨a.1, a.2.1⟩) (fun _ => rfl)
theorem und40 : Try.prog.underlying 40 = some (.struct (fsOf Try.prog 40)) := by kernel_rfl
theorem rd22 : Reads Try.prog 22 1 (encL 2 encLex) := .slice (e := 40) (sz := 2) (by kernel_rfl) (by kernel_rfl) (by decide) rd40
theorem und22 : Try.prog.underlying 22 = some (.slice 40) := by kernel_rfl
theorem rd24 : Reads Try.prog 24 3 encCosts := (Reads.rec (l := [(0, 3), (1, 3), (2, 3)]) (by kernel_rfl) (by kernel_rfl) (n := 3) (by kernel_rfl) (.cons (n0 := 1) (by kernel_rfl) rd3 (.cons (n0 := 1) (by kernel_rfl) rd3 (.cons (n0 := 1) (by kernel_rfl) rd3 .nil)))).conv (fun a => ⟨a.1, a.2.1, a.2.2.1⟩) (fun _ => rfl)
theorem und24 : Try.prog.underlying 24 = some (.struct (fsOf Try.prog 24)) := by kernel_rfl
theorem und4 : Try.prog.underlying 4 = some .bool := by kernel_rfl
theorem laid : laidOutB Try.prog = true := by kernel_rfl
theorem ownK : ownKnob Try.prog.godebug = none := by kernel_rfl

set_option maxRecDepth 100000 in
theorem alignCommon_lifted (os : Os) (started : os.Started) (H : Type) (enc : TypeId × Value → H) :
    ReturnsInHanded {} Try.checked os 9 .any (Rows.alignCommonSpec.pre6 enc Try.prog Try.f9 Rows.alignCommonRow.domain false) (Rows.alignCommonSpec.post enc Try.prog Try.f9 false true false false) := by
  refine returnsInHanded_of_change (C := Try.checked) ownK started (by kernel_rfl) Try.func9 (ChangeSpec.witness6 (enc := enc) (C := Try.checked) false ⟨#[], #[.slice none 0 0, .slice none 0 0, .slice none 0 0, .slice none 0 0, .agg #[.int .i64 0, .int .i64 0, .int .i64 0]], []⟩ 8 (by kernel_rfl) (by kernel_rfl) (by kernel_rfl) (by kernel_rfl)) ?_
  intro W base args ds gs before hval0 hW hcnd _
  have hval : ∀ (j : Nat) t v, Try.f9.params[j]? = some t → args[j]? = some v → Value.okWide Try.prog W .any base t v := hval0
  have hW' := hW
  obtain ⟨p, q, hA0, hV, rfl, hfz, hnd⟩ := hW
  have hA : DataW.TrodAll enc Try.prog W 0 (fun _ => true) true Try.f9.params.toList args.toList ds p := hA0
  rw [Try.params9] at hA hval
  obtain ⟨v0, vs0, d0, ds0, p0, q0, hargs, rfl, rfl, h0, r0⟩ := trodAll_cons hA
  obtain ⟨v1, vs1, d1, ds1, p1, q1, rfl, rfl, rfl, h1, r1⟩ := trodAll_cons r0
  obtain ⟨v2, vs2, d2, ds2, p2, q2, rfl, rfl, rfl, h2, r2⟩ := trodAll_cons r1
  obtain ⟨v3, vs3, d3, ds3, p3, q3, rfl, rfl, rfl, h3, r3⟩ := trodAll_cons r2
  obtain ⟨v4, vs4, d4, ds4, p4, q4, rfl, rfl, rfl, h4, r4⟩ := trodAll_cons r3
  obtain ⟨rfl, rfl, rfl⟩ := trodAll_nil r4
  obtain rfl : args = #[v0, v1, v2, v3, v4] := by cases args; simp_all
  obtain ⟨rfl, rfl⟩ := trodVars_none hV
  obtain ⟨a0, e0⟩ := rd22.arg1 (fun _ => rfl) (by intro cs hc; simp [Value.okWide, und22, Cell.okWide, Cell.ok] at hc) (hval 0 22 v0 rfl rfl) h0
  obtain ⟨a1, e1⟩ := rd22.arg1 (fun _ => rfl) (by intro cs hc; simp [Value.okWide, und22, Cell.okWide, Cell.ok] at hc) (hval 1 22 v1 rfl rfl) h1
  obtain ⟨a2, e2⟩ := rd22.arg1 (fun _ => rfl) (by intro cs hc; simp [Value.okWide, und22, Cell.okWide, Cell.ok] at hc) (hval 2 22 v2 rfl rfl) h2
  obtain ⟨a3, e3⟩ := rd22.arg1 (fun _ => rfl) (by intro cs hc; simp [Value.okWide, und22, Cell.okWide, Cell.ok] at hc) (hval 3 22 v3 rfl rfl) h3
  obtain ⟨a4, e4⟩ := rd24.argS und24 (fun _ => rfl) (hval 4 24 v4 rfl rfl) h4
  clear hA0 hval0
  refine (lawCommon_c a0 a1 a2 a3 a4  (fun _ => False) W [v0, v1, v2, v3, v4] ⟨0, fun _ h => h.elim⟩ (fun _ h => h.elim) (.cons e0 (.cons e1 (.cons e2 (.cons e3 (.cons e4 .nil)))))).mono fun e W' h => ?_
  obtain ⟨v, d, he, hd, hv, hx⟩ := h
  subst hd
  cases hv
  exact ⟨_, he, post_law (bt := 4) laid (by rw [Try.params9]; decide +kernel) rfl und4 rfl (by simp [Rows.alignCommonSpec]) hW' hx⟩

theorem alignCommon_over : Rows.alignCommonRow.holds Try.pinned (OpenSpec.ofChange Rows.alignCommonSpec) :=
  OpenClaim.holds_of_wide 9 Try.f9 rfl rfl rfl rfl rfl rfl rfl ⟨rfl, rfl, rfl, rfl, rfl⟩ rfl rfl rfl rfl rfl (by kernel_rfl) Try.func9 (by kernel_rfl)
    (of_decide_eq_true (by kernel_rfl)) (by unfold Func.isWrapper; first | (rw [if_pos (by decide +kernel)]; kernel_rfl) | (rw [if_neg (by decide +kernel)]; exact ⟨rfl, rfl⟩))
    (fun os started H enc _ => alignCommon_lifted os started H enc)

/-- The given statement. -/
theorem alignCommon_proved : Rows.AlignCommonSaid := alignCommon_over

#print axioms alignCommon_proved
end Go.Proofs.Ythggcjnmodeehaa.LawP9
