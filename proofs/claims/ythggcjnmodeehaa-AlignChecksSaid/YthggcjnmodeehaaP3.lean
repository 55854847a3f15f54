/- The law AlignChecks of licitlaw28 returns true whatever its arguments are, and each argument reads behind the call as it read before. -/
import Derived.Test.YthggcjnmodeehaaL3
import Derived.Test.YthggcjnmodeehaaRead
import Derived.Test.YthggcjnmodeehaaRows
import Derived.KernelRfl
set_option linter.unusedSimpArgs false
set_option linter.unusedVariables false
namespace Go.Proofs.Ythggcjnmodeehaa
open Go Go.Lic Go.ChangeShapes Go.WideShapes Go.ChangeAt Go.RowKit

theorem rd3 : Reads Try.prog 3 1 D.i := .int (by kernel_rfl)
theorem rd40 : Reads Try.prog 40 2 encLex := (Reads.rec2 (t0 := 9) (t1 := 3) (n0 := 1) (n1 := 1) (by kernel_rfl) (by kernel_rfl) (by kernel_rfl) (by kernel_rfl) (by kernel_rfl) (Reads.string (by kernel_rfl)) rd3).conv (fun a => ⟨a.1, a.2⟩) (fun _ => rfl)
theorem rd22 : Reads Try.prog 22 1 encWords := .slice (e := 40) (sz := 2) (by kernel_rfl) (by kernel_rfl) (by decide) rd40
theorem rd24 : Reads Try.prog 24 3 encCosts := (Reads.rec3 (t0 := 3) (t1 := 3) (t2 := 3) (n0 := 1) (n1 := 1) (n2 := 1) (by kernel_rfl) (by kernel_rfl) (by kernel_rfl) (by kernel_rfl) (by kernel_rfl) (by kernel_rfl) rd3 rd3 rd3).conv (fun a => ⟨a.1, a.2.1, a.2.2⟩) (fun _ => rfl)
theorem rd25 : Reads Try.prog 25 1 encInts := .slice (e := 3) (sz := 1) (by kernel_rfl) (by kernel_rfl) (by decide) rd3
theorem rd27 : Reads Try.prog 27 2 encAl := (Reads.rec2 (t0 := 3) (t1 := 25) (n0 := 1) (n1 := 1) (by kernel_rfl) (by kernel_rfl) (by kernel_rfl) (by kernel_rfl) (by kernel_rfl) rd3 rd25).conv (fun a => ⟨a.1, a.2⟩) (fun _ => rfl)
theorem und22 : Try.prog.underlying 22 = some (.slice 40) := by kernel_rfl
theorem und24 : Try.prog.underlying 24 = some (.struct (fsOf Try.prog 24)) := by kernel_rfl
theorem und27 : Try.prog.underlying 27 = some (.struct (fsOf Try.prog 27)) := by kernel_rfl
theorem laid : laidOutB Try.prog = true := by kernel_rfl
theorem ownK : ownKnob Try.prog.godebug = none := by kernel_rfl
theorem und4 : Try.prog.underlying 4 = some .bool := by kernel_rfl

set_option maxRecDepth 100000 in
theorem alignChecks_lifted (os : Os) (started : os.Started) (H : Type) (enc : TypeId × Value → H) :
    ReturnsInHanded {} Try.checked os 3 .any (Rows.alignChecksSpec.pre6 enc Try.prog Try.f3 Rows.alignChecksRow.domain false) (Rows.alignChecksSpec.post enc Try.prog Try.f3 false true false false) := by
  refine returnsInHanded_of_change (C := Try.checked) ownK started (by kernel_rfl) Try.func3 (ChangeSpec.witness6 (enc := enc) (C := Try.checked) false ⟨#[], #[.slice none 0 0, .slice none 0 0, .agg #[.int .i64 0, .int .i64 0, .int .i64 0], .agg #[.int .i64 0, .slice none 0 0]], []⟩ 8 (by kernel_rfl) (by kernel_rfl) (by kernel_rfl) (by kernel_rfl)) ?_
  intro W base args ds gs before hval0 hW hcnd _
  have hval : ∀ (j : Nat) t v, Try.f3.params[j]? = some t → args[j]? = some v → Value.okWide Try.prog W .any base t v := hval0
  have hW' := hW
  obtain ⟨p, q, hA0, hV, rfl, hfz, hnd⟩ := hW
  have hA : DataW.TrodAll enc Try.prog W 0 (fun _ => true) true Try.f3.params.toList args.toList ds p := hA0
  rw [Try.params3] at hA hval
  obtain ⟨v0, vs0, d0, ds0, p0, q0, hargs, rfl, rfl, h0, r0⟩ := trodAll_cons hA
  obtain ⟨v1, vs1, d1, ds1, p1, q1, rfl, rfl, rfl, h1, r1⟩ := trodAll_cons r0
  obtain ⟨v2, vs2, d2, ds2, p2, q2, rfl, rfl, rfl, h2, r2⟩ := trodAll_cons r1
  obtain ⟨v3, vs3, d3, ds3, p3, q3, rfl, rfl, rfl, h3, r3⟩ := trodAll_cons r2
  obtain ⟨rfl, rfl, rfl⟩ := trodAll_nil r3
  obtain rfl : args = #[v0, v1, v2, v3] := by cases args; simp_all
  obtain ⟨rfl, rfl⟩ := trodVars_none hV
  obtain ⟨a0, e0⟩ := rd22.arg1 (fun _ => rfl) (by intro cs hc; simp [Value.okWide, und22, Cell.okWide, Cell.ok] at hc) (hval 0 22 v0 rfl rfl) h0
  obtain ⟨a1, e1⟩ := rd22.arg1 (fun _ => rfl) (by intro cs hc; simp [Value.okWide, und22, Cell.okWide, Cell.ok] at hc) (hval 1 22 v1 rfl rfl) h1
  obtain ⟨a2, e2⟩ := rd24.argS und24 (fun _ => rfl) (hval 2 24 v2 rfl rfl) h2
  obtain ⟨a3, e3⟩ := rd27.argS und27 (fun _ => rfl) (hval 3 27 v3 rfl rfl) h3
  clear hA0 hval0
  refine (alignChecks_fun a0 a1 a2 a3 (fun _ => False) W [v0, v1, v2, v3] ⟨0, fun _ h => h.elim⟩ (fun _ h => h.elim) (.cons e0 (.cons e1 (.cons e2 (.cons e3 .nil))))).mono fun e W' h => ?_
  obtain ⟨v, d, he, hd, hv, hx⟩ := h
  subst hd
  cases hv
  exact ⟨_, he, post_law (bt := 4) laid (by rw [Try.params3]; decide +kernel) rfl und4 rfl (by simp [Rows.alignChecksSpec]) hW' hx⟩

theorem alignChecks_over : Rows.alignChecksRow.holds Try.pinned (OpenSpec.ofChange Rows.alignChecksSpec) :=
  OpenClaim.holds_of_wide 3 Try.f3 rfl rfl rfl rfl rfl rfl rfl ⟨rfl, rfl, rfl, rfl, rfl⟩ rfl rfl rfl rfl rfl (by kernel_rfl) Try.func3 (by kernel_rfl)
    (of_decide_eq_true (by kernel_rfl)) (by unfold Func.isWrapper; first | (rw [if_pos (by decide +kernel)]; kernel_rfl) | (rw [if_neg (by decide +kernel)]; exact ⟨rfl, rfl⟩))
    (fun os started H enc _ => alignChecks_lifted os started H enc)

/-- The given statement. -/
theorem alignChecks_proved : Rows.AlignChecksSaid := alignChecks_over

#print axioms alignChecks_proved
end Go.Proofs.Ythggcjnmodeehaa
