/- The law CloneComplete returns true whatever its arguments are, and each argument reads behind the call as it read before; the listed variables are tied to the program's text. -/
import Derived.Test.YtglclijalehcmaaDoorV12
import Derived.Test.YtglclijalehcmaaDoorRead
import Derived.Test.YtglclijalehcmaaDoorLib
import Derived.Test.YtglclijalehcmaaDoorRows
import Derived.Test.YtglclijalehcmaaDoorCards
import Derived.Test.YtglclijalehcmaaDoorTie
import Derived.KernelRfl
import Derived.SevenTiedAt
import Derived.Lay
set_option linter.all false
namespace Go.Proofs.YtglclijalehcmaaDoor.LawP2
open Go Go.Proofs.YtglclijalehcmaaDoor Go.Lic Go.ChangeShapes Go.WideShapes Go.ChangeAt Go.RowKit

theorem rd9 : Reads Tryd.prog 9 1 D.s := .string (by kernel_rfl)
theorem und9 : Tryd.prog.underlying 9 = some .string := by kernel_rfl
theorem rd3 : Reads Tryd.prog 3 1 D.i := .int (by kernel_rfl)
theorem und3 : Tryd.prog.underlying 3 = some (.int .i64) := by kernel_rfl
theorem rd53 : Reads Tryd.prog 53 2 encLex := (Reads.rec (l := [(0, 9), (1, 3)]) (by kernel_rfl) (by kernel_rfl) (n := 2) (by kernel_rfl) (.cons (n0 := 1) (by kernel_rfl) rd9 (.cons (n0 := 1) (by kernel_rfl) rd3 .nil))).conv (fun a => ⟨a.1, a.2.1⟩) (fun _ => rfl)
theorem und53 : Tryd.prog.underlying 53 = some (.struct (fsOf Tryd.prog 53)) := by kernel_rfl
theorem rd33 : Reads Tryd.prog 33 1 (encL 2 encLex) := .slice (e := 53) (sz := 2) (by kernel_rfl) (by kernel_rfl) (by decide) rd53
theorem und33 : Tryd.prog.underlying 33 = some (.slice 53) := by kernel_rfl
theorem rd35 : Reads Tryd.prog 35 2 encText := (Reads.rec (l := [(0, 9), (1, 33)]) (by kernel_rfl) (by kernel_rfl) (n := 2) (by kernel_rfl) (.cons (n0 := 1) (by kernel_rfl) rd9 (.cons (n0 := 1) (by kernel_rfl) rd33 .nil))).conv (fun a => ⟨a.1, a.2.1⟩) (fun _ => rfl)
theorem und35 : Tryd.prog.underlying 35 = some (.struct (fsOf Tryd.prog 35)) := by kernel_rfl
theorem rd22 : Reads Tryd.prog 22 1 (encL 2 encText) := .slice (e := 35) (sz := 2) (by kernel_rfl) (by kernel_rfl) (by decide) rd35
theorem und22 : Tryd.prog.underlying 22 = some (.slice 35) := by kernel_rfl
theorem rd5 : Reads Tryd.prog 5 1 (D.k .u8) := .int (by kernel_rfl)
theorem und5 : Tryd.prog.underlying 5 = some (.int .u8) := by kernel_rfl
theorem und4 : Tryd.prog.underlying 4 = some .bool := by kernel_rfl
theorem rdr5 : Reads Tryd.prog 5 1 (fun n : {n : Int // inK .u8 n} => .v (.int .u8 n.1)) := .intR (by kernel_rfl)
theorem u8range {n : Int} (h : inK .u8 n) : inL n 256 := by
  have : (0 : Int) ≤ n ∧ n ≤ 255 := h
  omega
theorem laidOut : laidOutB Tryd.prog = true := by kernel_rfl
theorem ownK : ownKnob Tryd.prog.godebug = none := by kernel_rfl

set_option maxRecDepth 100000 in
theorem cloneComplete_lifted (os : Os) (started : os.Started) (H : Type) (enc : TypeId × Value → H) :
    ReturnsInHanded {} Tryd.checked os 4 .any (fun w args => (Rows.cloneCompleteSpec.pre enc Tryd.prog Tryd.f4 [] false w args ∧ laidMetH Tryd.prog Rows.cloneCompleteRow.laid w) ∧ sizedMet enc Tryd.prog Tryd.f4 (OpenSpec.ofChange Rows.cloneCompleteSpec) false w args)
      (Rows.cloneCompleteSpec.post enc Tryd.prog Tryd.f4 false true false false) := by
  refine returnsInHanded_of_change_and (C := Tryd.checked) (X := fun w _ => laidMetH Tryd.prog Rows.cloneCompleteRow.laid w) (fun _ _ _ hh h => h.of_heap hh) ownK started (by kernel_rfl) Tryd.func4
    (ChangeSpec.witness_shaped (enc := enc) (C := Tryd.checked) (os := os) (X := fun w _ => laidMetH Tryd.prog Rows.cloneCompleteRow.laid w) false (World.laidAll Tryd.prog os Rows.cloneCompleteRow.laid) #[.slice none 0 0, .int .u8 0, .int .u8 0, .int .u8 0, .int .u8 0, .int .u8 0, .int .u8 0] 8 (World.laidAll_os _ _ _)
      (World.shaped_of_ZipB (by kernel_rfl) (by kernel_rfl)) (by kernel_rfl) (by kernel_rfl) (by kernel_rfl)
      (by rw [MakeChecks.laidMetH_plain _ _ _ (by kernel_rfl)]; exact laidMet_laidAll _ (by kernel_rfl) (by kernel_rfl))) ?_
  intro W base args ds gs before hval0 hW _ _ hL _
  have hval : ∀ (j : Nat) t v, Tryd.f4.params[j]? = some t → args[j]? = some v → Value.okWide Tryd.prog W .any base t v := hval0
  have hW' := hW
  obtain ⟨p, q, hA0, hV, rfl, hfz, hnd⟩ := hW
  have hA : DataW.TrodAll enc Tryd.prog W 0 (fun _ => true) true Tryd.f4.params.toList args.toList ds p := hA0
  rw [Tryd.params4] at hA hval
  obtain ⟨v0, vs0, d0, ds0, p0, q0, hargs, rfl, rfl, h0, r0⟩ := trodAll_cons hA
  obtain ⟨v1, vs1, d1, ds1, p1, q1, rfl, rfl, rfl, h1, r1⟩ := trodAll_cons r0
  obtain ⟨v2, vs2, d2, ds2, p2, q2, rfl, rfl, rfl, h2, r2⟩ := trodAll_cons r1
  obtain ⟨v3, vs3, d3, ds3, p3, q3, rfl, rfl, rfl, h3, r3⟩ := trodAll_cons r2
  obtain ⟨v4, vs4, d4, ds4, p4, q4, rfl, rfl, rfl, h4, r4⟩ := trodAll_cons r3
  obtain ⟨v5, vs5, d5, ds5, p5, q5, rfl, rfl, rfl, h5, r5⟩ := trodAll_cons r4
  obtain ⟨v6, vs6, d6, ds6, p6, q6, rfl, rfl, rfl, h6, r6⟩ := trodAll_cons r5
  obtain ⟨rfl, rfl, rfl⟩ := trodAll_nil r6
  obtain rfl : args = #[v0, v1, v2, v3, v4, v5, v6] := by cases args; simp_all
  obtain ⟨rfl, rfl⟩ := trodVars_none hV
  obtain ⟨a0, e0⟩ := rd22.arg1 (fun _ => rfl) (by intro cs hc; simp [Value.okWide, und22, Cell.okWide, Cell.ok] at hc) (hval 0 22 v0 rfl rfl) h0
  obtain ⟨a1, e1⟩ := rdr5.arg1 (fun _ => rfl) (by intro cs hc; simp [Value.okWide, und5, Cell.okWide, Cell.ok] at hc) (hval 1 5 v1 rfl rfl) h1
  obtain ⟨a2, e2⟩ := rdr5.arg1 (fun _ => rfl) (by intro cs hc; simp [Value.okWide, und5, Cell.okWide, Cell.ok] at hc) (hval 2 5 v2 rfl rfl) h2
  obtain ⟨a3, e3⟩ := rdr5.arg1 (fun _ => rfl) (by intro cs hc; simp [Value.okWide, und5, Cell.okWide, Cell.ok] at hc) (hval 3 5 v3 rfl rfl) h3
  obtain ⟨a4, e4⟩ := rdr5.arg1 (fun _ => rfl) (by intro cs hc; simp [Value.okWide, und5, Cell.okWide, Cell.ok] at hc) (hval 4 5 v4 rfl rfl) h4
  obtain ⟨a5, e5⟩ := rdr5.arg1 (fun _ => rfl) (by intro cs hc; simp [Value.okWide, und5, Cell.okWide, Cell.ok] at hc) (hval 5 5 v5 rfl rfl) h5
  obtain ⟨a6, e6⟩ := rdr5.arg1 (fun _ => rfl) (by intro cs hc; simp [Value.okWide, und5, Cell.okWide, Cell.ok] at hc) (hval 6 5 v6 rfl rfl) h6
  clear hA0 hval0
  rw [MakeChecks.laidMetH_plain _ _ _ (by kernel_rfl)] at hL
  refine (lawComplete_c a0 a1.1 a2.1 a3.1 a4.1 a5.1 a6.1 (u8range a1.2) (u8range a2.2) (u8range a3.2) (u8range a4.2) (u8range a5.2) (u8range a6.2) (fun _ => False) W [v0, v1, v2, v3, v4, v5, v6] ⟨0, fun _ h => h.elim⟩ (fun _ h => h.elim) (glob_none W) (.cons e0 (.cons e1 (.cons e2 (.cons e3 (.cons e4 (.cons e5 (.cons e6 .nil)))))))).mono fun e W' h => ?_
  obtain ⟨v, d, he, hd, hv, hx⟩ := h
  subst hd
  cases hv
  exact ⟨_, he, post_law (bt := 4) laidOut (by rw [Tryd.params4]; decide +kernel) rfl und4 rfl (by simp [Rows.cloneCompleteSpec]) hW' hx⟩

theorem cloneComplete_over : Rows.cloneCompleteRow.holds Tryd.pinned (OpenSpec.ofChange Rows.cloneCompleteSpec) :=
  OpenClaim.holds_of_wide 4 Tryd.f4 rfl rfl rfl rfl rfl rfl rfl ⟨rfl, rfl, rfl, rfl, rfl⟩ rfl rfl rfl rfl rfl (by kernel_rfl) Tryd.func4 (by kernel_rfl)
    (of_decide_eq_true (by kernel_rfl)) (by unfold Func.isWrapper; first | (rw [if_pos (by decide +kernel)]; kernel_rfl) | (rw [if_neg (by decide +kernel)]; exact ⟨rfl, rfl⟩))
    (fun os started H enc _ => cloneComplete_lifted os started H enc)

/-- The given statement: the tied card. -/
theorem cloneComplete_proved : Rows.CloneCompleteCardSaid :=
  Claim7.holds_tied_plain_at .later [] [.data, .pinned] true (true, "e9b6772b84fcfd58eae03d542ec174927fe652e10578b7eece3b6ce48100afbd") false cloneComplete_over (fun _ h => by cases h) (by kernel_rfl) (fun _ h => by cases h) cloneComplete_row_tie rfl ⟨rfl, rfl⟩ (by kernel_rfl) rfl
    (fun f fn hf hfn => by
      obtain rfl : f = 4 := Option.some.inj ((show Tryd.prog.funcNamed _ = some 4 by kernel_rfl).symm.trans hf) |>.symm
      obtain rfl : fn = Tryd.f4 := (Option.some.inj (Tryd.func4.symm.trans hfn)).symm
      exact ⟨by kernel_rfl, fun j t ht => by
        rw [Tryd.params4] at ht
        have hm : t ∈ [22, 5, 5, 5, 5, 5, 5] := by
          have := Array.mem_of_getElem? ht
          simpa using this
        have hall : ([22, 5, 5, 5, 5, 5, 5].all fun u => !Tryd.prog.wantsStandIn u) = true := by kernel_rfl
        exact (show Tryd.prog.wantsStandIn t = false by simpa using List.all_eq_true.1 hall t hm)⟩)
    (by kernel_rfl)

#print axioms cloneComplete_proved
end Go.Proofs.YtglclijalehcmaaDoor.LawP2
