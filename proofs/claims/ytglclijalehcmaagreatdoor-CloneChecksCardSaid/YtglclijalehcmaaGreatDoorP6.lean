/- The law CloneChecks returns true whatever its arguments are, and each argument reads behind the call as it read before; the listed variables are tied to the program's text. -/
import Derived.Test.YtglclijalehcmaaGreatDoorV16
import Derived.Test.YtglclijalehcmaaGreatDoorRead
import Derived.Test.YtglclijalehcmaaGreatDoorLib
import Derived.Test.YtglclijalehcmaaGreatDoorRows
import Derived.Test.YtglclijalehcmaaGreatDoorCards
import Derived.Test.YtglclijalehcmaaGreatDoorTie
import Derived.KernelRfl
import Derived.SevenTiedAt
import Derived.Lay
set_option linter.all false
namespace Go.Proofs.YtglclijalehcmaaGreatDoor.LawP6
open Go Go.Proofs.YtglclijalehcmaaGreatDoor Go.Lic Go.ChangeShapes Go.WideShapes Go.ChangeAt Go.RowKit

theorem rd9 : Reads Tryz.prog 9 1 D.s := .string (by kernel_rfl)
theorem und9 : Tryz.prog.underlying 9 = some .string := by kernel_rfl
theorem rd3 : Reads Tryz.prog 3 1 D.i := .int (by kernel_rfl)
theorem und3 : Tryz.prog.underlying 3 = some (.int .i64) := by kernel_rfl
theorem rd61 : Reads Tryz.prog 61 2 encLex := (Reads.rec (l := [(0, 9), (1, 3)]) (by kernel_rfl) (by kernel_rfl) (n := 2) (by kernel_rfl) (.cons (n0 := 1) (by kernel_rfl) rd9 (.cons (n0 := 1) (by kernel_rfl) rd3 .nil))).conv (fun a => ⟨a.1, a.2.1⟩) (fun _ => rfl)
theorem und61 : Tryz.prog.underlying 61 = some (.struct (fsOf Tryz.prog 61)) := by kernel_rfl
theorem rd26 : Reads Tryz.prog 26 1 (encL 2 encLex) := .slice (e := 61) (sz := 2) (by kernel_rfl) (by kernel_rfl) (by decide) rd61
theorem und26 : Tryz.prog.underlying 26 = some (.slice 61) := by kernel_rfl
theorem rd28 : Reads Tryz.prog 28 2 encText := (Reads.rec (l := [(0, 9), (1, 26)]) (by kernel_rfl) (by kernel_rfl) (n := 2) (by kernel_rfl) (.cons (n0 := 1) (by kernel_rfl) rd9 (.cons (n0 := 1) (by kernel_rfl) rd26 .nil))).conv (fun a => ⟨a.1, a.2.1⟩) (fun _ => rfl)
theorem und28 : Tryz.prog.underlying 28 = some (.struct (fsOf Tryz.prog 28)) := by kernel_rfl
theorem rd22 : Reads Tryz.prog 22 1 (encL 2 encText) := .slice (e := 28) (sz := 2) (by kernel_rfl) (by kernel_rfl) (by decide) rd28
theorem und22 : Tryz.prog.underlying 22 = some (.slice 28) := by kernel_rfl
theorem rd38 : Reads Tryz.prog 38 5 encClone := (Reads.rec (l := [(0, 3), (1, 3), (2, 3), (3, 3), (4, 3)]) (by kernel_rfl) (by kernel_rfl) (n := 5) (by kernel_rfl) (.cons (n0 := 1) (by kernel_rfl) rd3 (.cons (n0 := 1) (by kernel_rfl) rd3 (.cons (n0 := 1) (by kernel_rfl) rd3 (.cons (n0 := 1) (by kernel_rfl) rd3 (.cons (n0 := 1) (by kernel_rfl) rd3 .nil)))))).conv (fun a => ⟨a.1, a.2.1, a.2.2.1, a.2.2.2.1, a.2.2.2.2.1⟩) (fun _ => rfl)
theorem und38 : Tryz.prog.underlying 38 = some (.struct (fsOf Tryz.prog 38)) := by kernel_rfl
theorem rd32 : Reads Tryz.prog 32 1 (encL 5 encClone) := .slice (e := 38) (sz := 5) (by kernel_rfl) (by kernel_rfl) (by decide) rd38
theorem und32 : Tryz.prog.underlying 32 = some (.slice 38) := by kernel_rfl
theorem und4 : Tryz.prog.underlying 4 = some .bool := by kernel_rfl
theorem rdn : Reads Tryz.prog 3 1 (fun n : {n : Int // inI n} => D.i n.1) := (Reads.intR (k := .i64) (by kernel_rfl)).conv (fun n => ⟨n.1, by have := n.2; unfold inK at this; exact this⟩) (fun _ => rfl)
theorem rdc : Reads Tryz.prog 38 5 (fun c : {c : Clone // inI c.atA ∧ inI c.atB} => encClone c.1) := (Reads.rec (l := [(0, 3), (1, 3), (2, 3), (3, 3), (4, 3)]) (by kernel_rfl) (by kernel_rfl) (n := 5) (by kernel_rfl) (.cons (n0 := 1) (by kernel_rfl) rd3 (.cons (n0 := 1) (by kernel_rfl) rdn (.cons (n0 := 1) (by kernel_rfl) rd3 (.cons (n0 := 1) (by kernel_rfl) rdn (.cons (n0 := 1) (by kernel_rfl) rd3 .nil)))))).conv (fun a => ⟨⟨a.1, a.2.1.1, a.2.2.1, a.2.2.2.1.1, a.2.2.2.2.1⟩, a.2.1.2, a.2.2.2.1.2⟩) (fun _ => rfl)
theorem rdx1 : Reads Tryz.prog 32 1 (fun l : {l : List Clone // ∀ c_ ∈ l, inI c_.atA ∧ inI c_.atB} => encL 5 encClone l.1) := (Reads.slice (e := 38) (sz := 5) (by kernel_rfl) (by kernel_rfl) (by decide) rdc).conv (fun l => ⟨l.map (·.1), fun c hc => by
    obtain ⟨y, _, rfl⟩ := List.mem_map.1 hc
    exact y.2⟩) (fun l => by simp [encL, Function.comp_def])
theorem laidOut : laidOutB Tryz.prog = true := by kernel_rfl
theorem ownK : ownKnob Tryz.prog.godebug = none := by kernel_rfl

set_option maxRecDepth 100000 in
theorem cloneChecks_lifted (os : Os) (started : os.Started) (H : Type) (enc : TypeId × Value → H) :
    ReturnsInHanded {} Tryz.checked os 5 .any (fun w args => (Rows.cloneChecksSpec.pre enc Tryz.prog Tryz.f5 [] false w args ∧ laidMetH Tryz.prog Rows.cloneChecksRow.laid w) ∧ sizedMet enc Tryz.prog Tryz.f5 (OpenSpec.ofChange Rows.cloneChecksSpec) false w args)
      (Rows.cloneChecksSpec.post enc Tryz.prog Tryz.f5 false true false false) := by
  refine returnsInHanded_of_change_and (C := Tryz.checked) (X := fun w _ => laidMetH Tryz.prog Rows.cloneChecksRow.laid w) (fun _ _ _ hh h => h.of_heap hh) ownK started (by kernel_rfl) Tryz.func5
    (ChangeSpec.witness_shaped (enc := enc) (C := Tryz.checked) (os := os) (X := fun w _ => laidMetH Tryz.prog Rows.cloneChecksRow.laid w) false (World.laidAll Tryz.prog os Rows.cloneChecksRow.laid) #[.slice none 0 0, .slice none 0 0, .int .i64 0, .int .i64 0] 8 (World.laidAll_os _ _ _)
      (World.shaped_of_ZipB (by kernel_rfl) (by kernel_rfl)) (by kernel_rfl) (by kernel_rfl) (by kernel_rfl)
      (by rw [MakeChecks.laidMetH_plain _ _ _ (by kernel_rfl)]; exact laidMet_laidAll _ (by kernel_rfl) (by kernel_rfl))) ?_
  intro W base args ds gs before hval0 hW _ _ hL _
  have hval : ∀ (j : Nat) t v, Tryz.f5.params[j]? = some t → args[j]? = some v → Value.okWide Tryz.prog W .any base t v := hval0
  have hW' := hW
  obtain ⟨p, q, hA0, hV, rfl, hfz, hnd⟩ := hW
  have hA : DataW.TrodAll enc Tryz.prog W 0 (fun _ => true) true Tryz.f5.params.toList args.toList ds p := hA0
  rw [Tryz.params5] at hA hval
  obtain ⟨v0, vs0, d0, ds0, p0, q0, hargs, rfl, rfl, h0, r0⟩ := trodAll_cons hA
  obtain ⟨v1, vs1, d1, ds1, p1, q1, rfl, rfl, rfl, h1, r1⟩ := trodAll_cons r0
  obtain ⟨v2, vs2, d2, ds2, p2, q2, rfl, rfl, rfl, h2, r2⟩ := trodAll_cons r1
  obtain ⟨v3, vs3, d3, ds3, p3, q3, rfl, rfl, rfl, h3, r3⟩ := trodAll_cons r2
  obtain ⟨rfl, rfl, rfl⟩ := trodAll_nil r3
  obtain rfl : args = #[v0, v1, v2, v3] := by cases args; simp_all
  obtain ⟨rfl, rfl⟩ := trodVars_none hV
  obtain ⟨a0, e0⟩ := rd22.arg1 (fun _ => rfl) (by intro cs hc; simp [Value.okWide, und22, Cell.okWide, Cell.ok] at hc) (hval 0 22 v0 rfl rfl) h0
  obtain ⟨a1, e1⟩ := rdx1.arg1 (fun _ => rfl) (by intro cs hc; simp [Value.okWide, und32, Cell.okWide, Cell.ok] at hc) (hval 1 32 v1 rfl rfl) h1
  obtain ⟨a2, e2⟩ := rd3.arg1 (fun _ => rfl) (by intro cs hc; simp [Value.okWide, und3, Cell.okWide, Cell.ok] at hc) (hval 2 3 v2 rfl rfl) h2
  obtain ⟨a3, e3⟩ := rd3.arg1 (fun _ => rfl) (by intro cs hc; simp [Value.okWide, und3, Cell.okWide, Cell.ok] at hc) (hval 3 3 v3 rfl rfl) h3
  clear hA0 hval0
  rw [MakeChecks.laidMetH_plain _ _ _ (by kernel_rfl)] at hL
  refine (lawChecks_c a0 a1.1 a2 a3 a1.2 (fun _ => False) W [v0, v1, v2, v3] ⟨0, fun _ h => h.elim⟩ (fun _ h => h.elim) (glob_none W) (.cons e0 (.cons e1 (.cons e2 (.cons e3 .nil))))).mono fun e W' h => ?_
  obtain ⟨v, d, he, hd, hv, hx⟩ := h
  subst hd
  cases hv
  exact ⟨_, he, post_law (bt := 4) laidOut (by rw [Tryz.params5]; decide +kernel) rfl und4 rfl (by simp [Rows.cloneChecksSpec]) hW' hx⟩

theorem cloneChecks_over : Rows.cloneChecksRow.holds Tryz.pinned (OpenSpec.ofChange Rows.cloneChecksSpec) :=
  OpenClaim.holds_of_wide 5 Tryz.f5 rfl rfl rfl rfl rfl rfl rfl ⟨rfl, rfl, rfl, rfl, rfl⟩ rfl rfl rfl rfl rfl (by kernel_rfl) Tryz.func5 (by kernel_rfl)
    (of_decide_eq_true (by kernel_rfl)) (by unfold Func.isWrapper; first | (rw [if_pos (by decide +kernel)]; kernel_rfl) | (rw [if_neg (by decide +kernel)]; exact ⟨rfl, rfl⟩))
    (fun os started H enc _ => cloneChecks_lifted os started H enc)

/-- The given statement: the tied card. -/
theorem cloneChecks_proved : Rows.CloneChecksCardSaid :=
  Claim7.holds_tied_plain_at .later [] [.data, .pinned] true (true, "906de28a732203552ca5b4fb8bcc391238f68168db909a99d9398086fde0b3d4") false cloneChecks_over (fun _ h => by cases h) (by kernel_rfl) (fun _ h => by cases h) cloneChecks_row_tie rfl ⟨rfl, rfl⟩ (by kernel_rfl) rfl
    (fun f fn hf hfn => by
      obtain rfl : f = 5 := Option.some.inj ((show Tryz.prog.funcNamed _ = some 5 by kernel_rfl).symm.trans hf) |>.symm
      obtain rfl : fn = Tryz.f5 := (Option.some.inj (Tryz.func5.symm.trans hfn)).symm
      exact ⟨by kernel_rfl, fun j t ht => by
        rw [Tryz.params5] at ht
        have hm : t ∈ [22, 32, 3, 3] := by
          have := Array.mem_of_getElem? ht
          simpa using this
        have hall : ([22, 32, 3, 3].all fun u => !Tryz.prog.wantsStandIn u) = true := by kernel_rfl
        exact (show Tryz.prog.wantsStandIn t = false by simpa using List.all_eq_true.1 hall t hm)⟩)
    (by kernel_rfl)

#print axioms cloneChecks_proved
end Go.Proofs.YtglclijalehcmaaGreatDoor.LawP6
