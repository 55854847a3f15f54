/- The law CloneKnown returns true whatever its arguments are, and each argument reads behind the call as it read before; the listed variables are tied to the program's text. -/
import Derived.Test.YtglclijalehcmaaGreatDoorV15
import Derived.Test.YtglclijalehcmaaGreatDoorRead
import Derived.Test.YtglclijalehcmaaGreatDoorDel
import Derived.Test.YtglclijalehcmaaGreatDoorRows
import Derived.Test.YtglclijalehcmaaGreatDoorCards
import Derived.Test.YtglclijalehcmaaGreatDoorTie
import Derived.KernelRfl
import Derived.SevenTiedAt
import Derived.Lay
set_option linter.all false
namespace Go.Proofs.YtglclijalehcmaaGreatDoor.LawP5
open Go Go.Proofs.YtglclijalehcmaaGreatDoor Go.Lic Go.ChangeShapes Go.WideShapes Go.ChangeAt Go.RowKit

theorem rd3 : Reads Tryz.prog 3 1 D.i := .int (by kernel_rfl)
theorem und3 : Tryz.prog.underlying 3 = some (.int .i64) := by kernel_rfl
theorem rd9 : Reads Tryz.prog 9 1 D.s := .string (by kernel_rfl)
theorem und9 : Tryz.prog.underlying 9 = some .string := by kernel_rfl
theorem rd61 : Reads Tryz.prog 61 2 encLex := (Reads.rec (l := [(0, 9), (1, 3)]) (by kernel_rfl) (by kernel_rfl) (n := 2) (by kernel_rfl) (.cons (n0 := 1) (by kernel_rfl) rd9 (.cons (n0 := 1) (by kernel_rfl) rd3 .nil))).conv (fun a => ⟨a.1, a.2.1⟩) (fun _ => rfl)
theorem und61 : Tryz.prog.underlying 61 = some (.struct (fsOf Tryz.prog 61)) := by kernel_rfl
theorem rd26 : Reads Tryz.prog 26 1 (encL 2 encLex) := .slice (e := 61) (sz := 2) (by kernel_rfl) (by kernel_rfl) (by decide) rd61
theorem und26 : Tryz.prog.underlying 26 = some (.slice 61) := by kernel_rfl
theorem rd28 : Reads Tryz.prog 28 2 encText := (Reads.rec (l := [(0, 9), (1, 26)]) (by kernel_rfl) (by kernel_rfl) (n := 2) (by kernel_rfl) (.cons (n0 := 1) (by kernel_rfl) rd9 (.cons (n0 := 1) (by kernel_rfl) rd26 .nil))).conv (fun a => ⟨a.1, a.2.1⟩) (fun _ => rfl)
theorem und28 : Tryz.prog.underlying 28 = some (.struct (fsOf Tryz.prog 28)) := by kernel_rfl
theorem rd22 : Reads Tryz.prog 22 1 (encL 2 encText) := .slice (e := 28) (sz := 2) (by kernel_rfl) (by kernel_rfl) (by decide) rd28
theorem und22 : Tryz.prog.underlying 22 = some (.slice 28) := by kernel_rfl
theorem rd107 : Reads Tryz.prog 107 3 encPst := (Reads.rec (l := [(0, 3), (1, 3), (2, 3)]) (by kernel_rfl) (by kernel_rfl) (n := 3) (by kernel_rfl) (.cons (n0 := 1) (by kernel_rfl) rd3 (.cons (n0 := 1) (by kernel_rfl) rd3 (.cons (n0 := 1) (by kernel_rfl) rd3 .nil)))).conv (fun a => ⟨a.1, a.2.1, a.2.2.1⟩) (fun _ => rfl)
theorem und107 : Tryz.prog.underlying 107 = some (.struct (fsOf Tryz.prog 107)) := by kernel_rfl
theorem rd23 : Reads Tryz.prog 23 1 (encL 3 encPst) := .slice (e := 107) (sz := 3) (by kernel_rfl) (by kernel_rfl) (by decide) rd107
theorem und23 : Tryz.prog.underlying 23 = some (.slice 107) := by kernel_rfl
theorem rd25 : Reads Tryz.prog 25 4 encCorpus := (Reads.rec (l := [(0, 3), (1, 3), (2, 22), (3, 23)]) (by kernel_rfl) (by kernel_rfl) (n := 4) (by kernel_rfl) (.cons (n0 := 1) (by kernel_rfl) rd3 (.cons (n0 := 1) (by kernel_rfl) rd3 (.cons (n0 := 1) (by kernel_rfl) rd22 (.cons (n0 := 1) (by kernel_rfl) rd23 .nil))))).conv (fun a => ⟨a.1, a.2.1, a.2.2.1, a.2.2.2.1⟩) (fun _ => rfl)
theorem und25 : Tryz.prog.underlying 25 = some (.struct (fsOf Tryz.prog 25)) := by kernel_rfl
theorem und4 : Tryz.prog.underlying 4 = some .bool := by kernel_rfl
theorem laidOut : laidOutB Tryz.prog = true := by kernel_rfl
theorem ownK : ownKnob Tryz.prog.godebug = none := by kernel_rfl

set_option maxRecDepth 100000 in
theorem cloneKnown_lifted (os : Os) (started : os.Started) (H : Type) (enc : TypeId × Value → H) :
    ReturnsInHanded {} Tryz.checked os 4 .any (fun w args => (Rows.cloneKnownSpec.pre enc Tryz.prog Tryz.f4 [] false w args ∧ laidMetH Tryz.prog Rows.cloneKnownRow.laid w) ∧ sizedMet enc Tryz.prog Tryz.f4 (OpenSpec.ofChange Rows.cloneKnownSpec) false w args)
      (Rows.cloneKnownSpec.post enc Tryz.prog Tryz.f4 false true false false) := by
  refine returnsInHanded_of_change_and (C := Tryz.checked) (X := fun w _ => laidMetH Tryz.prog Rows.cloneKnownRow.laid w) (fun _ _ _ hh h => h.of_heap hh) ownK started (by kernel_rfl) Tryz.func4
    (ChangeSpec.witness_shaped (enc := enc) (C := Tryz.checked) (os := os) (X := fun w _ => laidMetH Tryz.prog Rows.cloneKnownRow.laid w) false (World.laidAll Tryz.prog os Rows.cloneKnownRow.laid) #[.agg #[.int .i64 0, .int .i64 0, .slice none 0 0, .slice none 0 0], .agg #[.string ⟨#[]⟩, .slice none 0 0]] 8 (World.laidAll_os _ _ _)
      (World.shaped_of_ZipB (by kernel_rfl) (by kernel_rfl)) (by kernel_rfl) (by kernel_rfl) (by kernel_rfl)
      (by rw [MakeChecks.laidMetH_plain _ _ _ (by kernel_rfl)]; exact laidMet_laidAll _ (by kernel_rfl) (by kernel_rfl))) ?_
  intro W base args ds gs before hval0 hW _ _ hL _
  have hval : ∀ (j : Nat) t v, Tryz.f4.params[j]? = some t → args[j]? = some v → Value.okWide Tryz.prog W .any base t v := hval0
  have hW' := hW
  obtain ⟨p, q, hA0, hV, rfl, hfz, hnd⟩ := hW
  have hA : DataW.TrodAll enc Tryz.prog W 0 (fun _ => true) true Tryz.f4.params.toList args.toList ds p := hA0
  rw [Tryz.params4] at hA hval
  obtain ⟨v0, vs0, d0, ds0, p0, q0, hargs, rfl, rfl, h0, r0⟩ := trodAll_cons hA
  obtain ⟨v1, vs1, d1, ds1, p1, q1, rfl, rfl, rfl, h1, r1⟩ := trodAll_cons r0
  obtain ⟨rfl, rfl, rfl⟩ := trodAll_nil r1
  obtain rfl : args = #[v0, v1] := by cases args; simp_all
  obtain ⟨rfl, rfl⟩ := trodVars_none hV
  obtain ⟨a0, e0⟩ := rd25.argS und25 (fun _ => rfl) (hval 0 25 v0 rfl rfl) h0
  obtain ⟨a1, e1⟩ := rd28.argS und28 (fun _ => rfl) (hval 1 28 v1 rfl rfl) h1
  clear hA0 hval0
  rw [MakeChecks.laidMetH_plain _ _ _ (by kernel_rfl)] at hL
  refine (lawKnown_c a0 a1  (fun _ => False) W [v0, v1] ⟨0, fun _ h => h.elim⟩ (fun _ h => h.elim) (glob_none W) (.cons e0 (.cons e1 .nil))).mono fun e W' h => ?_
  obtain ⟨v, d, he, hd, hv, hx⟩ := h
  subst hd
  cases hv
  exact ⟨_, he, post_law (bt := 4) laidOut (by rw [Tryz.params4]; decide +kernel) rfl und4 rfl (by simp [Rows.cloneKnownSpec]) hW' hx⟩

theorem cloneKnown_over : Rows.cloneKnownRow.holds Tryz.pinned (OpenSpec.ofChange Rows.cloneKnownSpec) :=
  OpenClaim.holds_of_wide 4 Tryz.f4 rfl rfl rfl rfl rfl rfl rfl ⟨rfl, rfl, rfl, rfl, rfl⟩ rfl rfl rfl rfl rfl (by kernel_rfl) Tryz.func4 (by kernel_rfl)
    (of_decide_eq_true (by kernel_rfl)) (by unfold Func.isWrapper; first | (rw [if_pos (by decide +kernel)]; kernel_rfl) | (rw [if_neg (by decide +kernel)]; exact ⟨rfl, rfl⟩))
    (fun os started H enc _ => cloneKnown_lifted os started H enc)

/-- The given statement: the tied card. -/
theorem cloneKnown_proved : Rows.CloneKnownCardSaid :=
  Claim7.holds_tied_plain_at .later [] [.data, .pinned] true (true, "906de28a732203552ca5b4fb8bcc391238f68168db909a99d9398086fde0b3d4") false cloneKnown_over (fun _ h => by cases h) (by kernel_rfl) (fun _ h => by cases h) cloneKnown_row_tie rfl ⟨rfl, rfl⟩ (by kernel_rfl) rfl
    (fun f fn hf hfn => by
      obtain rfl : f = 4 := Option.some.inj ((show Tryz.prog.funcNamed _ = some 4 by kernel_rfl).symm.trans hf) |>.symm
      obtain rfl : fn = Tryz.f4 := (Option.some.inj (Tryz.func4.symm.trans hfn)).symm
      exact ⟨by kernel_rfl, fun j t ht => by
        rw [Tryz.params4] at ht
        have hm : t ∈ [25, 28] := by
          have := Array.mem_of_getElem? ht
          simpa using this
        have hall : ([25, 28].all fun u => !Tryz.prog.wantsStandIn u) = true := by kernel_rfl
        exact (show Tryz.prog.wantsStandIn t = false by simpa using List.all_eq_true.1 hall t hm)⟩)
    (by kernel_rfl)

#print axioms cloneKnown_proved
end Go.Proofs.YtglclijalehcmaaGreatDoor.LawP5
