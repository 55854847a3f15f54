/- The law CloneCovers returns true whatever its arguments are, and each argument reads behind the call as it read before; the listed variables are tied to the program's text. -/
import Derived.Test.YtglclijalehcmaaGreatDoorV17
import Derived.Test.YtglclijalehcmaaGreatDoorRead
import Derived.Test.YtglclijalehcmaaGreatDoorLib
import Derived.Test.YtglclijalehcmaaGreatDoorRows
import Derived.Test.YtglclijalehcmaaGreatDoorCards
import Derived.Test.YtglclijalehcmaaGreatDoorTie
import Derived.KernelRfl
import Derived.SevenTiedAt
import Derived.Lay
set_option linter.all false
namespace Go.Proofs.YtglclijalehcmaaGreatDoor.LawP7
open Go Go.Proofs.YtglclijalehcmaaGreatDoor Go.Lic Go.ChangeShapes Go.WideShapes Go.ChangeAt Go.RowKit

theorem rd9 : Reads Tryz.prog 9 1 D.s := .string (by kernel_rfl)
theorem und9 : Tryz.prog.underlying 9 = some .string := by kernel_rfl
theorem rd3 : Reads Tryz.prog 3 1 D.i := .int (by kernel_rfl)
theorem und3 : Tryz.prog.underlying 3 = some (.int .i64) := by kernel_rfl
theorem rd61 : Reads Tryz.prog 61 2 encLex := (Reads.rec (l := [(0, 9), (1, 3)]) (by kernel_rfl) (by kernel_rfl) (n := 2) (by kernel_rfl) (.cons (n0 := 1) (by kernel_rfl) rd9 (.cons (n0 := 1) (by kernel_rfl) rd3 .nil))).conv (fun a => ⟨a.1, a.2.1⟩) (fun _ => rfl)
theorem und61 : Tryz.prog.underlying 61 = some (.struct (fsOf Tryz.prog 61)) := by kernel_rfl
theorem rd26 : Reads Tryz.prog 26 1 (encL 2 encLex) := .slice (e := 61) (sz := 2) (by kernel_rfl) (by kernel_rfl) (by decide) rd61
theorem und26 : Tryz.prog.underlying 26 = some (.slice 61) := by kernel_rfl
theorem rd28 : Reads Tryz.prog 28 2 encText := (Reads.rec (l := [(0, 9), (1, 26)]) (by kernel_rfl) (by kernel_rfl) (n := 2) (by kernel_rfl) (.cons (n0 := 1) (by kernel_rfl) rd9 (.cons (n0 := 1) (by kernel_rfl) rd26 .nil))).conv (fun a => ⟨a.1, a.2.1⟩) (fun _ => rfl)
theorem und28 : Tryz.prog.underlying 28 = some (.struct (fsOf Tryz.prog 28)) := by kernel_rfl
theorem rd22 : Reads Tryz.prog 22 1 (encL 2 encText) := .slice (e := 28) (sz := 2) (by kernel_rfl) (by kernel_rfl) (by decide) rd28
theorem und22 : Tryz.prog.underlying 22 = some (.slice 28) := by kernel_rfl
theorem rd5 : Reads Tryz.prog 5 1 (D.k .u8) := .int (by kernel_rfl)
theorem und5 : Tryz.prog.underlying 5 = some (.int .u8) := by kernel_rfl
theorem und4 : Tryz.prog.underlying 4 = some .bool := by kernel_rfl
theorem rdr5 : Reads Tryz.prog 5 1 (fun n : {n : Int // inK .u8 n} => .v (.int .u8 n.1)) := .intR (by kernel_rfl)
theorem u8range {n : Int} (h : inK .u8 n) : inL n 256 := by
  have : (0 : Int) ≤ n ∧ n ≤ 255 := h
  omega
theorem laidOut : laidOutB Tryz.prog = true := by kernel_rfl
theorem ownK : ownKnob Tryz.prog.godebug = none := by kernel_rfl

set_option maxRecDepth 100000 in
theorem cloneCovers_lifted (os : Os) (started : os.Started) (H : Type) (enc : TypeId × Value → H) :
    ReturnsInHanded {} Tryz.checked os 6 .any (fun w args => (Rows.cloneCoversSpec.pre enc Tryz.prog Tryz.f6 [] false w args ∧ laidMetH Tryz.prog Rows.cloneCoversRow.laid w) ∧ sizedMet enc Tryz.prog Tryz.f6 (OpenSpec.ofChange Rows.cloneCoversSpec) false w args)
      (Rows.cloneCoversSpec.post enc Tryz.prog Tryz.f6 false true false false) := by
  refine returnsInHanded_of_change_and (C := Tryz.checked) (X := fun w _ => laidMetH Tryz.prog Rows.cloneCoversRow.laid w) (fun _ _ _ hh h => h.of_heap hh) ownK started (by kernel_rfl) Tryz.func6
    (ChangeSpec.witness_shaped (enc := enc) (C := Tryz.checked) (os := os) (X := fun w _ => laidMetH Tryz.prog Rows.cloneCoversRow.laid w) false (World.laidAll Tryz.prog os Rows.cloneCoversRow.laid) #[.slice none 0 0, .int .u8 0] 8 (World.laidAll_os _ _ _)
      (World.shaped_of_ZipB (by kernel_rfl) (by kernel_rfl)) (by kernel_rfl) (by kernel_rfl) (by kernel_rfl)
      (by rw [MakeChecks.laidMetH_plain _ _ _ (by kernel_rfl)]; exact laidMet_laidAll _ (by kernel_rfl) (by kernel_rfl))) ?_
  intro W base args ds gs before hval0 hW _ _ hL _
  have hval : ∀ (j : Nat) t v, Tryz.f6.params[j]? = some t → args[j]? = some v → Value.okWide Tryz.prog W .any base t v := hval0
  have hW' := hW
  obtain ⟨p, q, hA0, hV, rfl, hfz, hnd⟩ := hW
  have hA : DataW.TrodAll enc Tryz.prog W 0 (fun _ => true) true Tryz.f6.params.toList args.toList ds p := hA0
  rw [Tryz.params6] at hA hval
  obtain ⟨v0, vs0, d0, ds0, p0, q0, hargs, rfl, rfl, h0, r0⟩ := trodAll_cons hA
  obtain ⟨v1, vs1, d1, ds1, p1, q1, rfl, rfl, rfl, h1, r1⟩ := trodAll_cons r0
  obtain ⟨rfl, rfl, rfl⟩ := trodAll_nil r1
  obtain rfl : args = #[v0, v1] := by cases args; simp_all
  obtain ⟨rfl, rfl⟩ := trodVars_none hV
  obtain ⟨a0, e0⟩ := rd22.arg1 (fun _ => rfl) (by intro cs hc; simp [Value.okWide, und22, Cell.okWide, Cell.ok] at hc) (hval 0 22 v0 rfl rfl) h0
  obtain ⟨a1, e1⟩ := rdr5.arg1 (fun _ => rfl) (by intro cs hc; simp [Value.okWide, und5, Cell.okWide, Cell.ok] at hc) (hval 1 5 v1 rfl rfl) h1
  clear hA0 hval0
  rw [MakeChecks.laidMetH_plain _ _ _ (by kernel_rfl)] at hL
  refine (lawCovers_c a0 a1.1 (u8range a1.2) (fun _ => False) W [v0, v1] ⟨0, fun _ h => h.elim⟩ (fun _ h => h.elim) (glob_none W) (.cons e0 (.cons e1 .nil))).mono fun e W' h => ?_
  obtain ⟨v, d, he, hd, hv, hx⟩ := h
  subst hd
  cases hv
  exact ⟨_, he, post_law (bt := 4) laidOut (by rw [Tryz.params6]; decide +kernel) rfl und4 rfl (by simp [Rows.cloneCoversSpec]) hW' hx⟩

theorem cloneCovers_over : Rows.cloneCoversRow.holds Tryz.pinned (OpenSpec.ofChange Rows.cloneCoversSpec) :=
  OpenClaim.holds_of_wide 6 Tryz.f6 rfl rfl rfl rfl rfl rfl rfl ⟨rfl, rfl, rfl, rfl, rfl⟩ rfl rfl rfl rfl rfl (by kernel_rfl) Tryz.func6 (by kernel_rfl)
    (of_decide_eq_true (by kernel_rfl)) (by unfold Func.isWrapper; first | (rw [if_pos (by decide +kernel)]; kernel_rfl) | (rw [if_neg (by decide +kernel)]; exact ⟨rfl, rfl⟩))
    (fun os started H enc _ => cloneCovers_lifted os started H enc)

/-- The given statement: the tied card. -/
theorem cloneCovers_proved : Rows.CloneCoversCardSaid :=
  Claim7.holds_tied_plain_at .later [] [.data, .pinned] true (true, "906de28a732203552ca5b4fb8bcc391238f68168db909a99d9398086fde0b3d4") false cloneCovers_over (fun _ h => by cases h) (by kernel_rfl) (fun _ h => by cases h) cloneCovers_row_tie rfl ⟨rfl, rfl⟩ (by kernel_rfl) rfl
    (fun f fn hf hfn => by
      obtain rfl : f = 6 := Option.some.inj ((show Tryz.prog.funcNamed _ = some 6 by kernel_rfl).symm.trans hf) |>.symm
      obtain rfl : fn = Tryz.f6 := (Option.some.inj (Tryz.func6.symm.trans hfn)).symm
      exact ⟨by kernel_rfl, fun j t ht => by
        rw [Tryz.params6] at ht
        have hm : t ∈ [22, 5] := by
          have := Array.mem_of_getElem? ht
          simpa using this
        have hall : ([22, 5].all fun u => !Tryz.prog.wantsStandIn u) = true := by kernel_rfl
        exact (show Tryz.prog.wantsStandIn t = false by simpa using List.all_eq_true.1 hall t hm)⟩)
    (by kernel_rfl)

#print axioms cloneCovers_proved
end Go.Proofs.YtglclijalehcmaaGreatDoor.LawP7
