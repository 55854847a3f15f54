/- The law CorpusPosts returns true whatever its arguments are, and each argument reads behind the call as it read before; the listed variables are tied to the program's text. -/
import Derived.Test.YtkoomieafmjjfaaDoorV12
import Derived.Test.YtkoomieafmjjfaaDoorRead
import Derived.Test.YtkoomieafmjjfaaDoorLaid
import Derived.Test.YtkoomieafmjjfaaDoorRows
import Derived.Test.YtkoomieafmjjfaaDoorCards
import Derived.Test.YtkoomieafmjjfaaDoorTie
import Derived.KernelRfl
import Derived.SevenTiedAt
import Derived.Lay
set_option linter.all false
namespace Go.Proofs.YtkoomieafmjjfaaDoor.LawP1
open Go Go.Proofs.YtkoomieafmjjfaaDoor Go.Lic Go.ChangeShapes Go.WideShapes Go.ChangeAt Go.RowKit

theorem rd3 : Reads Tryd.prog 3 1 D.i := .int (by kernel_rfl)
theorem und3 : Tryd.prog.underlying 3 = some (.int .i64) := by kernel_rfl
theorem rd9 : Reads Tryd.prog 9 1 D.s := .string (by kernel_rfl)
theorem und9 : Tryd.prog.underlying 9 = some .string := by kernel_rfl
theorem rd48 : Reads Tryd.prog 48 2 encLex := (Reads.rec (l := [(0, 9), (1, 3)]) (by kernel_rfl) (by kernel_rfl) (n := 2) (by kernel_rfl) (.cons (n0 := 1) (by kernel_rfl) rd9 (.cons (n0 := 1) (by kernel_rfl) rd3 .nil))).conv (fun a => ⟨a.1, a.2.1⟩) (fun _ => rfl)
theorem und48 : Tryd.prog.underlying 48 = some (.struct (fsOf Tryd.prog 48)) := by kernel_rfl
theorem rd30 : Reads Tryd.prog 30 1 (encL 2 encLex) := .slice (e := 48) (sz := 2) (by kernel_rfl) (by kernel_rfl) (by decide) rd48
theorem und30 : Tryd.prog.underlying 30 = some (.slice 48) := by kernel_rfl
theorem rd32 : Reads Tryd.prog 32 2 encText := (Reads.rec (l := [(0, 9), (1, 30)]) (by kernel_rfl) (by kernel_rfl) (n := 2) (by kernel_rfl) (.cons (n0 := 1) (by kernel_rfl) rd9 (.cons (n0 := 1) (by kernel_rfl) rd30 .nil))).conv (fun a => ⟨a.1, a.2.1⟩) (fun _ => rfl)
theorem und32 : Tryd.prog.underlying 32 = some (.struct (fsOf Tryd.prog 32)) := by kernel_rfl
theorem rd22 : Reads Tryd.prog 22 1 (encL 2 encText) := .slice (e := 32) (sz := 2) (by kernel_rfl) (by kernel_rfl) (by decide) rd32
theorem und22 : Tryd.prog.underlying 22 = some (.slice 32) := by kernel_rfl
theorem rd40 : Reads Tryd.prog 40 3 encPst := (Reads.rec (l := [(0, 3), (1, 3), (2, 3)]) (by kernel_rfl) (by kernel_rfl) (n := 3) (by kernel_rfl) (.cons (n0 := 1) (by kernel_rfl) rd3 (.cons (n0 := 1) (by kernel_rfl) rd3 (.cons (n0 := 1) (by kernel_rfl) rd3 .nil)))).conv (fun a => ⟨a.1, a.2.1, a.2.2.1⟩) (fun _ => rfl)
theorem und40 : Tryd.prog.underlying 40 = some (.struct (fsOf Tryd.prog 40)) := by kernel_rfl
theorem rd23 : Reads Tryd.prog 23 1 (encL 3 encPst) := .slice (e := 40) (sz := 3) (by kernel_rfl) (by kernel_rfl) (by decide) rd40
theorem und23 : Tryd.prog.underlying 23 = some (.slice 40) := by kernel_rfl
theorem rd25 : Reads Tryd.prog 25 4 encCorpus := (Reads.rec (l := [(0, 3), (1, 3), (2, 22), (3, 23)]) (by kernel_rfl) (by kernel_rfl) (n := 4) (by kernel_rfl) (.cons (n0 := 1) (by kernel_rfl) rd3 (.cons (n0 := 1) (by kernel_rfl) rd3 (.cons (n0 := 1) (by kernel_rfl) rd22 (.cons (n0 := 1) (by kernel_rfl) rd23 .nil))))).conv (fun a => ⟨a.1, a.2.1, a.2.2.1, a.2.2.2.1⟩) (fun _ => rfl)
theorem und25 : Tryd.prog.underlying 25 = some (.struct (fsOf Tryd.prog 25)) := by kernel_rfl
theorem und4 : Tryd.prog.underlying 4 = some .bool := by kernel_rfl
theorem laidOut : laidOutB Tryd.prog = true := by kernel_rfl
theorem ownK : ownKnob Tryd.prog.godebug = none := by kernel_rfl

set_option maxRecDepth 100000 in
theorem corpusPosts_lifted (os : Os) (started : os.Started) (H : Type) (enc : TypeId × Value → H) :
    ReturnsInHanded {} Tryd.checked os 3 .any (fun w args => (Rows.corpusPostsSpec.pre enc Tryd.prog Tryd.f3 [] false w args ∧ laidMetH Tryd.prog Rows.corpusPostsRow.laid w) ∧ sizedMet enc Tryd.prog Tryd.f3 (OpenSpec.ofChange Rows.corpusPostsSpec) false w args)
      (Rows.corpusPostsSpec.post enc Tryd.prog Tryd.f3 false true false false) := by
  refine returnsInHanded_of_change_and (C := Tryd.checked) (X := fun w _ => laidMetH Tryd.prog Rows.corpusPostsRow.laid w) (fun _ _ _ hh h => h.of_heap hh) ownK started (by kernel_rfl) Tryd.func3
    (ChangeSpec.witness_shaped (enc := enc) (C := Tryd.checked) (os := os) (X := fun w _ => laidMetH Tryd.prog Rows.corpusPostsRow.laid w) false (World.laidAll Tryd.prog os Rows.corpusPostsRow.laid) #[.agg #[.int .i64 0, .int .i64 0, .slice none 0 0, .slice none 0 0]] 8 (World.laidAll_os _ _ _)
      (World.shaped_of_ZipB (by kernel_rfl) (by kernel_rfl)) (by kernel_rfl) (by kernel_rfl) (by kernel_rfl)
      (by rw [MakeChecks.laidMetH_plain _ _ _ (by kernel_rfl)]; exact laidMet_laidAll _ (by kernel_rfl) (by kernel_rfl))) ?_
  intro W base args ds gs before hval0 hW _ _ hL _
  have hval : ∀ (j : Nat) t v, Tryd.f3.params[j]? = some t → args[j]? = some v → Value.okWide Tryd.prog W .any base t v := hval0
  have hW' := hW
  obtain ⟨p, q, hA0, hV, rfl, hfz, hnd⟩ := hW
  have hA : DataW.TrodAll enc Tryd.prog W 0 (fun _ => true) true Tryd.f3.params.toList args.toList ds p := hA0
  rw [Tryd.params3] at hA hval
  obtain ⟨v0, vs0, d0, ds0, p0, q0, hargs, rfl, rfl, h0, r0⟩ := trodAll_cons hA
  obtain ⟨rfl, rfl, rfl⟩ := trodAll_nil r0
  obtain rfl : args = #[v0] := by cases args; simp_all
  obtain ⟨rfl, rfl⟩ := trodVars_none hV
  obtain ⟨a0, e0⟩ := rd25.argS und25 (fun _ => rfl) (hval 0 25 v0 rfl rfl) h0
  clear hA0 hval0
  rw [MakeChecks.laidMetH_plain _ _ _ (by kernel_rfl)] at hL
  refine (lawPosts_c a0  (fun _ => False) W [v0] ⟨0, fun _ h => h.elim⟩ (fun _ h => h.elim) (glob_none W) (.cons e0 .nil)).mono fun e W' h => ?_
  obtain ⟨v, d, he, hd, hv, hx⟩ := h
  subst hd
  cases hv
  exact ⟨_, he, post_law (bt := 4) laidOut (by rw [Tryd.params3]; decide +kernel) rfl und4 rfl (by simp [Rows.corpusPostsSpec]) hW' hx⟩

theorem corpusPosts_over : Rows.corpusPostsRow.holds Tryd.pinned (OpenSpec.ofChange Rows.corpusPostsSpec) :=
  OpenClaim.holds_of_wide 3 Tryd.f3 rfl rfl rfl rfl rfl rfl rfl ⟨rfl, rfl, rfl, rfl, rfl⟩ rfl rfl rfl rfl rfl (by kernel_rfl) Tryd.func3 (by kernel_rfl)
    (of_decide_eq_true (by kernel_rfl)) (by unfold Func.isWrapper; first | (rw [if_pos (by decide +kernel)]; kernel_rfl) | (rw [if_neg (by decide +kernel)]; exact ⟨rfl, rfl⟩))
    (fun os started H enc _ => corpusPosts_lifted os started H enc)

/-- The given statement: the tied card. -/
theorem corpusPosts_proved : Rows.CorpusPostsCardSaid :=
  Claim7.holds_tied_plain_at .later [] [.data, .pinned] true (true, "07247f4954431042e10f84d3fe9a4289acb01e5e1d32552e49c3bb599c5d45b2") false corpusPosts_over (fun _ h => by cases h) (by kernel_rfl) (fun _ h => by cases h) corpusPosts_row_tie rfl ⟨rfl, rfl⟩ (by kernel_rfl) rfl
    (fun f fn hf hfn => by
      obtain rfl : f = 3 := Option.some.inj ((show Tryd.prog.funcNamed _ = some 3 by kernel_rfl).symm.trans hf) |>.symm
      obtain rfl : fn = Tryd.f3 := (Option.some.inj (Tryd.func3.symm.trans hfn)).symm
      exact ⟨by kernel_rfl, fun j t ht => by
        rw [Tryd.params3] at ht
        have hm : t ∈ [25] := by
          have := Array.mem_of_getElem? ht
          simpa using this
        have hall : ([25].all fun u => !Tryd.prog.wantsStandIn u) = true := by kernel_rfl
        exact (show Tryd.prog.wantsStandIn t = false by simpa using List.all_eq_true.1 hall t hm)⟩)
    (by kernel_rfl)

#print axioms corpusPosts_proved
end Go.Proofs.YtkoomieafmjjfaaDoor.LawP1
