/- The law CorpusOrder returns true whatever its arguments are, and each argument reads behind the call as it read before; the listed variables are tied to the program's text. -/
import Derived.Test.YtkoomieafmjjfaaGreatDoorV15
import Derived.Test.YtkoomieafmjjfaaGreatDoorRead
import Derived.Test.YtkoomieafmjjfaaGreatDoorLib
import Derived.Test.YtkoomieafmjjfaaGreatDoorRows
import Derived.Test.YtkoomieafmjjfaaGreatDoorCards
import Derived.Test.YtkoomieafmjjfaaGreatDoorTie
import Derived.KernelRfl
import Derived.SevenTiedAt
import Derived.Lay
set_option linter.all false
namespace Go.Proofs.YtkoomieafmjjfaaGreatDoor.LawP6
open Go Go.Proofs.YtkoomieafmjjfaaGreatDoor Go.Lic Go.ChangeShapes Go.WideShapes Go.ChangeAt Go.RowKit

theorem rd9 : Reads Tryz.prog 9 1 D.s := .string (by kernel_rfl)
theorem und9 : Tryz.prog.underlying 9 = some .string := by kernel_rfl
theorem rd3 : Reads Tryz.prog 3 1 D.i := .int (by kernel_rfl)
theorem und3 : Tryz.prog.underlying 3 = some (.int .i64) := by kernel_rfl
theorem rd72 : Reads Tryz.prog 72 2 encLex := (Reads.rec (l := [(0, 9), (1, 3)]) (by kernel_rfl) (by kernel_rfl) (n := 2) (by kernel_rfl) (.cons (n0 := 1) (by kernel_rfl) rd9 (.cons (n0 := 1) (by kernel_rfl) rd3 .nil))).conv (fun a => ⟨a.1, a.2.1⟩) (fun _ => rfl)
theorem und72 : Tryz.prog.underlying 72 = some (.struct (fsOf Tryz.prog 72)) := by kernel_rfl
theorem rd34 : Reads Tryz.prog 34 1 (encL 2 encLex) := .slice (e := 72) (sz := 2) (by kernel_rfl) (by kernel_rfl) (by decide) rd72
theorem und34 : Tryz.prog.underlying 34 = some (.slice 72) := by kernel_rfl
theorem rd36 : Reads Tryz.prog 36 2 encText := (Reads.rec (l := [(0, 9), (1, 34)]) (by kernel_rfl) (by kernel_rfl) (n := 2) (by kernel_rfl) (.cons (n0 := 1) (by kernel_rfl) rd9 (.cons (n0 := 1) (by kernel_rfl) rd34 .nil))).conv (fun a => ⟨a.1, a.2.1⟩) (fun _ => rfl)
theorem und36 : Tryz.prog.underlying 36 = some (.struct (fsOf Tryz.prog 36)) := by kernel_rfl
theorem rd22 : Reads Tryz.prog 22 1 (encL 2 encText) := .slice (e := 36) (sz := 2) (by kernel_rfl) (by kernel_rfl) (by decide) rd36
theorem und22 : Tryz.prog.underlying 22 = some (.slice 36) := by kernel_rfl
theorem rd5 : Reads Tryz.prog 5 1 (D.k .u8) := .int (by kernel_rfl)
theorem und5 : Tryz.prog.underlying 5 = some (.int .u8) := by kernel_rfl
theorem und4 : Tryz.prog.underlying 4 = some .bool := by kernel_rfl
theorem rdr5 : Reads Tryz.prog 5 1 (fun n : {n : Int // inK .u8 n} => .v (.int .u8 n.1)) := .intR (by kernel_rfl)
theorem u8range {n : Int} (h : inK .u8 n) : inL n 256 := by
  have : (0 : Int) ≤ n ∧ n ≤ 255 := h
  omega
theorem laidOut : laidOutB Tryz.prog = true := by kernel_rfl
theorem ownK : ownKnob Tryz.prog.godebug = none := by kernel_rfl

set_option maxRecDepth 100000 in
theorem corpusOrder_lifted (os : Os) (started : os.Started) (H : Type) (enc : TypeId × Value → H) :
    ReturnsInHanded {} Tryz.checked os 8 .any (fun w args => (Rows.corpusOrderSpec.pre enc Tryz.prog Tryz.f8 [] false w args ∧ laidMetH Tryz.prog Rows.corpusOrderRow.laid w) ∧ sizedMet enc Tryz.prog Tryz.f8 (OpenSpec.ofChange Rows.corpusOrderSpec) false w args)
      (Rows.corpusOrderSpec.post enc Tryz.prog Tryz.f8 false true false false) := by
  refine returnsInHanded_of_change_and (C := Tryz.checked) (X := fun w _ => laidMetH Tryz.prog Rows.corpusOrderRow.laid w) (fun _ _ _ hh h => h.of_heap hh) ownK started (by kernel_rfl) Tryz.func8
    (ChangeSpec.witness_shaped (enc := enc) (C := Tryz.checked) (os := os) (X := fun w _ => laidMetH Tryz.prog Rows.corpusOrderRow.laid w) false (World.laidAll Tryz.prog os Rows.corpusOrderRow.laid) #[.slice none 0 0, .agg #[.string ⟨#[]⟩, .slice none 0 0], .int .u8 0, .int .u8 0, .int .u8 0] 8 (World.laidAll_os _ _ _)
      (World.shaped_of_ZipB (by kernel_rfl) (by kernel_rfl)) (by kernel_rfl) (by kernel_rfl) (by kernel_rfl)
      (by rw [MakeChecks.laidMetH_plain _ _ _ (by kernel_rfl)]; exact laidMet_laidAll _ (by kernel_rfl) (by kernel_rfl))) ?_
  intro W base args ds gs before hval0 hW _ _ hL _
  have hval : ∀ (j : Nat) t v, Tryz.f8.params[j]? = some t → args[j]? = some v → Value.okWide Tryz.prog W .any base t v := hval0
  have hW' := hW
  obtain ⟨p, q, hA0, hV, rfl, hfz, hnd⟩ := hW
  have hA : DataW.TrodAll enc Tryz.prog W 0 (fun _ => true) true Tryz.f8.params.toList args.toList ds p := hA0
  rw [Tryz.params8] at hA hval
  obtain ⟨v0, vs0, d0, ds0, p0, q0, hargs, rfl, rfl, h0, r0⟩ := trodAll_cons hA
  obtain ⟨v1, vs1, d1, ds1, p1, q1, rfl, rfl, rfl, h1, r1⟩ := trodAll_cons r0
  obtain ⟨v2, vs2, d2, ds2, p2, q2, rfl, rfl, rfl, h2, r2⟩ := trodAll_cons r1
  obtain ⟨v3, vs3, d3, ds3, p3, q3, rfl, rfl, rfl, h3, r3⟩ := trodAll_cons r2
  obtain ⟨v4, vs4, d4, ds4, p4, q4, rfl, rfl, rfl, h4, r4⟩ := trodAll_cons r3
  obtain ⟨rfl, rfl, rfl⟩ := trodAll_nil r4
  obtain rfl : args = #[v0, v1, v2, v3, v4] := by cases args; simp_all
  obtain ⟨rfl, rfl⟩ := trodVars_none hV
  obtain ⟨a0, e0⟩ := rd22.arg1 (fun _ => rfl) (by intro cs hc; simp [Value.okWide, und22, Cell.okWide, Cell.ok] at hc) (hval 0 22 v0 rfl rfl) h0
  obtain ⟨a1, e1⟩ := rd36.argS und36 (fun _ => rfl) (hval 1 36 v1 rfl rfl) h1
  obtain ⟨a2, e2⟩ := rdr5.arg1 (fun _ => rfl) (by intro cs hc; simp [Value.okWide, und5, Cell.okWide, Cell.ok] at hc) (hval 2 5 v2 rfl rfl) h2
  obtain ⟨a3, e3⟩ := rdr5.arg1 (fun _ => rfl) (by intro cs hc; simp [Value.okWide, und5, Cell.okWide, Cell.ok] at hc) (hval 3 5 v3 rfl rfl) h3
  obtain ⟨a4, e4⟩ := rdr5.arg1 (fun _ => rfl) (by intro cs hc; simp [Value.okWide, und5, Cell.okWide, Cell.ok] at hc) (hval 4 5 v4 rfl rfl) h4
  clear hA0 hval0
  rw [MakeChecks.laidMetH_plain _ _ _ (by kernel_rfl)] at hL
  refine (lawOrder_c a0 a1 a2.1 a3.1 a4.1 (u8range a2.2) (u8range a3.2) (u8range a4.2) (fun _ => False) W [v0, v1, v2, v3, v4] ⟨0, fun _ h => h.elim⟩ (fun _ h => h.elim) (glob_of_laid (by repeat (first | exact List.Mem.head _ | apply List.Mem.tail)) hL) (.cons e0 (.cons e1 (.cons e2 (.cons e3 (.cons e4 .nil)))))).mono fun e W' h => ?_
  obtain ⟨v, d, he, hd, hv, hx⟩ := h
  subst hd
  cases hv
  exact ⟨_, he, post_law (bt := 4) laidOut (by rw [Tryz.params8]; decide +kernel) rfl und4 rfl (by simp [Rows.corpusOrderSpec]) hW' hx⟩

theorem corpusOrder_over : Rows.corpusOrderRow.holds Tryz.pinned (OpenSpec.ofChange Rows.corpusOrderSpec) :=
  OpenClaim.holds_of_wide 8 Tryz.f8 rfl rfl rfl rfl rfl rfl rfl ⟨rfl, rfl, rfl, rfl, rfl⟩ rfl rfl rfl rfl rfl (by kernel_rfl) Tryz.func8 (by kernel_rfl)
    (of_decide_eq_true (by kernel_rfl)) (by unfold Func.isWrapper; first | (rw [if_pos (by decide +kernel)]; kernel_rfl) | (rw [if_neg (by decide +kernel)]; exact ⟨rfl, rfl⟩))
    (fun os started H enc _ => corpusOrder_lifted os started H enc)

/-- The given statement: the tied card. -/
theorem corpusOrder_proved : Rows.CorpusOrderCardSaid :=
  Claim7.holds_tied_plain_at .later [] [.data, .data, .data, .data, .pinned] true (true, "a27c14a828b580cac456c3638327443cb46b32cfaba9e4f4103e379c4dfe1a11") false corpusOrder_over (fun _ h => by cases h) (by kernel_rfl) (fun _ h => by cases h) corpusOrder_row_tie rfl ⟨rfl, rfl⟩ (by kernel_rfl) rfl
    (fun f fn hf hfn => by
      obtain rfl : f = 8 := Option.some.inj ((show Tryz.prog.funcNamed _ = some 8 by kernel_rfl).symm.trans hf) |>.symm
      obtain rfl : fn = Tryz.f8 := (Option.some.inj (Tryz.func8.symm.trans hfn)).symm
      exact ⟨by kernel_rfl, fun j t ht => by
        rw [Tryz.params8] at ht
        have hm : t ∈ [22, 36, 5, 5, 5] := by
          have := Array.mem_of_getElem? ht
          simpa using this
        have hall : ([22, 36, 5, 5, 5].all fun u => !Tryz.prog.wantsStandIn u) = true := by kernel_rfl
        exact (show Tryz.prog.wantsStandIn t = false by simpa using List.all_eq_true.1 hall t hm)⟩)
    (by kernel_rfl)

#print axioms corpusOrder_proved
end Go.Proofs.YtkoomieafmjjfaaGreatDoor.LawP6
