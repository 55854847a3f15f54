/-
  walks and contracts
-/
import Derived.Test.YtglclijalehcmaaGreatDoorV7
set_option linter.all false
namespace Go.Proofs.YtglclijalehcmaaGreatDoor
open Go Go.Lic Go.Sort Go.Proofs
attribute [local irreducible] addF addP badR blankF checkF cmpB cmpI codeF commonF4 countF fewC fewTs fewW findT gramsF growTF guarF hashF indexF leastF lenF mul64F mulP nameR nearC nearF newF orF partF pathB pathF postCmp postLt postsF powF printsF pushF rollF selectF sizeF splitF splitG validT



abbrev awake_e0  := (addF ((newF 2 1).1) (Text.mk (⟨#[112]⟩ : ByteArray) ([(Lexeme.mk (⟨#[97]⟩ : ByteArray) 0), (Lexeme.mk (⟨#[98]⟩ : ByteArray) 0), (Lexeme.mk (⟨#[97]⟩ : ByteArray) 0)] : List Lexeme)))
abbrev awake_e1  := (((((((newF 2 1).2) == 0) && ((awake_e0.2) == 0)) && (((nearF (awake_e0.1) (Text.mk (⟨#[113]⟩ : ByteArray) ([(Lexeme.mk (⟨#[98]⟩ : ByteArray) 0), (Lexeme.mk (⟨#[97]⟩ : ByteArray) 0)] : List Lexeme))).2) == 0)) && (decide (((awake_e0.1).posts) = ([(Pst.mk 99000397 0 0), (Pst.mk 100000399 0 1)] : List Pst)))) && (decide (((nearF (awake_e0.1) (Text.mk (⟨#[113]⟩ : ByteArray) ([(Lexeme.mk (⟨#[98]⟩ : ByteArray) 0), (Lexeme.mk (⟨#[97]⟩ : ByteArray) 0)] : List Lexeme))).1) = ([0] : List Int))))
set_option maxHeartbeats 2000000 in
set_option maxRecDepth 10000 in
theorem awake_w   (Q : Bool → Prop) (h : awake_vc  Q) : Fun false Tryz.prog 36 [] (fun d => ∃ r, d = D.b r ∧ Q r) := by
  unfold awake_vc at h
  refine Fun.of_body Tryz.func36 rfl Tryz.ntmps36 rfl ?_
  refine wpA_seq ?_
  refine wpA_region ?_
  refine wL (OpA.a ?_)
  refine wpL_nil ?_
  refine wpA_seq ?_
  refine wpA_region ?_
  refine wL (OpA.call rfl rfl rfl en68 (cnew_c 2 1 ) ?_)
  rintro _ rfl
  refine wL (OpA.m ?_)
  iterate 2 refine wL (OpA.extract rfl rfl rfl ?_)
  refine wL (OpA.alloc (sz := 4) (d := .agg ([D.i 0, D.i 0, .v (.slice none 0 0), .v (.slice none 0 0)])) rfl tz25 (fun _ _ => .agg (.cons (.v _) (.cons (.v _) (.cons (.v _) (.cons (.v _) .nil))))) (.of rfl) (fun c1 _ => ?_))
  refine wE (OpA.storeW rfl ti25 rfl (by with_reducible conv => lhs; whnf) (.of rfl) rfl rfl .head ?_)
  refine wL (OpA.a ?_)
  refine wpL_nil ?_
  refine wpA_seq ?_
  obtain ⟨q1, q2, h⟩ := h
  refine wpA_region ?_
  refine wL (OpA.load_whole rfl ti25 rfl rfl .head rfl ⟨_, rfl⟩ ?_)
  iterate 3 refine wL (OpA.buildO (zs := [.v (.string ⟨#[]⟩), .v (.int .i64 0)]) rfl tp61 tz61 (fun _ _ => (.cons (.v _) (.cons (.v _) .nil))) (.cons (.of (sz := 1) rfl) .nil) rfl ?_)
  refine wL (OpA.ibuildSliceO rfl ts26 rfl (.cons (.of (sz := 2) rfl) (.cons (.of (sz := 2) rfl) (.cons (.of (sz := 2) rfl) .nil))) (by decide) ?_)
  refine wL (OpA.buildO (zs := [.v (.string ⟨#[]⟩), .v (.slice none 0 0)]) rfl tp28 tz28 (fun _ _ => (.cons (.v _) (.cons (.v _) .nil))) (.cons (.of (sz := 1) rfl) (.cons (.of (sz := 1) rfl) .nil)) rfl ?_)
  refine wL (OpA.call rfl rfl rfl en69 (cadd_c ((newF 2 1).1) (Text.mk (⟨#[112]⟩ : ByteArray) ([(Lexeme.mk (⟨#[97]⟩ : ByteArray) 0), (Lexeme.mk (⟨#[98]⟩ : ByteArray) 0), (Lexeme.mk (⟨#[97]⟩ : ByteArray) 0)] : List Lexeme)) q1 q2) ?_)
  rintro _ rfl
  refine wL (OpA.m ?_)
  iterate 2 refine wL (OpA.extract rfl rfl rfl ?_)
  refine wE (OpA.storeW rfl ti25 rfl (by with_reducible conv => lhs; whnf) (.of rfl) rfl rfl .head ?_)
  refine wL (OpA.a ?_)
  refine wpL_nil ?_
  refine wpA_seq ?_
  obtain ⟨q1, q2, q3, h⟩ := h
  refine wpA_region ?_
  refine wL (OpA.load_whole rfl ti25 rfl rfl .head rfl ⟨_, rfl⟩ ?_)
  iterate 2 refine wL (OpA.buildO (zs := [.v (.string ⟨#[]⟩), .v (.int .i64 0)]) rfl tp61 tz61 (fun _ _ => (.cons (.v _) (.cons (.v _) .nil))) (.cons (.of (sz := 1) rfl) .nil) rfl ?_)
  refine wL (OpA.ibuildSliceO rfl ts26 rfl (.cons (.of (sz := 2) rfl) (.cons (.of (sz := 2) rfl) .nil)) (by decide) ?_)
  refine wL (OpA.buildO (zs := [.v (.string ⟨#[]⟩), .v (.slice none 0 0)]) rfl tp28 tz28 (fun _ _ => (.cons (.v _) (.cons (.v _) .nil))) (.cons (.of (sz := 1) rfl) (.cons (.of (sz := 1) rfl) .nil)) rfl ?_)
  refine wL (OpA.call rfl rfl rfl en39 (cnear_c (awake_e0.1) (Text.mk (⟨#[113]⟩ : ByteArray) ([(Lexeme.mk (⟨#[98]⟩ : ByteArray) 0), (Lexeme.mk (⟨#[97]⟩ : ByteArray) 0)] : List Lexeme)) q1 q2 q3) ?_)
  rintro _ rfl
  refine wL (OpA.m ?_)
  iterate 2 refine wL (OpA.extract rfl rfl rfl ?_)
  iterate 2 refine wL (OpA.a ?_)
  refine wpL_nil ?_
  refine wpA_seq ?_
  obtain ⟨q1, q2, h⟩ := h
  refine wpA_mid (asg [(0, D.b awake_e1)]) [(c1, .cells 4 [encCorpus (awake_e0.1)])] ?_ ?_
  refine wpA_region ?_
  refine wL (OpA.m ?_)
  refine wL (OpA.eql rfl rfl rfl ?_)
  refine wL (OpA.m ?_)
  refine wpL_split (s := 31) rfl (fun b2 => ?_) (fun b2 => ?_)
  refine wG (OpA.m ?_)
  refine wG (OpA.eql rfl rfl rfl ?_)
  refine wL (OpA.p ?_)
  refine wL (OpA.m ?_)
  refine wpL_split (s := 35) rfl (fun b3 => ?_) (fun b3 => ?_)
  refine wG (OpA.m ?_)
  refine wG (OpA.eql rfl rfl rfl ?_)
  refine wL (OpA.p ?_)
  refine wL (OpA.m ?_)
  refine wpL_split (s := 39) rfl (fun b4 => ?_) (fun b4 => ?_)
  refine wG (OpA.fieldAddr rfl tf25_3 rfl ?_)
  refine wG (OpA.load rfl ti23 rfl .head rfl rfl ?_)
  refine wG (OpA.buildO (zs := [.v (.int .i64 0), .v (.int .i64 0), .v (.int .i64 0)]) rfl tp107 tz107 (fun _ _ => (.cons (.v _) (.cons (.v _) (.cons (.v _) .nil)))) (.cons (.of (sz := 1) rfl) .nil) rfl ?_)
  refine wG (OpA.buildO (zs := [.v (.int .i64 0), .v (.int .i64 0), .v (.int .i64 0)]) rfl tp107 tz107 (fun _ _ => (.cons (.v _) (.cons (.v _) (.cons (.v _) .nil)))) (.cons (.of (sz := 1) rfl) (.cons (.of (sz := 1) rfl) .nil)) rfl ?_)
  refine wG (OpA.ibuildSliceO rfl ts23 rfl (.cons (.of (sz := 3) rfl) (.cons (.of (sz := 3) rfl) .nil)) (by decide) ?_)
  refine wG (OpA.call rfl rfl rfl en70 (eqPosts_c ((awake_e0.1).posts) ([(Pst.mk 99000397 0 0), (Pst.mk 100000399 0 1)] : List Pst) (q1 ⟨⟨(beqT b2), (beqT b3)⟩, (beqT b4)⟩)) ?_)
  rintro _ rfl
  refine wL (OpA.p ?_)
  refine wL (OpA.m ?_)
  refine wpL_split (s := 47) rfl (fun b5 => ?_) (fun b5 => ?_)
  refine wG (OpA.m ?_)
  refine wG (OpA.ibuildSliceO rfl ts67 rfl (.cons (.of (sz := 1) rfl) .nil) (by decide) ?_)
  refine wG (OpA.call rfl rfl rfl en71 (eqInts_c ((nearF (awake_e0.1) (Text.mk (⟨#[113]⟩ : ByteArray) ([(Lexeme.mk (⟨#[98]⟩ : ByteArray) 0), (Lexeme.mk (⟨#[97]⟩ : ByteArray) 0)] : List Lexeme))).1) ([0] : List Int) (q2 ⟨⟨⟨(beqT b2), (beqT b3)⟩, (beqT b4)⟩, b5⟩)) ?_)
  rintro _ rfl
  refine wL (OpA.p ?_)
  refine wL (OpA.a ?_)
  refine wpL_nil ?_
  exact ⟨(Cov.asg ⟨(congrArg D.b (Eq.symm (andN (andN (andN (andN b2 b3) b4) b5) rfl))), trivial⟩), (.refl _)⟩
  iterate 3 refine wS ?_
  refine wL (OpA.p ?_)
  refine wL (OpA.a ?_)
  refine wpL_nil ?_
  exact ⟨(Cov.asg ⟨(congrArg D.b (Eq.symm (andS (andN (andN (andN b2 b3) b4) b5)))), trivial⟩), (.refl _)⟩
  iterate 6 refine wS ?_
  refine wL (OpA.p ?_)
  refine wL (OpA.m ?_)
  iterate 3 refine wS ?_
  refine wL (OpA.p ?_)
  refine wL (OpA.a ?_)
  refine wpL_nil ?_
  exact ⟨(Cov.asg ⟨(congrArg D.b (Eq.symm (andS (andS (andN (andN b2 b3) b4))))), trivial⟩), (.refl _)⟩
  iterate 2 refine wS ?_
  refine wL (OpA.p ?_)
  refine wL (OpA.m ?_)
  iterate 6 refine wS ?_
  refine wL (OpA.p ?_)
  refine wL (OpA.m ?_)
  iterate 3 refine wS ?_
  refine wL (OpA.p ?_)
  refine wL (OpA.a ?_)
  refine wpL_nil ?_
  exact ⟨(Cov.asg ⟨(congrArg D.b (Eq.symm (andS (andS (andS (andN b2 b3)))))), trivial⟩), (.refl _)⟩
  iterate 2 refine wS ?_
  refine wL (OpA.p ?_)
  refine wL (OpA.m ?_)
  iterate 2 refine wS ?_
  refine wL (OpA.p ?_)
  refine wL (OpA.m ?_)
  iterate 6 refine wS ?_
  refine wL (OpA.p ?_)
  refine wL (OpA.m ?_)
  iterate 3 refine wS ?_
  refine wL (OpA.p ?_)
  refine wL (OpA.a ?_)
  refine wpL_nil ?_
  exact ⟨(Cov.asg ⟨(congrArg D.b (Eq.symm (andS (andS (andS (andS b2)))))), trivial⟩), (.refl _)⟩
  show wpA _ _ _ _ (asg [(0, D.b awake_e1)]) [(c1, .cells 4 [encCorpus (awake_e0.1)])]
  refine wpA_ret ?_
  exact ⟨_, (.tmp (d := D.b awake_e1) rfl .nil), _, (.same rfl .nil), ⟨awake_e1, rfl, h⟩⟩
theorem awake_c    : Fun false Tryz.prog 36 [] (fun d => d = D.b (true)) :=
  Fun.at (enc := fun r => D.b r) (v := true) (awake_w   (fun r => r = true) (awake_ok  _  rfl))
end Go.Proofs.YtglclijalehcmaaGreatDoor
