/-
  walks and contracts
-/
import Derived.Test.YtglclijalehcmaaGreatDoorV3
set_option maxRecDepth 10000
set_option maxHeartbeats 2000000
set_option linter.all false
namespace Go.Proofs.YtglclijalehcmaaGreatDoor
open Go Go.Lic Go.Sort Go.Proofs
attribute [local irreducible] addF addP againstC badR beforeF behindF blankF checkC checkF checkF29 cloneCmp clonesF cmpB cmpI codeF commonF4 countF countL coveredF famF fewC fewTs fewW findC findT gramsF growTF guarF has1F hasF hashF indexF insideF insideT leastF lenC lenF linesF listF lookF mergeF mul64F mulP nameR nearC nearF newF ofF orF packF pairF partF pathB pathF postCmp postLt postsF powF printsF pushF rightL rollF sameW selectF sizeF spanCmp spanR splitF splitG textF validF validT
end Go.Proofs.YtglclijalehcmaaGreatDoor
set_option linter.all false
namespace Go.Proofs.YtglclijalehcmaaGreatDoor
open Go Go.Lic Go.Sort Go.Proofs
attribute [local irreducible] addF addP againstC badR beforeF behindF blankF checkC checkF checkF29 cloneCmp clonesF cmpB cmpI codeF commonF4 countF countL coveredF famF fewC fewTs fewW findC findT gramsF growTF guarF has1F hasF hashF indexF insideF insideT leastF lenC lenF linesF listF lookF mergeF mul64F mulP nameR nearC nearF newF ofF orF packF pairF partF pathB pathF postCmp postLt postsF powF printsF pushF rightL rollF sameW selectF sizeF spanCmp spanR splitF splitG textF validF validT
theorem c26fewt_w (l : (List Text)) (Q : Bool → Prop) (h : c26fewt_vc l Q) : Fun false Tryz.prog 10 [(encL 2 encText) l] (fun d => ∃ r, d = D.b r ∧ Q r) := by
 unfold c26fewt_vc at h
 refine Fun.of_body Tryz.func10 rfl Tryz.ntmps10 rfl ?_
 refine wpA_seq ?_
 refine wpA_region ?_
 refine wL (OpA.a ?_)
 refine wpL_nil ?_
 iterate 2 refine wpA_seq ?_
 refine wpA_region ?_
 refine wL (OpA.m ?_)
 refine wL (OpA.len rfl rfl rfl rfl ts22.desc (.inl ⟨_, _, rfl, (List.length_map _).symm⟩) ?_)
 refine wL (OpA.gtr rfl rfl rfl ?_)
 refine wpL_nil ?_
 refine wpA_cond rfl (fun b1 => ?_) (fun b1 => ?_)
 have h := h.1 (decT b1)
 refine wpA_seq ?_
 refine wpA_region ?_
 refine wL (OpA.a ?_)
 refine wpL_nil ?_
 refine wpA_ret ?_
 exact ⟨_, (.tmp (d := D.b false) rfl .nil), _, (.same rfl .nil), ⟨false, rfl, h⟩⟩
 have h := h.2 (decF b1)
 refine wpA_skip ?_
 iterate 2 refine wpA_seq ?_
 refine wpA_region ?_
 refine wL (OpA.a ?_)
 refine wpL_nil ?_
 refine wpA_block ?_
 refine wpA_lfp (S := Int) (G := Unit) () (fun gg ss => asg [(0, (encL 2 encText) l), (2, D.b false), (3, D.i ss)]) (fun gg ss => []) h (Cov.asg ⟨rfl, rfl, rfl, trivial⟩) (.refl _) ?_
 rintro again2 _ i h
 have h : c26fewt_L1 l Q again2 i := h
 unfold c26fewt_L1 at h
 show wpA _ _ _ _ (asg [(0, (encL 2 encText) l), (2, D.b false), (3, D.i i)]) []
 iterate 2 refine wpA_seq ?_
 refine wpA_region ?_
 iterate 2 refine wL (OpA.m ?_)
 refine wL (OpA.len rfl rfl rfl rfl ts22.desc (.inl ⟨_, _, rfl, (List.length_map _).symm⟩) ?_)
 refine wL (OpA.lss rfl rfl rfl ?_)
 refine wpL_nil ?_
 refine wpA_cond rfl (fun b3 => ?_) (fun b3 => ?_)
 have h := h.1 (decT b3)
 refine wpA_skip ?_
 refine wpA_seq ?_
 refine wpA_block ?_
 refine wpA_seq ?_
 obtain ⟨q1, h⟩ := h
 refine wpA_mid (asg [(0, (encL 2 encText) l), (2, D.b false), (3, D.i i), (28, D.b ((!(fewW ((gi l i).words))) || (decide ((((gi l i).path).size : Int) > 200))))]) [] ?_ ?_
 refine wpA_region ?_
 iterate 2 refine wL (OpA.m ?_)
 refine wL (OpA.iixV (enc := encText) rfl ts22 rfl rfl rfl q1 ?_)
 refine wL (OpA.ifieldAddr rfl tf28_1 rfl ?_)
 refine wL (OpA.iload rfl ti26 rfl rfl ?_)
 refine wL (OpA.call rfl rfl rfl en47 (g24few_c ((gi l i).words) ) ?_)
 rintro _ rfl
 refine wL (OpA.not rfl rfl ?_)
 refine wL (OpA.m ?_)
 refine wpL_split (s := 20) rfl (fun b5 => ?_) (fun b5 => ?_)
 iterate 7 refine wS ?_
 refine wL (OpA.p ?_)
 refine wpL_nil ?_
 exact ⟨(Cov.asg ⟨rfl, rfl, rfl, (congrArg D.b (Eq.symm (orS b5))), trivial⟩), (.refl _)⟩
 iterate 2 refine wG (OpA.m ?_)
 refine wG (OpA.iixV (enc := encText) rfl ts22 rfl rfl rfl q1 ?_)
 refine wG (OpA.ifieldAddr rfl tf28_0 rfl ?_)
 refine wG (OpA.iload rfl ti9 rfl rfl ?_)
 refine wG (OpA.slen rfl rfl rfl rfl td9 rfl ?_)
 refine wG (OpA.gtr rfl rfl rfl ?_)
 refine wL (OpA.p ?_)
 refine wpL_nil ?_
 exact ⟨(Cov.asg ⟨rfl, rfl, rfl, (congrArg D.b (Eq.symm (orN b5 rfl))), trivial⟩), (.refl _)⟩
 show wpA _ _ _ _ (asg [(0, (encL 2 encText) l), (2, D.b false), (3, D.i i), (28, D.b ((!(fewW ((gi l i).words))) || (decide ((((gi l i).path).size : Int) > 200))))]) []
 refine wpA_cond rfl (fun b4 => ?_) (fun b4 => ?_)
 have h := h.1 ((or0 b4).imp (fun hh => (notT hh)) (fun hh => (decT hh)))
 refine wpA_seq ?_
 refine wpA_region ?_
 refine wL (OpA.a ?_)
 refine wpL_nil ?_
 refine wpA_ret ?_
 exact ⟨_, (.tmp (d := D.b false) rfl .nil), _, (.same rfl .nil), ⟨false, rfl, h⟩⟩
 have h := h.2 ⟨(notF (or1 b4)), (decF (or2 b4))⟩
 refine wpA_skip ?_
 obtain ⟨q1, h⟩ := h
 refine wpA_region ?_
 refine wL (OpA.m ?_)
 refine wL (OpA.addi rfl rfl rfl q1 ?_)
 refine wL (OpA.a ?_)
 refine wpL_nil ?_
 exact ⟨(), (i + 1), h, (Cov.asg ⟨rfl, rfl, rfl, trivial⟩), (.refl _)⟩
 have h := h.2 (decF b3)
 refine wpA_exit ?_
 refine wpA_seq ?_
 refine wpA_region ?_
 refine wL (OpA.a ?_)
 refine wpL_nil ?_
 refine wpA_ret ?_
 exact ⟨_, (.tmp (d := D.b true) rfl .nil), _, (.same rfl .nil), ⟨true, rfl, h⟩⟩
theorem c26fewt_c (l : (List Text))  : Fun false Tryz.prog 10 [(encL 2 encText) l] (fun d => d = D.b (fewTs l)) :=
 Fun.at (enc := fun r => D.b r) (v := fewTs l) (c26fewt_w l  (fun r => r = fewTs l) (c26fewt_ok l _  rfl))
theorem ixInt_w (s_ : (List Int)) (v : Int) (Q : Int → Prop) (h : ixInt_vc s_ v Q) : Fun false Tryz.prog 67 [(encL 1 D.i) s_, D.i v] (fun d => ∃ r, d = D.i r ∧ Q r) := by
 unfold ixInt_vc at h
 refine Fun.of_body Tryz.func67 rfl Tryz.ntmps67 rfl ?_
 refine wpA_seq ?_
 refine wpA_region ?_
 refine wL (OpA.a ?_)
 refine wpL_nil ?_
 iterate 2 refine wpA_seq ?_
 refine wpA_region ?_
 refine wL (OpA.m ?_)
 refine wL (OpA.len rfl rfl rfl rfl ts67.desc (.inl ⟨_, _, rfl, (List.length_map _).symm⟩) ?_)
 refine wL (OpA.m ?_)
 refine wpL_nil ?_
 refine wpA_block ?_
 refine wpA_lfp (S := Int) (G := Unit) () (fun gg ss => asg [(0, (encL 1 D.i) s_), (1, D.i v), (4, D.i 0), (7, D.i (s_.length : Int)), (8, D.i ss)]) (fun gg ss => []) h (Cov.asg ⟨rfl, rfl, rfl, rfl, rfl, trivial⟩) (.refl _) ?_
 rintro again1 _ x h
 have h : ixInt_L1 s_ v Q again1 x := h
 unfold ixInt_L1 at h
 show wpA _ _ _ _ (asg [(0, (encL 1 D.i) s_), (1, D.i v), (4, D.i 0), (7, D.i (s_.length : Int)), (8, D.i x)]) []
 refine wpA_seq ?_
 refine wpA_region ?_
 refine wL (OpA.lss rfl rfl rfl ?_)
 refine wpL_nil ?_
 refine wpA_seq ?_
 refine wpA_cond rfl (fun b2 => ?_) (fun b2 => ?_)
 have h := h.1 (decT b2)
 refine wpA_skip ?_
 refine wpA_seq ?_
 refine wpA_block ?_
 refine wpA_seq ?_
 refine wpA_region ?_
 refine wL (OpA.m ?_)
 refine wL (OpA.a ?_)
 refine wpL_nil ?_
 refine wpA_seq ?_
 obtain ⟨q1, h⟩ := h
 refine wpA_region ?_
 iterate 3 refine wL (OpA.m ?_)
 refine wL (OpA.iixV (enc := D.i) rfl ts67 rfl rfl rfl q1 ?_)
 refine wL (OpA.iload rfl ti3 rfl rfl ?_)
 refine wL (OpA.eql rfl rfl rfl ?_)
 refine wpL_nil ?_
 refine wpA_cond rfl (fun b3 => ?_) (fun b3 => ?_)
 have h := h.1 (beqT b3)
 refine wpA_seq ?_
 refine wpA_region ?_
 refine wL (OpA.m ?_)
 refine wL (OpA.a ?_)
 refine wpL_nil ?_
 refine wpA_ret ?_
 exact ⟨_, (.tmp (d := D.i x) rfl .nil), _, (.same rfl .nil), ⟨x, rfl, h⟩⟩
 have h := h.2 (beqF b3)
 refine wpA_skip ?_
 obtain ⟨q1, h⟩ := h
 refine wpA_region ?_
 refine wL (OpA.addi rfl rfl rfl q1 ?_)
 refine wL (OpA.m ?_)
 refine wpL_nil ?_
 exact ⟨(), (x + 1), h, (Cov.asg ⟨rfl, rfl, rfl, rfl, rfl, trivial⟩), (.refl _)⟩
 have h := h.2 (decF b2)
 refine wpA_exit ?_
 refine wpA_seq ?_
 refine wpA_region ?_
 refine wL (OpA.a ?_)
 refine wpL_nil ?_
 refine wpA_ret ?_
 exact ⟨_, (.tmp (d := D.i (-1)) rfl .nil), _, (.same rfl .nil), ⟨(-1), rfl, h⟩⟩
theorem ixInt_c (s_ : (List Int)) (v : Int) (hp0 : s_.length ≤ 9223372036854775807) : Fun false Tryz.prog 67 [(encL 1 D.i) s_, D.i v] (fun d => d = D.i ((idxOf (fun z_ => decide (z_ = v)) s_))) :=
 Fun.at (enc := fun r => D.i r) (v := (idxOf (fun z_ => decide (z_ = v)) s_)) (ixInt_w s_ v  (fun r => r = (idxOf (fun z_ => decide (z_ = v)) s_)) (ixInt_ok s_ v _ hp0 rfl))
theorem ctInt_w (s_ : (List Int)) (v : Int) (Q : Bool → Prop) (h : ctInt_vc s_ v Q) : Fun false Tryz.prog 32 [(encL 1 D.i) s_, D.i v] (fun d => ∃ r, d = D.b r ∧ Q r) := by
 unfold ctInt_vc at h
 refine Fun.of_body Tryz.func32 rfl Tryz.ntmps32 rfl ?_
 refine wpA_seq ?_
 refine wpA_region ?_
 refine wL (OpA.a ?_)
 refine wpL_nil ?_
 refine wpA_seq ?_
 obtain ⟨q1, h⟩ := h
 refine wpA_region ?_
 iterate 2 refine wL (OpA.m ?_)
 refine wL (OpA.call rfl rfl rfl en67 (ixInt_c s_ v q1) ?_)
 rintro _ rfl
 refine wL (OpA.geq rfl rfl rfl ?_)
 refine wL (OpA.a ?_)
 refine wpL_nil ?_
 refine wpA_ret ?_
 exact ⟨_, (.tmp (d := D.b (decide ((idxOf (fun z_ => decide (z_ = v)) s_) ≥ 0))) rfl .nil), _, (.same rfl .nil), ⟨(decide ((idxOf (fun z_ => decide (z_ = v)) s_) ≥ 0)), rfl, h⟩⟩
theorem ctInt_c (s_ : (List Int)) (v : Int) (hp0 : s_.length ≤ 9223372036854775807) : Fun false Tryz.prog 32 [(encL 1 D.i) s_, D.i v] (fun d => d = D.b ((s_.any (fun z_ => decide (z_ = v))))) :=
 Fun.at (enc := fun r => D.b r) (v := (s_.any (fun z_ => decide (z_ = v)))) (ctInt_w s_ v  (fun r => r = (s_.any (fun z_ => decide (z_ = v)))) (ctInt_ok s_ v _ hp0 rfl))
end Go.Proofs.YtglclijalehcmaaGreatDoor
