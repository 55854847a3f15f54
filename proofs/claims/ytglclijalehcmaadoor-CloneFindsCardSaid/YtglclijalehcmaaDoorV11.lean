/-
  Statements of chapter 29: what is found is what the definition says, is right and in order. No program in sight.
-/
import Derived.Test.YtglclijalehcmaaDoorKw1
import Derived.Test.YtglclijalehcmaaDoorV10
set_option linter.all false
namespace Go.Lic
open Go.Proofs Go.Sort Go.Shelf
theorem lawFinds_ok (l : (List Text)) (k : Int) (w : Int) (Q : Bool → Prop) (h : Q (true)) : lawFinds_vc l k w Q := by
 refine ⟨nofun, fun _ => ⟨fun _ => h, fun hs => ?_⟩⟩
 have := (find_parts l k w).2.2
 exact ⟨fewTs_ok hs, fewTs_ok hs, fun _ => by omega, Q_true (by simp) h⟩
end Go.Lic
set_option linter.all false
namespace Go.Proofs.YtglclijalehcmaaDoor
open Go Go.Lic Go.Sort Go.Proofs
attribute [local irreducible] addP badR blankF checkC checkF29 cloneCmp clonesF cmpI cmpL codeF commonF4 countF fewTs fewW findC gramsF guarF hashF indexF insideT lenC lenF lookF mul64F mulP nameR orF pairF partF pathB pathF powF printsF pushF rightL rollF sameW selectF sizeF splitF splitG textF validT
set_option maxHeartbeats 2000000 in
set_option maxRecDepth 10000 in
theorem lawFinds_w (l : (List Text)) (k : Int) (w : Int) (Q : Bool → Prop) (h : lawFinds_vc l k w Q) : Fun false Tryd.prog 3 [(encL 2 encText) l, D.i k, D.i w] (fun d => ∃ r, d = D.b r ∧ Q r) := by
 unfold lawFinds_vc at h
 refine Fun.of_body Tryd.func3 rfl Tryd.ntmps3 rfl ?_
 refine wpA_seq ?_
 refine wpA_region ?_
 refine wL (OpA.a ?_)
 refine wpL_nil ?_
 iterate 2 refine wpA_seq ?_
 refine wpA_region ?_
 refine wL (OpA.call rfl rfl rfl en6 (awake_c  ) ?_)
 rintro _ rfl
 refine wL (OpA.not rfl rfl ?_)
 refine wpL_nil ?_
 refine wpA_cond rfl (fun b1 => ?_) (fun b1 => ?_)
 have h := h.1 (notT b1)
 refine wpA_seq ?_
 refine wpA_region ?_
 refine wL (OpA.a ?_)
 refine wpL_nil ?_
 refine wpA_ret ?_
 exact ⟨_, (.tmp (d := D.b false) rfl .nil), _, (.same rfl .nil), ⟨false, rfl, h⟩⟩
 have h := h.2 (notF b1)
 refine wpA_skip ?_
 iterate 2 refine wpA_seq ?_
 refine wpA_region ?_
 refine wL (OpA.m ?_)
 refine wL (OpA.call rfl rfl rfl en7 (c26fewt_c l ) ?_)
 rintro _ rfl
 refine wL (OpA.not rfl rfl ?_)
 refine wpL_nil ?_
 refine wpA_cond rfl (fun b2 => ?_) (fun b2 => ?_)
 have h := h.1 (notT b2)
 refine wpA_seq ?_
 refine wpA_region ?_
 refine wL (OpA.a ?_)
 refine wpL_nil ?_
 refine wpA_ret ?_
 exact ⟨_, (.tmp (d := D.b true) rfl .nil), _, (.same rfl .nil), ⟨true, rfl, h⟩⟩
 have h := h.2 (notF b2)
 refine wpA_skip ?_
 refine wpA_seq ?_
 obtain ⟨q1, h⟩ := h
 refine wpA_region ?_
 iterate 3 refine wL (OpA.m ?_)
 refine wL (OpA.call rfl rfl rfl en8 (kfind_c l k w q1) ?_)
 rintro _ rfl
 refine wL (OpA.m ?_)
 iterate 2 refine wL (OpA.extract rfl rfl rfl ?_)
 iterate 2 refine wL (OpA.a ?_)
 refine wpL_nil ?_
 refine wpA_seq ?_
 obtain ⟨q1, h⟩ := h
 refine wpA_region ?_
 iterate 3 refine wL (OpA.m ?_)
 refine wL (OpA.call rfl rfl rfl en9 (rfind_c l k w q1) ?_)
 rintro _ rfl
 refine wL (OpA.m ?_)
 iterate 2 refine wL (OpA.extract rfl rfl rfl ?_)
 iterate 2 refine wL (OpA.a ?_)
 refine wpL_nil ?_
 refine wpA_seq ?_
 obtain ⟨q1, h⟩ := h
 refine wpA_mid (asg [(6, D.b ((((findC l k w).2) == ((findC l k w).2)) && (decide (((findC l k w).1) = ((findC l k w).1)))))]) [] ?_ ?_
 refine wpA_region ?_
 iterate 2 refine wL (OpA.m ?_)
 refine wL (OpA.eql rfl rfl rfl ?_)
 refine wL (OpA.m ?_)
 refine wpL_split (s := 33) rfl (fun b3 => ?_) (fun b3 => ?_)
 iterate 2 refine wG (OpA.m ?_)
 refine wG (OpA.call rfl rfl rfl en10 (eqClones_c ((findC l k w).1) ((findC l k w).1) (q1 (beqT b3))) ?_)
 rintro _ rfl
 refine wL (OpA.p ?_)
 refine wL (OpA.a ?_)
 refine wpL_nil ?_
 exact ⟨(Cov.asg ⟨(congrArg D.b (Eq.symm (andN b3 rfl))), trivial⟩), (.refl _)⟩
 iterate 3 refine wS ?_
 refine wL (OpA.p ?_)
 refine wL (OpA.a ?_)
 refine wpL_nil ?_
 exact ⟨(Cov.asg ⟨(congrArg D.b (Eq.symm (andS b3))), trivial⟩), (.refl _)⟩
 show wpA _ _ _ _ (asg [(6, D.b ((((findC l k w).2) == ((findC l k w).2)) && (decide (((findC l k w).1) = ((findC l k w).1)))))]) []
 refine wpA_ret ?_
 exact ⟨_, (.tmp (d := D.b ((((findC l k w).2) == ((findC l k w).2)) && (decide (((findC l k w).1) = ((findC l k w).1))))) rfl .nil), _, (.same rfl .nil), ⟨((((findC l k w).2) == ((findC l k w).2)) && (decide (((findC l k w).1) = ((findC l k w).1)))), rfl, h⟩⟩
theorem lawFinds_c (l : (List Text)) (k : Int) (w : Int)  : Fun false Tryd.prog 3 [(encL 2 encText) l, D.i k, D.i w] (fun d => d = D.b (true)) :=
 Fun.at (enc := fun r => D.b r) (v := true) (lawFinds_w l k w  (fun r => r = true) (lawFinds_ok l k w _  rfl))
end Go.Proofs.YtglclijalehcmaaDoor
