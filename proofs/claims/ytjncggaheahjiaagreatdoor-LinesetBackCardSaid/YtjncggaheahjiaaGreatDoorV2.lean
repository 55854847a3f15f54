/-
  walks and contracts
-/
import Derived.Test.YtjncggaheahjiaaGreatDoorV1
set_option maxRecDepth 10000
set_option maxHeartbeats 2000000
set_option linter.all false
namespace Go.Proofs.YtjncggaheahjiaaGreatDoor
open Go Go.Lic Go.Sort Go.Proofs
variable [Fl]
attribute [local irreducible] badR behindF cmpB cmpI countF countL fewF has1F hasF hasPrefF indexF insideF itoaF lenF listF mergeF minusF nameR numF numR ofF oneF orF parseF partF pathB pathF printF scutF spanCmp spanF spanR splitB splitF splitG underF validF
theorem inside_w (s_ : Span) (Q : Bool → Prop) (h : inside_vc s_ Q) : Fun false Tryz.prog 30 [encSpan s_] (fun d => ∃ r, d = D.b r ∧ Q r) := by
 unfold inside_vc at h
 refine Fun.of_body Tryz.func30 rfl Tryz.ntmps30 rfl ?_
 refine wpA_seq ?_
 refine wpA_region ?_
 refine wL (OpA.bx (sz := 3) rfl (by with_reducible conv => lhs; whnf) (.of rfl) (fun c1 _ => ?_))
 refine wL (OpA.a ?_)
 refine wpL_nil ?_
 refine wpA_seq ?_
 refine wpA_mid (asg [(2, D.b (((decide (0 ≤ s_.from_)) && (decide (s_.from_ < s_.to))) && (decide (s_.to ≤ 1024))))]) [(c1, .cells 3 [encSpan s_])] ?_ ?_
 refine wpA_region ?_
 refine wL (OpA.fieldAddr rfl tf33_1 rfl ?_)
 refine wL (OpA.load rfl ti3 rfl .head rfl rfl ?_)
 refine wL (OpA.leq rfl rfl rfl ?_)
 refine wL (OpA.m ?_)
 refine wpL_split (s := 6) rfl (fun b2 => ?_) (fun b2 => ?_)
 refine wG (OpA.fieldAddr rfl tf33_1 rfl ?_)
 refine wG (OpA.load rfl ti3 rfl .head rfl rfl ?_)
 refine wG (OpA.fieldAddr rfl tf33_2 rfl ?_)
 refine wG (OpA.load rfl ti3 rfl .head rfl rfl ?_)
 refine wG (OpA.lss rfl rfl rfl ?_)
 refine wL (OpA.p ?_)
 refine wL (OpA.m ?_)
 refine wpL_split (s := 13) rfl (fun b3 => ?_) (fun b3 => ?_)
 refine wG (OpA.fieldAddr rfl tf33_2 rfl ?_)
 refine wG (OpA.load rfl ti3 rfl .head rfl rfl ?_)
 refine wG (OpA.leq rfl rfl rfl ?_)
 refine wL (OpA.p ?_)
 refine wL (OpA.a ?_)
 refine wpL_nil ?_
 exact ⟨(Cov.asg ⟨(congrArg D.b (Eq.symm (andN (andN b2 b3) rfl))), trivial⟩), (.refl _)⟩
 iterate 3 refine wS ?_
 refine wL (OpA.p ?_)
 refine wL (OpA.a ?_)
 refine wpL_nil ?_
 exact ⟨(Cov.asg ⟨(congrArg D.b (Eq.symm (andS (andN b2 b3)))), trivial⟩), (.refl _)⟩
 iterate 5 refine wS ?_
 refine wL (OpA.p ?_)
 refine wL (OpA.m ?_)
 iterate 3 refine wS ?_
 refine wL (OpA.p ?_)
 refine wL (OpA.a ?_)
 refine wpL_nil ?_
 exact ⟨(Cov.asg ⟨(congrArg D.b (Eq.symm (andS (andS b2)))), trivial⟩), (.refl _)⟩
 show wpA _ _ _ _ (asg [(2, D.b (((decide (0 ≤ s_.from_)) && (decide (s_.from_ < s_.to))) && (decide (s_.to ≤ 1024))))]) [(c1, .cells 3 [encSpan s_])]
 refine wpA_ret ?_
 exact ⟨_, (.tmp (d := D.b (((decide (0 ≤ s_.from_)) && (decide (s_.from_ < s_.to))) && (decide (s_.to ≤ 1024)))) rfl .nil), _, (.same rfl .nil), ⟨(((decide (0 ≤ s_.from_)) && (decide (s_.from_ < s_.to))) && (decide (s_.to ≤ 1024))), rfl, h⟩⟩
theorem inside_c (s_ : Span)  : Fun false Tryz.prog 30 [encSpan s_] (fun d => d = D.b (insideF s_)) :=
 Fun.at (enc := fun r => D.b r) (v := insideF s_) (inside_w s_  (fun r => r = insideF s_) (inside_ok s_ _  rfl))
theorem behind_w (a : Span) (b : Span) (Q : Bool → Prop) (h : behind_vc a b Q) : Fun false Tryz.prog 31 [encSpan a, encSpan b] (fun d => ∃ r, d = D.b r ∧ Q r) := by
 unfold behind_vc at h
 refine Fun.of_body Tryz.func31 rfl Tryz.ntmps31 rfl ?_
 refine wpA_seq ?_
 refine wpA_region ?_
 refine wL (OpA.bx (sz := 3) rfl (by with_reducible conv => lhs; whnf) (.of rfl) (fun c1 _ => ?_))
 refine wL (OpA.bx (sz := 3) rfl (by with_reducible conv => lhs; whnf) (.of rfl) (fun c2 _ => ?_))
 refine wL (OpA.a ?_)
 refine wpL_nil ?_
 refine wpA_seq ?_
 refine wpA_mid (asg [(4, D.b ((sless a.path b.path) || ((decide (a.path = b.path)) && (decide (a.to < b.from_)))))]) [(c2, .cells 3 [encSpan b]), (c1, .cells 3 [encSpan a])] ?_ ?_
 refine wpA_region ?_
 refine wL (OpA.fieldAddr rfl tf33_0 rfl ?_)
 refine wL (OpA.load rfl ti9 rfl (.tail .head) rfl rfl ?_)
 refine wL (OpA.fieldAddr rfl tf33_0 rfl ?_)
 refine wL (OpA.load rfl ti9 rfl .head rfl rfl ?_)
 refine wL (OpA.slss rfl rfl rfl ?_)
 refine wL (OpA.m ?_)
 refine wpL_split (s := 10) rfl (fun b3 => ?_) (fun b3 => ?_)
 iterate 6 refine wS ?_
 iterate 5 refine wpL_skipU rfl rfl rfl rfl rfl ?_
 refine wS ?_
 refine wL (OpA.p ?_)
 refine wL (OpA.a ?_)
 refine wpL_nil ?_
 exact ⟨(Cov.asg ⟨(congrArg D.b (Eq.symm (orS b3))), trivial⟩), (.refl _)⟩
 refine wG (OpA.fieldAddr rfl tf33_0 rfl ?_)
 refine wG (OpA.load rfl ti9 rfl (.tail .head) rfl rfl ?_)
 refine wG (OpA.fieldAddr rfl tf33_0 rfl ?_)
 refine wG (OpA.load rfl ti9 rfl .head rfl rfl ?_)
 refine wG (OpA.seql rfl rfl rfl ?_)
 refine wG (OpA.m ?_)
 refine wpL_split (s := 16) rfl (fun b4 => ?_) (fun b4 => ?_)
 refine wG (OpA.fieldAddr rfl tf33_2 rfl ?_)
 refine wG (OpA.load rfl ti3 rfl (.tail .head) rfl rfl ?_)
 refine wG (OpA.fieldAddr rfl tf33_1 rfl ?_)
 refine wG (OpA.load rfl ti3 rfl .head rfl rfl ?_)
 refine wG (OpA.lss rfl rfl rfl ?_)
 refine wG (OpA.p ?_)
 refine wL (OpA.p ?_)
 refine wL (OpA.a ?_)
 refine wpL_nil ?_
 exact ⟨(Cov.asg ⟨(congrArg D.b (Eq.symm (orN b3 (andN b4 rfl)))), trivial⟩), (.refl _)⟩
 iterate 5 refine wS ?_
 refine wG (OpA.p ?_)
 refine wL (OpA.p ?_)
 refine wL (OpA.a ?_)
 refine wpL_nil ?_
 exact ⟨(Cov.asg ⟨(congrArg D.b (Eq.symm (orN b3 (andS b4)))), trivial⟩), (.refl _)⟩
 show wpA _ _ _ _ (asg [(4, D.b ((sless a.path b.path) || ((decide (a.path = b.path)) && (decide (a.to < b.from_)))))]) [(c2, .cells 3 [encSpan b]), (c1, .cells 3 [encSpan a])]
 refine wpA_ret ?_
 exact ⟨_, (.tmp (d := D.b ((sless a.path b.path) || ((decide (a.path = b.path)) && (decide (a.to < b.from_))))) rfl .nil), _, (.same rfl .nil), ⟨((sless a.path b.path) || ((decide (a.path = b.path)) && (decide (a.to < b.from_)))), rfl, h⟩⟩
theorem behind_c (a : Span) (b : Span)  : Fun false Tryz.prog 31 [encSpan a, encSpan b] (fun d => d = D.b (behindF a b)) :=
 Fun.at (enc := fun r => D.b r) (v := behindF a b) (behind_w a b  (fun r => r = behindF a b) (behind_ok a b _  rfl))
theorem merge1_w (a : Span) (b : Span) (Q : Int → Prop) (h : merge1_vc a b Q) : Fun false Tryz.prog 50 [encSpan a, encSpan b] (fun d => ∃ r, d = D.i r ∧ Q r) := by
 unfold merge1_vc at h
 refine Fun.of_body Tryz.func50 rfl Tryz.ntmps50 rfl ?_
 refine wpA_seq ?_
 refine wpA_region ?_
 refine wL (OpA.bx (sz := 3) rfl (by with_reducible conv => lhs; whnf) (.of rfl) (fun c1 _ => ?_))
 refine wL (OpA.bx (sz := 3) rfl (by with_reducible conv => lhs; whnf) (.of rfl) (fun c2 _ => ?_))
 refine wL (OpA.a ?_)
 refine wpL_nil ?_
 refine wpA_seq ?_
 obtain ⟨q1, h⟩ := h
 refine wpA_draw (m := 13) mo (by kernel_rfl) rfl ?_
 refine dL (OpA.fieldAddr rfl tf33_0 rfl ⟨rfl, rfl⟩) ?_
 refine dL (OpA.load rfl ti9 rfl (.tail .head) rfl rfl ⟨rfl, rfl⟩) ?_
 refine dL (OpA.fieldAddr rfl tf33_0 rfl ⟨rfl, rfl⟩) ?_
 refine dL (OpA.load rfl ti9 rfl .head rfl rfl ⟨rfl, rfl⟩) ?_
 refine dL (OpA.call rfl rfl rfl en52 (sCompare_c a.path b.path ) (by rintro _ rfl; exact ⟨rfl, rfl⟩)) ?_
 refine dL (OpA.fieldAddr rfl tf33_1 rfl ⟨rfl, rfl⟩) ?_
 refine dL (OpA.load rfl ti3 rfl (.tail .head) rfl rfl ⟨rfl, rfl⟩) ?_
 refine dL (OpA.fieldAddr rfl tf33_1 rfl ⟨rfl, rfl⟩) ?_
 refine dL (OpA.load rfl ti3 rfl .head rfl rfl ⟨rfl, rfl⟩) ?_
 refine dL (OpA.call rfl rfl rfl en53 (iCompare_c a.from_ b.from_ ) (by rintro _ rfl; exact ⟨rfl, rfl⟩)) ?_
 refine dL (OpA.ibuildSliceO rfl ts93 rfl (.cons (.of (sz := 1) rfl) (.cons (.of (sz := 1) rfl) .nil)) (by decide) ⟨rfl, rfl⟩) ?_
 refine dL (OpA.call rfl rfl rfl en51 (or_c ([(cmpB a.path b.path), (cmpI a.from_ b.from_)] : List Int) q1) (by rintro _ rfl; exact ⟨rfl, rfl⟩)) ?_
 refine dL (OpA.a ⟨rfl, rfl⟩) ?_
 refine DetK.nil ?_
 refine wpL_nil ?_
 refine wpA_ret ?_
 exact ⟨_, (.tmp (d := D.i (orF ([(cmpB a.path b.path), (cmpI a.from_ b.from_)] : List Int))) rfl .nil), _, (.same rfl .nil), ⟨(orF ([(cmpB a.path b.path), (cmpI a.from_ b.from_)] : List Int)), rfl, h⟩⟩
theorem merge1_c (a : Span) (b : Span)  : Fun false Tryz.prog 50 [encSpan a, encSpan b] (fun d => d = D.i (spanCmp a b)) :=
 Fun.at (enc := fun r => D.i r) (v := spanCmp a b) (merge1_w a b  (fun r => r = spanCmp a b) (merge1_ok a b _  rfl))
end Go.Proofs.YtjncggaheahjiaaGreatDoor
