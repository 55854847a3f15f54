/-
  walks and contracts
-/
import Derived.Test.YtglclijalehcmaaGreatDoorV9
import Derived.Test.YtglclijalehcmaaGreatDoorKo8
set_option maxRecDepth 10000
set_option maxHeartbeats 2000000
set_option linter.all false
namespace Go.Proofs.YtglclijalehcmaaGreatDoor
open Go Go.Lic Go.Sort Go.Proofs
attribute [local irreducible] addF addP againstC badR beforeF behindF blankF checkC checkF checkF29 cloneCmp clonesF cmpB cmpI codeF commonF4 countF countL coveredF famF fewC fewTs fewW findC findT gramsF growTF guarF has1F hasF hashF indexF insideF insideT leastF lenC lenF linesF listF lookF mergeF mul64F mulP nameR nearC nearF newF ofF orF packF pairF partF pathB pathF postCmp postLt postsF powF printsF pushF rightL rollF sameW selectF sizeF spanCmp spanR splitF splitG textF validF validT
theorem rspan_w (x : Span) (Q : Bool → Prop) (h : rspan_vc x Q) : Fun false Tryz.prog 157 [encSpan x] (fun d => ∃ r, d = D.b r ∧ Q r) := by
 unfold rspan_vc at h
 refine Fun.of_body Tryz.func157 rfl Tryz.ntmps157 rfl ?_
 refine wpA_seq ?_
 refine wpA_region ?_
 refine wL (OpA.bx (sz := 3) rfl (by with_reducible conv => lhs; whnf) (.of rfl) (fun c1 _ => ?_))
 refine wL (OpA.a ?_)
 refine wpL_nil ?_
 refine wpA_seq ?_
 obtain ⟨q1, h⟩ := h
 refine wpA_mid (asg [(2, D.b ((((pathB x.path) && (decide (x.from_ ≥ 0))) && (decide (x.from_ < x.to))) && (decide (x.to ≤ 1024))))]) [(c1, .cells 3 [encSpan x])] ?_ ?_
 refine wpA_region ?_
 refine wL (OpA.fieldAddr rfl tf56_0 rfl ?_)
 refine wL (OpA.load rfl ti9 rfl .head rfl rfl ?_)
 refine wL (OpA.call rfl rfl rfl en90 (rpath_c x.path q1) ?_)
 rintro _ rfl
 refine wL (OpA.m ?_)
 refine wpL_split (s := 6) rfl (fun b2 => ?_) (fun b2 => ?_)
 refine wG (OpA.fieldAddr rfl tf56_1 rfl ?_)
 refine wG (OpA.load rfl ti3 rfl .head rfl rfl ?_)
 refine wG (OpA.geq rfl rfl rfl ?_)
 refine wL (OpA.p ?_)
 refine wL (OpA.m ?_)
 refine wpL_split (s := 11) rfl (fun b3 => ?_) (fun b3 => ?_)
 refine wG (OpA.fieldAddr rfl tf56_1 rfl ?_)
 refine wG (OpA.load rfl ti3 rfl .head rfl rfl ?_)
 refine wG (OpA.fieldAddr rfl tf56_2 rfl ?_)
 refine wG (OpA.load rfl ti3 rfl .head rfl rfl ?_)
 refine wG (OpA.lss rfl rfl rfl ?_)
 refine wL (OpA.p ?_)
 refine wL (OpA.m ?_)
 refine wpL_split (s := 18) rfl (fun b4 => ?_) (fun b4 => ?_)
 refine wG (OpA.fieldAddr rfl tf56_2 rfl ?_)
 refine wG (OpA.load rfl ti3 rfl .head rfl rfl ?_)
 refine wG (OpA.leq rfl rfl rfl ?_)
 refine wL (OpA.p ?_)
 refine wL (OpA.a ?_)
 refine wpL_nil ?_
 exact ⟨(Cov.asg ⟨(congrArg D.b (Eq.symm (andN (andN (andN b2 b3) b4) rfl))), trivial⟩), (.refl _)⟩
 iterate 3 refine wS ?_
 refine wL (OpA.p ?_)
 refine wL (OpA.a ?_)
 refine wpL_nil ?_
 exact ⟨(Cov.asg ⟨(congrArg D.b (Eq.symm (andS (andN (andN b2 b3) b4)))), trivial⟩), (.refl _)⟩
 iterate 5 refine wS ?_
 refine wL (OpA.p ?_)
 refine wL (OpA.m ?_)
 iterate 3 refine wS ?_
 refine wL (OpA.p ?_)
 refine wL (OpA.a ?_)
 refine wpL_nil ?_
 exact ⟨(Cov.asg ⟨(congrArg D.b (Eq.symm (andS (andS (andN b2 b3))))), trivial⟩), (.refl _)⟩
 iterate 3 refine wS ?_
 refine wL (OpA.p ?_)
 refine wL (OpA.m ?_)
 iterate 5 refine wS ?_
 refine wL (OpA.p ?_)
 refine wL (OpA.m ?_)
 iterate 3 refine wS ?_
 refine wL (OpA.p ?_)
 refine wL (OpA.a ?_)
 refine wpL_nil ?_
 exact ⟨(Cov.asg ⟨(congrArg D.b (Eq.symm (andS (andS (andS b2))))), trivial⟩), (.refl _)⟩
 show wpA _ _ _ _ (asg [(2, D.b ((((pathB x.path) && (decide (x.from_ ≥ 0))) && (decide (x.from_ < x.to))) && (decide (x.to ≤ 1024))))]) [(c1, .cells 3 [encSpan x])]
 refine wpA_ret ?_
 exact ⟨_, (.tmp (d := D.b ((((pathB x.path) && (decide (x.from_ ≥ 0))) && (decide (x.from_ < x.to))) && (decide (x.to ≤ 1024)))) rfl .nil), _, (.same rfl .nil), ⟨((((pathB x.path) && (decide (x.from_ ≥ 0))) && (decide (x.from_ < x.to))) && (decide (x.to ≤ 1024))), rfl, h⟩⟩
theorem rspan_c (x : Span) (hp0 : x.path.size ≤ 1000000) : Fun false Tryz.prog 157 [encSpan x] (fun d => d = D.b (spanR x)) :=
 Fun.at (enc := fun r => D.b r) (v := spanR x) (rspan_w x  (fun r => r = spanR x) (rspan_ok x _ hp0 rfl))
theorem rbehind_w (a : Span) (b : Span) (Q : Bool → Prop) (h : rbehind_vc a b Q) : Fun false Tryz.prog 158 [encSpan a, encSpan b] (fun d => ∃ r, d = D.b r ∧ Q r) := by
 unfold rbehind_vc at h
 refine Fun.of_body Tryz.func158 rfl Tryz.ntmps158 rfl ?_
 refine wpA_seq ?_
 refine wpA_region ?_
 refine wL (OpA.bx (sz := 3) rfl (by with_reducible conv => lhs; whnf) (.of rfl) (fun c1 _ => ?_))
 refine wL (OpA.bx (sz := 3) rfl (by with_reducible conv => lhs; whnf) (.of rfl) (fun c2 _ => ?_))
 refine wL (OpA.a ?_)
 refine wpL_nil ?_
 refine wpA_seq ?_
 refine wpA_mid (asg [(4, D.b ((sless a.path b.path) || ((decide (a.path = b.path)) && (decide (a.to < b.from_)))))]) [(c2, .cells 3 [encSpan b]), (c1, .cells 3 [encSpan a])] ?_ ?_
 refine wpA_region ?_
 refine wL (OpA.fieldAddr rfl tf56_0 rfl ?_)
 refine wL (OpA.load rfl ti9 rfl (.tail .head) rfl rfl ?_)
 refine wL (OpA.fieldAddr rfl tf56_0 rfl ?_)
 refine wL (OpA.load rfl ti9 rfl .head rfl rfl ?_)
 refine wL (OpA.slss rfl rfl rfl ?_)
 refine wL (OpA.m ?_)
 refine wpL_split (s := 10) rfl (fun b3 => ?_) (fun b3 => ?_)
 iterate 6 refine wS ?_
 iterate 5 refine wpL_skipU rfl rfl rfl rfl rfl ?_
 refine wS ?_
 refine wL (OpA.p ?_)
 refine wL (OpA.a ?_)
 refine wpL_nil ?_
 exact ⟨(Cov.asg ⟨(congrArg D.b (Eq.symm (orS b3))), trivial⟩), (.refl _)⟩
 refine wG (OpA.fieldAddr rfl tf56_0 rfl ?_)
 refine wG (OpA.load rfl ti9 rfl (.tail .head) rfl rfl ?_)
 refine wG (OpA.fieldAddr rfl tf56_0 rfl ?_)
 refine wG (OpA.load rfl ti9 rfl .head rfl rfl ?_)
 refine wG (OpA.seql rfl rfl rfl ?_)
 refine wG (OpA.m ?_)
 refine wpL_split (s := 16) rfl (fun b4 => ?_) (fun b4 => ?_)
 refine wG (OpA.fieldAddr rfl tf56_2 rfl ?_)
 refine wG (OpA.load rfl ti3 rfl (.tail .head) rfl rfl ?_)
 refine wG (OpA.fieldAddr rfl tf56_1 rfl ?_)
 refine wG (OpA.load rfl ti3 rfl .head rfl rfl ?_)
 refine wG (OpA.lss rfl rfl rfl ?_)
 refine wG (OpA.p ?_)
 refine wL (OpA.p ?_)
 refine wL (OpA.a ?_)
 refine wpL_nil ?_
 exact ⟨(Cov.asg ⟨(congrArg D.b (Eq.symm (orN b3 (andN b4 rfl)))), trivial⟩), (.refl _)⟩
 iterate 5 refine wS ?_
 refine wG (OpA.p ?_)
 refine wL (OpA.p ?_)
 refine wL (OpA.a ?_)
 refine wpL_nil ?_
 exact ⟨(Cov.asg ⟨(congrArg D.b (Eq.symm (orN b3 (andS b4)))), trivial⟩), (.refl _)⟩
 show wpA _ _ _ _ (asg [(4, D.b ((sless a.path b.path) || ((decide (a.path = b.path)) && (decide (a.to < b.from_)))))]) [(c2, .cells 3 [encSpan b]), (c1, .cells 3 [encSpan a])]
 refine wpA_ret ?_
 exact ⟨_, (.tmp (d := D.b ((sless a.path b.path) || ((decide (a.path = b.path)) && (decide (a.to < b.from_))))) rfl .nil), _, (.same rfl .nil), ⟨((sless a.path b.path) || ((decide (a.path = b.path)) && (decide (a.to < b.from_)))), rfl, h⟩⟩
theorem rbehind_c (a : Span) (b : Span)  : Fun false Tryz.prog 158 [encSpan a, encSpan b] (fun d => d = D.b (behindF a b)) :=
 Fun.at (enc := fun r => D.b r) (v := behindF a b) (rbehind_w a b  (fun r => r = behindF a b) (rbehind_ok a b _  rfl))
theorem rbefore_w (a : Line) (b : Line) (Q : Bool → Prop) (h : rbefore_vc a b Q) : Fun false Tryz.prog 127 [encLine a, encLine b] (fun d => ∃ r, d = D.b r ∧ Q r) := by
 unfold rbefore_vc at h
 refine Fun.of_body Tryz.func127 rfl Tryz.ntmps127 rfl ?_
 refine wpA_seq ?_
 refine wpA_region ?_
 refine wL (OpA.bx (sz := 2) rfl (by with_reducible conv => lhs; whnf) (.of rfl) (fun c1 _ => ?_))
 refine wL (OpA.bx (sz := 2) rfl (by with_reducible conv => lhs; whnf) (.of rfl) (fun c2 _ => ?_))
 refine wL (OpA.a ?_)
 refine wpL_nil ?_
 refine wpA_seq ?_
 refine wpA_mid (asg [(4, D.b ((sless a.path b.path) || ((decide (a.path = b.path)) && (decide (a.n < b.n)))))]) [(c2, .cells 2 [encLine b]), (c1, .cells 2 [encLine a])] ?_ ?_
 refine wpA_region ?_
 refine wL (OpA.fieldAddr rfl tf65_0 rfl ?_)
 refine wL (OpA.load rfl ti9 rfl (.tail .head) rfl rfl ?_)
 refine wL (OpA.fieldAddr rfl tf65_0 rfl ?_)
 refine wL (OpA.load rfl ti9 rfl .head rfl rfl ?_)
 refine wL (OpA.slss rfl rfl rfl ?_)
 refine wL (OpA.m ?_)
 refine wpL_split (s := 10) rfl (fun b3 => ?_) (fun b3 => ?_)
 iterate 6 refine wS ?_
 iterate 5 refine wpL_skipU rfl rfl rfl rfl rfl ?_
 refine wS ?_
 refine wL (OpA.p ?_)
 refine wL (OpA.a ?_)
 refine wpL_nil ?_
 exact ⟨(Cov.asg ⟨(congrArg D.b (Eq.symm (orS b3))), trivial⟩), (.refl _)⟩
 refine wG (OpA.fieldAddr rfl tf65_0 rfl ?_)
 refine wG (OpA.load rfl ti9 rfl (.tail .head) rfl rfl ?_)
 refine wG (OpA.fieldAddr rfl tf65_0 rfl ?_)
 refine wG (OpA.load rfl ti9 rfl .head rfl rfl ?_)
 refine wG (OpA.seql rfl rfl rfl ?_)
 refine wG (OpA.m ?_)
 refine wpL_split (s := 16) rfl (fun b4 => ?_) (fun b4 => ?_)
 refine wG (OpA.fieldAddr rfl tf65_1 rfl ?_)
 refine wG (OpA.load rfl ti3 rfl (.tail .head) rfl rfl ?_)
 refine wG (OpA.fieldAddr rfl tf65_1 rfl ?_)
 refine wG (OpA.load rfl ti3 rfl .head rfl rfl ?_)
 refine wG (OpA.lss rfl rfl rfl ?_)
 refine wG (OpA.p ?_)
 refine wL (OpA.p ?_)
 refine wL (OpA.a ?_)
 refine wpL_nil ?_
 exact ⟨(Cov.asg ⟨(congrArg D.b (Eq.symm (orN b3 (andN b4 rfl)))), trivial⟩), (.refl _)⟩
 iterate 5 refine wS ?_
 refine wG (OpA.p ?_)
 refine wL (OpA.p ?_)
 refine wL (OpA.a ?_)
 refine wpL_nil ?_
 exact ⟨(Cov.asg ⟨(congrArg D.b (Eq.symm (orN b3 (andS b4)))), trivial⟩), (.refl _)⟩
 show wpA _ _ _ _ (asg [(4, D.b ((sless a.path b.path) || ((decide (a.path = b.path)) && (decide (a.n < b.n)))))]) [(c2, .cells 2 [encLine b]), (c1, .cells 2 [encLine a])]
 refine wpA_ret ?_
 exact ⟨_, (.tmp (d := D.b ((sless a.path b.path) || ((decide (a.path = b.path)) && (decide (a.n < b.n))))) rfl .nil), _, (.same rfl .nil), ⟨((sless a.path b.path) || ((decide (a.path = b.path)) && (decide (a.n < b.n)))), rfl, h⟩⟩
theorem rbefore_c (a : Line) (b : Line)  : Fun false Tryz.prog 127 [encLine a, encLine b] (fun d => d = D.b (beforeF a b)) :=
 Fun.at (enc := fun r => D.b r) (v := beforeF a b) (rbefore_w a b  (fun r => r = beforeF a b) (rbefore_ok a b _  rfl))
theorem rvalid_w (l : (List Span)) (Q : Bool → Prop) (h : rvalid_vc l Q) : Fun false Tryz.prog 128 [(encL 3 encSpan) l] (fun d => ∃ r, d = D.b r ∧ Q r) := by
 unfold rvalid_vc at h
 refine Fun.of_body Tryz.func128 rfl Tryz.ntmps128 rfl ?_
 refine wpA_seq ?_
 refine wpA_region ?_
 refine wL (OpA.a ?_)
 refine wpL_nil ?_
 iterate 2 refine wpA_seq ?_
 refine wpA_region ?_
 refine wL (OpA.a ?_)
 refine wpL_nil ?_
 refine wpA_block ?_
 refine wpA_lfp (S := Int) (G := Unit) () (fun gg ss => asg [(0, (encL 3 encSpan) l), (2, D.b false), (3, D.i ss)]) (fun gg ss => []) h (Cov.asg ⟨rfl, rfl, rfl, trivial⟩) (.refl _) ?_
 rintro again1 _ i h
 have h : rvalid_L1 l Q again1 i := h
 unfold rvalid_L1 at h
 show wpA _ _ _ _ (asg [(0, (encL 3 encSpan) l), (2, D.b false), (3, D.i i)]) []
 iterate 2 refine wpA_seq ?_
 refine wpA_region ?_
 iterate 2 refine wL (OpA.m ?_)
 refine wL (OpA.len rfl rfl rfl rfl ts48.desc (.inl ⟨_, _, rfl, (List.length_map _).symm⟩) ?_)
 refine wL (OpA.lss rfl rfl rfl ?_)
 refine wpL_nil ?_
 refine wpA_cond rfl (fun b2 => ?_) (fun b2 => ?_)
 have h := h.1 (decT b2)
 refine wpA_skip ?_
 refine wpA_seq ?_
 refine wpA_block ?_
 refine wpA_seq ?_
 obtain ⟨q1, q2, q3, h⟩ := h
 refine wpA_mid (asg [(0, (encL 3 encSpan) l), (2, D.b false), (3, D.i i), (32, D.b ((!(spanR (gi l i))) || ((decide (i > 0)) && (!(behindF (gi l (i - 1)) (gi l i))))))]) [] ?_ ?_
 refine wpA_draw (m := 23) mo (by kernel_rfl) rfl ?_
 iterate 2 refine dL (OpA.m ⟨rfl, rfl⟩) ?_
 refine dL (OpA.iixV (enc := encSpan) rfl ts48 rfl rfl rfl q1 ⟨rfl, rfl⟩) ?_
 refine dL (OpA.iload_whole rfl ti56 rfl ⟨_, rfl, rfl⟩ ⟨rfl, rfl⟩) ?_
 refine dL (OpA.call rfl rfl rfl en157 (rspan_c (gi l i) q2) (by rintro _ rfl; exact ⟨rfl, rfl⟩)) ?_
 refine dL (OpA.not rfl rfl ⟨rfl, rfl⟩) ?_
 refine dL (OpA.m ⟨rfl, rfl⟩) ?_
 refine DetK_split (s := 16) rfl (fun b4 => ?_) (fun b4 => ?_)
 iterate 3 refine dS ?_
 iterate 11 refine DetK.skipU rfl rfl rfl ?_
 refine dS ?_
 refine dL (OpA.p ⟨rfl, rfl⟩) ?_
 refine DetK.nil ?_
 refine wpL_nil ?_
 exact ⟨(Cov.asg ⟨rfl, rfl, rfl, (congrArg D.b (Eq.symm (orS b4))), trivial⟩), (.refl _)⟩
 refine dG (OpA.m ⟨rfl, rfl⟩) ?_
 refine dG (OpA.gtr rfl rfl rfl ⟨rfl, rfl⟩) ?_
 refine dG (OpA.m ⟨rfl, rfl⟩) ?_
 refine DetK_split (s := 19) rfl (fun b5 => ?_) (fun b5 => ?_)
 iterate 2 refine dG (OpA.m ⟨rfl, rfl⟩) ?_
 refine dG (OpA.subi rfl rfl rfl ((q3 (notF b4)) (decT b5)).1 ⟨rfl, rfl⟩) ?_
 refine dG (OpA.iixV (enc := encSpan) rfl ts48 rfl rfl rfl ((q3 (notF b4)) (decT b5)).2 ⟨rfl, rfl⟩) ?_
 refine dG (OpA.iload_whole rfl ti56 rfl ⟨_, rfl, rfl⟩ ⟨rfl, rfl⟩) ?_
 iterate 2 refine dG (OpA.m ⟨rfl, rfl⟩) ?_
 refine dG (OpA.iixV (enc := encSpan) rfl ts48 rfl rfl rfl q1 ⟨rfl, rfl⟩) ?_
 refine dG (OpA.iload_whole rfl ti56 rfl ⟨_, rfl, rfl⟩ ⟨rfl, rfl⟩) ?_
 refine dG (OpA.call rfl rfl rfl en158 (rbehind_c (gi l (i - 1)) (gi l i) ) (by rintro _ rfl; exact ⟨rfl, rfl⟩)) ?_
 refine dG (OpA.not rfl rfl ⟨rfl, rfl⟩) ?_
 refine dG (OpA.p ⟨rfl, rfl⟩) ?_
 refine dL (OpA.p ⟨rfl, rfl⟩) ?_
 refine DetK.nil ?_
 refine wpL_nil ?_
 exact ⟨(Cov.asg ⟨rfl, rfl, rfl, (congrArg D.b (Eq.symm (orN b4 (andN b5 rfl)))), trivial⟩), (.refl _)⟩
 iterate 11 refine dS ?_
 refine dG (OpA.p ⟨rfl, rfl⟩) ?_
 refine dL (OpA.p ⟨rfl, rfl⟩) ?_
 refine DetK.nil ?_
 refine wpL_nil ?_
 exact ⟨(Cov.asg ⟨rfl, rfl, rfl, (congrArg D.b (Eq.symm (orN b4 (andS b5)))), trivial⟩), (.refl _)⟩
 show wpA _ _ _ _ (asg [(0, (encL 3 encSpan) l), (2, D.b false), (3, D.i i), (32, D.b ((!(spanR (gi l i))) || ((decide (i > 0)) && (!(behindF (gi l (i - 1)) (gi l i))))))]) []
 refine wpA_cond rfl (fun b3 => ?_) (fun b3 => ?_)
 have h := h.1 ((or0 b3).imp (fun hh => (notT hh)) (fun hh => ⟨(decT (and1 hh)), (notT (and2 hh))⟩))
 refine wpA_seq ?_
 refine wpA_region ?_
 refine wL (OpA.a ?_)
 refine wpL_nil ?_
 refine wpA_ret ?_
 exact ⟨_, (.tmp (d := D.b false) rfl .nil), _, (.same rfl .nil), ⟨false, rfl, h⟩⟩
 have h := h.2 ⟨(notF (or1 b3)), ((and0 (or2 b3)).imp (fun hh => (decF hh)) (fun hh => (notF hh)))⟩
 refine wpA_skip ?_
 obtain ⟨q1, h⟩ := h
 refine wpA_region ?_
 refine wL (OpA.m ?_)
 refine wL (OpA.addi rfl rfl rfl q1 ?_)
 refine wL (OpA.a ?_)
 refine wpL_nil ?_
 exact ⟨(), (i + 1), h, (Cov.asg ⟨rfl, rfl, rfl, trivial⟩), (.refl _)⟩
 have h := h.2 (decF b2)
 refine wpA_exit ?_
 refine wpA_seq ?_
 refine wpA_region ?_
 refine wL (OpA.a ?_)
 refine wpL_nil ?_
 refine wpA_ret ?_
 exact ⟨_, (.tmp (d := D.b true) rfl .nil), _, (.same rfl .nil), ⟨true, rfl, h⟩⟩
theorem rvalid_c (l : (List Span)) (hp0 : l.length ≤ 1000) (hp1 : ∀ z_ ∈ l, z_.path.size ≤ 1000000) : Fun false Tryz.prog 128 [(encL 3 encSpan) l] (fun d => d = D.b (validF l)) :=
 Fun.at (enc := fun r => D.b r) (v := validF l) (rvalid_w l  (fun r => r = validF l) (rvalid_ok l _ hp0 hp1 rfl))
theorem rlist_w (l : (List Span)) (Q : (List Line) → Prop) (h : rlist_vc l Q) : Fun false Tryz.prog 99 [(encL 3 encSpan) l] (fun d => ∃ r, d = (encL 2 encLine) r ∧ Q r) := by
 unfold rlist_vc at h
 refine Fun.of_body Tryz.func99 rfl Tryz.ntmps99 rfl ?_
 refine wpA_seq ?_
 refine wpA_region ?_
 refine wL (OpA.a ?_)
 refine wpL_nil ?_
 refine wpA_seq ?_
 refine wpA_region ?_
 refine wL (OpA.buildSliceV (enc := encLine) (xs := ([] : List Line)) rfl ts91 rfl .nil (by decide) rfl (fun c1 => ?_))
 refine wL (OpA.a ?_)
 refine wpL_nil ?_
 iterate 2 refine wpA_seq ?_
 obtain ⟨q1, q2, h⟩ := h
 refine wpA_region ?_
 refine wL (OpA.m ?_)
 refine wL (OpA.call rfl rfl rfl en128 (rvalid_c l q1 q2) ?_)
 rintro _ rfl
 refine wL (OpA.not rfl rfl ?_)
 refine wpL_nil ?_
 refine wpA_cond rfl (fun b2 => ?_) (fun b2 => ?_)
 have h := h.1 (notT b2)
 refine wpA_seq ?_
 refine wpA_region ?_
 refine wL (OpA.m ?_)
 refine wL (OpA.a ?_)
 refine wpL_nil ?_
 refine wpA_ret ?_
 exact ⟨_, (.tmp (d := .own c1 2 ([] : List D).length ([] : List Line).length) rfl .nil), _, (.win .head (by intro hf; cases hf) .nil), ⟨([] : List Line), rfl, h⟩⟩
 have h := h.2 (notF b2)
 refine wpA_skip ?_
 iterate 2 refine wpA_seq ?_
 refine wpA_region ?_
 refine wL (OpA.a ?_)
 refine wpL_nil ?_
 refine wpA_block ?_
 refine wpA_lfp (S := (List Line) × Int) (G := Nat × List D × List D) (c1, ([] : List D), ([] : List D)) (fun gg ss => asg [(0, (encL 3 encSpan) l), (2, .v (.slice none 0 0)), (3, .own gg.1 2 gg.2.1.length ss.1.length), (4, D.i ss.2)]) (fun gg ss => [(gg.1, .cells 2 (winL encLine gg.2.1 ss.1 gg.2.2))]) h (Cov.asg ⟨rfl, rfl, rfl, rfl, trivial⟩) (.refl _) ?_
 rintro again3 ⟨cb6, pre6, post6⟩ ⟨out, i⟩ h
 have h : rlist_L1 l Q again3 out i := h
 unfold rlist_L1 at h
 show wpA _ _ _ _ (asg [(0, (encL 3 encSpan) l), (2, .v (.slice none 0 0)), (3, .own cb6 2 pre6.length out.length), (4, D.i i)]) [(cb6, .cells 2 (winL encLine pre6 out post6))]
 iterate 2 refine wpA_seq ?_
 refine wpA_region ?_
 iterate 2 refine wL (OpA.m ?_)
 refine wL (OpA.len rfl rfl rfl rfl ts48.desc (.inl ⟨_, _, rfl, (List.length_map _).symm⟩) ?_)
 refine wL (OpA.lss rfl rfl rfl ?_)
 refine wpL_nil ?_
 refine wpA_cond rfl (fun b4 => ?_) (fun b4 => ?_)
 have h := h.1 (decT b4)
 refine wpA_skip ?_
 refine wpA_seq ?_
 refine wpA_block ?_
 refine wpA_seq ?_
 obtain ⟨q1, h⟩ := h
 refine wpA_region ?_
 iterate 2 refine wL (OpA.m ?_)
 refine wL (OpA.iixV (enc := encSpan) rfl ts48 rfl rfl rfl q1 ?_)
 refine wL (OpA.ifieldAddr rfl tf56_1 rfl ?_)
 refine wL (OpA.iload rfl ti3 rfl rfl ?_)
 refine wL (OpA.a ?_)
 refine wpL_nil ?_
 refine wpA_block ?_
 refine wpA_lfp (S := (List Line) × Int) (G := Nat × List D × List D) (cb6, pre6, post6) (fun gg ss => asg [(0, (encL 3 encSpan) l), (2, .v (.slice none 0 0)), (3, .own gg.1 2 gg.2.1.length ss.1.length), (4, D.i i), (5, D.i ss.2)]) (fun gg ss => [(gg.1, .cells 2 (winL encLine gg.2.1 ss.1 gg.2.2))]) h (Cov.asg ⟨rfl, rfl, rfl, rfl, rfl, trivial⟩) (.refl _) ?_
 rintro again5 ⟨cb61, pre61, post61⟩ ⟨out1, n⟩ h
 have h : rlist_L2 l i again3 again5 out1 n := h
 unfold rlist_L2 at h
 show wpA _ _ _ _ (asg [(0, (encL 3 encSpan) l), (2, .v (.slice none 0 0)), (3, .own cb61 2 pre61.length out1.length), (4, D.i i), (5, D.i n)]) [(cb61, .cells 2 (winL encLine pre61 out1 post61))]
 iterate 2 refine wpA_seq ?_
 obtain ⟨q1, h⟩ := h
 refine wpA_region ?_
 iterate 3 refine wL (OpA.m ?_)
 refine wL (OpA.iixV (enc := encSpan) rfl ts48 rfl rfl rfl q1 ?_)
 refine wL (OpA.ifieldAddr rfl tf56_2 rfl ?_)
 refine wL (OpA.iload rfl ti3 rfl rfl ?_)
 refine wL (OpA.lss rfl rfl rfl ?_)
 refine wpL_nil ?_
 refine wpA_cond rfl (fun b6 => ?_) (fun b6 => ?_)
 have h := h.1 (decT b6)
 refine wpA_skip ?_
 refine wpA_seq ?_
 refine wpA_block ?_
 obtain ⟨q1, q2, h⟩ := h
 refine wpA_region ?_
 iterate 3 refine wL (OpA.m ?_)
 refine wL (OpA.iixV (enc := encSpan) rfl ts48 rfl rfl rfl q1 ?_)
 refine wL (OpA.ifieldAddr rfl tf56_0 rfl ?_)
 refine wL (OpA.iload rfl ti9 rfl rfl ?_)
 refine wL (OpA.m ?_)
 refine wL (OpA.buildO (zs := [.v (.string ⟨#[]⟩), .v (.int .i64 0)]) rfl tp65 tz65 (fun _ _ => (.cons (.v _) (.cons (.v _) .nil))) (.cons (.of (sz := 1) rfl) (.cons (.of (sz := 1) rfl) .nil)) rfl ?_)
 refine wL (OpA.ibuildSliceO rfl ts91 rfl (.cons (.of (sz := 2) rfl) .nil) (by decide) ?_)
 refine wL (OpA.appendW (enc := encLine) rfl rfl rfl rfl ts91 rfl (fun _ _ => .head) (.list (ys := ([(Line.mk ((gi l i).path) n)] : List Line))) q2 (fun c7 pre8 => ?_))
 refine wL (OpA.a ?_)
 refine wpL_nil ?_
 obtain ⟨q1, h⟩ := h
 refine wpA_region ?_
 refine wL (OpA.m ?_)
 refine wL (OpA.addi rfl rfl rfl q1 ?_)
 refine wL (OpA.a ?_)
 refine wpL_nil ?_
 exact ⟨(c7, pre8, ([] : List D)), ((out1 ++ ([(Line.mk ((gi l i).path) n)] : List Line)), (n + 1)), h, (Cov.asg ⟨rfl, rfl, rfl, rfl, rfl, trivial⟩), (.refl _)⟩
 have h := h.2 (decF b6)
 refine wpA_exit ?_
 obtain ⟨q1, h⟩ := h
 refine wpA_region ?_
 refine wL (OpA.m ?_)
 refine wL (OpA.addi rfl rfl rfl q1 ?_)
 refine wL (OpA.a ?_)
 refine wpL_nil ?_
 exact ⟨(cb61, pre61, post61), (out1, (i + 1)), h, (Cov.asg ⟨rfl, rfl, rfl, rfl, trivial⟩), (.refl _)⟩
 have h := h.2 (decF b4)
 refine wpA_exit ?_
 refine wpA_seq ?_
 refine wpA_region ?_
 refine wL (OpA.m ?_)
 refine wL (OpA.a ?_)
 refine wpL_nil ?_
 refine wpA_ret ?_
 exact ⟨_, (.tmp (d := .own cb6 2 pre6.length out.length) rfl .nil), _, (.win .head (by intro hf; cases hf) .nil), ⟨out, rfl, h⟩⟩
theorem rlist_c (l : (List Span)) (hp0 : l.length ≤ 1000) (hp1 : ∀ z_ ∈ l, z_.path.size ≤ 1000000) : Fun false Tryz.prog 99 [(encL 3 encSpan) l] (fun d => d = (encL 2 encLine) (listF l)) :=
 Fun.at (enc := fun r => (encL 2 encLine) r) (v := listF l) (rlist_w l  (fun r => r = listF l) (rlist_ok l _ hp0 hp1 rfl))
theorem rmerge_w (a : (List Line)) (b : (List Line)) (Q : (List Line) → Prop) (h : rmerge_vc a b Q) : Fun false Tryz.prog 98 [(encL 2 encLine) a, (encL 2 encLine) b] (fun d => ∃ r, d = (encL 2 encLine) r ∧ Q r) := by
 unfold rmerge_vc at h
 refine Fun.of_body Tryz.func98 rfl Tryz.ntmps98 rfl ?_
 refine wpA_seq ?_
 refine wpA_region ?_
 refine wL (OpA.a ?_)
 refine wpL_nil ?_
 refine wpA_seq ?_
 refine wpA_region ?_
 refine wL (OpA.buildSliceV (enc := encLine) (xs := ([] : List Line)) rfl ts91 rfl .nil (by decide) rfl (fun c1 => ?_))
 refine wL (OpA.a ?_)
 refine wpL_nil ?_
 refine wpA_seq ?_
 refine wpA_region ?_
 iterate 2 refine wL (OpA.a ?_)
 refine wpL_nil ?_
 refine wpA_seq ?_
 refine wpA_block ?_
 refine wpA_lfp (S := (List Line) × Int × Int) (G := Nat × List D × List D) (c1, ([] : List D), ([] : List D)) (fun gg ss => asg [(0, (encL 2 encLine) a), (1, (encL 2 encLine) b), (4, .v (.slice none 0 0)), (5, .own gg.1 2 gg.2.1.length ss.1.length), (6, D.i ss.2.1), (7, D.i ss.2.2)]) (fun gg ss => [(gg.1, .cells 2 (winL encLine gg.2.1 ss.1 gg.2.2))]) h (Cov.asg ⟨rfl, rfl, rfl, rfl, rfl, rfl, trivial⟩) (.refl _) ?_
 rintro again2 ⟨cb8, pre8, post8⟩ ⟨out, i, k⟩ h
 have h : rmerge_L1 a b Q again2 out i k := h
 unfold rmerge_L1 at h
 show wpA _ _ _ _ (asg [(0, (encL 2 encLine) a), (1, (encL 2 encLine) b), (4, .v (.slice none 0 0)), (5, .own cb8 2 pre8.length out.length), (6, D.i i), (7, D.i k)]) [(cb8, .cells 2 (winL encLine pre8 out post8))]
 iterate 2 refine wpA_seq ?_
 refine wpA_mid (asg [(0, (encL 2 encLine) a), (1, (encL 2 encLine) b), (4, .v (.slice none 0 0)), (5, .own cb8 2 pre8.length out.length), (6, D.i i), (7, D.i k), (18, D.b ((decide (i < (a.length : Int))) || (decide (k < (b.length : Int)))))]) [(cb8, .cells 2 (winL encLine pre8 out post8))] ?_ ?_
 refine wpA_region ?_
 iterate 2 refine wL (OpA.m ?_)
 refine wL (OpA.len rfl rfl rfl rfl ts91.desc (.inl ⟨_, _, rfl, (List.length_map _).symm⟩) ?_)
 refine wL (OpA.lss rfl rfl rfl ?_)
 refine wL (OpA.m ?_)
 refine wpL_split (s := 13) rfl (fun b11 => ?_) (fun b11 => ?_)
 iterate 4 refine wS ?_
 refine wL (OpA.p ?_)
 refine wpL_nil ?_
 exact ⟨(Cov.asg ⟨rfl, rfl, rfl, rfl, rfl, rfl, (congrArg D.b (Eq.symm (orS b11))), trivial⟩), (.refl _)⟩
 iterate 2 refine wG (OpA.m ?_)
 refine wG (OpA.len rfl rfl rfl rfl ts91.desc (.inl ⟨_, _, rfl, (List.length_map _).symm⟩) ?_)
 refine wG (OpA.lss rfl rfl rfl ?_)
 refine wL (OpA.p ?_)
 refine wpL_nil ?_
 exact ⟨(Cov.asg ⟨rfl, rfl, rfl, rfl, rfl, rfl, (congrArg D.b (Eq.symm (orN b11 rfl))), trivial⟩), (.refl _)⟩
 show wpA _ _ _ _ (asg [(0, (encL 2 encLine) a), (1, (encL 2 encLine) b), (4, .v (.slice none 0 0)), (5, .own cb8 2 pre8.length out.length), (6, D.i i), (7, D.i k), (18, D.b ((decide (i < (a.length : Int))) || (decide (k < (b.length : Int)))))]) [(cb8, .cells 2 (winL encLine pre8 out post8))]
 refine wpA_cond rfl (fun b3 => ?_) (fun b3 => ?_)
 have h := h.1 ((or0 b3).imp (fun hh => (decT hh)) (fun hh => (decT hh)))
 refine wpA_skip ?_
 refine wpA_block ?_
 refine wpA_seq ?_
 obtain ⟨q1, h⟩ := h
 refine wpA_mid (asg [(0, (encL 2 encLine) a), (1, (encL 2 encLine) b), (4, .v (.slice none 0 0)), (5, .own cb8 2 pre8.length out.length), (6, D.i i), (7, D.i k), (39, D.b ((k == (b.length : Int)) || ((decide (i < (a.length : Int))) && (beforeF (gi a i) (gi b k)))))]) [(cb8, .cells 2 (winL encLine pre8 out post8))] ?_ ?_
 refine wpA_draw (m := 21) mo (by kernel_rfl) rfl ?_
 iterate 2 refine dL (OpA.m ⟨rfl, rfl⟩) ?_
 refine dL (OpA.len rfl rfl rfl rfl ts91.desc (.inl ⟨_, _, rfl, (List.length_map _).symm⟩) ⟨rfl, rfl⟩) ?_
 refine dL (OpA.eql rfl rfl rfl ⟨rfl, rfl⟩) ?_
 refine dL (OpA.m ⟨rfl, rfl⟩) ?_
 refine DetK_split (s := 23) rfl (fun b9 => ?_) (fun b9 => ?_)
 iterate 5 refine dS ?_
 iterate 9 refine DetK.skipU rfl rfl rfl ?_
 refine dS ?_
 refine dL (OpA.p ⟨rfl, rfl⟩) ?_
 refine DetK.nil ?_
 refine wpL_nil ?_
 exact ⟨(Cov.asg ⟨rfl, rfl, rfl, rfl, rfl, rfl, (congrArg D.b (Eq.symm (orS b9))), trivial⟩), (.refl _)⟩
 iterate 2 refine dG (OpA.m ⟨rfl, rfl⟩) ?_
 refine dG (OpA.len rfl rfl rfl rfl ts91.desc (.inl ⟨_, _, rfl, (List.length_map _).symm⟩) ⟨rfl, rfl⟩) ?_
 refine dG (OpA.lss rfl rfl rfl ⟨rfl, rfl⟩) ?_
 refine dG (OpA.m ⟨rfl, rfl⟩) ?_
 refine DetK_split (s := 28) rfl (fun b10 => ?_) (fun b10 => ?_)
 iterate 2 refine dG (OpA.m ⟨rfl, rfl⟩) ?_
 refine dG (OpA.iixV (enc := encLine) rfl ts91 rfl rfl rfl ((q1 (beqF b9)) (decT b10)).1 ⟨rfl, rfl⟩) ?_
 refine dG (OpA.iload_whole rfl ti65 rfl ⟨_, rfl, rfl⟩ ⟨rfl, rfl⟩) ?_
 iterate 2 refine dG (OpA.m ⟨rfl, rfl⟩) ?_
 refine dG (OpA.iixV (enc := encLine) rfl ts91 rfl rfl rfl ((q1 (beqF b9)) (decT b10)).2 ⟨rfl, rfl⟩) ?_
 refine dG (OpA.iload_whole rfl ti65 rfl ⟨_, rfl, rfl⟩ ⟨rfl, rfl⟩) ?_
 refine dG (OpA.call rfl rfl rfl en127 (rbefore_c (gi a i) (gi b k) ) (by rintro _ rfl; exact ⟨rfl, rfl⟩)) ?_
 refine dG (OpA.p ⟨rfl, rfl⟩) ?_
 refine dL (OpA.p ⟨rfl, rfl⟩) ?_
 refine DetK.nil ?_
 refine wpL_nil ?_
 exact ⟨(Cov.asg ⟨rfl, rfl, rfl, rfl, rfl, rfl, (congrArg D.b (Eq.symm (orN b9 (andN b10 rfl)))), trivial⟩), (.refl _)⟩
 iterate 9 refine dS ?_
 refine dG (OpA.p ⟨rfl, rfl⟩) ?_
 refine dL (OpA.p ⟨rfl, rfl⟩) ?_
 refine DetK.nil ?_
 refine wpL_nil ?_
 exact ⟨(Cov.asg ⟨rfl, rfl, rfl, rfl, rfl, rfl, (congrArg D.b (Eq.symm (orN b9 (andS b10)))), trivial⟩), (.refl _)⟩
 show wpA _ _ _ _ (asg [(0, (encL 2 encLine) a), (1, (encL 2 encLine) b), (4, .v (.slice none 0 0)), (5, .own cb8 2 pre8.length out.length), (6, D.i i), (7, D.i k), (39, D.b ((k == (b.length : Int)) || ((decide (i < (a.length : Int))) && (beforeF (gi a i) (gi b k)))))]) [(cb8, .cells 2 (winL encLine pre8 out post8))]
 refine wpA_cond rfl (fun b4 => ?_) (fun b4 => ?_)
 have h := h.1 ((or0 b4).imp (fun hh => (beqT hh)) (fun hh => ⟨(decT (and1 hh)), (and2 hh)⟩))
 refine wpA_seq ?_
 obtain ⟨q1, q2, h⟩ := h
 refine wpA_region ?_
 iterate 3 refine wL (OpA.m ?_)
 refine wL (OpA.iixV (enc := encLine) rfl ts91 rfl rfl rfl q1 ?_)
 refine wL (OpA.iload_whole rfl ti65 rfl ⟨_, rfl, rfl⟩ ?_)
 refine wL (OpA.ibuildSliceO rfl ts91 rfl (.cons (.of (sz := 2) rfl) .nil) (by decide) ?_)
 refine wL (OpA.appendW (enc := encLine) rfl rfl rfl rfl ts91 rfl (fun _ _ => .head) (.list (ys := ([(gi a i)] : List Line))) q2 (fun c5 pre6 => ?_))
 refine wL (OpA.a ?_)
 refine wpL_nil ?_
 obtain ⟨q1, h⟩ := h
 refine wpA_region ?_
 refine wL (OpA.m ?_)
 refine wL (OpA.addi rfl rfl rfl q1 ?_)
 refine wL (OpA.a ?_)
 refine wpL_nil ?_
 exact ⟨(c5, pre6, ([] : List D)), ((out ++ ([(gi a i)] : List Line)), (i + 1), k), h, (Cov.asg ⟨rfl, rfl, rfl, rfl, rfl, rfl, trivial⟩), (.refl _)⟩
 have h := h.2 ⟨(beqF (or1 b4)), ((and0 (or2 b4)).imp (fun hh => (decF hh)) (fun hh => hh))⟩
 refine wpA_seq ?_
 obtain ⟨q1, q2, h⟩ := h
 refine wpA_region ?_
 iterate 3 refine wL (OpA.m ?_)
 refine wL (OpA.iixV (enc := encLine) rfl ts91 rfl rfl rfl q1 ?_)
 refine wL (OpA.iload_whole rfl ti65 rfl ⟨_, rfl, rfl⟩ ?_)
 refine wL (OpA.ibuildSliceO rfl ts91 rfl (.cons (.of (sz := 2) rfl) .nil) (by decide) ?_)
 refine wL (OpA.appendW (enc := encLine) rfl rfl rfl rfl ts91 rfl (fun _ _ => .head) (.list (ys := ([(gi b k)] : List Line))) q2 (fun c7 pre8 => ?_))
 refine wL (OpA.a ?_)
 refine wpL_nil ?_
 obtain ⟨q1, h⟩ := h
 refine wpA_region ?_
 refine wL (OpA.m ?_)
 refine wL (OpA.addi rfl rfl rfl q1 ?_)
 refine wL (OpA.a ?_)
 refine wpL_nil ?_
 exact ⟨(c7, pre8, ([] : List D)), ((out ++ ([(gi b k)] : List Line)), i, (k + 1)), h, (Cov.asg ⟨rfl, rfl, rfl, rfl, rfl, rfl, trivial⟩), (.refl _)⟩
 have h := h.2 ⟨(decF (or1 b3)), (decF (or2 b3))⟩
 refine wpA_exit ?_
 refine wpA_seq ?_
 refine wpA_region ?_
 refine wL (OpA.m ?_)
 refine wL (OpA.a ?_)
 refine wpL_nil ?_
 refine wpA_ret ?_
 exact ⟨_, (.tmp (d := .own cb8 2 pre8.length out.length) rfl .nil), _, (.win .head (by intro hf; cases hf) .nil), ⟨out, rfl, h⟩⟩
theorem rmerge_c (a : (List Line)) (b : (List Line)) (hp0 : a.length ≤ 2000000) (hp1 : b.length ≤ 2000000) : Fun false Tryz.prog 98 [(encL 2 encLine) a, (encL 2 encLine) b] (fun d => d = (encL 2 encLine) (mergeR a b)) :=
 Fun.at (enc := fun r => (encL 2 encLine) r) (v := mergeR a b) (rmerge_w a b  (fun r => r = mergeR a b) (rmerge_ok a b _ hp0 hp1 rfl))
theorem rjoin_w (a : (List Span)) (b : (List Span)) (Q : (List Span) → Prop) (h : rjoin_vc a b Q) : Fun false Tryz.prog 62 [(encL 3 encSpan) a, (encL 3 encSpan) b] (fun d => ∃ r, d = (encL 3 encSpan) r ∧ Q r) := by
 unfold rjoin_vc at h
 refine Fun.of_body Tryz.func62 rfl Tryz.ntmps62 rfl ?_
 refine wpA_seq ?_
 refine wpA_region ?_
 refine wL (OpA.asnN (T := Span) (enc := encSpan) (sz := 3) rfl rfl ?_)
 refine wpL_nil ?_
 refine wpA_seq ?_
 obtain ⟨q1, q2, q3, q4, q5, q6, q7, q8, h⟩ := h
 refine wpA_region ?_
 refine wL (OpA.m ?_)
 refine wL (OpA.call rfl rfl rfl en99 (rlist_c a q1 q2) ?_)
 rintro _ rfl
 refine wL (OpA.m ?_)
 refine wL (OpA.call rfl rfl rfl en99 (rlist_c b q3 q4) ?_)
 rintro _ rfl
 refine wL (OpA.call rfl rfl rfl en98 (rmerge_c (listF a) (listF b) q5 q6) ?_)
 rintro _ rfl
 refine wL (OpA.call rfl rfl rfl en97 (rpack_c (mergeR (listF a) (listF b)) q7 q8) ?_)
 rintro _ rfl
 refine wL (OpA.a ?_)
 refine wpL_nil ?_
 refine wpA_ret ?_
 exact ⟨_, (.tmp (d := (encL 3 encSpan) (packF (mergeR (listF a) (listF b)))) rfl .nil), _, (.same rfl .nil), ⟨(packF (mergeR (listF a) (listF b))), rfl, h⟩⟩
theorem rjoin_c (a : (List Span)) (b : (List Span)) (hp0 : validF a = true) (hp1 : validF b = true) (hp2 : a.length ≤ 100) (hp3 : b.length ≤ 100) : Fun false Tryz.prog 62 [(encL 3 encSpan) a, (encL 3 encSpan) b] (fun d => d = (encL 3 encSpan) ((mergeF (a ++ b)))) :=
 Fun.at (enc := fun r => (encL 3 encSpan) r) (v := (mergeF (a ++ b))) (rjoin_w a b  (fun r => r = (mergeF (a ++ b))) (rjoin_ok a b _ hp0 hp1 hp2 hp3 rfl))
theorem n23lines_w (t : Text) (from_ : Int) (to : Int) (Q : (List Span) × Int → Prop) (h : n23lines_vc t from_ to Q) : Fun false Tryz.prog 61 [encText t, D.i from_, D.i to] (fun d => ∃ r, d = .tup [(encL 3 encSpan) (r.1), D.i (r.2)] ∧ Q r) := by
 unfold n23lines_vc at h
 refine Fun.of_body Tryz.func61 rfl Tryz.ntmps61 rfl ?_
 refine wpA_seq ?_
 refine wpA_region ?_
 refine wL (OpA.bx (sz := 2) rfl (by with_reducible conv => lhs; whnf) (.of rfl) (fun c1 _ => ?_))
 refine wL (OpA.asnN (T := Span) (enc := encSpan) (sz := 3) rfl rfl ?_)
 refine wL (OpA.a ?_)
 refine wpL_nil ?_
 iterate 2 refine wpA_seq ?_
 obtain ⟨q1, h⟩ := h
 refine wpA_region ?_
 refine wL (OpA.load_whole rfl ti28 rfl rfl .head rfl ⟨_, rfl⟩ ?_)
 refine wL (OpA.call rfl rfl rfl en51 (n23valid_c t q1) ?_)
 rintro _ rfl
 refine wL (OpA.not rfl rfl ?_)
 refine wpL_nil ?_
 refine wpA_cond rfl (fun b2 => ?_) (fun b2 => ?_)
 have h := h.1 (notT b2)
 refine wpA_seq ?_
 refine wpA_region ?_
 refine wL (OpA.asnN (T := Span) (enc := encSpan) (sz := 3) rfl rfl ?_)
 refine wL (OpA.a ?_)
 refine wpL_nil ?_
 refine wpA_ret ?_
 exact ⟨_, (.tmp (d := (encL 3 encSpan) ([] : List Span)) rfl (.tmp (d := D.i 1) rfl .nil)), _, (.tup (.same rfl (.same rfl .nil)) .nil), ⟨(([] : List Span), 1), rfl, h⟩⟩
 have h := h.2 (notF b2)
 refine wpA_skip ?_
 iterate 2 refine wpA_seq ?_
 refine wpA_mid (asg [(1, D.i from_), (2, D.i to), (3, .ptr c1 2 0 0), (6, (encL 3 encSpan) ([] : List Span)), (7, D.i 0), (26, D.b (((decide (from_ < 0)) || (decide (from_ > to))) || (decide (to > (t.words.length : Int)))))]) [(c1, .cells 2 [encText t])] ?_ ?_
 refine wpA_region ?_
 refine wL (OpA.m ?_)
 refine wL (OpA.lss rfl rfl rfl ?_)
 refine wL (OpA.m ?_)
 refine wpL_split (s := 15) rfl (fun b9 => ?_) (fun b9 => ?_)
 iterate 3 refine wS ?_
 refine wL (OpA.p ?_)
 refine wL (OpA.m ?_)
 iterate 5 refine wS ?_
 refine wL (OpA.p ?_)
 refine wpL_nil ?_
 exact ⟨(Cov.asg ⟨rfl, rfl, rfl, rfl, rfl, (congrArg D.b (Eq.symm (orS (orS b9)))), trivial⟩), (.refl _)⟩
 iterate 2 refine wG (OpA.m ?_)
 refine wG (OpA.gtr rfl rfl rfl ?_)
 refine wL (OpA.p ?_)
 refine wL (OpA.m ?_)
 refine wpL_split (s := 20) rfl (fun b10 => ?_) (fun b10 => ?_)
 iterate 5 refine wS ?_
 refine wL (OpA.p ?_)
 refine wpL_nil ?_
 exact ⟨(Cov.asg ⟨rfl, rfl, rfl, rfl, rfl, (congrArg D.b (Eq.symm (orS (orN b9 b10)))), trivial⟩), (.refl _)⟩
 refine wG (OpA.m ?_)
 refine wG (OpA.fieldAddr rfl tf28_1 rfl ?_)
 refine wG (OpA.load rfl ti26 rfl .head rfl rfl ?_)
 refine wG (OpA.len rfl rfl rfl rfl ts26.desc (.inl ⟨_, _, rfl, (List.length_map _).symm⟩) ?_)
 refine wG (OpA.gtr rfl rfl rfl ?_)
 refine wL (OpA.p ?_)
 refine wpL_nil ?_
 exact ⟨(Cov.asg ⟨rfl, rfl, rfl, rfl, rfl, (congrArg D.b (Eq.symm (orN (orN b9 b10) rfl))), trivial⟩), (.refl _)⟩
 show wpA _ _ _ _ (asg [(1, D.i from_), (2, D.i to), (3, .ptr c1 2 0 0), (6, (encL 3 encSpan) ([] : List Span)), (7, D.i 0), (26, D.b (((decide (from_ < 0)) || (decide (from_ > to))) || (decide (to > (t.words.length : Int)))))]) [(c1, .cells 2 [encText t])]
 refine wpA_cond rfl (fun b3 => ?_) (fun b3 => ?_)
 have h := h.1 ((or0 b3).imp (fun hh => ((or0 hh).imp (fun hh => (decT hh)) (fun hh => (decT hh)))) (fun hh => (decT hh)))
 refine wpA_seq ?_
 refine wpA_region ?_
 refine wL (OpA.asnN (T := Span) (enc := encSpan) (sz := 3) rfl rfl ?_)
 refine wL (OpA.a ?_)
 refine wpL_nil ?_
 refine wpA_ret ?_
 exact ⟨_, (.tmp (d := (encL 3 encSpan) ([] : List Span)) rfl (.tmp (d := D.i 3) rfl .nil)), _, (.tup (.same rfl (.same rfl .nil)) .nil), ⟨(([] : List Span), 3), rfl, h⟩⟩
 have h := h.2 ⟨⟨(decF (or1 (or1 b3))), (decF (or2 (or1 b3)))⟩, (decF (or2 b3))⟩
 refine wpA_skip ?_
 refine wpA_seq ?_
 refine wpA_region ?_
 refine wL (OpA.buildSliceV (enc := encLine) (xs := ([] : List Line)) rfl ts91 rfl .nil (by decide) rfl (fun c4 => ?_))
 refine wL (OpA.a ?_)
 refine wpL_nil ?_
 iterate 2 refine wpA_seq ?_
 refine wpA_region ?_
 refine wL (OpA.m ?_)
 refine wL (OpA.a ?_)
 refine wpL_nil ?_
 refine wpA_block ?_
 refine wpA_lfp (S := (List Line) × Int) (G := Nat × List D × List D) (c4, ([] : List D), ([] : List D)) (fun gg ss => asg [(2, D.i to), (3, .ptr c1 2 0 0), (6, (encL 3 encSpan) ([] : List Span)), (7, D.i 0), (8, .own gg.1 2 gg.2.1.length ss.1.length), (9, D.i ss.2)]) (fun gg ss => [(gg.1, .cells 2 (winL encLine gg.2.1 ss.1 gg.2.2)), (c1, .cells 2 [encText t])]) h (Cov.asg ⟨rfl, rfl, rfl, rfl, rfl, rfl, trivial⟩) (.refl _) ?_
 rintro again5 ⟨cb27, pre27, post27⟩ ⟨l, i⟩ h
 have h : n23lines_L1 t to Q again5 l i := h
 unfold n23lines_L1 at h
 show wpA _ _ _ _ (asg [(2, D.i to), (3, .ptr c1 2 0 0), (6, (encL 3 encSpan) ([] : List Span)), (7, D.i 0), (8, .own cb27 2 pre27.length l.length), (9, D.i i)]) [(cb27, .cells 2 (winL encLine pre27 l post27)), (c1, .cells 2 [encText t])]
 iterate 2 refine wpA_seq ?_
 refine wpA_region ?_
 iterate 2 refine wL (OpA.m ?_)
 refine wL (OpA.lss rfl rfl rfl ?_)
 refine wpL_nil ?_
 refine wpA_cond rfl (fun b6 => ?_) (fun b6 => ?_)
 have h := h.1 (decT b6)
 refine wpA_skip ?_
 refine wpA_seq ?_
 refine wpA_block ?_
 obtain ⟨q1, q2, h⟩ := h
 refine wpA_draw (m := 11) mo (by kernel_rfl) rfl ?_
 refine dL (OpA.m ⟨rfl, rfl⟩) ?_
 refine dL (OpA.fieldAddr rfl tf28_0 rfl ⟨rfl, rfl⟩) ?_
 refine dL (OpA.load rfl ti9 rfl (.tail .head) rfl rfl ⟨rfl, rfl⟩) ?_
 refine dL (OpA.fieldAddr rfl tf28_1 rfl ⟨rfl, rfl⟩) ?_
 refine dL (OpA.load rfl ti26 rfl (.tail .head) rfl rfl ⟨rfl, rfl⟩) ?_
 refine dL (OpA.m ⟨rfl, rfl⟩) ?_
 refine dL (OpA.iixV (enc := encLex) rfl ts26 rfl rfl rfl q1 ⟨rfl, rfl⟩) ?_
 refine dL (OpA.ifieldAddr rfl tf61_1 rfl ⟨rfl, rfl⟩) ?_
 refine dL (OpA.iload rfl ti3 rfl rfl ⟨rfl, rfl⟩) ?_
 refine dL (OpA.buildO (zs := [.v (.string ⟨#[]⟩), .v (.int .i64 0)]) rfl tp65 tz65 (fun _ _ => (.cons (.v _) (.cons (.v _) .nil))) (.cons (.of (sz := 1) rfl) (.cons (.of (sz := 1) rfl) .nil)) rfl ⟨rfl, rfl⟩) ?_
 refine dL (OpA.ibuildSliceO rfl ts91 rfl (.cons (.of (sz := 2) rfl) .nil) (by decide) ⟨rfl, rfl⟩) ?_
 refine DetK.nil ?_
 refine wL (OpA.appendW (enc := encLine) rfl rfl rfl rfl ts91 rfl (fun _ _ => .head) (.list (ys := ([(Line.mk t.path ((gi t.words i).line))] : List Line))) q2 (fun c7 pre8 => ?_))
 refine wL (OpA.a ?_)
 refine wpL_nil ?_
 obtain ⟨q1, h⟩ := h
 refine wpA_region ?_
 refine wL (OpA.m ?_)
 refine wL (OpA.addi rfl rfl rfl q1 ?_)
 refine wL (OpA.a ?_)
 refine wpL_nil ?_
 exact ⟨(c7, pre8, ([] : List D)), ((l ++ ([(Line.mk t.path ((gi t.words i).line))] : List Line)), (i + 1)), h, (Cov.asg ⟨rfl, rfl, rfl, rfl, rfl, rfl, trivial⟩), (.refl _)⟩
 have h := h.2 (decF b6)
 refine wpA_exit ?_
 refine wpA_seq ?_
 obtain ⟨q1, q2, h⟩ := h
 refine wpA_region ?_
 refine wL (OpA.m ?_)
 refine wL (OpA.frz (s := 46) (d := .own cb27 2 pre27.length l.length) (d' := (encL 2 encLine) l) (.refl _) rfl (.win (enc := encLine) .head (by intro hf; cases hf) .nil) (OpA.call rfl rfl rfl en97 (rpack_c l q1 q2) ?_))
 rintro _ rfl
 iterate 2 refine wL (OpA.a ?_)
 refine wpL_nil ?_
 refine wpA_ret ?_
 exact ⟨_, (.tmp (d := (encL 3 encSpan) (packF l)) rfl (.tmp (d := D.i 0) rfl .nil)), _, (.tup (.same rfl (.same rfl .nil)) .nil), ⟨((packF l), 0), rfl, h⟩⟩
theorem n23lines_c (t : Text) (from_ : Int) (to : Int) (hp0 : okT t) : Fun false Tryz.prog 61 [encText t, D.i from_, D.i to] (fun d => d = .tup [(encL 3 encSpan) ((linesF t from_ to).1), D.i ((linesF t from_ to).2)]) :=
 Fun.at (enc := fun r => .tup [(encL 3 encSpan) (r.1), D.i (r.2)]) (v := linesF t from_ to) (n23lines_w t from_ to  (fun r => r = linesF t from_ to) (n23lines_ok t from_ to _ hp0 rfl))
theorem kcov1_w (from_ : Int) (n : Int) (t : Text) (lines : (List Line)) (c_lines d_lines : Nat) (pre_lines post_lines : List D) (Q : (List Line) → Prop) (h : kcov1_vc from_ n t lines Q) : CallH Tryz.prog 59 [D.i from_, D.i n, .iptr (encText t) 0, .ptr c_lines 1 0 0] [(c_lines, .cells 1 [.own d_lines 2 pre_lines.length lines.length]), (d_lines, .cells 2 (winL encLine pre_lines lines post_lines))] (fun d h' => ∃ (r : (List Line)) (g : Nat × List D × List D), d = .tup [] ∧ h' = [(c_lines, .cells 1 [.own g.1 2 g.2.1.length r.length]), (g.1, .cells 2 (winL encLine g.2.1 r g.2.2))] ∧ Q r) := by
 unfold kcov1_vc at h
 refine CallH.of_bodyP Tryz.func59 rfl Tryz.ntmps59 rfl ?_
 refine wpA_seq ?_
 obtain ⟨q1, q2, h⟩ := h
 refine wpA_region ?_
 refine wL (OpA.ifieldAddr rfl tf28_1 rfl ?_)
 refine wL (OpA.iload rfl ti26 rfl rfl ?_)
 iterate 3 refine wL (OpA.m ?_)
 refine wL (OpA.addi rfl rfl rfl q1 ?_)
 refine wL (OpA.isliceV (enc := encLex) rfl ts26 rfl (.some rfl) (.some rfl) q2 ?_)
 refine wL (OpA.len rfl rfl rfl rfl ts26.desc (.inl ⟨_, _, rfl, (List.length_map _).symm⟩) ?_)
 refine wL (OpA.m ?_)
 refine wpL_nil ?_
 refine wpA_block ?_
 refine wpA_lfp (S := (List Line) × Int) (G := Nat × List D × List D) (d_lines, pre_lines, post_lines) (fun gg ss => asg [(2, .iptr (encText t) 0), (3, .ptr c_lines 1 0 0), (14, (encL 2 encLex) (lsub t.words from_ (from_ + n))), (15, D.i ((lsub t.words from_ (from_ + n)).length : Int)), (16, D.i ss.2)]) (fun gg ss => [(c_lines, .cells 1 [.own gg.1 2 gg.2.1.length ss.1.length]), (gg.1, .cells 2 (winL encLine gg.2.1 ss.1 gg.2.2))]) h (Cov.asg ⟨rfl, rfl, rfl, rfl, rfl, trivial⟩) (.refl _) ?_
 rintro again1 ⟨cbp3s, prep3s, postp3s⟩ ⟨xs, x⟩ h
 have h : kcov1_L1 from_ n t Q again1 xs x := h
 unfold kcov1_L1 at h
 show wpA _ _ _ _ (asg [(2, .iptr (encText t) 0), (3, .ptr c_lines 1 0 0), (14, (encL 2 encLex) (lsub t.words from_ (from_ + n))), (15, D.i ((lsub t.words from_ (from_ + n)).length : Int)), (16, D.i x)]) [(c_lines, .cells 1 [.own cbp3s 2 prep3s.length xs.length]), (cbp3s, .cells 2 (winL encLine prep3s xs postp3s))]
 refine wpA_seq ?_
 refine wpA_region ?_
 refine wL (OpA.lss rfl rfl rfl ?_)
 refine wpL_nil ?_
 refine wpA_seq ?_
 refine wpA_cond rfl (fun b2 => ?_) (fun b2 => ?_)
 have h := h.1 (decT b2)
 refine wpA_skip ?_
 refine wpA_seq ?_
 refine wpA_block ?_
 refine wpA_seq ?_
 obtain ⟨q1, h⟩ := h
 refine wpA_region ?_
 refine wL (OpA.iixV (enc := encLex) rfl ts26 rfl rfl rfl q1 ?_)
 refine wL (OpA.iload_whole rfl ti61 rfl ⟨_, rfl, rfl⟩ ?_)
 refine wL (OpA.alloc (sz := 2) (d := encLex (Lexeme.mk ByteArray.empty 0)) rfl tz61 (fun _ _ => .agg (.cons (.v _) (.cons (.v _) .nil))) (.of rfl) (fun c3 _ => ?_))
 refine wE (OpA.storeW rfl ti61 rfl (by with_reducible conv => lhs; whnf) (.of rfl) rfl rfl .head ?_)
 refine wpL_nil ?_
 obtain ⟨q1, h⟩ := h
 refine wpA_region ?_
 refine wL (OpA.load rfl ti91 rfl (.tail .head) rfl rfl ?_)
 refine wL (OpA.ifieldAddr rfl tf28_0 rfl ?_)
 refine wL (OpA.iload rfl ti9 rfl rfl ?_)
 refine wL (OpA.fieldAddr rfl tf61_1 rfl ?_)
 refine wL (OpA.load rfl ti3 rfl .head rfl rfl ?_)
 refine wL (OpA.buildO (zs := [.v (.string ⟨#[]⟩), .v (.int .i64 0)]) rfl tp65 tz65 (fun _ _ => (.cons (.v _) (.cons (.v _) .nil))) (.cons (.of (sz := 1) rfl) (.cons (.of (sz := 1) rfl) .nil)) rfl ?_)
 refine wL (OpA.ibuildSliceO rfl ts91 rfl (.cons (.of (sz := 2) rfl) .nil) (by decide) ?_)
 refine wL (OpA.appendW (enc := encLine) rfl rfl rfl rfl ts91 rfl (fun _ _ => (.tail (.tail .head))) (.list (ys := ([(Line.mk t.path ((gi (lsub t.words from_ (from_ + n)) x).line))] : List Line))) q1 (fun c4 pre5 => ?_))
 refine wE (OpA.storeW rfl ti91 rfl (by with_reducible conv => lhs; whnf) (.of rfl) rfl rfl (.tail .head) ?_)
 refine wpL_nil ?_
 obtain ⟨q1, h⟩ := h
 refine wpA_region ?_
 refine wL (OpA.addi rfl rfl rfl q1 ?_)
 refine wL (OpA.m ?_)
 refine wpL_nil ?_
 exact ⟨(c4, pre5, ([] : List D)), ((xs ++ ([(Line.mk t.path ((gi (lsub t.words from_ (from_ + n)) x).line))] : List Line)), (x + 1)), h, (Cov.asg ⟨rfl, rfl, rfl, rfl, rfl, trivial⟩), (.cons _ (.refl _))⟩
 have h := h.2 (decF b2)
 refine wpA_exit ?_
 exact ⟨_, .nil, [(c_lines, .cells 1 [.own cbp3s 2 prep3s.length xs.length]), (cbp3s, .cells 2 (winL encLine prep3s xs postp3s))], [(c_lines, .cells 1 [.own cbp3s 2 prep3s.length xs.length]), (cbp3s, .cells 2 (winL encLine prep3s xs postp3s))], (.refl _), (.refl _), xs, (cbp3s, prep3s, postp3s), rfl, rfl, h⟩
theorem kcov1_c (from_ : Int) (n : Int) (t : Text) (lines : (List Line)) (c_lines d_lines : Nat) (pre_lines post_lines : List D) (hp0 : inI (from_ + n)) (hp1 : inS from_ (from_ + n) t.words.length) (hp2 : lines.length + t.words.length ≤ 1000000000) : CallH Tryz.prog 59 [D.i from_, D.i n, .iptr (encText t) 0, .ptr c_lines 1 0 0] [(c_lines, .cells 1 [.own d_lines 2 pre_lines.length lines.length]), (d_lines, .cells 2 (winL encLine pre_lines lines post_lines))] (fun d h' => ∃ (g : Nat × List D × List D), d = .tup [] ∧ h' = [(c_lines, .cells 1 [.own g.1 2 g.2.1.length (lines ++ linesW t (lsub t.words from_ (from_ + n))).length]), (g.1, .cells 2 (winL encLine g.2.1 (lines ++ linesW t (lsub t.words from_ (from_ + n))) g.2.2))]) :=
 (kcov1_w from_ n t lines c_lines d_lines pre_lines post_lines  (fun r => r = (lines ++ linesW t (lsub t.words from_ (from_ + n)))) (kcov1_ok from_ n t lines _ hp0 hp1 hp2 rfl)).mono (by rintro d h' ⟨r, g, hd, hh, rfl⟩; exact ⟨g, hd, hh⟩)
theorem kcovered_w (l : (List Text)) (x : (List Clone)) (text : Int) (Q : (List Span) × Int → Prop) (h : kcovered_vc l x text Q) : Fun false Tryz.prog 22 [(encL 2 encText) l, (encL 5 encClone) x, D.i text] (fun d => ∃ r, d = .tup [(encL 3 encSpan) (r.1), D.i (r.2)] ∧ Q r) := by
 unfold kcovered_vc at h
 refine Fun.of_body Tryz.func22 rfl Tryz.ntmps22 rfl ?_
 refine wpA_seq ?_
 refine wpA_region ?_
 refine wL (OpA.asnN (T := Span) (enc := encSpan) (sz := 3) rfl rfl ?_)
 refine wL (OpA.a ?_)
 refine wpL_nil ?_
 iterate 2 refine wpA_seq ?_
 obtain ⟨q1, h⟩ := h
 refine wpA_region ?_
 refine wL (OpA.m ?_)
 refine wL (OpA.call rfl rfl rfl en53 (kright_c l q1) ?_)
 rintro _ rfl
 refine wL (OpA.not rfl rfl ?_)
 refine wpL_nil ?_
 refine wpA_cond rfl (fun b1 => ?_) (fun b1 => ?_)
 have h := h.1 (notT b1)
 refine wpA_seq ?_
 refine wpA_region ?_
 refine wL (OpA.asnN (T := Span) (enc := encSpan) (sz := 3) rfl rfl ?_)
 refine wL (OpA.a ?_)
 refine wpL_nil ?_
 refine wpA_ret ?_
 exact ⟨_, (.tmp (d := (encL 3 encSpan) ([] : List Span)) rfl (.tmp (d := D.i 1) rfl .nil)), _, (.tup (.same rfl (.same rfl .nil)) .nil), ⟨(([] : List Span), 1), rfl, h⟩⟩
 have h := h.2 (notF b1)
 refine wpA_skip ?_
 iterate 2 refine wpA_seq ?_
 refine wpA_mid (asg [(0, (encL 2 encText) l), (1, (encL 5 encClone) x), (2, D.i text), (6, (encL 3 encSpan) ([] : List Span)), (7, D.i 0), (26, D.b ((decide (text < 0)) || (decide (text ≥ (l.length : Int)))))]) [] ?_ ?_
 refine wpA_region ?_
 refine wL (OpA.m ?_)
 refine wL (OpA.lss rfl rfl rfl ?_)
 refine wL (OpA.m ?_)
 refine wpL_split (s := 21) rfl (fun b21 => ?_) (fun b21 => ?_)
 iterate 4 refine wS ?_
 refine wL (OpA.p ?_)
 refine wpL_nil ?_
 exact ⟨(Cov.asg ⟨rfl, rfl, rfl, rfl, rfl, (congrArg D.b (Eq.symm (orS b21))), trivial⟩), (.refl _)⟩
 iterate 2 refine wG (OpA.m ?_)
 refine wG (OpA.len rfl rfl rfl rfl ts22.desc (.inl ⟨_, _, rfl, (List.length_map _).symm⟩) ?_)
 refine wG (OpA.geq rfl rfl rfl ?_)
 refine wL (OpA.p ?_)
 refine wpL_nil ?_
 exact ⟨(Cov.asg ⟨rfl, rfl, rfl, rfl, rfl, (congrArg D.b (Eq.symm (orN b21 rfl))), trivial⟩), (.refl _)⟩
 show wpA _ _ _ _ (asg [(0, (encL 2 encText) l), (1, (encL 5 encClone) x), (2, D.i text), (6, (encL 3 encSpan) ([] : List Span)), (7, D.i 0), (26, D.b ((decide (text < 0)) || (decide (text ≥ (l.length : Int)))))]) []
 refine wpA_cond rfl (fun b2 => ?_) (fun b2 => ?_)
 have h := h.1 ((or0 b2).imp (fun hh => (decT hh)) (fun hh => (decT hh)))
 refine wpA_seq ?_
 refine wpA_region ?_
 refine wL (OpA.asnN (T := Span) (enc := encSpan) (sz := 3) rfl rfl ?_)
 refine wL (OpA.a ?_)
 refine wpL_nil ?_
 refine wpA_ret ?_
 exact ⟨_, (.tmp (d := (encL 3 encSpan) ([] : List Span)) rfl (.tmp (d := D.i 3) rfl .nil)), _, (.tup (.same rfl (.same rfl .nil)) .nil), ⟨(([] : List Span), 3), rfl, h⟩⟩
 have h := h.2 ⟨(decF (or1 b2)), (decF (or2 b2))⟩
 refine wpA_skip ?_
 iterate 2 refine wpA_seq ?_
 refine wpA_region ?_
 refine wL (OpA.m ?_)
 refine wL (OpA.len rfl rfl rfl rfl ts32.desc (.inl ⟨_, _, rfl, (List.length_map _).symm⟩) ?_)
 refine wL (OpA.m ?_)
 refine wpL_nil ?_
 refine wpA_block ?_
 refine wpA_lfp (S := Int) (G := Unit) () (fun gg ss => asg [(0, (encL 2 encText) l), (1, (encL 5 encClone) x), (2, D.i text), (6, (encL 3 encSpan) ([] : List Span)), (7, D.i 0), (27, (encL 5 encClone) x), (28, D.i (x.length : Int)), (29, D.i ss)]) (fun gg ss => []) h (Cov.asg ⟨rfl, rfl, rfl, rfl, rfl, rfl, rfl, rfl, trivial⟩) (.refl _) ?_
 rintro again3 _ x1 h
 have h : kcovered_L1 l x text Q again3 x1 := h
 unfold kcovered_L1 at h
 show wpA _ _ _ _ (asg [(0, (encL 2 encText) l), (1, (encL 5 encClone) x), (2, D.i text), (6, (encL 3 encSpan) ([] : List Span)), (7, D.i 0), (27, (encL 5 encClone) x), (28, D.i (x.length : Int)), (29, D.i x1)]) []
 refine wpA_seq ?_
 refine wpA_region ?_
 refine wL (OpA.lss rfl rfl rfl ?_)
 refine wpL_nil ?_
 refine wpA_seq ?_
 refine wpA_cond rfl (fun b4 => ?_) (fun b4 => ?_)
 have h := h.1 (decT b4)
 refine wpA_skip ?_
 refine wpA_seq ?_
 refine wpA_block ?_
 refine wpA_seq ?_
 obtain ⟨q1, h⟩ := h
 refine wpA_region ?_
 refine wL (OpA.iixV (enc := encClone) rfl ts32 rfl rfl rfl q1 ?_)
 refine wL (OpA.iload_whole rfl ti38 rfl ⟨_, rfl, rfl⟩ ?_)
 refine wL (OpA.alloc (sz := 5) (d := encClone (Clone.mk 0 0 0 0 0)) rfl tz38 (fun _ _ => .agg (.cons (.v _) (.cons (.v _) (.cons (.v _) (.cons (.v _) (.cons (.v _) .nil)))))) (.of rfl) (fun c5 _ => ?_))
 refine wE (OpA.storeW rfl ti38 rfl (by with_reducible conv => lhs; whnf) (.of rfl) rfl rfl .head ?_)
 refine wpL_nil ?_
 refine wpA_seq ?_
 obtain ⟨q1, h⟩ := h
 refine wpA_region ?_
 refine wL (OpA.m ?_)
 refine wL (OpA.load_whole rfl ti38 rfl rfl .head rfl ⟨_, rfl⟩ ?_)
 refine wL (OpA.call rfl rfl rfl en56 (kcheckL_c l (gi x x1) 1 q1) ?_)
 rintro _ rfl
 refine wL (OpA.a ?_)
 refine wpL_nil ?_
 refine wpA_seq ?_
 refine wpA_region ?_
 refine wL (OpA.m ?_)
 refine wL (OpA.neq rfl rfl rfl ?_)
 refine wpL_nil ?_
 refine wpA_cond rfl (fun b6 => ?_) (fun b6 => ?_)
 have h := h.1 (bneT b6)
 refine wpA_seq ?_
 refine wpA_region ?_
 refine wL (OpA.m ?_)
 refine wL (OpA.asnN (T := Span) (enc := encSpan) (sz := 3) rfl rfl ?_)
 refine wL (OpA.a ?_)
 refine wpL_nil ?_
 refine wpA_ret ?_
 exact ⟨_, (.tmp (d := (encL 3 encSpan) ([] : List Span)) rfl (.tmp (d := D.i (checkC l (gi x x1) 1)) rfl .nil)), _, (.tup (.same rfl (.same rfl .nil)) .nil), ⟨(([] : List Span), (checkC l (gi x x1) 1)), rfl, h⟩⟩
 have h := h.2 (bneF b6)
 refine wpA_skip ?_
 obtain ⟨q1, h⟩ := h
 refine wpA_region ?_
 refine wL (OpA.addi rfl rfl rfl q1 ?_)
 refine wL (OpA.m ?_)
 refine wpL_nil ?_
 exact ⟨(), (x1 + 1), h, (Cov.asg ⟨rfl, rfl, rfl, rfl, rfl, rfl, rfl, rfl, trivial⟩), (.cons _ (.refl _))⟩
 have h := h.2 (decF b4)
 refine wpA_exit ?_
 refine wpA_seq ?_
 obtain ⟨q1, h⟩ := h
 refine wpA_region ?_
 iterate 2 refine wL (OpA.m ?_)
 refine wL (OpA.iixV (enc := encText) rfl ts22 rfl rfl rfl q1 ?_)
 refine wL (OpA.iload_whole rfl ti28 rfl ⟨_, rfl, rfl⟩ ?_)
 refine wL (OpA.alloc (sz := 2) (d := .agg ([D.s ByteArray.empty, .v (.slice none 0 0)])) rfl tz28 (fun _ _ => .agg (.cons (.v _) (.cons (.v _) .nil))) (.of rfl) (fun c7 _ => ?_))
 refine wE (OpA.storeW rfl ti28 rfl (by with_reducible conv => lhs; whnf) (.of rfl) rfl rfl .head ?_)
 refine wpL_nil ?_
 refine wpA_seq ?_
 refine wpA_freeze (s := 11) (d := .ptr c7 2 0 0) (d' := .iptr (encText (gi l text)) 0) (.refl _) rfl (.ptrp rfl .head rfl .nil) ?_
 refine wpA_region ?_
 refine wL (OpA.alloc (sz := 1) (d := .v (.slice none 0 0)) rfl tz91 (fun _ _ => .v _) (.of rfl) (fun c8 _ => ?_))
 refine wpL_nil ?_
 refine wpA_seq ?_
 refine wpA_region ?_
 refine wL (OpA.makeFunc rfl ?_)
 refine wL (OpA.a ?_)
 refine wpL_nil ?_
 iterate 2 refine wpA_seq ?_
 refine wpA_region ?_
 refine wL (OpA.m ?_)
 refine wL (OpA.len rfl rfl rfl rfl ts32.desc (.inl ⟨_, _, rfl, (List.length_map _).symm⟩) ?_)
 refine wL (OpA.m ?_)
 refine wpL_nil ?_
 refine wpA_block ?_
 refine wpA_ghostM (c := c8) (sz1 := 1) (sz := 2) (es' := fun g9 => [.own g9 2 ([] : List D).length ([] : List Line).length]) (fun _ => .head) (fun _ => (.turn .nil)) (fun _ => rfl) (fun _ => by rintro d (_ | ⟨_, hd⟩); exact .of rfl; cases hd) (fun g9 => ?_)
 refine wpA_lfp (S := (List Line) × Int) (G := Nat × List D × List D) (g9, ([] : List D), ([] : List D)) (fun gg ss => asg [(2, D.i text), (6, (encL 3 encSpan) ([] : List Span)), (7, D.i 0), (12, .ptr c8 1 0 0), (13, .fn (.func 59) [] [.iptr (encText (gi l text)) 0, .ptr c8 1 0 0]), (45, (encL 5 encClone) x), (46, D.i (x.length : Int)), (47, D.i ss.2)]) (fun gg ss => [(gg.1, .cells 2 (winL encLine gg.2.1 ss.1 gg.2.2)), (c8, .cells 1 [.own gg.1 2 gg.2.1.length ss.1.length])]) h (Cov.asg ⟨rfl, rfl, rfl, rfl, rfl, rfl, rfl, rfl, trivial⟩) (.refl _) ?_
 rintro again10 ⟨cbgh12, pregh12, postgh12⟩ ⟨xs, x2⟩ h
 have h : kcovered_L2 l x text Q again10 xs x2 := h
 unfold kcovered_L2 at h
 show wpA _ _ _ _ (asg [(2, D.i text), (6, (encL 3 encSpan) ([] : List Span)), (7, D.i 0), (12, .ptr c8 1 0 0), (13, .fn (.func 59) [] [.iptr (encText (gi l text)) 0, .ptr c8 1 0 0]), (45, (encL 5 encClone) x), (46, D.i (x.length : Int)), (47, D.i x2)]) [(cbgh12, .cells 2 (winL encLine pregh12 xs postgh12)), (c8, .cells 1 [.own cbgh12 2 pregh12.length xs.length])]
 refine wpA_seq ?_
 refine wpA_region ?_
 refine wL (OpA.lss rfl rfl rfl ?_)
 refine wpL_nil ?_
 refine wpA_seq ?_
 refine wpA_cond rfl (fun b11 => ?_) (fun b11 => ?_)
 have h := h.1 (decT b11)
 refine wpA_skip ?_
 refine wpA_seq ?_
 refine wpA_block ?_
 refine wpA_seq ?_
 obtain ⟨q1, h⟩ := h
 refine wpA_region ?_
 refine wL (OpA.iixV (enc := encClone) rfl ts32 rfl rfl rfl q1 ?_)
 refine wL (OpA.iload_whole rfl ti38 rfl ⟨_, rfl, rfl⟩ ?_)
 refine wL (OpA.alloc (sz := 5) (d := encClone (Clone.mk 0 0 0 0 0)) rfl tz38 (fun _ _ => .agg (.cons (.v _) (.cons (.v _) (.cons (.v _) (.cons (.v _) (.cons (.v _) .nil)))))) (.of rfl) (fun c12 _ => ?_))
 refine wE (OpA.storeW rfl ti38 rfl (by with_reducible conv => lhs; whnf) (.of rfl) rfl rfl .head ?_)
 refine wpL_nil ?_
 iterate 2 refine wpA_seq ?_
 refine wpA_region ?_
 refine wL (OpA.fieldAddr rfl tf38_0 rfl ?_)
 refine wL (OpA.load rfl ti3 rfl .head rfl rfl ?_)
 refine wL (OpA.m ?_)
 refine wL (OpA.eql rfl rfl rfl ?_)
 refine wpL_nil ?_
 refine wpA_join (S := (List Line)) (G := Nat × List D × List D) (fun gg ss => asg [(2, D.i text), (6, (encL 3 encSpan) ([] : List Span)), (7, D.i 0), (12, .ptr c8 1 0 0), (13, .fn (.func 59) [] [.iptr (encText (gi l text)) 0, .ptr c8 1 0 0]), (15, .ptr c12 5 0 0), (45, (encL 5 encClone) x), (46, D.i (x.length : Int)), (47, D.i x2)]) (fun gg ss => [(c12, .cells 5 [encClone (gi x x2)]), (gg.1, .cells 2 (winL encLine gg.2.1 ss gg.2.2)), (c8, .cells 1 [.own gg.1 2 gg.2.1.length ss.length])]) (fun ss => kcovered_J1 l x text x2 again10 ss) ?_ ?_
 refine wpA_cond rfl (fun b17 => ?_) (fun b17 => ?_)
 have h := h.1 (beqT b17)
 obtain ⟨q1, q2, q3, h⟩ := h
 refine wpA_region ?_
 refine wL (OpA.m ?_)
 refine wL (OpA.fieldAddr rfl tf38_1 rfl ?_)
 refine wL (OpA.load rfl ti3 rfl .head rfl rfl ?_)
 refine wL (OpA.fieldAddr rfl tf38_4 rfl ?_)
 refine wL (OpA.load rfl ti3 rfl .head rfl rfl ?_)
 refine wL (OpA.callH rfl rfl rfl en59 (h1 := [(c8, .cells 1 [.own cbgh12 2 pregh12.length xs.length]), (cbgh12, .cells 2 (winL encLine pregh12 xs postgh12))]) (h2 := [(c12, .cells 5 [encClone (gi x x2)])]) (pull2.trans (.cons _ pull1)) (kcov1_c ((gi x x2).atA) ((gi x x2).len) (gi l text) xs c8 cbgh12 pregh12 postgh12 q1 q2 q3) ?_)
 rintro _ _ ⟨⟨c18, pre19, post20⟩, rfl, rfl⟩
 refine wpL_perm (h' := [(c12, .cells 5 [encClone (gi x x2)]), (c18, .cells 2 (winL encLine pre19 (xs ++ linesW (gi l text) (lsub (gi l text).words ((gi x x2).atA) (((gi x x2).atA) + ((gi x x2).len)))) post20)), (c8, .cells 1 [.own c18 2 pre19.length (xs ++ linesW (gi l text) (lsub (gi l text).words ((gi x x2).atA) (((gi x x2).atA) + ((gi x x2).len)))).length])]) (pull2.trans (.cons _ pull1)) ?_
 refine wpL_nil ?_
 exact ⟨(c18, pre19, post20), (xs ++ linesW (gi l text) (lsub (gi l text).words ((gi x x2).atA) (((gi x x2).atA) + ((gi x x2).len)))), h, (Cov.asg ⟨rfl, rfl, rfl, rfl, rfl, rfl, rfl, rfl, rfl, trivial⟩), (.refl _)⟩
 have h := h.2 (beqF b17)
 refine wpA_skip ?_
 exact ⟨(cbgh12, pregh12, postgh12), xs, h, (Cov.asg ⟨rfl, rfl, rfl, rfl, rfl, rfl, rfl, rfl, rfl, trivial⟩), (.refl _)⟩
 rintro ⟨cbgh121, pregh121, postgh121⟩ xs1 h
 have h : kcovered_J1 l x text x2 again10 xs1 := h
 unfold kcovered_J1 at h
 show wpA _ _ _ _ (asg [(2, D.i text), (6, (encL 3 encSpan) ([] : List Span)), (7, D.i 0), (12, .ptr c8 1 0 0), (13, .fn (.func 59) [] [.iptr (encText (gi l text)) 0, .ptr c8 1 0 0]), (15, .ptr c12 5 0 0), (45, (encL 5 encClone) x), (46, D.i (x.length : Int)), (47, D.i x2)]) [(c12, .cells 5 [encClone (gi x x2)]), (cbgh121, .cells 2 (winL encLine pregh121 xs1 postgh121)), (c8, .cells 1 [.own cbgh121 2 pregh121.length xs1.length])]
 refine wpA_seq ?_
 refine wpA_region ?_
 refine wL (OpA.fieldAddr rfl tf38_2 rfl ?_)
 refine wL (OpA.load rfl ti3 rfl .head rfl rfl ?_)
 refine wL (OpA.m ?_)
 refine wL (OpA.eql rfl rfl rfl ?_)
 refine wpL_nil ?_
 refine wpA_cond rfl (fun b13 => ?_) (fun b13 => ?_)
 have h := h.1 (beqT b13)
 obtain ⟨q1, q2, q3, h⟩ := h
 refine wpA_region ?_
 refine wL (OpA.m ?_)
 refine wL (OpA.fieldAddr rfl tf38_3 rfl ?_)
 refine wL (OpA.load rfl ti3 rfl .head rfl rfl ?_)
 refine wL (OpA.fieldAddr rfl tf38_4 rfl ?_)
 refine wL (OpA.load rfl ti3 rfl .head rfl rfl ?_)
 refine wL (OpA.callH rfl rfl rfl en59 (h1 := [(c8, .cells 1 [.own cbgh121 2 pregh121.length xs1.length]), (cbgh121, .cells 2 (winL encLine pregh121 xs1 postgh121))]) (h2 := [(c12, .cells 5 [encClone (gi x x2)])]) (pull2.trans (.cons _ pull1)) (kcov1_c ((gi x x2).atB) ((gi x x2).len) (gi l text) xs1 c8 cbgh121 pregh121 postgh121 q1 q2 q3) ?_)
 rintro _ _ ⟨⟨c14, pre15, post16⟩, rfl, rfl⟩
 refine wpL_perm (h' := [(c12, .cells 5 [encClone (gi x x2)]), (c14, .cells 2 (winL encLine pre15 (xs1 ++ linesW (gi l text) (lsub (gi l text).words ((gi x x2).atB) (((gi x x2).atB) + ((gi x x2).len)))) post16)), (c8, .cells 1 [.own c14 2 pre15.length (xs1 ++ linesW (gi l text) (lsub (gi l text).words ((gi x x2).atB) (((gi x x2).atB) + ((gi x x2).len)))).length])]) (pull2.trans (.cons _ pull1)) ?_
 refine wpL_nil ?_
 obtain ⟨q1, h⟩ := h
 refine wpA_region ?_
 refine wL (OpA.addi rfl rfl rfl q1 ?_)
 refine wL (OpA.m ?_)
 refine wpL_nil ?_
 exact ⟨(c14, pre15, post16), ((xs1 ++ linesW (gi l text) (lsub (gi l text).words ((gi x x2).atB) (((gi x x2).atB) + ((gi x x2).len)))), (x2 + 1)), h, (Cov.asg ⟨rfl, rfl, rfl, rfl, rfl, rfl, rfl, rfl, trivial⟩), (.cons _ (.refl _))⟩
 have h := h.2 (beqF b13)
 refine wpA_skip ?_
 obtain ⟨q1, h⟩ := h
 refine wpA_region ?_
 refine wL (OpA.addi rfl rfl rfl q1 ?_)
 refine wL (OpA.m ?_)
 refine wpL_nil ?_
 exact ⟨(cbgh121, pregh121, postgh121), (xs1, (x2 + 1)), h, (Cov.asg ⟨rfl, rfl, rfl, rfl, rfl, rfl, rfl, rfl, trivial⟩), (.cons _ (.refl _))⟩
 have h := h.2 (decF b11)
 refine wpA_exit ?_
 refine wpA_seq ?_
 obtain ⟨q1, q2, h⟩ := h
 refine wpA_region ?_
 refine wL (OpA.load rfl ti91 rfl (.tail .head) rfl rfl ?_)
 refine wL (OpA.frz (s := 72) (d := .own cbgh12 2 pregh12.length xs.length) (d' := (encL 2 encLine) xs) (.refl _) rfl (.win (enc := encLine) .head (by intro hf; cases hf) .nil) (OpA.call rfl rfl rfl en60 (of_c xs q1 q2) ?_))
 rintro _ rfl
 iterate 2 refine wL (OpA.extract rfl rfl rfl ?_)
 iterate 2 refine wL (OpA.a ?_)
 refine wpL_nil ?_
 refine wpA_ret ?_
 exact ⟨_, (.tmp (d := (encL 3 encSpan) ((ofF xs).1)) rfl (.tmp (d := D.i ((ofF xs).2)) rfl .nil)), _, (.tup (.same rfl (.same rfl .nil)) .nil), ⟨((ofF xs).1, (ofF xs).2), rfl, h⟩⟩
theorem kcovered_c (l : (List Text)) (x : (List Clone)) (text : Int) (hp0 : okTs l) (hp1 : x.length ≤ 1024) (hp2 : ∀ t_ ∈ l, t_.words.length ≤ 40) : Fun false Tryz.prog 22 [(encL 2 encText) l, (encL 5 encClone) x, D.i text] (fun d => d = .tup [(encL 3 encSpan) ((coveredF l x text).1), D.i ((coveredF l x text).2)]) :=
 Fun.at (enc := fun r => .tup [(encL 3 encSpan) (r.1), D.i (r.2)]) (v := coveredF l x text) (kcovered_w l x text  (fun r => r = coveredF l x text) (kcovered_ok l x text _ hp0 hp1 hp2 rfl))
theorem rcovered_w (l : (List Text)) (x : (List Clone)) (text : Int) (Q : (List Span) × Int → Prop) (h : rcovered_vc l x text Q) : Fun false Tryz.prog 23 [(encL 2 encText) l, (encL 5 encClone) x, D.i text] (fun d => ∃ r, d = .tup [(encL 3 encSpan) (r.1), D.i (r.2)] ∧ Q r) := by
 unfold rcovered_vc at h
 refine Fun.of_body Tryz.func23 rfl Tryz.ntmps23 rfl ?_
 refine wpA_seq ?_
 refine wpA_region ?_
 refine wL (OpA.asnN (T := Span) (enc := encSpan) (sz := 3) rfl rfl ?_)
 refine wL (OpA.a ?_)
 refine wpL_nil ?_
 iterate 2 refine wpA_seq ?_
 obtain ⟨q1, h⟩ := h
 refine wpA_region ?_
 refine wL (OpA.m ?_)
 refine wL (OpA.call rfl rfl rfl en57 (rrightL_c l q1) ?_)
 rintro _ rfl
 refine wL (OpA.not rfl rfl ?_)
 refine wpL_nil ?_
 refine wpA_cond rfl (fun b1 => ?_) (fun b1 => ?_)
 have h := h.1 (notT b1)
 refine wpA_seq ?_
 refine wpA_region ?_
 refine wL (OpA.asnN (T := Span) (enc := encSpan) (sz := 3) rfl rfl ?_)
 refine wL (OpA.a ?_)
 refine wpL_nil ?_
 refine wpA_ret ?_
 exact ⟨_, (.tmp (d := (encL 3 encSpan) ([] : List Span)) rfl (.tmp (d := D.i 1) rfl .nil)), _, (.tup (.same rfl (.same rfl .nil)) .nil), ⟨(([] : List Span), 1), rfl, h⟩⟩
 have h := h.2 (notF b1)
 refine wpA_skip ?_
 iterate 2 refine wpA_seq ?_
 refine wpA_mid (asg [(0, (encL 2 encText) l), (1, (encL 5 encClone) x), (2, D.i text), (6, (encL 3 encSpan) ([] : List Span)), (7, D.i 0), (25, D.b ((decide (text < 0)) || (decide (text ≥ (l.length : Int)))))]) [] ?_ ?_
 refine wpA_region ?_
 refine wL (OpA.m ?_)
 refine wL (OpA.lss rfl rfl rfl ?_)
 refine wL (OpA.m ?_)
 refine wpL_split (s := 20) rfl (fun b8 => ?_) (fun b8 => ?_)
 iterate 4 refine wS ?_
 refine wL (OpA.p ?_)
 refine wpL_nil ?_
 exact ⟨(Cov.asg ⟨rfl, rfl, rfl, rfl, rfl, (congrArg D.b (Eq.symm (orS b8))), trivial⟩), (.refl _)⟩
 iterate 2 refine wG (OpA.m ?_)
 refine wG (OpA.len rfl rfl rfl rfl ts22.desc (.inl ⟨_, _, rfl, (List.length_map _).symm⟩) ?_)
 refine wG (OpA.geq rfl rfl rfl ?_)
 refine wL (OpA.p ?_)
 refine wpL_nil ?_
 exact ⟨(Cov.asg ⟨rfl, rfl, rfl, rfl, rfl, (congrArg D.b (Eq.symm (orN b8 rfl))), trivial⟩), (.refl _)⟩
 show wpA _ _ _ _ (asg [(0, (encL 2 encText) l), (1, (encL 5 encClone) x), (2, D.i text), (6, (encL 3 encSpan) ([] : List Span)), (7, D.i 0), (25, D.b ((decide (text < 0)) || (decide (text ≥ (l.length : Int)))))]) []
 refine wpA_cond rfl (fun b2 => ?_) (fun b2 => ?_)
 have h := h.1 ((or0 b2).imp (fun hh => (decT hh)) (fun hh => (decT hh)))
 refine wpA_seq ?_
 refine wpA_region ?_
 refine wL (OpA.asnN (T := Span) (enc := encSpan) (sz := 3) rfl rfl ?_)
 refine wL (OpA.a ?_)
 refine wpL_nil ?_
 refine wpA_ret ?_
 exact ⟨_, (.tmp (d := (encL 3 encSpan) ([] : List Span)) rfl (.tmp (d := D.i 3) rfl .nil)), _, (.tup (.same rfl (.same rfl .nil)) .nil), ⟨(([] : List Span), 3), rfl, h⟩⟩
 have h := h.2 ⟨(decF (or1 b2)), (decF (or2 b2))⟩
 refine wpA_skip ?_
 refine wpA_seq ?_
 refine wpA_region ?_
 refine wL (OpA.ibuildSliceO rfl ts48 rfl .nil (by decide) ?_)
 refine wL (OpA.a ?_)
 refine wpL_nil ?_
 iterate 2 refine wpA_seq ?_
 refine wpA_region ?_
 refine wL (OpA.a ?_)
 refine wpL_nil ?_
 refine wpA_block ?_
 refine wpA_lfp (S := (List Span) × Int) (G := Unit) () (fun gg ss => asg [(0, (encL 2 encText) l), (1, (encL 5 encClone) x), (2, D.i text), (6, (encL 3 encSpan) ([] : List Span)), (7, D.i 0), (8, (encL 3 encSpan) ss.1), (9, D.i ss.2)]) (fun gg ss => []) h (Cov.asg ⟨rfl, rfl, rfl, rfl, rfl, rfl, rfl, trivial⟩) (.refl _) ?_
 rintro again3 _ ⟨out, i⟩ h
 have h : rcovered_L1 l x text Q again3 out i := h
 unfold rcovered_L1 at h
 show wpA _ _ _ _ (asg [(0, (encL 2 encText) l), (1, (encL 5 encClone) x), (2, D.i text), (6, (encL 3 encSpan) ([] : List Span)), (7, D.i 0), (8, (encL 3 encSpan) out), (9, D.i i)]) []
 iterate 2 refine wpA_seq ?_
 refine wpA_region ?_
 iterate 2 refine wL (OpA.m ?_)
 refine wL (OpA.len rfl rfl rfl rfl ts32.desc (.inl ⟨_, _, rfl, (List.length_map _).symm⟩) ?_)
 refine wL (OpA.lss rfl rfl rfl ?_)
 refine wpL_nil ?_
 refine wpA_cond rfl (fun b4 => ?_) (fun b4 => ?_)
 have h := h.1 (decT b4)
 refine wpA_skip ?_
 refine wpA_seq ?_
 refine wpA_block ?_
 refine wpA_seq ?_
 obtain ⟨q1, q2, q3, q4, h⟩ := h
 refine wpA_region ?_
 iterate 3 refine wL (OpA.m ?_)
 refine wL (OpA.iixV (enc := encClone) rfl ts32 rfl rfl rfl q1 ?_)
 refine wL (OpA.iload_whole rfl ti38 rfl ⟨_, rfl, rfl⟩ ?_)
 refine wL (OpA.call rfl rfl rfl en21 (rcheck_c l (gi x i) 1 q2 q3 q4) ?_)
 rintro _ rfl
 refine wL (OpA.a ?_)
 refine wpL_nil ?_
 iterate 2 refine wpA_seq ?_
 refine wpA_region ?_
 refine wL (OpA.m ?_)
 refine wL (OpA.neq rfl rfl rfl ?_)
 refine wpL_nil ?_
 refine wpA_cond rfl (fun b5 => ?_) (fun b5 => ?_)
 have h := h.1 (bneT b5)
 refine wpA_seq ?_
 refine wpA_region ?_
 refine wL (OpA.m ?_)
 refine wL (OpA.asnN (T := Span) (enc := encSpan) (sz := 3) rfl rfl ?_)
 refine wL (OpA.a ?_)
 refine wpL_nil ?_
 refine wpA_ret ?_
 exact ⟨_, (.tmp (d := (encL 3 encSpan) ([] : List Span)) rfl (.tmp (d := D.i (checkF29 l (gi x i) 1)) rfl .nil)), _, (.tup (.same rfl (.same rfl .nil)) .nil), ⟨(([] : List Span), (checkF29 l (gi x i) 1)), rfl, h⟩⟩
 have h := h.2 (bneF b5)
 refine wpA_skip ?_
 iterate 2 refine wpA_seq ?_
 obtain ⟨q1, h⟩ := h
 refine wpA_region ?_
 iterate 2 refine wL (OpA.m ?_)
 refine wL (OpA.iixV (enc := encClone) rfl ts32 rfl rfl rfl q1 ?_)
 refine wL (OpA.ifieldAddr rfl tf38_0 rfl ?_)
 refine wL (OpA.iload rfl ti3 rfl rfl ?_)
 refine wL (OpA.m ?_)
 refine wL (OpA.eql rfl rfl rfl ?_)
 refine wpL_nil ?_
 refine wpA_join (S := (List Span)) (G := Unit) (fun gg ss => asg [(0, (encL 2 encText) l), (1, (encL 5 encClone) x), (2, D.i text), (6, (encL 3 encSpan) ([] : List Span)), (7, D.i 0), (8, (encL 3 encSpan) ss), (9, D.i i)]) (fun gg ss => []) (fun ss => rcovered_J1 l x text i again3 ss) ?_ ?_
 refine wpA_cond rfl (fun b7 => ?_) (fun b7 => ?_)
 have h := h.1 (beqT b7)
 refine wpA_seq ?_
 obtain ⟨q1, q2, q3, q4, h⟩ := h
 refine wpA_draw (m := 26) mo (by kernel_rfl) rfl ?_
 iterate 2 refine dL (OpA.m ⟨rfl, rfl⟩) ?_
 refine dL (OpA.iixV (enc := encText) rfl ts22 rfl rfl rfl q1 ⟨rfl, rfl⟩) ?_
 refine dL (OpA.iload_whole rfl ti28 rfl ⟨_, rfl, rfl⟩ ⟨rfl, rfl⟩) ?_
 iterate 2 refine dL (OpA.m ⟨rfl, rfl⟩) ?_
 refine dL (OpA.iixV (enc := encClone) rfl ts32 rfl rfl rfl q2 ⟨rfl, rfl⟩) ?_
 refine dL (OpA.ifieldAddr rfl tf38_1 rfl ⟨rfl, rfl⟩) ?_
 refine dL (OpA.iload rfl ti3 rfl rfl ⟨rfl, rfl⟩) ?_
 iterate 2 refine dL (OpA.m ⟨rfl, rfl⟩) ?_
 refine dL (OpA.iixV (enc := encClone) rfl ts32 rfl rfl rfl q2 ⟨rfl, rfl⟩) ?_
 refine dL (OpA.ifieldAddr rfl tf38_1 rfl ⟨rfl, rfl⟩) ?_
 refine dL (OpA.iload rfl ti3 rfl rfl ⟨rfl, rfl⟩) ?_
 iterate 2 refine dL (OpA.m ⟨rfl, rfl⟩) ?_
 refine dL (OpA.iixV (enc := encClone) rfl ts32 rfl rfl rfl q2 ⟨rfl, rfl⟩) ?_
 refine dL (OpA.ifieldAddr rfl tf38_4 rfl ⟨rfl, rfl⟩) ?_
 refine dL (OpA.iload rfl ti3 rfl rfl ⟨rfl, rfl⟩) ?_
 refine dL (OpA.addi rfl rfl rfl q3 ⟨rfl, rfl⟩) ?_
 refine dL (OpA.call rfl rfl rfl en61 (n23lines_c (gi l text) ((gi x i).atA) (((gi x i).atA) + ((gi x i).len)) q4) (by rintro _ rfl; exact ⟨rfl, rfl⟩)) ?_
 refine dL (OpA.m ⟨rfl, rfl⟩) ?_
 iterate 2 refine dL (OpA.extract rfl rfl rfl ⟨rfl, rfl⟩) ?_
 iterate 2 refine dL (OpA.a ⟨rfl, rfl⟩) ?_
 refine DetK.nil ?_
 refine wpL_nil ?_
 obtain ⟨q1, q2, q3, q4, h⟩ := h
 refine wpA_region ?_
 iterate 2 refine wL (OpA.m ?_)
 refine wL (OpA.call rfl rfl rfl en62 (rjoin_c out ((linesF (gi l text) ((gi x i).atA) (((gi x i).atA) + ((gi x i).len))).1) q1 q2 q3 q4) ?_)
 rintro _ rfl
 refine wL (OpA.a ?_)
 refine wpL_nil ?_
 exact ⟨(), (mergeF (out ++ ((linesF (gi l text) ((gi x i).atA) (((gi x i).atA) + ((gi x i).len))).1))), h, (Cov.asg ⟨rfl, rfl, rfl, rfl, rfl, rfl, rfl, trivial⟩), (.refl _)⟩
 have h := h.2 (beqF b7)
 refine wpA_skip ?_
 exact ⟨(), out, h, (Cov.asg ⟨rfl, rfl, rfl, rfl, rfl, rfl, rfl, trivial⟩), (.refl _)⟩
 rintro _ out1 h
 have h : rcovered_J1 l x text i again3 out1 := h
 unfold rcovered_J1 at h
 show wpA _ _ _ _ (asg [(0, (encL 2 encText) l), (1, (encL 5 encClone) x), (2, D.i text), (6, (encL 3 encSpan) ([] : List Span)), (7, D.i 0), (8, (encL 3 encSpan) out1), (9, D.i i)]) []
 refine wpA_seq ?_
 obtain ⟨q1, h⟩ := h
 refine wpA_region ?_
 iterate 2 refine wL (OpA.m ?_)
 refine wL (OpA.iixV (enc := encClone) rfl ts32 rfl rfl rfl q1 ?_)
 refine wL (OpA.ifieldAddr rfl tf38_2 rfl ?_)
 refine wL (OpA.iload rfl ti3 rfl rfl ?_)
 refine wL (OpA.m ?_)
 refine wL (OpA.eql rfl rfl rfl ?_)
 refine wpL_nil ?_
 refine wpA_cond rfl (fun b6 => ?_) (fun b6 => ?_)
 have h := h.1 (beqT b6)
 refine wpA_seq ?_
 obtain ⟨q1, q2, q3, q4, h⟩ := h
 refine wpA_draw (m := 26) mo (by kernel_rfl) rfl ?_
 iterate 2 refine dL (OpA.m ⟨rfl, rfl⟩) ?_
 refine dL (OpA.iixV (enc := encText) rfl ts22 rfl rfl rfl q1 ⟨rfl, rfl⟩) ?_
 refine dL (OpA.iload_whole rfl ti28 rfl ⟨_, rfl, rfl⟩ ⟨rfl, rfl⟩) ?_
 iterate 2 refine dL (OpA.m ⟨rfl, rfl⟩) ?_
 refine dL (OpA.iixV (enc := encClone) rfl ts32 rfl rfl rfl q2 ⟨rfl, rfl⟩) ?_
 refine dL (OpA.ifieldAddr rfl tf38_3 rfl ⟨rfl, rfl⟩) ?_
 refine dL (OpA.iload rfl ti3 rfl rfl ⟨rfl, rfl⟩) ?_
 iterate 2 refine dL (OpA.m ⟨rfl, rfl⟩) ?_
 refine dL (OpA.iixV (enc := encClone) rfl ts32 rfl rfl rfl q2 ⟨rfl, rfl⟩) ?_
 refine dL (OpA.ifieldAddr rfl tf38_3 rfl ⟨rfl, rfl⟩) ?_
 refine dL (OpA.iload rfl ti3 rfl rfl ⟨rfl, rfl⟩) ?_
 iterate 2 refine dL (OpA.m ⟨rfl, rfl⟩) ?_
 refine dL (OpA.iixV (enc := encClone) rfl ts32 rfl rfl rfl q2 ⟨rfl, rfl⟩) ?_
 refine dL (OpA.ifieldAddr rfl tf38_4 rfl ⟨rfl, rfl⟩) ?_
 refine dL (OpA.iload rfl ti3 rfl rfl ⟨rfl, rfl⟩) ?_
 refine dL (OpA.addi rfl rfl rfl q3 ⟨rfl, rfl⟩) ?_
 refine dL (OpA.call rfl rfl rfl en61 (n23lines_c (gi l text) ((gi x i).atB) (((gi x i).atB) + ((gi x i).len)) q4) (by rintro _ rfl; exact ⟨rfl, rfl⟩)) ?_
 refine dL (OpA.m ⟨rfl, rfl⟩) ?_
 iterate 2 refine dL (OpA.extract rfl rfl rfl ⟨rfl, rfl⟩) ?_
 iterate 2 refine dL (OpA.a ⟨rfl, rfl⟩) ?_
 refine DetK.nil ?_
 refine wpL_nil ?_
 obtain ⟨q1, q2, q3, q4, h⟩ := h
 refine wpA_region ?_
 iterate 2 refine wL (OpA.m ?_)
 refine wL (OpA.call rfl rfl rfl en62 (rjoin_c out1 ((linesF (gi l text) ((gi x i).atB) (((gi x i).atB) + ((gi x i).len))).1) q1 q2 q3 q4) ?_)
 rintro _ rfl
 refine wL (OpA.a ?_)
 refine wpL_nil ?_
 obtain ⟨q1, h⟩ := h
 refine wpA_region ?_
 refine wL (OpA.m ?_)
 refine wL (OpA.addi rfl rfl rfl q1 ?_)
 refine wL (OpA.a ?_)
 refine wpL_nil ?_
 exact ⟨(), ((mergeF (out1 ++ ((linesF (gi l text) ((gi x i).atB) (((gi x i).atB) + ((gi x i).len))).1))), (i + 1)), h, (Cov.asg ⟨rfl, rfl, rfl, rfl, rfl, rfl, rfl, trivial⟩), (.refl _)⟩
 have h := h.2 (beqF b6)
 refine wpA_skip ?_
 obtain ⟨q1, h⟩ := h
 refine wpA_region ?_
 refine wL (OpA.m ?_)
 refine wL (OpA.addi rfl rfl rfl q1 ?_)
 refine wL (OpA.a ?_)
 refine wpL_nil ?_
 exact ⟨(), (out1, (i + 1)), h, (Cov.asg ⟨rfl, rfl, rfl, rfl, rfl, rfl, rfl, trivial⟩), (.refl _)⟩
 have h := h.2 (decF b4)
 refine wpA_exit ?_
 refine wpA_seq ?_
 refine wpA_region ?_
 refine wL (OpA.m ?_)
 iterate 2 refine wL (OpA.a ?_)
 refine wpL_nil ?_
 refine wpA_ret ?_
 exact ⟨_, (.tmp (d := (encL 3 encSpan) out) rfl (.tmp (d := D.i 0) rfl .nil)), _, (.tup (.same rfl (.same rfl .nil)) .nil), ⟨(out, 0), rfl, h⟩⟩
theorem rcovered_c (l : (List Text)) (x : (List Clone)) (text : Int) (hp0 : okTs l) (hp1 : ∀ t_ ∈ l, t_.words.length ≤ 40) (hp2 : ∀ c_ ∈ x, inI c_.atA ∧ inI c_.atB) (hp3 : x.length ≤ 1000000) : Fun false Tryz.prog 23 [(encL 2 encText) l, (encL 5 encClone) x, D.i text] (fun d => d = .tup [(encL 3 encSpan) ((coveredF l x text).1), D.i ((coveredF l x text).2)]) :=
 Fun.at (enc := fun r => .tup [(encL 3 encSpan) (r.1), D.i (r.2)]) (v := coveredF l x text) (rcovered_w l x text  (fun r => r = coveredF l x text) (rcovered_ok l x text _ hp0 hp1 hp2 hp3 rfl))
end Go.Proofs.YtglclijalehcmaaGreatDoor
