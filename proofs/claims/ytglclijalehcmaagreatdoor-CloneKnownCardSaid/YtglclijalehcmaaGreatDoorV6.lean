/-
  walks and contracts
-/
import Derived.Test.YtglclijalehcmaaGreatDoorV1
import Derived.Test.YtglclijalehcmaaGreatDoorTlo
set_option maxRecDepth 10000
set_option maxHeartbeats 2000000
set_option linter.all false
namespace Go.Proofs.YtglclijalehcmaaGreatDoor
open Go Go.Lic Go.Sort Go.Proofs
attribute [local irreducible] addF addP againstC badR behindF blankF checkC checkF checkF29 cloneCmp clonesF cmpB cmpI codeF commonF4 countF countL famF fewC fewTs fewW findC findT gramsF growTF guarF has1F hasF hashF indexF insideF insideT leastF lenC lenF lookF mergeF mul64F mulP nameR nearC nearF newF ofF orF packF pairF partF pathB pathF postCmp postLt postsF powF printsF pushF rightL rollF sameW selectF sizeF spanCmp splitF splitG textF validF validT
theorem inside_w (s_ : Span) (Q : Bool → Prop) (h : inside_vc s_ Q) : Fun false Tryz.prog 95 [encSpan s_] (fun d => ∃ r, d = D.b r ∧ Q r) := by
 unfold inside_vc at h
 refine Fun.of_body Tryz.func95 rfl Tryz.ntmps95 rfl ?_
 refine wpA_seq ?_
 refine wpA_region ?_
 refine wL (OpA.bx (sz := 3) rfl (by with_reducible conv => lhs; whnf) (.of rfl) (fun c1 _ => ?_))
 refine wL (OpA.a ?_)
 refine wpL_nil ?_
 refine wpA_seq ?_
 refine wpA_mid (asg [(2, D.b (((decide (0 ≤ s_.from_)) && (decide (s_.from_ < s_.to))) && (decide (s_.to ≤ 1024))))]) [(c1, .cells 3 [encSpan s_])] ?_ ?_
 refine wpA_region ?_
 refine wL (OpA.fieldAddr rfl tf56_1 rfl ?_)
 refine wL (OpA.load rfl ti3 rfl .head rfl rfl ?_)
 refine wL (OpA.leq rfl rfl rfl ?_)
 refine wL (OpA.m ?_)
 refine wpL_split (s := 6) rfl (fun b2 => ?_) (fun b2 => ?_)
 refine wG (OpA.fieldAddr rfl tf56_1 rfl ?_)
 refine wG (OpA.load rfl ti3 rfl .head rfl rfl ?_)
 refine wG (OpA.fieldAddr rfl tf56_2 rfl ?_)
 refine wG (OpA.load rfl ti3 rfl .head rfl rfl ?_)
 refine wG (OpA.lss rfl rfl rfl ?_)
 refine wL (OpA.p ?_)
 refine wL (OpA.m ?_)
 refine wpL_split (s := 13) rfl (fun b3 => ?_) (fun b3 => ?_)
 refine wG (OpA.fieldAddr rfl tf56_2 rfl ?_)
 refine wG (OpA.load rfl ti3 rfl .head rfl rfl ?_)
 refine wG (OpA.leq rfl rfl rfl ?_)
 refine wL (OpA.p ?_)
 refine wL (OpA.a ?_)
 refine wpL_nil ?_
 exact ⟨(Cov.asg ⟨(congrArg D.b (Eq.symm (andN (andN b2 b3) rfl))), trivial⟩), (.refl _)⟩
 iterate 3 refine wS ?_
 refine wL (OpA.p ?_)
 refine wL (OpA.a ?_)
 refine wpL_nil ?_
 exact ⟨(Cov.asg ⟨(congrArg D.b (Eq.symm (andS (andN b2 b3)))), trivial⟩), (.refl _)⟩
 iterate 5 refine wS ?_
 refine wL (OpA.p ?_)
 refine wL (OpA.m ?_)
 iterate 3 refine wS ?_
 refine wL (OpA.p ?_)
 refine wL (OpA.a ?_)
 refine wpL_nil ?_
 exact ⟨(Cov.asg ⟨(congrArg D.b (Eq.symm (andS (andS b2)))), trivial⟩), (.refl _)⟩
 show wpA _ _ _ _ (asg [(2, D.b (((decide (0 ≤ s_.from_)) && (decide (s_.from_ < s_.to))) && (decide (s_.to ≤ 1024))))]) [(c1, .cells 3 [encSpan s_])]
 refine wpA_ret ?_
 exact ⟨_, (.tmp (d := D.b (((decide (0 ≤ s_.from_)) && (decide (s_.from_ < s_.to))) && (decide (s_.to ≤ 1024)))) rfl .nil), _, (.same rfl .nil), ⟨(((decide (0 ≤ s_.from_)) && (decide (s_.from_ < s_.to))) && (decide (s_.to ≤ 1024))), rfl, h⟩⟩
theorem inside_c (s_ : Span)  : Fun false Tryz.prog 95 [encSpan s_] (fun d => d = D.b (insideF s_)) :=
 Fun.at (enc := fun r => D.b r) (v := insideF s_) (inside_w s_  (fun r => r = insideF s_) (inside_ok s_ _  rfl))
theorem behind_w (a : Span) (b : Span) (Q : Bool → Prop) (h : behind_vc a b Q) : Fun false Tryz.prog 100 [encSpan a, encSpan b] (fun d => ∃ r, d = D.b r ∧ Q r) := by
 unfold behind_vc at h
 refine Fun.of_body Tryz.func100 rfl Tryz.ntmps100 rfl ?_
 refine wpA_seq ?_
 refine wpA_region ?_
 refine wL (OpA.bx (sz := 3) rfl (by with_reducible conv => lhs; whnf) (.of rfl) (fun c1 _ => ?_))
 refine wL (OpA.bx (sz := 3) rfl (by with_reducible conv => lhs; whnf) (.of rfl) (fun c2 _ => ?_))
 refine wL (OpA.a ?_)
 refine wpL_nil ?_
 refine wpA_seq ?_
 refine wpA_mid (asg [(4, D.b ((sless a.path b.path) || ((decide (a.path = b.path)) && (decide (a.to < b.from_)))))]) [(c2, .cells 3 [encSpan b]), (c1, .cells 3 [encSpan a])] ?_ ?_
 refine wpA_region ?_
 refine wL (OpA.fieldAddr rfl tf56_0 rfl ?_)
 refine wL (OpA.load rfl ti9 rfl (.tail .head) rfl rfl ?_)
 refine wL (OpA.fieldAddr rfl tf56_0 rfl ?_)
 refine wL (OpA.load rfl ti9 rfl .head rfl rfl ?_)
 refine wL (OpA.slss rfl rfl rfl ?_)
 refine wL (OpA.m ?_)
 refine wpL_split (s := 10) rfl (fun b3 => ?_) (fun b3 => ?_)
 iterate 6 refine wS ?_
 iterate 5 refine wpL_skipU rfl rfl rfl rfl rfl ?_
 refine wS ?_
 refine wL (OpA.p ?_)
 refine wL (OpA.a ?_)
 refine wpL_nil ?_
 exact ⟨(Cov.asg ⟨(congrArg D.b (Eq.symm (orS b3))), trivial⟩), (.refl _)⟩
 refine wG (OpA.fieldAddr rfl tf56_0 rfl ?_)
 refine wG (OpA.load rfl ti9 rfl (.tail .head) rfl rfl ?_)
 refine wG (OpA.fieldAddr rfl tf56_0 rfl ?_)
 refine wG (OpA.load rfl ti9 rfl .head rfl rfl ?_)
 refine wG (OpA.seql rfl rfl rfl ?_)
 refine wG (OpA.m ?_)
 refine wpL_split (s := 16) rfl (fun b4 => ?_) (fun b4 => ?_)
 refine wG (OpA.fieldAddr rfl tf56_2 rfl ?_)
 refine wG (OpA.load rfl ti3 rfl (.tail .head) rfl rfl ?_)
 refine wG (OpA.fieldAddr rfl tf56_1 rfl ?_)
 refine wG (OpA.load rfl ti3 rfl .head rfl rfl ?_)
 refine wG (OpA.lss rfl rfl rfl ?_)
 refine wG (OpA.p ?_)
 refine wL (OpA.p ?_)
 refine wL (OpA.a ?_)
 refine wpL_nil ?_
 exact ⟨(Cov.asg ⟨(congrArg D.b (Eq.symm (orN b3 (andN b4 rfl)))), trivial⟩), (.refl _)⟩
 iterate 5 refine wS ?_
 refine wG (OpA.p ?_)
 refine wL (OpA.p ?_)
 refine wL (OpA.a ?_)
 refine wpL_nil ?_
 exact ⟨(Cov.asg ⟨(congrArg D.b (Eq.symm (orN b3 (andS b4)))), trivial⟩), (.refl _)⟩
 show wpA _ _ _ _ (asg [(4, D.b ((sless a.path b.path) || ((decide (a.path = b.path)) && (decide (a.to < b.from_)))))]) [(c2, .cells 3 [encSpan b]), (c1, .cells 3 [encSpan a])]
 refine wpA_ret ?_
 exact ⟨_, (.tmp (d := D.b ((sless a.path b.path) || ((decide (a.path = b.path)) && (decide (a.to < b.from_))))) rfl .nil), _, (.same rfl .nil), ⟨((sless a.path b.path) || ((decide (a.path = b.path)) && (decide (a.to < b.from_)))), rfl, h⟩⟩
theorem behind_c (a : Span) (b : Span)  : Fun false Tryz.prog 100 [encSpan a, encSpan b] (fun d => d = D.b (behindF a b)) :=
 Fun.at (enc := fun r => D.b r) (v := behindF a b) (behind_w a b  (fun r => r = behindF a b) (behind_ok a b _  rfl))
theorem valid_w (l : (List Span)) (Q : Bool → Prop) (h : valid_vc l Q) : Fun false Tryz.prog 63 [(encL 3 encSpan) l] (fun d => ∃ r, d = D.b r ∧ Q r) := by
 unfold valid_vc at h
 refine Fun.of_body Tryz.func63 rfl Tryz.ntmps63 rfl ?_
 refine wpA_seq ?_
 refine wpA_region ?_
 refine wL (OpA.a ?_)
 refine wpL_nil ?_
 iterate 2 refine wpA_seq ?_
 refine wpA_region ?_
 refine wL (OpA.m ?_)
 refine wL (OpA.len rfl rfl rfl rfl ts48.desc (.inl ⟨_, _, rfl, (List.length_map _).symm⟩) ?_)
 refine wL (OpA.m ?_)
 refine wpL_nil ?_
 refine wpA_block ?_
 refine wpA_lfp (S := Int) (G := Unit) () (fun gg ss => asg [(0, (encL 3 encSpan) l), (2, D.b false), (5, (encL 3 encSpan) l), (6, D.i (l.length : Int)), (7, D.i ss)]) (fun gg ss => []) h (Cov.asg ⟨rfl, rfl, rfl, rfl, rfl, trivial⟩) (.refl _) ?_
 rintro again1 _ x h
 have h : valid_L1 l Q again1 x := h
 unfold valid_L1 at h
 show wpA _ _ _ _ (asg [(0, (encL 3 encSpan) l), (2, D.b false), (5, (encL 3 encSpan) l), (6, D.i (l.length : Int)), (7, D.i x)]) []
 refine wpA_seq ?_
 refine wpA_region ?_
 refine wL (OpA.lss rfl rfl rfl ?_)
 refine wpL_nil ?_
 refine wpA_seq ?_
 refine wpA_cond rfl (fun b2 => ?_) (fun b2 => ?_)
 have h := h.1 (decT b2)
 refine wpA_skip ?_
 refine wpA_seq ?_
 refine wpA_block ?_
 refine wpA_seq ?_
 obtain ⟨q1, h⟩ := h
 refine wpA_region ?_
 refine wL (OpA.m ?_)
 refine wL (OpA.iixV (enc := encSpan) rfl ts48 rfl rfl rfl q1 ?_)
 refine wL (OpA.iload_whole rfl ti56 rfl ⟨_, rfl, rfl⟩ ?_)
 refine wL (OpA.alloc (sz := 3) (d := encSpan (Span.mk ByteArray.empty 0 0)) rfl tz56 (fun _ _ => .agg (.cons (.v _) (.cons (.v _) (.cons (.v _) .nil)))) (.of rfl) (fun c3 _ => ?_))
 refine wL (OpA.a ?_)
 refine wE (OpA.storeW rfl ti56 rfl (by with_reducible conv => lhs; whnf) (.of rfl) rfl rfl .head ?_)
 refine wpL_nil ?_
 refine wpA_seq ?_
 obtain ⟨q1, q2, h⟩ := h
 refine wpA_mid (asg [(0, (encL 3 encSpan) l), (2, D.b false), (5, (encL 3 encSpan) l), (6, D.i (l.length : Int)), (7, D.i x), (34, D.b (((!(insideF (gi l x))) || ((decide (x > 0)) && (!(behindF (gi l (x - 1)) (gi l x))))) || ((pathF ((gi l x).path)) != 0)))]) [(c3, .cells 3 [encSpan (gi l x)])] ?_ ?_
 refine wpA_draw (m := 23) mo (by kernel_rfl) rfl ?_
 refine dL (OpA.load_whole rfl ti56 rfl rfl .head rfl ⟨_, rfl⟩ ⟨rfl, rfl⟩) ?_
 refine dL (OpA.call rfl rfl rfl en95 (inside_c (gi l x) ) (by rintro _ rfl; exact ⟨rfl, rfl⟩)) ?_
 refine dL (OpA.not rfl rfl ⟨rfl, rfl⟩) ?_
 refine dL (OpA.m ⟨rfl, rfl⟩) ?_
 refine DetK_split (s := 15) rfl (fun b5 => ?_) (fun b5 => ?_)
 iterate 3 refine dS ?_
 iterate 8 refine DetK.skipU rfl rfl rfl ?_
 refine dS ?_
 refine dL (OpA.p ⟨rfl, rfl⟩) ?_
 refine dL (OpA.m ⟨rfl, rfl⟩) ?_
 iterate 4 refine dS ?_
 refine dL (OpA.p ⟨rfl, rfl⟩) ?_
 refine DetK.nil ?_
 refine wpL_nil ?_
 exact ⟨(Cov.asg ⟨rfl, rfl, rfl, rfl, rfl, (congrArg D.b (Eq.symm (orS (orS b5)))), trivial⟩), (.refl _)⟩
 refine dG (OpA.m ⟨rfl, rfl⟩) ?_
 refine dG (OpA.gtr rfl rfl rfl ⟨rfl, rfl⟩) ?_
 refine dG (OpA.m ⟨rfl, rfl⟩) ?_
 refine DetK_split (s := 18) rfl (fun b6 => ?_) (fun b6 => ?_)
 iterate 2 refine dG (OpA.m ⟨rfl, rfl⟩) ?_
 refine dG (OpA.subi rfl rfl rfl ((q1 (notF b5)) (decT b6)).1 ⟨rfl, rfl⟩) ?_
 refine dG (OpA.iixV (enc := encSpan) rfl ts48 rfl rfl rfl ((q1 (notF b5)) (decT b6)).2 ⟨rfl, rfl⟩) ?_
 refine dG (OpA.iload_whole rfl ti56 rfl ⟨_, rfl, rfl⟩ ⟨rfl, rfl⟩) ?_
 refine dG (OpA.load_whole rfl ti56 rfl rfl .head rfl ⟨_, rfl⟩ ⟨rfl, rfl⟩) ?_
 refine dG (OpA.call rfl rfl rfl en100 (behind_c (gi l (x - 1)) (gi l x) ) (by rintro _ rfl; exact ⟨rfl, rfl⟩)) ?_
 refine dG (OpA.not rfl rfl ⟨rfl, rfl⟩) ?_
 refine dG (OpA.p ⟨rfl, rfl⟩) ?_
 refine dL (OpA.p ⟨rfl, rfl⟩) ?_
 refine dL (OpA.m ⟨rfl, rfl⟩) ?_
 refine DetK_split (s := 29) rfl (fun b7 => ?_) (fun b7 => ?_)
 iterate 4 refine dS ?_
 refine dL (OpA.p ⟨rfl, rfl⟩) ?_
 refine DetK.nil ?_
 refine wpL_nil ?_
 exact ⟨(Cov.asg ⟨rfl, rfl, rfl, rfl, rfl, (congrArg D.b (Eq.symm (orS (orN b5 (andN b6 b7))))), trivial⟩), (.refl _)⟩
 refine dG (OpA.fieldAddr rfl tf56_0 rfl ⟨rfl, rfl⟩) ?_
 refine dG (OpA.load rfl ti9 rfl .head rfl rfl ⟨rfl, rfl⟩) ?_
 refine dG (OpA.call rfl rfl rfl en74 (path_c ((gi l x).path) (q2 ⟨(notF b5), (.inr (notF b7))⟩)) (by rintro _ rfl; exact ⟨rfl, rfl⟩)) ?_
 refine dG (OpA.neq rfl rfl rfl ⟨rfl, rfl⟩) ?_
 refine dL (OpA.p ⟨rfl, rfl⟩) ?_
 refine DetK.nil ?_
 refine wpL_nil ?_
 exact ⟨(Cov.asg ⟨rfl, rfl, rfl, rfl, rfl, (congrArg D.b (Eq.symm (orN (orN b5 (andN b6 b7)) rfl))), trivial⟩), (.refl _)⟩
 iterate 8 refine dS ?_
 refine dG (OpA.p ⟨rfl, rfl⟩) ?_
 refine dL (OpA.p ⟨rfl, rfl⟩) ?_
 refine dL (OpA.m ⟨rfl, rfl⟩) ?_
 refine dG (OpA.fieldAddr rfl tf56_0 rfl ⟨rfl, rfl⟩) ?_
 refine dG (OpA.load rfl ti9 rfl .head rfl rfl ⟨rfl, rfl⟩) ?_
 refine dG (OpA.call rfl rfl rfl en74 (path_c ((gi l x).path) (q2 ⟨(notF b5), (.inl (decF b6))⟩)) (by rintro _ rfl; exact ⟨rfl, rfl⟩)) ?_
 refine dG (OpA.neq rfl rfl rfl ⟨rfl, rfl⟩) ?_
 refine dL (OpA.p ⟨rfl, rfl⟩) ?_
 refine DetK.nil ?_
 refine wpL_nil ?_
 exact ⟨(Cov.asg ⟨rfl, rfl, rfl, rfl, rfl, (congrArg D.b (Eq.symm (orN (orN b5 (andS b6)) rfl))), trivial⟩), (.refl _)⟩
 show wpA _ _ _ _ (asg [(0, (encL 3 encSpan) l), (2, D.b false), (5, (encL 3 encSpan) l), (6, D.i (l.length : Int)), (7, D.i x), (34, D.b (((!(insideF (gi l x))) || ((decide (x > 0)) && (!(behindF (gi l (x - 1)) (gi l x))))) || ((pathF ((gi l x).path)) != 0)))]) [(c3, .cells 3 [encSpan (gi l x)])]
 refine wpA_cond rfl (fun b4 => ?_) (fun b4 => ?_)
 have h := h.1 ((or0 b4).imp (fun hh => ((or0 hh).imp (fun hh => (notT hh)) (fun hh => ⟨(decT (and1 hh)), (notT (and2 hh))⟩))) (fun hh => (bneT hh)))
 refine wpA_seq ?_
 refine wpA_region ?_
 refine wL (OpA.a ?_)
 refine wpL_nil ?_
 refine wpA_ret ?_
 exact ⟨_, (.tmp (d := D.b false) rfl .nil), _, (.same rfl .nil), ⟨false, rfl, h⟩⟩
 have h := h.2 ⟨⟨(notF (or1 (or1 b4))), ((and0 (or2 (or1 b4))).imp (fun hh => (decF hh)) (fun hh => (notF hh)))⟩, (bneF (or2 b4))⟩
 refine wpA_skip ?_
 obtain ⟨q1, h⟩ := h
 refine wpA_region ?_
 refine wL (OpA.addi rfl rfl rfl q1 ?_)
 refine wL (OpA.m ?_)
 refine wpL_nil ?_
 exact ⟨(), (x + 1), h, (Cov.asg ⟨rfl, rfl, rfl, rfl, rfl, trivial⟩), (.cons _ (.refl _))⟩
 have h := h.2 (decF b2)
 refine wpA_exit ?_
 refine wpA_seq ?_
 refine wpA_region ?_
 refine wL (OpA.a ?_)
 refine wpL_nil ?_
 refine wpA_ret ?_
 exact ⟨_, (.tmp (d := D.b true) rfl .nil), _, (.same rfl .nil), ⟨true, rfl, h⟩⟩
theorem valid_c (l : (List Span)) (hp0 : l.length ≤ 1000000) (hp1 : ∀ z_ ∈ l, z_.path.size ≤ 1000000) : Fun false Tryz.prog 63 [(encL 3 encSpan) l] (fun d => d = D.b (validF l)) :=
 Fun.at (enc := fun r => D.b r) (v := validF l) (valid_w l  (fun r => r = validF l) (valid_ok l _ hp0 hp1 rfl))
theorem count_w (l : (List Span)) (Q : Int → Prop) (h : count_vc l Q) : Fun false Tryz.prog 28 [(encL 3 encSpan) l] (fun d => ∃ r, d = D.i r ∧ Q r) := by
 unfold count_vc at h
 refine Fun.of_body Tryz.func28 rfl Tryz.ntmps28 rfl ?_
 refine wpA_seq ?_
 refine wpA_region ?_
 refine wL (OpA.a ?_)
 refine wpL_nil ?_
 iterate 2 refine wpA_seq ?_
 obtain ⟨q1, q2, h⟩ := h
 refine wpA_region ?_
 refine wL (OpA.m ?_)
 refine wL (OpA.call rfl rfl rfl en63 (valid_c l q1 q2) ?_)
 rintro _ rfl
 refine wL (OpA.not rfl rfl ?_)
 refine wpL_nil ?_
 refine wpA_cond rfl (fun b1 => ?_) (fun b1 => ?_)
 have h := h.1 (notT b1)
 refine wpA_seq ?_
 refine wpA_region ?_
 refine wL (OpA.a ?_)
 refine wpL_nil ?_
 refine wpA_ret ?_
 exact ⟨_, (.tmp (d := D.i 0) rfl .nil), _, (.same rfl .nil), ⟨0, rfl, h⟩⟩
 have h := h.2 (notF b1)
 refine wpA_skip ?_
 refine wpA_seq ?_
 refine wpA_region ?_
 refine wL (OpA.a ?_)
 refine wpL_nil ?_
 iterate 2 refine wpA_seq ?_
 refine wpA_region ?_
 refine wL (OpA.m ?_)
 refine wL (OpA.len rfl rfl rfl rfl ts48.desc (.inl ⟨_, _, rfl, (List.length_map _).symm⟩) ?_)
 refine wL (OpA.m ?_)
 refine wpL_nil ?_
 refine wpA_block ?_
 refine wpA_lfp (S := Int × Int) (G := Unit) () (fun gg ss => asg [(2, D.i 0), (3, D.i ss.1), (9, (encL 3 encSpan) l), (10, D.i (l.length : Int)), (11, D.i ss.2)]) (fun gg ss => []) h (Cov.asg ⟨rfl, rfl, rfl, rfl, rfl, trivial⟩) (.refl _) ?_
 rintro again2 _ ⟨n, x⟩ h
 have h : count_L1 l Q again2 n x := h
 unfold count_L1 at h
 show wpA _ _ _ _ (asg [(2, D.i 0), (3, D.i n), (9, (encL 3 encSpan) l), (10, D.i (l.length : Int)), (11, D.i x)]) []
 refine wpA_seq ?_
 refine wpA_region ?_
 refine wL (OpA.lss rfl rfl rfl ?_)
 refine wpL_nil ?_
 refine wpA_seq ?_
 refine wpA_cond rfl (fun b3 => ?_) (fun b3 => ?_)
 have h := h.1 (decT b3)
 refine wpA_skip ?_
 refine wpA_seq ?_
 refine wpA_block ?_
 refine wpA_seq ?_
 obtain ⟨q1, h⟩ := h
 refine wpA_region ?_
 refine wL (OpA.iixV (enc := encSpan) rfl ts48 rfl rfl rfl q1 ?_)
 refine wL (OpA.iload_whole rfl ti56 rfl ⟨_, rfl, rfl⟩ ?_)
 refine wL (OpA.alloc (sz := 3) (d := encSpan (Span.mk ByteArray.empty 0 0)) rfl tz56 (fun _ _ => .agg (.cons (.v _) (.cons (.v _) (.cons (.v _) .nil)))) (.of rfl) (fun c4 _ => ?_))
 refine wE (OpA.storeW rfl ti56 rfl (by with_reducible conv => lhs; whnf) (.of rfl) rfl rfl .head ?_)
 refine wpL_nil ?_
 obtain ⟨q1, q2, h⟩ := h
 refine wpA_region ?_
 refine wL (OpA.m ?_)
 refine wL (OpA.fieldAddr rfl tf56_2 rfl ?_)
 refine wL (OpA.load rfl ti3 rfl .head rfl rfl ?_)
 refine wL (OpA.fieldAddr rfl tf56_1 rfl ?_)
 refine wL (OpA.load rfl ti3 rfl .head rfl rfl ?_)
 refine wL (OpA.subi rfl rfl rfl q1 ?_)
 refine wL (OpA.addi rfl rfl rfl q2 ?_)
 refine wL (OpA.a ?_)
 refine wpL_nil ?_
 obtain ⟨q1, h⟩ := h
 refine wpA_region ?_
 refine wL (OpA.addi rfl rfl rfl q1 ?_)
 refine wL (OpA.m ?_)
 refine wpL_nil ?_
 exact ⟨(), ((n + (((gi l x).to) - ((gi l x).from_))), (x + 1)), h, (Cov.asg ⟨rfl, rfl, rfl, rfl, rfl, trivial⟩), (.cons _ (.refl _))⟩
 have h := h.2 (decF b3)
 refine wpA_exit ?_
 refine wpA_seq ?_
 refine wpA_region ?_
 refine wL (OpA.m ?_)
 refine wL (OpA.a ?_)
 refine wpL_nil ?_
 refine wpA_ret ?_
 exact ⟨_, (.tmp (d := D.i n) rfl .nil), _, (.same rfl .nil), ⟨n, rfl, h⟩⟩
theorem count_c (l : (List Span)) (hp0 : l.length ≤ 1000) (hp1 : ∀ z_ ∈ l, z_.path.size ≤ 1000000) : Fun false Tryz.prog 28 [(encL 3 encSpan) l] (fun d => d = D.i (countL l)) :=
 Fun.at (enc := fun r => D.i r) (v := countL l) (count_w l  (fun r => r = countL l) (count_ok l _ hp0 hp1 rfl))
end Go.Proofs.YtglclijalehcmaaGreatDoor
