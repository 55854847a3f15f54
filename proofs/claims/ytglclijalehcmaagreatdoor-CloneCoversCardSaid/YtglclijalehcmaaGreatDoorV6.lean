/-
  walks and contracts
-/
import Derived.Test.YtglclijalehcmaaGreatDoorV1
import Derived.Test.YtglclijalehcmaaGreatDoorTlo
set_option maxRecDepth 10000
set_option maxHeartbeats 2000000
set_option linter.all false
namespace Go.Proofs.YtglclijalehcmaaGreatDoor
open Go Go.Lic Go.Sort Go.Proofs
attribute [local irreducible] addF addP againstC badR beforeF behindF blankF checkC checkF checkF29 cloneCmp clonesF cmpB cmpI codeF commonF4 countF countL coveredF famF fewC fewTs fewW findC findT gramsF growTF guarF has1F hasF hashF indexF insideF insideT leastF lenC lenF linesF listF lookF mergeF mul64F mulP nameR nearC nearF newF ofF orF packF pairF partF pathB pathF postCmp postLt postsF powF printsF pushF rightL rollF sameW selectF sizeF spanCmp spanR splitF splitG textF validF validT
theorem sorti_w (data : (List Span)) (a : Int) (b : Int) (g_p : Nat) (fs_p cs_p : List D) (p : Span → Span → Int) (pD : Span → Span → Prop) (hen_p : entersB Tryz.prog g_p = true) (hg_p : ∀ x0_ x1_, pD x0_ x1_ → Fun false Tryz.prog g_p (fs_p ++ [encSpan x0_, encSpan x1_] ++ cs_p) (fun d => d = D.i (p x0_ x1_))) (Q : Unit → Prop) (h : sorti_vc data a b p pD Q) : Fun false Tryz.prog 180 [(encL 3 encSpan) data, D.i a, D.i b, .fn (.func g_p) fs_p cs_p] (fun d => ∃ r, d = .tup [] ∧ Q r) := by
 unfold sorti_vc at h
 refine Fun.of_body Tryz.func180 rfl Tryz.ntmps180 rfl ?_
 refine wpA_seq ?_
 obtain ⟨q1, h⟩ := h
 refine wpA_region ?_
 refine wL (OpA.m ?_)
 refine wL (OpA.addi rfl rfl rfl q1 ?_)
 refine wL (OpA.a ?_)
 refine wpL_nil ?_
 refine wpA_block ?_
 refine wpA_lfp (S := Int) (G := Unit) () (fun gg ss => asg [(0, (encL 3 encSpan) data), (1, D.i a), (2, D.i b), (3, .fn (.func g_p) fs_p cs_p), (8, D.i ss)]) (fun gg ss => []) h (Cov.asg ⟨rfl, rfl, rfl, rfl, rfl, trivial⟩) (.refl _) ?_
 rintro again1 _ i h
 have h : sorti_L1 data a b p pD Q again1 i := h
 unfold sorti_L1 at h
 show wpA _ _ _ _ (asg [(0, (encL 3 encSpan) data), (1, D.i a), (2, D.i b), (3, .fn (.func g_p) fs_p cs_p), (8, D.i i)]) []
 iterate 2 refine wpA_seq ?_
 refine wpA_region ?_
 iterate 2 refine wL (OpA.m ?_)
 refine wL (OpA.lss rfl rfl rfl ?_)
 refine wpL_nil ?_
 refine wpA_cond rfl (fun b2 => ?_) (fun b2 => ?_)
 have h := h.1 (decT b2)
 refine wpA_skip ?_
 refine wpA_seq ?_
 refine wpA_block ?_
 refine wpA_seq ?_
 refine wpA_region ?_
 refine wL (OpA.m ?_)
 refine wL (OpA.a ?_)
 refine wpL_nil ?_
 refine wpA_block ?_
 refine wpA_lfp (S := Unit) (G := Unit) () (fun gg ss => asg [(0, (encL 3 encSpan) data), (1, D.i a), (2, D.i b), (3, .fn (.func g_p) fs_p cs_p), (8, D.i i), (9, D.i i)]) (fun gg ss => []) h (Cov.asg ⟨rfl, rfl, rfl, rfl, rfl, rfl, trivial⟩) (.refl _) ?_
 rintro again3 _ _ h
 have h : sorti_L2 data a p pD i again1 again3  := h
 unfold sorti_L2 at h
 show wpA _ _ _ _ (asg [(0, (encL 3 encSpan) data), (1, D.i a), (2, D.i b), (3, .fn (.func g_p) fs_p cs_p), (8, D.i i), (9, D.i i)]) []
 iterate 2 refine wpA_seq ?_
 obtain ⟨q1, h⟩ := h
 refine wpA_mid (asg [(0, (encL 3 encSpan) data), (1, D.i a), (2, D.i b), (3, .fn (.func g_p) fs_p cs_p), (8, D.i i), (9, D.i i), (34, D.b ((decide (i > a)) && (decide ((p (gi data i) (gi data (i - 1))) < 0))))]) [] ?_ ?_
 refine wpA_draw (m := 17) mo (by kernel_rfl) rfl ?_
 iterate 2 refine dL (OpA.m ⟨rfl, rfl⟩) ?_
 refine dL (OpA.gtr rfl rfl rfl ⟨rfl, rfl⟩) ?_
 refine dL (OpA.m ⟨rfl, rfl⟩) ?_
 refine DetK_split (s := 21) rfl (fun b5 => ?_) (fun b5 => ?_)
 iterate 3 refine dG (OpA.m ⟨rfl, rfl⟩) ?_
 refine dG (OpA.iixV (enc := encSpan) rfl ts47 rfl rfl rfl (q1 (decT b5)).1 ⟨rfl, rfl⟩) ?_
 refine dG (OpA.iload_whole rfl ti56 rfl ⟨_, rfl, rfl⟩ ⟨rfl, rfl⟩) ?_
 iterate 2 refine dG (OpA.m ⟨rfl, rfl⟩) ?_
 refine dG (OpA.subi rfl rfl rfl (q1 (decT b5)).2.1 ⟨rfl, rfl⟩) ?_
 refine dG (OpA.iixV (enc := encSpan) rfl ts47 rfl rfl rfl (q1 (decT b5)).2.2.1 ⟨rfl, rfl⟩) ?_
 refine dG (OpA.iload_whole rfl ti56 rfl ⟨_, rfl, rfl⟩ ⟨rfl, rfl⟩) ?_
 refine dG (OpA.call rfl rfl rfl hen_p (hg_p (gi data i) (gi data (i - 1)) (q1 (decT b5)).2.2.2) (by rintro _ rfl; exact ⟨rfl, rfl⟩)) ?_
 refine dG (OpA.lss rfl rfl rfl ⟨rfl, rfl⟩) ?_
 refine dL (OpA.p ⟨rfl, rfl⟩) ?_
 refine DetK.nil ?_
 refine wpL_nil ?_
 exact ⟨(Cov.asg ⟨rfl, rfl, rfl, rfl, rfl, rfl, (congrArg D.b (Eq.symm (andN b5 rfl))), trivial⟩), (.refl _)⟩
 iterate 12 refine dS ?_
 refine dL (OpA.p ⟨rfl, rfl⟩) ?_
 refine DetK.nil ?_
 refine wpL_nil ?_
 exact ⟨(Cov.asg ⟨rfl, rfl, rfl, rfl, rfl, rfl, (congrArg D.b (Eq.symm (andS b5))), trivial⟩), (.refl _)⟩
 show wpA _ _ _ _ (asg [(0, (encL 3 encSpan) data), (1, D.i a), (2, D.i b), (3, .fn (.func g_p) fs_p cs_p), (8, D.i i), (9, D.i i), (34, D.b ((decide (i > a)) && (decide ((p (gi data i) (gi data (i - 1))) < 0))))]) []
 refine wpA_cond rfl (fun b4 => ?_) (fun b4 => ?_)
 have h := h.1 ⟨(decT (and1 b4)), (decT (and2 b4))⟩
 exact h.elim
 have h := h.2 ((and0 b4).imp (fun hh => (decF hh)) (fun hh => (decF hh)))
 refine wpA_exit ?_
 obtain ⟨q1, h⟩ := h
 refine wpA_region ?_
 refine wL (OpA.m ?_)
 refine wL (OpA.addi rfl rfl rfl q1 ?_)
 refine wL (OpA.a ?_)
 refine wpL_nil ?_
 exact ⟨(), (i + 1), h, (Cov.asg ⟨rfl, rfl, rfl, rfl, rfl, trivial⟩), (.refl _)⟩
 have h := h.2 (decF b2)
 refine wpA_exit ?_
 exact ⟨_, .nil, _, (.tup .nil .nil), ⟨(), rfl, h⟩⟩
theorem sorti_c (data : (List Span)) (a : Int) (b : Int) (g_p : Nat) (fs_p cs_p : List D) (p : Span → Span → Int) (pD : Span → Span → Prop) (hen_p : entersB Tryz.prog g_p = true) (hg_p : ∀ x0_ x1_, pD x0_ x1_ → Fun false Tryz.prog g_p (fs_p ++ [encSpan x0_, encSpan x1_] ++ cs_p) (fun d => d = D.i (p x0_ x1_))) (hp0 : data = ([] : List Span)) (hp1 : a = (0 : Int)) (hp2 : b = (0 : Int)) : Fun false Tryz.prog 180 [(encL 3 encSpan) data, D.i a, D.i b, .fn (.func g_p) fs_p cs_p] (fun d => d = .tup []) :=
 Fun.at (enc := fun r => .tup []) (v := ()) (sorti_w data a b g_p fs_p cs_p p pD hen_p hg_p (fun r => r = ()) (sorti_ok data a b p pD _ hp0 hp1 hp2 rfl))
theorem sortp_w (data : (List Span)) (a : Int) (b : Int) (limit : Int) (g_p : Nat) (fs_p cs_p : List D) (p : Span → Span → Int) (pD : Span → Span → Prop) (hen_p : entersB Tryz.prog g_p = true) (hg_p : ∀ x0_ x1_, pD x0_ x1_ → Fun false Tryz.prog g_p (fs_p ++ [encSpan x0_, encSpan x1_] ++ cs_p) (fun d => d = D.i (p x0_ x1_))) (Q : Unit → Prop) (h : sortp_vc data a b limit p pD Q) : Fun false Tryz.prog 155 [(encL 3 encSpan) data, D.i a, D.i b, D.i limit, .fn (.func g_p) fs_p cs_p] (fun d => ∃ r, d = .tup [] ∧ Q r) := by
 unfold sortp_vc at h
 refine Fun.of_body Tryz.func155 rfl Tryz.ntmps155 rfl ?_
 refine wpA_seq ?_
 refine wpA_region ?_
 refine wL (OpA.a ?_)
 refine wpL_nil ?_
 refine wpA_seq ?_
 refine wpA_region ?_
 refine wL (OpA.a ?_)
 refine wpL_nil ?_
 refine wpA_block ?_
 refine wpA_lfp (S := Unit) (G := Unit) () (fun gg ss => asg [(0, (encL 3 encSpan) data), (1, D.i a), (2, D.i b), (3, D.i limit), (4, .fn (.func g_p) fs_p cs_p), (10, D.b true), (11, D.b true)]) (fun gg ss => []) h (Cov.asg ⟨rfl, rfl, rfl, rfl, rfl, rfl, rfl, trivial⟩) (.refl _) ?_
 rintro again1 _ _ h
 have h : sortp_L1 data a b limit Q again1  := h
 unfold sortp_L1 at h
 show wpA _ _ _ _ (asg [(0, (encL 3 encSpan) data), (1, D.i a), (2, D.i b), (3, D.i limit), (4, .fn (.func g_p) fs_p cs_p), (10, D.b true), (11, D.b true)]) []
 refine wpA_block ?_
 refine wpA_seq ?_
 obtain ⟨q1, h⟩ := h
 refine wpA_region ?_
 iterate 2 refine wL (OpA.m ?_)
 refine wL (OpA.subi rfl rfl rfl q1 ?_)
 refine wL (OpA.a ?_)
 refine wpL_nil ?_
 iterate 2 refine wpA_seq ?_
 refine wpA_region ?_
 refine wL (OpA.m ?_)
 refine wL (OpA.leq rfl rfl rfl ?_)
 refine wpL_nil ?_
 refine wpA_cond rfl (fun b2 => ?_) (fun b2 => ?_)
 have h := h.1 (decT b2)
 refine wpA_seq ?_
 obtain ⟨q1, q2, q3, h⟩ := h
 refine wpA_region ?_
 iterate 4 refine wL (OpA.m ?_)
 refine wL (OpA.call rfl rfl rfl en180 (sorti_c data a b g_p fs_p cs_p p pD hen_p hg_p q1 q2 q3) ?_)
 rintro _ rfl
 refine wpL_nil ?_
 refine wpA_ret ?_
 exact ⟨_, .nil, _, (.tup .nil .nil), ⟨(), rfl, h⟩⟩
 have h := h.2 (decF b2)
 refine wpA_skip ?_
 iterate 2 refine wpA_seq ?_
 refine wpA_region ?_
 refine wL (OpA.m ?_)
 refine wL (OpA.eql rfl rfl rfl ?_)
 refine wpL_nil ?_
 refine wpA_cond rfl (fun b3 => ?_) (fun b3 => ?_)
 have h := h.1 (beqT b3)
 exact h.elim
 have h := h.2 (beqF b3)
 exact h.elim
theorem sortp_c (data : (List Span)) (a : Int) (b : Int) (limit : Int) (g_p : Nat) (fs_p cs_p : List D) (p : Span → Span → Int) (pD : Span → Span → Prop) (hen_p : entersB Tryz.prog g_p = true) (hg_p : ∀ x0_ x1_, pD x0_ x1_ → Fun false Tryz.prog g_p (fs_p ++ [encSpan x0_, encSpan x1_] ++ cs_p) (fun d => d = D.i (p x0_ x1_))) (hp0 : data = ([] : List Span)) (hp1 : a = (0 : Int)) (hp2 : b = (0 : Int)) : Fun false Tryz.prog 155 [(encL 3 encSpan) data, D.i a, D.i b, D.i limit, .fn (.func g_p) fs_p cs_p] (fun d => d = .tup []) :=
 Fun.at (enc := fun r => .tup []) (v := ()) (sortp_w data a b limit g_p fs_p cs_p p pD hen_p hg_p (fun r => r = ()) (sortp_ok data a b limit p pD _ hp0 hp1 hp2 rfl))
theorem sort0_w (x : (List Span)) (g_p : Nat) (fs_p cs_p : List D) (p : Span → Span → Int) (pD : Span → Span → Prop) (hen_p : entersB Tryz.prog g_p = true) (hg_p : ∀ x0_ x1_, pD x0_ x1_ → Fun false Tryz.prog g_p (fs_p ++ [encSpan x0_, encSpan x1_] ++ cs_p) (fun d => d = D.i (p x0_ x1_))) (Q : Unit → Prop) (h : sort0_vc x p pD Q) : Fun false Tryz.prog 124 [(encL 3 encSpan) x, .fn (.func g_p) fs_p cs_p] (fun d => ∃ r, d = .tup [] ∧ Q r) := by
 unfold sort0_vc at h
 refine Fun.of_body Tryz.func124 rfl Tryz.ntmps124 rfl ?_
 refine wpA_seq ?_
 refine wpA_region ?_
 refine wL (OpA.m ?_)
 refine wL (OpA.len rfl rfl rfl rfl ts47.desc (.inl ⟨_, _, rfl, (List.length_map _).symm⟩) ?_)
 refine wL (OpA.a ?_)
 refine wpL_nil ?_
 obtain ⟨q1, q2, q3, q4, q5, h⟩ := h
 refine wpA_region ?_
 iterate 3 refine wL (OpA.m ?_)
 refine wL (OpA.conv rfl td3 td163 rfl ?_)
 refine wL (OpA.call rfl rfl rfl en119 (len_c (IntKind.u64.wrap (x.length : Int)) q1 q2) ?_)
 rintro _ rfl
 refine wL (OpA.m ?_)
 refine wL (OpA.call rfl rfl rfl en155 (sortp_c x 0 (x.length : Int) (lenF (IntKind.u64.wrap (x.length : Int))) g_p fs_p cs_p p pD hen_p hg_p q3 q4 q5) ?_)
 rintro _ rfl
 refine wpL_nil ?_
 exact ⟨_, .nil, _, (.tup .nil .nil), ⟨(), rfl, h⟩⟩
theorem sort0_c (x : (List Span)) (g_p : Nat) (fs_p cs_p : List D) (p : Span → Span → Int) (pD : Span → Span → Prop) (hen_p : entersB Tryz.prog g_p = true) (hg_p : ∀ x0_ x1_, pD x0_ x1_ → Fun false Tryz.prog g_p (fs_p ++ [encSpan x0_, encSpan x1_] ++ cs_p) (fun d => d = D.i (p x0_ x1_))) (hp0 : x = ([] : List Span)) : Fun false Tryz.prog 124 [(encL 3 encSpan) x, .fn (.func g_p) fs_p cs_p] (fun d => d = .tup []) :=
 Fun.at (enc := fun r => .tup []) (v := ()) (sort0_w x g_p fs_p cs_p p pD hen_p hg_p (fun r => r = ()) (sort0_ok x p pD _ hp0 rfl))
theorem inside_w (s_ : Span) (Q : Bool → Prop) (h : inside_vc s_ Q) : Fun false Tryz.prog 95 [encSpan s_] (fun d => ∃ r, d = D.b r ∧ Q r) := by
 unfold inside_vc at h
 refine Fun.of_body Tryz.func95 rfl Tryz.ntmps95 rfl ?_
 refine wpA_seq ?_
 refine wpA_region ?_
 refine wL (OpA.bx (sz := 3) rfl (by with_reducible conv => lhs; whnf) (.of rfl) (fun c1 _ => ?_))
 refine wL (OpA.a ?_)
 refine wpL_nil ?_
 refine wpA_seq ?_
 refine wpA_mid (asg [(2, D.b (((decide (0 ≤ s_.from_)) && (decide (s_.from_ < s_.to))) && (decide (s_.to ≤ 1024))))]) [(c1, .cells 3 [encSpan s_])] ?_ ?_
 refine wpA_region ?_
 refine wL (OpA.fieldAddr rfl tf56_1 rfl ?_)
 refine wL (OpA.load rfl ti3 rfl .head rfl rfl ?_)
 refine wL (OpA.leq rfl rfl rfl ?_)
 refine wL (OpA.m ?_)
 refine wpL_split (s := 6) rfl (fun b2 => ?_) (fun b2 => ?_)
 refine wG (OpA.fieldAddr rfl tf56_1 rfl ?_)
 refine wG (OpA.load rfl ti3 rfl .head rfl rfl ?_)
 refine wG (OpA.fieldAddr rfl tf56_2 rfl ?_)
 refine wG (OpA.load rfl ti3 rfl .head rfl rfl ?_)
 refine wG (OpA.lss rfl rfl rfl ?_)
 refine wL (OpA.p ?_)
 refine wL (OpA.m ?_)
 refine wpL_split (s := 13) rfl (fun b3 => ?_) (fun b3 => ?_)
 refine wG (OpA.fieldAddr rfl tf56_2 rfl ?_)
 refine wG (OpA.load rfl ti3 rfl .head rfl rfl ?_)
 refine wG (OpA.leq rfl rfl rfl ?_)
 refine wL (OpA.p ?_)
 refine wL (OpA.a ?_)
 refine wpL_nil ?_
 exact ⟨(Cov.asg ⟨(congrArg D.b (Eq.symm (andN (andN b2 b3) rfl))), trivial⟩), (.refl _)⟩
 iterate 3 refine wS ?_
 refine wL (OpA.p ?_)
 refine wL (OpA.a ?_)
 refine wpL_nil ?_
 exact ⟨(Cov.asg ⟨(congrArg D.b (Eq.symm (andS (andN b2 b3)))), trivial⟩), (.refl _)⟩
 iterate 5 refine wS ?_
 refine wL (OpA.p ?_)
 refine wL (OpA.m ?_)
 iterate 3 refine wS ?_
 refine wL (OpA.p ?_)
 refine wL (OpA.a ?_)
 refine wpL_nil ?_
 exact ⟨(Cov.asg ⟨(congrArg D.b (Eq.symm (andS (andS b2)))), trivial⟩), (.refl _)⟩
 show wpA _ _ _ _ (asg [(2, D.b (((decide (0 ≤ s_.from_)) && (decide (s_.from_ < s_.to))) && (decide (s_.to ≤ 1024))))]) [(c1, .cells 3 [encSpan s_])]
 refine wpA_ret ?_
 exact ⟨_, (.tmp (d := D.b (((decide (0 ≤ s_.from_)) && (decide (s_.from_ < s_.to))) && (decide (s_.to ≤ 1024)))) rfl .nil), _, (.same rfl .nil), ⟨(((decide (0 ≤ s_.from_)) && (decide (s_.from_ < s_.to))) && (decide (s_.to ≤ 1024))), rfl, h⟩⟩
theorem inside_c (s_ : Span)  : Fun false Tryz.prog 95 [encSpan s_] (fun d => d = D.b (insideF s_)) :=
 Fun.at (enc := fun r => D.b r) (v := insideF s_) (inside_w s_  (fun r => r = insideF s_) (inside_ok s_ _  rfl))
theorem behind_w (a : Span) (b : Span) (Q : Bool → Prop) (h : behind_vc a b Q) : Fun false Tryz.prog 100 [encSpan a, encSpan b] (fun d => ∃ r, d = D.b r ∧ Q r) := by
 unfold behind_vc at h
 refine Fun.of_body Tryz.func100 rfl Tryz.ntmps100 rfl ?_
 refine wpA_seq ?_
 refine wpA_region ?_
 refine wL (OpA.bx (sz := 3) rfl (by with_reducible conv => lhs; whnf) (.of rfl) (fun c1 _ => ?_))
 refine wL (OpA.bx (sz := 3) rfl (by with_reducible conv => lhs; whnf) (.of rfl) (fun c2 _ => ?_))
 refine wL (OpA.a ?_)
 refine wpL_nil ?_
 refine wpA_seq ?_
 refine wpA_mid (asg [(4, D.b ((sless a.path b.path) || ((decide (a.path = b.path)) && (decide (a.to < b.from_)))))]) [(c2, .cells 3 [encSpan b]), (c1, .cells 3 [encSpan a])] ?_ ?_
 refine wpA_region ?_
 refine wL (OpA.fieldAddr rfl tf56_0 rfl ?_)
 refine wL (OpA.load rfl ti9 rfl (.tail .head) rfl rfl ?_)
 refine wL (OpA.fieldAddr rfl tf56_0 rfl ?_)
 refine wL (OpA.load rfl ti9 rfl .head rfl rfl ?_)
 refine wL (OpA.slss rfl rfl rfl ?_)
 refine wL (OpA.m ?_)
 refine wpL_split (s := 10) rfl (fun b3 => ?_) (fun b3 => ?_)
 iterate 6 refine wS ?_
 iterate 5 refine wpL_skipU rfl rfl rfl rfl rfl ?_
 refine wS ?_
 refine wL (OpA.p ?_)
 refine wL (OpA.a ?_)
 refine wpL_nil ?_
 exact ⟨(Cov.asg ⟨(congrArg D.b (Eq.symm (orS b3))), trivial⟩), (.refl _)⟩
 refine wG (OpA.fieldAddr rfl tf56_0 rfl ?_)
 refine wG (OpA.load rfl ti9 rfl (.tail .head) rfl rfl ?_)
 refine wG (OpA.fieldAddr rfl tf56_0 rfl ?_)
 refine wG (OpA.load rfl ti9 rfl .head rfl rfl ?_)
 refine wG (OpA.seql rfl rfl rfl ?_)
 refine wG (OpA.m ?_)
 refine wpL_split (s := 16) rfl (fun b4 => ?_) (fun b4 => ?_)
 refine wG (OpA.fieldAddr rfl tf56_2 rfl ?_)
 refine wG (OpA.load rfl ti3 rfl (.tail .head) rfl rfl ?_)
 refine wG (OpA.fieldAddr rfl tf56_1 rfl ?_)
 refine wG (OpA.load rfl ti3 rfl .head rfl rfl ?_)
 refine wG (OpA.lss rfl rfl rfl ?_)
 refine wG (OpA.p ?_)
 refine wL (OpA.p ?_)
 refine wL (OpA.a ?_)
 refine wpL_nil ?_
 exact ⟨(Cov.asg ⟨(congrArg D.b (Eq.symm (orN b3 (andN b4 rfl)))), trivial⟩), (.refl _)⟩
 iterate 5 refine wS ?_
 refine wG (OpA.p ?_)
 refine wL (OpA.p ?_)
 refine wL (OpA.a ?_)
 refine wpL_nil ?_
 exact ⟨(Cov.asg ⟨(congrArg D.b (Eq.symm (orN b3 (andS b4)))), trivial⟩), (.refl _)⟩
 show wpA _ _ _ _ (asg [(4, D.b ((sless a.path b.path) || ((decide (a.path = b.path)) && (decide (a.to < b.from_)))))]) [(c2, .cells 3 [encSpan b]), (c1, .cells 3 [encSpan a])]
 refine wpA_ret ?_
 exact ⟨_, (.tmp (d := D.b ((sless a.path b.path) || ((decide (a.path = b.path)) && (decide (a.to < b.from_))))) rfl .nil), _, (.same rfl .nil), ⟨((sless a.path b.path) || ((decide (a.path = b.path)) && (decide (a.to < b.from_)))), rfl, h⟩⟩
theorem behind_c (a : Span) (b : Span)  : Fun false Tryz.prog 100 [encSpan a, encSpan b] (fun d => d = D.b (behindF a b)) :=
 Fun.at (enc := fun r => D.b r) (v := behindF a b) (behind_w a b  (fun r => r = behindF a b) (behind_ok a b _  rfl))
theorem merge1_w (a : Span) (b : Span) (Q : Int → Prop) (h : merge1_vc a b Q) : Fun false Tryz.prog 125 [encSpan a, encSpan b] (fun d => ∃ r, d = D.i r ∧ Q r) := by
 unfold merge1_vc at h
 refine Fun.of_body Tryz.func125 rfl Tryz.ntmps125 rfl ?_
 refine wpA_seq ?_
 refine wpA_region ?_
 refine wL (OpA.bx (sz := 3) rfl (by with_reducible conv => lhs; whnf) (.of rfl) (fun c1 _ => ?_))
 refine wL (OpA.bx (sz := 3) rfl (by with_reducible conv => lhs; whnf) (.of rfl) (fun c2 _ => ?_))
 refine wL (OpA.a ?_)
 refine wpL_nil ?_
 refine wpA_seq ?_
 obtain ⟨q1, h⟩ := h
 refine wpA_draw (m := 13) mo (by kernel_rfl) rfl ?_
 refine dL (OpA.fieldAddr rfl tf56_0 rfl ⟨rfl, rfl⟩) ?_
 refine dL (OpA.load rfl ti9 rfl (.tail .head) rfl rfl ⟨rfl, rfl⟩) ?_
 refine dL (OpA.fieldAddr rfl tf56_0 rfl ⟨rfl, rfl⟩) ?_
 refine dL (OpA.load rfl ti9 rfl .head rfl rfl ⟨rfl, rfl⟩) ?_
 refine dL (OpA.call rfl rfl rfl en126 (sCompare_c a.path b.path ) (by rintro _ rfl; exact ⟨rfl, rfl⟩)) ?_
 refine dL (OpA.fieldAddr rfl tf56_1 rfl ⟨rfl, rfl⟩) ?_
 refine dL (OpA.load rfl ti3 rfl (.tail .head) rfl rfl ⟨rfl, rfl⟩) ?_
 refine dL (OpA.fieldAddr rfl tf56_1 rfl ⟨rfl, rfl⟩) ?_
 refine dL (OpA.load rfl ti3 rfl .head rfl rfl ⟨rfl, rfl⟩) ?_
 refine dL (OpA.call rfl rfl rfl en79 (iCompare_c a.from_ b.from_ ) (by rintro _ rfl; exact ⟨rfl, rfl⟩)) ?_
 refine dL (OpA.ibuildSliceO rfl ts67 rfl (.cons (.of (sz := 1) rfl) (.cons (.of (sz := 1) rfl) .nil)) (by decide) ⟨rfl, rfl⟩) ?_
 refine dL (OpA.call rfl rfl rfl en120 (or_c ([(cmpB a.path b.path), (cmpI a.from_ b.from_)] : List Int) q1) (by rintro _ rfl; exact ⟨rfl, rfl⟩)) ?_
 refine dL (OpA.a ⟨rfl, rfl⟩) ?_
 refine DetK.nil ?_
 refine wpL_nil ?_
 refine wpA_ret ?_
 exact ⟨_, (.tmp (d := D.i (orF ([(cmpB a.path b.path), (cmpI a.from_ b.from_)] : List Int))) rfl .nil), _, (.same rfl .nil), ⟨(orF ([(cmpB a.path b.path), (cmpI a.from_ b.from_)] : List Int)), rfl, h⟩⟩
theorem merge1_c (a : Span) (b : Span)  : Fun false Tryz.prog 125 [encSpan a, encSpan b] (fun d => d = D.i (spanCmp a b)) :=
 Fun.at (enc := fun r => D.i r) (v := spanCmp a b) (merge1_w a b  (fun r => r = spanCmp a b) (merge1_ok a b _  rfl))
theorem merge_w (l : (List Span)) (c_l : Nat) (pre_l post_l : List D) (Q : (List Span) → Prop) (h : merge_vc l Q) : CallH Tryz.prog 96 [.own c_l 3 pre_l.length l.length] [(c_l, .cells 3 (winL encSpan pre_l l post_l))] (fun d h' => ∃ (r : (List Span)) (g : Nat × List D × List D), d = .own g.1 3 g.2.1.length r.length ∧ h' = [(g.1, .cells 3 (winL encSpan g.2.1 r g.2.2))] ∧ Q r) := by
 unfold merge_vc at h
 refine CallH.of_bodyP Tryz.func96 rfl Tryz.ntmps96 rfl ?_
 refine wpA_seq ?_
 refine wpA_region ?_
 refine wL (OpA.asnG (T := Span) (enc := encSpan) (sz := 3) rfl rfl (fun c2_g1 => ?_))
 refine wpL_nil ?_
 refine wpA_seq ?_
 obtain ⟨q1, h⟩ := h
 refine wpA_region ?_
 refine wL (OpA.m ?_)
 refine wL (OpA.sortW (enc := encSpan) (encV := valSpan) Tryz.sortSpan Tryz.isAgg56 Tryz.sizeOf56 (fun _ => rfl) valSpan_one (fun _ => rfl) (cf := spanCmp) (xs := l) rfl rfl rfl rfl en124 rfl rfl rfl en125 (fun a b => merge1_c a b) (sort0_c [] 125 [] [] spanCmp (fun _ _ => True) en125 (fun a b _ => merge1_c a b) rfl) q1 (.tail .head) ?_)
 refine wpL_nil ?_
 refine wpA_seq ?_
 refine wpA_region ?_
 refine wL (OpA.asnG (T := Span) (enc := encSpan) (sz := 3) rfl rfl (fun c3_g2 => ?_))
 refine wpL_nil ?_
 iterate 2 refine wpA_seq ?_
 refine wpA_cov (fr0 := asg [(0, .own c_l 3 pre_l.length (sortF spanCmp l).length), (2, .own c2_g1 3 ([] : List D).length ([] : List Span).length), (3, .own c3_g2 3 ([] : List D).length ([] : List Span).length), (7, .own c_l 3 pre_l.length (sortF spanCmp l).length), (8, .tup [])]) (Cov.asg ⟨(congrArg (D.own c_l 3 pre_l.length) (by simp only [si_length, gcopy_length, clearF_length, sortF_len postCmp_swo, sortF_len cloneCmp_swo, sortF_len spanCmp_swo] <;> rfl)), rfl, rfl, (congrArg (D.own c_l 3 pre_l.length) (by simp only [si_length, gcopy_length, clearF_length, sortF_len postCmp_swo, sortF_len cloneCmp_swo, sortF_len spanCmp_swo] <;> rfl)), rfl, trivial⟩) ?_
 refine wpA_region ?_
 refine wL (OpA.m ?_)
 refine wL (OpA.len rfl rfl rfl rfl ts47.desc (.inr (.inl ⟨_, _, _, rfl⟩)) ?_)
 refine wL (OpA.m ?_)
 refine wpL_nil ?_
 refine wpA_block ?_
 refine wpA_lfp (S := (List Span) × Int) (G := Nat × List D × List D) (c3_g2, ([] : List D), ([] : List D)) (fun gg ss => asg [(2, .own c2_g1 3 ([] : List D).length ([] : List Span).length), (3, .own gg.1 3 gg.2.1.length ss.1.length), (9, .own c_l 3 pre_l.length (sortF spanCmp l).length), (10, D.i ((sortF spanCmp l).length : Int)), (11, D.i ss.2)]) (fun gg ss => [(gg.1, .cells 3 (winL encSpan gg.2.1 ss.1 gg.2.2)), (c2_g1, .cells 3 (winL encSpan ([] : List D) ([] : List Span) ([] : List D))), (c_l, .cells 3 (winL encSpan pre_l (sortF spanCmp l) post_l))]) h (Cov.asg ⟨rfl, rfl, rfl, rfl, rfl, trivial⟩) (.refl _) ?_
 rintro again3 ⟨cb3, pre3, post3⟩ ⟨out, x⟩ h
 have h : merge_L1 l Q again3 out x := h
 unfold merge_L1 at h
 show wpA _ _ _ _ (asg [(2, .own c2_g1 3 ([] : List D).length ([] : List Span).length), (3, .own cb3 3 pre3.length out.length), (9, .own c_l 3 pre_l.length (sortF spanCmp l).length), (10, D.i ((sortF spanCmp l).length : Int)), (11, D.i x)]) [(cb3, .cells 3 (winL encSpan pre3 out post3)), (c2_g1, .cells 3 (winL encSpan ([] : List D) ([] : List Span) ([] : List D))), (c_l, .cells 3 (winL encSpan pre_l (sortF spanCmp l) post_l))]
 refine wpA_seq ?_
 refine wpA_region ?_
 refine wL (OpA.lss rfl rfl rfl ?_)
 refine wpL_nil ?_
 refine wpA_seq ?_
 refine wpA_cond rfl (fun b4 => ?_) (fun b4 => ?_)
 have h := h.1 (decT b4)
 refine wpA_skip ?_
 refine wpA_seq ?_
 refine wpA_block ?_
 refine wpA_seq ?_
 obtain ⟨q1, h⟩ := h
 refine wpA_region ?_
 refine wL (OpA.ixV rfl ts47 rfl rfl q1 ?_)
 refine wL (OpA.load_whole rfl ti56 rfl rfl (.tail (.tail .head)) (getV (enc := encSpan) q1) ⟨_, rfl⟩ ?_)
 refine wL (OpA.alloc (sz := 3) (d := encSpan (Span.mk ByteArray.empty 0 0)) rfl tz56 (fun _ _ => .agg (.cons (.v _) (.cons (.v _) (.cons (.v _) .nil)))) (.of rfl) (fun c5 _ => ?_))
 refine wE (OpA.storeW rfl ti56 rfl (by with_reducible conv => lhs; whnf) (.of rfl) rfl rfl .head ?_)
 refine wpL_nil ?_
 refine wpA_seq ?_
 obtain ⟨q1, h⟩ := h
 refine wpA_region ?_
 refine wL (OpA.m ?_)
 refine wL (OpA.len rfl rfl rfl rfl ts48.desc (.inr (.inl ⟨_, _, _, rfl⟩)) ?_)
 refine wL (OpA.subi rfl rfl rfl q1 ?_)
 refine wL (OpA.a ?_)
 refine wpL_nil ?_
 refine wpA_seq ?_
 obtain ⟨q1, h⟩ := h
 refine wpA_mid (asg [(2, .own c2_g1 3 ([] : List D).length ([] : List Span).length), (3, .own cb3 3 pre3.length out.length), (5, .ptr c5 3 0 0), (6, D.i ((out.length : Int) - 1)), (9, .own c_l 3 pre_l.length (sortF spanCmp l).length), (10, D.i ((sortF spanCmp l).length : Int)), (11, D.i x), (28, D.b ((decide (((out.length : Int) - 1) ≥ 0)) && (!(behindF (gi out ((out.length : Int) - 1)) (gi (sortF spanCmp l) x)))))]) [(c5, .cells 3 [encSpan (gi (sortF spanCmp l) x)]), (cb3, .cells 3 (winL encSpan pre3 out post3)), (c2_g1, .cells 3 (winL encSpan ([] : List D) ([] : List Span) ([] : List D))), (c_l, .cells 3 (winL encSpan pre_l (sortF spanCmp l) post_l))] ?_ ?_
 refine wpA_draw (m := 11) mo (by kernel_rfl) rfl ?_
 refine dL (OpA.m ⟨rfl, rfl⟩) ?_
 refine dL (OpA.geq rfl rfl rfl ⟨rfl, rfl⟩) ?_
 refine dL (OpA.m ⟨rfl, rfl⟩) ?_
 refine DetK_split (s := 20) rfl (fun b9 => ?_) (fun b9 => ?_)
 iterate 2 refine dG (OpA.m ⟨rfl, rfl⟩) ?_
 refine dG (OpA.ixV rfl ts48 rfl rfl (q1 (decT b9)) ⟨rfl, rfl⟩) ?_
 refine dG (OpA.load_whole rfl ti56 rfl rfl (.tail .head) (getV (enc := encSpan) (q1 (decT b9))) ⟨_, rfl⟩ ⟨rfl, rfl⟩) ?_
 refine dG (OpA.load_whole rfl ti56 rfl rfl .head rfl ⟨_, rfl⟩ ⟨rfl, rfl⟩) ?_
 refine dG (OpA.call rfl rfl rfl en100 (behind_c (gi out ((out.length : Int) - 1)) (gi (sortF spanCmp l) x) ) (by rintro _ rfl; exact ⟨rfl, rfl⟩)) ?_
 refine dG (OpA.not rfl rfl ⟨rfl, rfl⟩) ?_
 refine dL (OpA.p ⟨rfl, rfl⟩) ?_
 refine DetK.nil ?_
 refine wpL_nil ?_
 exact ⟨(Cov.asg ⟨rfl, rfl, rfl, rfl, rfl, rfl, rfl, (congrArg D.b (Eq.symm (andN b9 rfl))), trivial⟩), (.refl _)⟩
 iterate 7 refine dS ?_
 refine dL (OpA.p ⟨rfl, rfl⟩) ?_
 refine DetK.nil ?_
 refine wpL_nil ?_
 exact ⟨(Cov.asg ⟨rfl, rfl, rfl, rfl, rfl, rfl, rfl, (congrArg D.b (Eq.symm (andS b9))), trivial⟩), (.refl _)⟩
 show wpA _ _ _ _ (asg [(2, .own c2_g1 3 ([] : List D).length ([] : List Span).length), (3, .own cb3 3 pre3.length out.length), (5, .ptr c5 3 0 0), (6, D.i ((out.length : Int) - 1)), (9, .own c_l 3 pre_l.length (sortF spanCmp l).length), (10, D.i ((sortF spanCmp l).length : Int)), (11, D.i x), (28, D.b ((decide (((out.length : Int) - 1) ≥ 0)) && (!(behindF (gi out ((out.length : Int) - 1)) (gi (sortF spanCmp l) x)))))]) [(c5, .cells 3 [encSpan (gi (sortF spanCmp l) x)]), (cb3, .cells 3 (winL encSpan pre3 out post3)), (c2_g1, .cells 3 (winL encSpan ([] : List D) ([] : List Span) ([] : List D))), (c_l, .cells 3 (winL encSpan pre_l (sortF spanCmp l) post_l))]
 refine wpA_cond rfl (fun b6 => ?_) (fun b6 => ?_)
 have h := h.1 ⟨(decT (and1 b6)), (notT (and2 b6))⟩
 obtain ⟨q1, h⟩ := h
 refine wpA_draw (m := 12) mo (by kernel_rfl) rfl ?_
 iterate 4 refine dL (OpA.m ⟨rfl, rfl⟩) ?_
 refine dL (OpA.ixV rfl ts48 rfl rfl q1 ⟨rfl, rfl⟩) ?_
 refine dL (OpA.fieldAddr rfl tf56_2 rfl ⟨rfl, rfl⟩) ?_
 refine dL (OpA.load rfl ti3 rfl (.tail .head) (getV (enc := encSpan) q1) rfl ⟨rfl, rfl⟩) ?_
 refine dL (OpA.fieldAddr rfl tf56_2 rfl ⟨rfl, rfl⟩) ?_
 refine dL (OpA.load rfl ti3 rfl .head rfl rfl ⟨rfl, rfl⟩) ?_
 refine dL (OpA.max (l := [_]) rfl rfl rfl rfl ⟨rfl, rfl⟩) ?_
 refine dL (OpA.ixV rfl ts48 rfl rfl q1 ⟨rfl, rfl⟩) ?_
 refine dL (OpA.fieldAddr rfl tf56_2 rfl ⟨rfl, rfl⟩) ?_
 refine DetK.nil ?_
 refine wE (OpA.storeVf (enc := encSpan) (v := (Span.mk ((gi out ((out.length : Int) - 1)).path) ((gi out ((out.length : Int) - 1)).from_) (gmax ((gi out ((out.length : Int) - 1)).to) [(gi (sortF spanCmp l) x).to]))) rfl ti3 rfl (.of rfl) (Nat.le_of_ble_eq_true rfl) rfl q1 (.tail .head) ?_)
 refine wpL_nil ?_
 obtain ⟨q1, h⟩ := h
 refine wpA_region ?_
 refine wL (OpA.addi rfl rfl rfl q1 ?_)
 refine wL (OpA.m ?_)
 refine wpL_nil ?_
 exact ⟨(cb3, pre3, post3), ((si out ((out.length : Int) - 1) (Span.mk ((gi out ((out.length : Int) - 1)).path) ((gi out ((out.length : Int) - 1)).from_) (gmax ((gi out ((out.length : Int) - 1)).to) [(gi (sortF spanCmp l) x).to]))), (x + 1)), h, (Cov.asg ⟨rfl, (congrArg (D.own cb3 3 pre3.length) (by simp only [si_length, gcopy_length, clearF_length, sortF_len postCmp_swo, sortF_len cloneCmp_swo, sortF_len spanCmp_swo] <;> rfl)), rfl, rfl, rfl, trivial⟩), (.cons _ (.refl _))⟩
 have h := h.2 ((and0 b6).imp (fun hh => (decF hh)) (fun hh => (notF hh)))
 obtain ⟨q1, h⟩ := h
 refine wpA_region ?_
 refine wL (OpA.m ?_)
 refine wL (OpA.load_whole rfl ti56 rfl rfl .head rfl ⟨_, rfl⟩ ?_)
 refine wL (OpA.ibuildSliceO rfl ts48 rfl (.cons (.of (sz := 3) rfl) .nil) (by decide) ?_)
 refine wL (OpA.appendW (enc := encSpan) rfl rfl rfl rfl ts48 rfl (fun _ _ => (.tail .head)) (.list (ys := ([(gi (sortF spanCmp l) x)] : List Span))) q1 (fun c7 pre8 => ?_))
 refine wL (OpA.a ?_)
 refine wpL_nil ?_
 obtain ⟨q1, h⟩ := h
 refine wpA_region ?_
 refine wL (OpA.addi rfl rfl rfl q1 ?_)
 refine wL (OpA.m ?_)
 refine wpL_nil ?_
 exact ⟨(c7, pre8, ([] : List D)), ((out ++ ([(gi (sortF spanCmp l) x)] : List Span)), (x + 1)), h, (Cov.asg ⟨rfl, rfl, rfl, rfl, rfl, trivial⟩), (.cons _ (.refl _))⟩
 have h := h.2 (decF b4)
 refine wpA_exit ?_
 refine wpA_seq ?_
 refine wpA_region ?_
 refine wL (OpA.m ?_)
 refine wL (OpA.a ?_)
 refine wpL_nil ?_
 refine wpA_ret ?_
 exact ⟨_, (.tmp (d := .own cb3 3 pre3.length out.length) rfl .nil), [(cb3, .cells 3 (winL encSpan pre3 out post3)), (c2_g1, .cells 3 (winL encSpan ([] : List D) ([] : List Span) ([] : List D))), (c_l, .cells 3 (winL encSpan pre_l (sortF spanCmp l) post_l))], [(cb3, .cells 3 (winL encSpan pre3 out post3))], (.refl _), (.cons₂ _ (.cons _ (.cons _ (.refl _)))), out, (cb3, pre3, post3), rfl, rfl, h⟩
theorem merge_c (l : (List Span)) (c_l : Nat) (pre_l post_l : List D) (hp0 : l.length ≤ 1000000) : CallH Tryz.prog 96 [.own c_l 3 pre_l.length l.length] [(c_l, .cells 3 (winL encSpan pre_l l post_l))] (fun d h' => ∃ (g : Nat × List D × List D), d = .own g.1 3 g.2.1.length (mergeF l).length ∧ h' = [(g.1, .cells 3 (winL encSpan g.2.1 (mergeF l) g.2.2))]) :=
 (merge_w l c_l pre_l post_l  (fun r => r = mergeF l) (merge_ok l _ hp0 rfl)).mono (by rintro d h' ⟨r, g, hd, hh, rfl⟩; exact ⟨g, hd, hh⟩)
theorem of_w (l : (List Line)) (Q : (List Span) × Int → Prop) (h : of_vc l Q) : Fun false Tryz.prog 60 [(encL 2 encLine) l] (fun d => ∃ r, d = .tup [(encL 3 encSpan) (r.1), D.i (r.2)] ∧ Q r) := by
 unfold of_vc at h
 refine Fun.of_body Tryz.func60 rfl Tryz.ntmps60 rfl ?_
 refine wpA_seq ?_
 refine wpA_region ?_
 iterate 2 refine wL (OpA.a ?_)
 refine wpL_nil ?_
 refine wpA_seq ?_
 obtain ⟨q1, h⟩ := h
 refine wpA_region ?_
 refine wL (OpA.m ?_)
 refine wL (OpA.len rfl rfl rfl rfl ts91.desc (.inl ⟨_, _, rfl, (List.length_map _).symm⟩) ?_)
 refine wL (OpA.makeSliceV (enc := encSpan) (v0 := (Span.mk ByteArray.empty 0 0)) rfl ts47 rfl rfl tz56 (fun _ _ => .agg (.cons (.v _) (.cons (.v _) (.cons (.v _) .nil)))) (.of rfl) q1 (fun c1 => ?_))
 refine wL (OpA.a ?_)
 refine wpL_nil ?_
 iterate 2 refine wpA_seq ?_
 refine wpA_region ?_
 refine wL (OpA.m ?_)
 refine wL (OpA.len rfl rfl rfl rfl ts91.desc (.inl ⟨_, _, rfl, (List.length_map _).symm⟩) ?_)
 refine wL (OpA.m ?_)
 refine wpL_nil ?_
 refine wpA_block ?_
 refine wpA_lfp (S := (List Span) × Int) (G := Nat × List D × List D) (c1, ([] : List D), ([] : List D)) (fun gg ss => asg [(2, .v (.slice none 0 0)), (3, D.i 0), (4, .own gg.1 3 gg.2.1.length ss.1.length), (11, (encL 2 encLine) l), (12, D.i (l.length : Int)), (13, D.i ss.2)]) (fun gg ss => [(gg.1, .cells 3 (winL encSpan gg.2.1 ss.1 gg.2.2))]) h (Cov.asg ⟨rfl, rfl, rfl, rfl, rfl, rfl, trivial⟩) (.refl _) ?_
 rintro again2 ⟨cb10, pre10, post10⟩ ⟨spans, x⟩ h
 have h : of_L1 l Q again2 spans x := h
 unfold of_L1 at h
 show wpA _ _ _ _ (asg [(2, .v (.slice none 0 0)), (3, D.i 0), (4, .own cb10 3 pre10.length spans.length), (11, (encL 2 encLine) l), (12, D.i (l.length : Int)), (13, D.i x)]) [(cb10, .cells 3 (winL encSpan pre10 spans post10))]
 refine wpA_seq ?_
 refine wpA_region ?_
 refine wL (OpA.lss rfl rfl rfl ?_)
 refine wpL_nil ?_
 refine wpA_seq ?_
 refine wpA_cond rfl (fun b3 => ?_) (fun b3 => ?_)
 have h := h.1 (decT b3)
 refine wpA_skip ?_
 refine wpA_seq ?_
 refine wpA_block ?_
 refine wpA_seq ?_
 obtain ⟨q1, h⟩ := h
 refine wpA_region ?_
 refine wL (OpA.iixV (enc := encLine) rfl ts91 rfl rfl rfl q1 ?_)
 refine wL (OpA.iload_whole rfl ti65 rfl ⟨_, rfl, rfl⟩ ?_)
 refine wL (OpA.alloc (sz := 2) (d := encLine (Line.mk ByteArray.empty 0)) rfl tz65 (fun _ _ => .agg (.cons (.v _) (.cons (.v _) .nil))) (.of rfl) (fun c4 _ => ?_))
 refine wE (OpA.storeW rfl ti65 rfl (by with_reducible conv => lhs; whnf) (.of rfl) rfl rfl .head ?_)
 refine wpL_nil ?_
 refine wpA_seq ?_
 refine wpA_region ?_
 refine wL (OpA.fieldAddr rfl tf65_0 rfl ?_)
 refine wL (OpA.load rfl ti9 rfl .head rfl rfl ?_)
 refine wL (OpA.fieldAddr rfl tf65_1 rfl ?_)
 refine wL (OpA.load rfl ti3 rfl .head rfl rfl ?_)
 refine wL (OpA.fieldAddr rfl tf65_1 rfl ?_)
 refine wL (OpA.load rfl ti3 rfl .head rfl rfl ?_)
 refine wL (OpA.add rfl rfl rfl ?_)
 refine wL (OpA.buildO (zs := [.v (.string ⟨#[]⟩), .v (.int .i64 0), .v (.int .i64 0)]) rfl tp56 tz56 (fun _ _ => (.cons (.v _) (.cons (.v _) (.cons (.v _) .nil)))) (.cons (.of (sz := 1) rfl) (.cons (.of (sz := 1) rfl) (.cons (.of (sz := 1) rfl) .nil))) rfl ?_)
 refine wL (OpA.alloc (sz := 3) (d := encSpan (Span.mk ByteArray.empty 0 0)) rfl tz56 (fun _ _ => .agg (.cons (.v _) (.cons (.v _) (.cons (.v _) .nil)))) (.of rfl) (fun c5 _ => ?_))
 refine wE (OpA.storeW rfl ti56 rfl (by with_reducible conv => lhs; whnf) (.of rfl) rfl rfl .head ?_)
 refine wpL_nil ?_
 refine wpA_seq ?_
 refine wpA_block ?_
 refine wpA_seq ?_
 obtain ⟨q1, h⟩ := h
 refine wpA_region ?_
 refine wL (OpA.fieldAddr rfl tf65_0 rfl ?_)
 refine wL (OpA.load rfl ti9 rfl (.tail .head) rfl rfl ?_)
 refine wL (OpA.call rfl rfl rfl en74 (path_c ((gi l x).path) q1) ?_)
 rintro _ rfl
 refine wL (OpA.neq rfl rfl rfl ?_)
 refine wL (OpA.a ?_)
 refine wpL_nil ?_
 refine wpA_cond rfl (fun b6 => ?_) (fun b6 => ?_)
 have h := h.1 (bneT b6)
 refine wpA_seq ?_
 refine wpA_region ?_
 iterate 2 refine wL (OpA.a ?_)
 refine wpL_nil ?_
 refine wpA_ret ?_
 exact ⟨_, (.tmp (d := .v (.slice none 0 0)) rfl (.tmp (d := D.i 2) rfl .nil)), _, (.tup (.nilv (sz := 3) (.same rfl .nil)) .nil), ⟨([], 2), rfl, h⟩⟩
 have h := h.2 (bneF b6)
 refine wpA_seq ?_
 refine wpA_region ?_
 refine wL (OpA.load_whole rfl ti56 rfl rfl .head rfl ⟨_, rfl⟩ ?_)
 refine wL (OpA.call rfl rfl rfl en95 (inside_c (Span.mk ((gi l x).path) ((gi l x).n) (IntKind.i64.wrap (((gi l x).n) + 1))) ) ?_)
 rintro _ rfl
 refine wL (OpA.not rfl rfl ?_)
 refine wL (OpA.a ?_)
 refine wpL_nil ?_
 refine wpA_cond rfl (fun b7 => ?_) (fun b7 => ?_)
 have h := h.1 (notT b7)
 refine wpA_seq ?_
 refine wpA_region ?_
 iterate 2 refine wL (OpA.a ?_)
 refine wpL_nil ?_
 refine wpA_ret ?_
 exact ⟨_, (.tmp (d := .v (.slice none 0 0)) rfl (.tmp (d := D.i 3) rfl .nil)), _, (.tup (.nilv (sz := 3) (.same rfl .nil)) .nil), ⟨([], 3), rfl, h⟩⟩
 have h := h.2 (notF b7)
 refine wpA_skip ?_
 obtain ⟨q1, h⟩ := h
 refine wpA_region ?_
 refine wL (OpA.m ?_)
 refine wL (OpA.load_whole rfl ti56 rfl rfl .head rfl ⟨_, rfl⟩ ?_)
 refine wL (OpA.ibuildSliceO rfl ts47 rfl (.cons (.of (sz := 3) rfl) .nil) (by decide) ?_)
 refine wL (OpA.appendW (enc := encSpan) rfl rfl rfl rfl ts47 rfl (fun _ _ => (.tail (.tail .head))) (.list (ys := ([(Span.mk ((gi l x).path) ((gi l x).n) (IntKind.i64.wrap (((gi l x).n) + 1)))] : List Span))) q1 (fun c8 pre9 => ?_))
 refine wL (OpA.a ?_)
 refine wpL_nil ?_
 refine wpA_region ?_
 refine wL (OpA.add rfl rfl rfl ?_)
 refine wL (OpA.m ?_)
 refine wpL_nil ?_
 exact ⟨(c8, pre9, ([] : List D)), ((spans ++ ([(Span.mk ((gi l x).path) ((gi l x).n) (IntKind.i64.wrap (((gi l x).n) + 1)))] : List Span)), (IntKind.i64.wrap (x + 1))), h, (Cov.asg ⟨rfl, rfl, rfl, rfl, rfl, rfl, trivial⟩), (.cons _ (.cons _ (.refl _)))⟩
 have h := h.2 (decF b3)
 refine wpA_exit ?_
 refine wpA_seq ?_
 obtain ⟨q1, h⟩ := h
 refine wpA_region ?_
 refine wL (OpA.m ?_)
 refine wL (OpA.callH rfl rfl rfl en96 (h1 := [(cb10, .cells 3 (winL encSpan pre10 spans post10))]) (h2 := []) (.refl _) (merge_c spans cb10 pre10 post10 q1) ?_)
 rintro _ _ ⟨⟨c10, pre11, post12⟩, rfl, rfl⟩
 iterate 2 refine wL (OpA.a ?_)
 refine wpL_nil ?_
 refine wpA_ret ?_
 exact ⟨_, (.tmp (d := .own c10 3 pre11.length (mergeF spans).length) rfl (.tmp (d := D.i 0) rfl .nil)), _, (.tup (.win .head (by intro hf; cases hf) (.same rfl .nil)) .nil), ⟨((mergeF spans), 0), rfl, h⟩⟩
theorem of_c (l : (List Line)) (hp0 : l.length ≤ 1000000) (hp1 : ∀ z_ ∈ l, z_.path.size ≤ 1000000) : Fun false Tryz.prog 60 [(encL 2 encLine) l] (fun d => d = .tup [(encL 3 encSpan) ((ofF l).1), D.i ((ofF l).2)]) :=
 Fun.at (enc := fun r => .tup [(encL 3 encSpan) (r.1), D.i (r.2)]) (v := ofF l) (of_w l  (fun r => r = ofF l) (of_ok l _ hp0 hp1 rfl))
theorem valid_w (l : (List Span)) (Q : Bool → Prop) (h : valid_vc l Q) : Fun false Tryz.prog 63 [(encL 3 encSpan) l] (fun d => ∃ r, d = D.b r ∧ Q r) := by
 unfold valid_vc at h
 refine Fun.of_body Tryz.func63 rfl Tryz.ntmps63 rfl ?_
 refine wpA_seq ?_
 refine wpA_region ?_
 refine wL (OpA.a ?_)
 refine wpL_nil ?_
 iterate 2 refine wpA_seq ?_
 refine wpA_region ?_
 refine wL (OpA.m ?_)
 refine wL (OpA.len rfl rfl rfl rfl ts48.desc (.inl ⟨_, _, rfl, (List.length_map _).symm⟩) ?_)
 refine wL (OpA.m ?_)
 refine wpL_nil ?_
 refine wpA_block ?_
 refine wpA_lfp (S := Int) (G := Unit) () (fun gg ss => asg [(0, (encL 3 encSpan) l), (2, D.b false), (5, (encL 3 encSpan) l), (6, D.i (l.length : Int)), (7, D.i ss)]) (fun gg ss => []) h (Cov.asg ⟨rfl, rfl, rfl, rfl, rfl, trivial⟩) (.refl _) ?_
 rintro again1 _ x h
 have h : valid_L1 l Q again1 x := h
 unfold valid_L1 at h
 show wpA _ _ _ _ (asg [(0, (encL 3 encSpan) l), (2, D.b false), (5, (encL 3 encSpan) l), (6, D.i (l.length : Int)), (7, D.i x)]) []
 refine wpA_seq ?_
 refine wpA_region ?_
 refine wL (OpA.lss rfl rfl rfl ?_)
 refine wpL_nil ?_
 refine wpA_seq ?_
 refine wpA_cond rfl (fun b2 => ?_) (fun b2 => ?_)
 have h := h.1 (decT b2)
 refine wpA_skip ?_
 refine wpA_seq ?_
 refine wpA_block ?_
 refine wpA_seq ?_
 obtain ⟨q1, h⟩ := h
 refine wpA_region ?_
 refine wL (OpA.m ?_)
 refine wL (OpA.iixV (enc := encSpan) rfl ts48 rfl rfl rfl q1 ?_)
 refine wL (OpA.iload_whole rfl ti56 rfl ⟨_, rfl, rfl⟩ ?_)
 refine wL (OpA.alloc (sz := 3) (d := encSpan (Span.mk ByteArray.empty 0 0)) rfl tz56 (fun _ _ => .agg (.cons (.v _) (.cons (.v _) (.cons (.v _) .nil)))) (.of rfl) (fun c3 _ => ?_))
 refine wL (OpA.a ?_)
 refine wE (OpA.storeW rfl ti56 rfl (by with_reducible conv => lhs; whnf) (.of rfl) rfl rfl .head ?_)
 refine wpL_nil ?_
 refine wpA_seq ?_
 obtain ⟨q1, q2, h⟩ := h
 refine wpA_mid (asg [(0, (encL 3 encSpan) l), (2, D.b false), (5, (encL 3 encSpan) l), (6, D.i (l.length : Int)), (7, D.i x), (34, D.b (((!(insideF (gi l x))) || ((decide (x > 0)) && (!(behindF (gi l (x - 1)) (gi l x))))) || ((pathF ((gi l x).path)) != 0)))]) [(c3, .cells 3 [encSpan (gi l x)])] ?_ ?_
 refine wpA_draw (m := 23) mo (by kernel_rfl) rfl ?_
 refine dL (OpA.load_whole rfl ti56 rfl rfl .head rfl ⟨_, rfl⟩ ⟨rfl, rfl⟩) ?_
 refine dL (OpA.call rfl rfl rfl en95 (inside_c (gi l x) ) (by rintro _ rfl; exact ⟨rfl, rfl⟩)) ?_
 refine dL (OpA.not rfl rfl ⟨rfl, rfl⟩) ?_
 refine dL (OpA.m ⟨rfl, rfl⟩) ?_
 refine DetK_split (s := 15) rfl (fun b5 => ?_) (fun b5 => ?_)
 iterate 3 refine dS ?_
 iterate 8 refine DetK.skipU rfl rfl rfl ?_
 refine dS ?_
 refine dL (OpA.p ⟨rfl, rfl⟩) ?_
 refine dL (OpA.m ⟨rfl, rfl⟩) ?_
 iterate 4 refine dS ?_
 refine dL (OpA.p ⟨rfl, rfl⟩) ?_
 refine DetK.nil ?_
 refine wpL_nil ?_
 exact ⟨(Cov.asg ⟨rfl, rfl, rfl, rfl, rfl, (congrArg D.b (Eq.symm (orS (orS b5)))), trivial⟩), (.refl _)⟩
 refine dG (OpA.m ⟨rfl, rfl⟩) ?_
 refine dG (OpA.gtr rfl rfl rfl ⟨rfl, rfl⟩) ?_
 refine dG (OpA.m ⟨rfl, rfl⟩) ?_
 refine DetK_split (s := 18) rfl (fun b6 => ?_) (fun b6 => ?_)
 iterate 2 refine dG (OpA.m ⟨rfl, rfl⟩) ?_
 refine dG (OpA.subi rfl rfl rfl ((q1 (notF b5)) (decT b6)).1 ⟨rfl, rfl⟩) ?_
 refine dG (OpA.iixV (enc := encSpan) rfl ts48 rfl rfl rfl ((q1 (notF b5)) (decT b6)).2 ⟨rfl, rfl⟩) ?_
 refine dG (OpA.iload_whole rfl ti56 rfl ⟨_, rfl, rfl⟩ ⟨rfl, rfl⟩) ?_
 refine dG (OpA.load_whole rfl ti56 rfl rfl .head rfl ⟨_, rfl⟩ ⟨rfl, rfl⟩) ?_
 refine dG (OpA.call rfl rfl rfl en100 (behind_c (gi l (x - 1)) (gi l x) ) (by rintro _ rfl; exact ⟨rfl, rfl⟩)) ?_
 refine dG (OpA.not rfl rfl ⟨rfl, rfl⟩) ?_
 refine dG (OpA.p ⟨rfl, rfl⟩) ?_
 refine dL (OpA.p ⟨rfl, rfl⟩) ?_
 refine dL (OpA.m ⟨rfl, rfl⟩) ?_
 refine DetK_split (s := 29) rfl (fun b7 => ?_) (fun b7 => ?_)
 iterate 4 refine dS ?_
 refine dL (OpA.p ⟨rfl, rfl⟩) ?_
 refine DetK.nil ?_
 refine wpL_nil ?_
 exact ⟨(Cov.asg ⟨rfl, rfl, rfl, rfl, rfl, (congrArg D.b (Eq.symm (orS (orN b5 (andN b6 b7))))), trivial⟩), (.refl _)⟩
 refine dG (OpA.fieldAddr rfl tf56_0 rfl ⟨rfl, rfl⟩) ?_
 refine dG (OpA.load rfl ti9 rfl .head rfl rfl ⟨rfl, rfl⟩) ?_
 refine dG (OpA.call rfl rfl rfl en74 (path_c ((gi l x).path) (q2 ⟨(notF b5), (.inr (notF b7))⟩)) (by rintro _ rfl; exact ⟨rfl, rfl⟩)) ?_
 refine dG (OpA.neq rfl rfl rfl ⟨rfl, rfl⟩) ?_
 refine dL (OpA.p ⟨rfl, rfl⟩) ?_
 refine DetK.nil ?_
 refine wpL_nil ?_
 exact ⟨(Cov.asg ⟨rfl, rfl, rfl, rfl, rfl, (congrArg D.b (Eq.symm (orN (orN b5 (andN b6 b7)) rfl))), trivial⟩), (.refl _)⟩
 iterate 8 refine dS ?_
 refine dG (OpA.p ⟨rfl, rfl⟩) ?_
 refine dL (OpA.p ⟨rfl, rfl⟩) ?_
 refine dL (OpA.m ⟨rfl, rfl⟩) ?_
 refine dG (OpA.fieldAddr rfl tf56_0 rfl ⟨rfl, rfl⟩) ?_
 refine dG (OpA.load rfl ti9 rfl .head rfl rfl ⟨rfl, rfl⟩) ?_
 refine dG (OpA.call rfl rfl rfl en74 (path_c ((gi l x).path) (q2 ⟨(notF b5), (.inl (decF b6))⟩)) (by rintro _ rfl; exact ⟨rfl, rfl⟩)) ?_
 refine dG (OpA.neq rfl rfl rfl ⟨rfl, rfl⟩) ?_
 refine dL (OpA.p ⟨rfl, rfl⟩) ?_
 refine DetK.nil ?_
 refine wpL_nil ?_
 exact ⟨(Cov.asg ⟨rfl, rfl, rfl, rfl, rfl, (congrArg D.b (Eq.symm (orN (orN b5 (andS b6)) rfl))), trivial⟩), (.refl _)⟩
 show wpA _ _ _ _ (asg [(0, (encL 3 encSpan) l), (2, D.b false), (5, (encL 3 encSpan) l), (6, D.i (l.length : Int)), (7, D.i x), (34, D.b (((!(insideF (gi l x))) || ((decide (x > 0)) && (!(behindF (gi l (x - 1)) (gi l x))))) || ((pathF ((gi l x).path)) != 0)))]) [(c3, .cells 3 [encSpan (gi l x)])]
 refine wpA_cond rfl (fun b4 => ?_) (fun b4 => ?_)
 have h := h.1 ((or0 b4).imp (fun hh => ((or0 hh).imp (fun hh => (notT hh)) (fun hh => ⟨(decT (and1 hh)), (notT (and2 hh))⟩))) (fun hh => (bneT hh)))
 refine wpA_seq ?_
 refine wpA_region ?_
 refine wL (OpA.a ?_)
 refine wpL_nil ?_
 refine wpA_ret ?_
 exact ⟨_, (.tmp (d := D.b false) rfl .nil), _, (.same rfl .nil), ⟨false, rfl, h⟩⟩
 have h := h.2 ⟨⟨(notF (or1 (or1 b4))), ((and0 (or2 (or1 b4))).imp (fun hh => (decF hh)) (fun hh => (notF hh)))⟩, (bneF (or2 b4))⟩
 refine wpA_skip ?_
 obtain ⟨q1, h⟩ := h
 refine wpA_region ?_
 refine wL (OpA.addi rfl rfl rfl q1 ?_)
 refine wL (OpA.m ?_)
 refine wpL_nil ?_
 exact ⟨(), (x + 1), h, (Cov.asg ⟨rfl, rfl, rfl, rfl, rfl, trivial⟩), (.cons _ (.refl _))⟩
 have h := h.2 (decF b2)
 refine wpA_exit ?_
 refine wpA_seq ?_
 refine wpA_region ?_
 refine wL (OpA.a ?_)
 refine wpL_nil ?_
 refine wpA_ret ?_
 exact ⟨_, (.tmp (d := D.b true) rfl .nil), _, (.same rfl .nil), ⟨true, rfl, h⟩⟩
theorem valid_c (l : (List Span)) (hp0 : l.length ≤ 1000000) (hp1 : ∀ z_ ∈ l, z_.path.size ≤ 1000000) : Fun false Tryz.prog 63 [(encL 3 encSpan) l] (fun d => d = D.b (validF l)) :=
 Fun.at (enc := fun r => D.b r) (v := validF l) (valid_w l  (fun r => r = validF l) (valid_ok l _ hp0 hp1 rfl))
theorem count_w (l : (List Span)) (Q : Int → Prop) (h : count_vc l Q) : Fun false Tryz.prog 28 [(encL 3 encSpan) l] (fun d => ∃ r, d = D.i r ∧ Q r) := by
 unfold count_vc at h
 refine Fun.of_body Tryz.func28 rfl Tryz.ntmps28 rfl ?_
 refine wpA_seq ?_
 refine wpA_region ?_
 refine wL (OpA.a ?_)
 refine wpL_nil ?_
 iterate 2 refine wpA_seq ?_
 obtain ⟨q1, q2, h⟩ := h
 refine wpA_region ?_
 refine wL (OpA.m ?_)
 refine wL (OpA.call rfl rfl rfl en63 (valid_c l q1 q2) ?_)
 rintro _ rfl
 refine wL (OpA.not rfl rfl ?_)
 refine wpL_nil ?_
 refine wpA_cond rfl (fun b1 => ?_) (fun b1 => ?_)
 have h := h.1 (notT b1)
 refine wpA_seq ?_
 refine wpA_region ?_
 refine wL (OpA.a ?_)
 refine wpL_nil ?_
 refine wpA_ret ?_
 exact ⟨_, (.tmp (d := D.i 0) rfl .nil), _, (.same rfl .nil), ⟨0, rfl, h⟩⟩
 have h := h.2 (notF b1)
 refine wpA_skip ?_
 refine wpA_seq ?_
 refine wpA_region ?_
 refine wL (OpA.a ?_)
 refine wpL_nil ?_
 iterate 2 refine wpA_seq ?_
 refine wpA_region ?_
 refine wL (OpA.m ?_)
 refine wL (OpA.len rfl rfl rfl rfl ts48.desc (.inl ⟨_, _, rfl, (List.length_map _).symm⟩) ?_)
 refine wL (OpA.m ?_)
 refine wpL_nil ?_
 refine wpA_block ?_
 refine wpA_lfp (S := Int × Int) (G := Unit) () (fun gg ss => asg [(2, D.i 0), (3, D.i ss.1), (9, (encL 3 encSpan) l), (10, D.i (l.length : Int)), (11, D.i ss.2)]) (fun gg ss => []) h (Cov.asg ⟨rfl, rfl, rfl, rfl, rfl, trivial⟩) (.refl _) ?_
 rintro again2 _ ⟨n, x⟩ h
 have h : count_L1 l Q again2 n x := h
 unfold count_L1 at h
 show wpA _ _ _ _ (asg [(2, D.i 0), (3, D.i n), (9, (encL 3 encSpan) l), (10, D.i (l.length : Int)), (11, D.i x)]) []
 refine wpA_seq ?_
 refine wpA_region ?_
 refine wL (OpA.lss rfl rfl rfl ?_)
 refine wpL_nil ?_
 refine wpA_seq ?_
 refine wpA_cond rfl (fun b3 => ?_) (fun b3 => ?_)
 have h := h.1 (decT b3)
 refine wpA_skip ?_
 refine wpA_seq ?_
 refine wpA_block ?_
 refine wpA_seq ?_
 obtain ⟨q1, h⟩ := h
 refine wpA_region ?_
 refine wL (OpA.iixV (enc := encSpan) rfl ts48 rfl rfl rfl q1 ?_)
 refine wL (OpA.iload_whole rfl ti56 rfl ⟨_, rfl, rfl⟩ ?_)
 refine wL (OpA.alloc (sz := 3) (d := encSpan (Span.mk ByteArray.empty 0 0)) rfl tz56 (fun _ _ => .agg (.cons (.v _) (.cons (.v _) (.cons (.v _) .nil)))) (.of rfl) (fun c4 _ => ?_))
 refine wE (OpA.storeW rfl ti56 rfl (by with_reducible conv => lhs; whnf) (.of rfl) rfl rfl .head ?_)
 refine wpL_nil ?_
 obtain ⟨q1, q2, h⟩ := h
 refine wpA_region ?_
 refine wL (OpA.m ?_)
 refine wL (OpA.fieldAddr rfl tf56_2 rfl ?_)
 refine wL (OpA.load rfl ti3 rfl .head rfl rfl ?_)
 refine wL (OpA.fieldAddr rfl tf56_1 rfl ?_)
 refine wL (OpA.load rfl ti3 rfl .head rfl rfl ?_)
 refine wL (OpA.subi rfl rfl rfl q1 ?_)
 refine wL (OpA.addi rfl rfl rfl q2 ?_)
 refine wL (OpA.a ?_)
 refine wpL_nil ?_
 obtain ⟨q1, h⟩ := h
 refine wpA_region ?_
 refine wL (OpA.addi rfl rfl rfl q1 ?_)
 refine wL (OpA.m ?_)
 refine wpL_nil ?_
 exact ⟨(), ((n + (((gi l x).to) - ((gi l x).from_))), (x + 1)), h, (Cov.asg ⟨rfl, rfl, rfl, rfl, rfl, trivial⟩), (.cons _ (.refl _))⟩
 have h := h.2 (decF b3)
 refine wpA_exit ?_
 refine wpA_seq ?_
 refine wpA_region ?_
 refine wL (OpA.m ?_)
 refine wL (OpA.a ?_)
 refine wpL_nil ?_
 refine wpA_ret ?_
 exact ⟨_, (.tmp (d := D.i n) rfl .nil), _, (.same rfl .nil), ⟨n, rfl, h⟩⟩
theorem count_c (l : (List Span)) (hp0 : l.length ≤ 1000) (hp1 : ∀ z_ ∈ l, z_.path.size ≤ 1000000) : Fun false Tryz.prog 28 [(encL 3 encSpan) l] (fun d => d = D.i (countL l)) :=
 Fun.at (enc := fun r => D.i r) (v := countL l) (count_w l  (fun r => r = countL l) (count_ok l _ hp0 hp1 rfl))
theorem has1_w (s_ : Span) (x : Line) (Q : Bool → Prop) (h : has1_vc s_ x Q) : Fun false Tryz.prog 64 [encSpan s_, .iptr (encLine x) 0] (fun d => ∃ r, d = D.b r ∧ Q r) := by
 unfold has1_vc at h
 refine Fun.of_body Tryz.func64 rfl Tryz.ntmps64 rfl ?_
 refine wpA_seq ?_
 refine wpA_region ?_
 refine wL (OpA.bx (sz := 3) rfl (by with_reducible conv => lhs; whnf) (.of rfl) (fun c1 _ => ?_))
 refine wL (OpA.a ?_)
 refine wpL_nil ?_
 refine wpA_seq ?_
 refine wpA_mid (asg [(3, D.b (((decide (s_.path = x.path)) && (decide (s_.from_ ≤ x.n))) && (decide (x.n < s_.to))))]) [(c1, .cells 3 [encSpan s_])] ?_ ?_
 refine wpA_region ?_
 refine wL (OpA.fieldAddr rfl tf56_0 rfl ?_)
 refine wL (OpA.load rfl ti9 rfl .head rfl rfl ?_)
 refine wL (OpA.ifieldAddr rfl tf65_0 rfl ?_)
 refine wL (OpA.iload rfl ti9 rfl rfl ?_)
 refine wL (OpA.seql rfl rfl rfl ?_)
 refine wL (OpA.m ?_)
 refine wpL_split (s := 9) rfl (fun b2 => ?_) (fun b2 => ?_)
 refine wG (OpA.fieldAddr rfl tf56_1 rfl ?_)
 refine wG (OpA.load rfl ti3 rfl .head rfl rfl ?_)
 refine wG (OpA.ifieldAddr rfl tf65_1 rfl ?_)
 refine wG (OpA.iload rfl ti3 rfl rfl ?_)
 refine wG (OpA.leq rfl rfl rfl ?_)
 refine wL (OpA.p ?_)
 refine wL (OpA.m ?_)
 refine wpL_split (s := 16) rfl (fun b3 => ?_) (fun b3 => ?_)
 refine wG (OpA.ifieldAddr rfl tf65_1 rfl ?_)
 refine wG (OpA.iload rfl ti3 rfl rfl ?_)
 refine wG (OpA.fieldAddr rfl tf56_2 rfl ?_)
 refine wG (OpA.load rfl ti3 rfl .head rfl rfl ?_)
 refine wG (OpA.lss rfl rfl rfl ?_)
 refine wL (OpA.p ?_)
 refine wL (OpA.a ?_)
 refine wpL_nil ?_
 exact ⟨(Cov.asg ⟨(congrArg D.b (Eq.symm (andN (andN b2 b3) rfl))), trivial⟩), (.refl _)⟩
 iterate 5 refine wS ?_
 refine wL (OpA.p ?_)
 refine wL (OpA.a ?_)
 refine wpL_nil ?_
 exact ⟨(Cov.asg ⟨(congrArg D.b (Eq.symm (andS (andN b2 b3)))), trivial⟩), (.refl _)⟩
 iterate 5 refine wS ?_
 refine wL (OpA.p ?_)
 refine wL (OpA.m ?_)
 iterate 5 refine wS ?_
 refine wL (OpA.p ?_)
 refine wL (OpA.a ?_)
 refine wpL_nil ?_
 exact ⟨(Cov.asg ⟨(congrArg D.b (Eq.symm (andS (andS b2)))), trivial⟩), (.refl _)⟩
 show wpA _ _ _ _ (asg [(3, D.b (((decide (s_.path = x.path)) && (decide (s_.from_ ≤ x.n))) && (decide (x.n < s_.to))))]) [(c1, .cells 3 [encSpan s_])]
 refine wpA_ret ?_
 exact ⟨_, (.tmp (d := D.b (((decide (s_.path = x.path)) && (decide (s_.from_ ≤ x.n))) && (decide (x.n < s_.to)))) rfl .nil), _, (.same rfl .nil), ⟨(((decide (s_.path = x.path)) && (decide (s_.from_ ≤ x.n))) && (decide (x.n < s_.to))), rfl, h⟩⟩
theorem has1_c (s_ : Span) (x : Line)  : Fun false Tryz.prog 64 [encSpan s_, .iptr (encLine x) 0] (fun d => d = D.b (has1F s_ x)) :=
 Fun.at (enc := fun r => D.b r) (v := has1F s_ x) (has1_w s_ x  (fun r => r = has1F s_ x) (has1_ok s_ x _  rfl))
theorem ixSpan_w (s_ : (List Span)) (g_p : Nat) (fs_p cs_p : List D) (p : Span → Bool) (pD : Span → Prop) (hen_p : entersB Tryz.prog g_p = true) (hg_p : ∀ x0_, pD x0_ → Fun false Tryz.prog g_p (fs_p ++ [encSpan x0_] ++ cs_p) (fun d => d = D.b (p x0_))) (Q : Int → Prop) (h : ixSpan_vc s_ p pD Q) : Fun false Tryz.prog 101 [(encL 3 encSpan) s_, .fn (.func g_p) fs_p cs_p] (fun d => ∃ r, d = D.i r ∧ Q r) := by
 unfold ixSpan_vc at h
 refine Fun.of_body Tryz.func101 rfl Tryz.ntmps101 rfl ?_
 refine wpA_seq ?_
 refine wpA_region ?_
 refine wL (OpA.a ?_)
 refine wpL_nil ?_
 iterate 2 refine wpA_seq ?_
 refine wpA_region ?_
 refine wL (OpA.m ?_)
 refine wL (OpA.len rfl rfl rfl rfl ts48.desc (.inl ⟨_, _, rfl, (List.length_map _).symm⟩) ?_)
 refine wL (OpA.m ?_)
 refine wpL_nil ?_
 refine wpA_block ?_
 refine wpA_lfp (S := Int) (G := Unit) () (fun gg ss => asg [(0, (encL 3 encSpan) s_), (1, .fn (.func g_p) fs_p cs_p), (4, D.i 0), (7, D.i (s_.length : Int)), (8, D.i ss)]) (fun gg ss => []) h (Cov.asg ⟨rfl, rfl, rfl, rfl, rfl, trivial⟩) (.refl _) ?_
 rintro again1 _ x h
 have h : ixSpan_L1 s_ p pD Q again1 x := h
 unfold ixSpan_L1 at h
 show wpA _ _ _ _ (asg [(0, (encL 3 encSpan) s_), (1, .fn (.func g_p) fs_p cs_p), (4, D.i 0), (7, D.i (s_.length : Int)), (8, D.i x)]) []
 refine wpA_seq ?_
 refine wpA_region ?_
 refine wL (OpA.lss rfl rfl rfl ?_)
 refine wpL_nil ?_
 refine wpA_seq ?_
 refine wpA_cond rfl (fun b2 => ?_) (fun b2 => ?_)
 have h := h.1 (decT b2)
 refine wpA_skip ?_
 refine wpA_seq ?_
 refine wpA_block ?_
 refine wpA_seq ?_
 refine wpA_region ?_
 refine wL (OpA.m ?_)
 refine wL (OpA.a ?_)
 refine wpL_nil ?_
 refine wpA_seq ?_
 obtain ⟨q1, q2, h⟩ := h
 refine wpA_region ?_
 iterate 3 refine wL (OpA.m ?_)
 refine wL (OpA.iixV (enc := encSpan) rfl ts48 rfl rfl rfl q1 ?_)
 refine wL (OpA.iload_whole rfl ti56 rfl ⟨_, rfl, rfl⟩ ?_)
 refine wL (OpA.call rfl rfl rfl hen_p (hg_p (gi s_ x) q2) ?_)
 rintro _ rfl
 refine wpL_nil ?_
 refine wpA_cond rfl (fun b3 => ?_) (fun b3 => ?_)
 have h := h.1 b3
 refine wpA_seq ?_
 refine wpA_region ?_
 refine wL (OpA.m ?_)
 refine wL (OpA.a ?_)
 refine wpL_nil ?_
 refine wpA_ret ?_
 exact ⟨_, (.tmp (d := D.i x) rfl .nil), _, (.same rfl .nil), ⟨x, rfl, h⟩⟩
 have h := h.2 b3
 refine wpA_skip ?_
 obtain ⟨q1, h⟩ := h
 refine wpA_region ?_
 refine wL (OpA.addi rfl rfl rfl q1 ?_)
 refine wL (OpA.m ?_)
 refine wpL_nil ?_
 exact ⟨(), (x + 1), h, (Cov.asg ⟨rfl, rfl, rfl, rfl, rfl, trivial⟩), (.refl _)⟩
 have h := h.2 (decF b2)
 refine wpA_exit ?_
 refine wpA_seq ?_
 refine wpA_region ?_
 refine wL (OpA.a ?_)
 refine wpL_nil ?_
 refine wpA_ret ?_
 exact ⟨_, (.tmp (d := D.i (-1)) rfl .nil), _, (.same rfl .nil), ⟨(-1), rfl, h⟩⟩
theorem ixSpan_c (s_ : (List Span)) (g_p : Nat) (fs_p cs_p : List D) (p : Span → Bool) (pD : Span → Prop) (hen_p : entersB Tryz.prog g_p = true) (hg_p : ∀ x0_, pD x0_ → Fun false Tryz.prog g_p (fs_p ++ [encSpan x0_] ++ cs_p) (fun d => d = D.b (p x0_))) (hp0 : s_.length ≤ 9223372036854775807) (hp1 : ∀ x ∈ s_, pD x) : Fun false Tryz.prog 101 [(encL 3 encSpan) s_, .fn (.func g_p) fs_p cs_p] (fun d => d = D.i ((idxOf p s_))) :=
 Fun.at (enc := fun r => D.i r) (v := (idxOf p s_)) (ixSpan_w s_ g_p fs_p cs_p p pD hen_p hg_p (fun r => r = (idxOf p s_)) (ixSpan_ok s_ p pD _ hp0 hp1 rfl))
theorem cfSpan_w (s_ : (List Span)) (g_p : Nat) (fs_p cs_p : List D) (p : Span → Bool) (pD : Span → Prop) (hen_p : entersB Tryz.prog g_p = true) (hg_p : ∀ x0_, pD x0_ → Fun false Tryz.prog g_p (fs_p ++ [encSpan x0_] ++ cs_p) (fun d => d = D.b (p x0_))) (Q : Bool → Prop) (h : cfSpan_vc s_ p pD Q) : Fun false Tryz.prog 65 [(encL 3 encSpan) s_, .fn (.func g_p) fs_p cs_p] (fun d => ∃ r, d = D.b r ∧ Q r) := by
 unfold cfSpan_vc at h
 refine Fun.of_body Tryz.func65 rfl Tryz.ntmps65 rfl ?_
 refine wpA_seq ?_
 refine wpA_region ?_
 refine wL (OpA.a ?_)
 refine wpL_nil ?_
 refine wpA_seq ?_
 obtain ⟨q1, q2, h⟩ := h
 refine wpA_region ?_
 iterate 2 refine wL (OpA.m ?_)
 refine wL (OpA.call rfl rfl rfl en101 (ixSpan_c s_ g_p fs_p cs_p p pD hen_p hg_p q1 q2) ?_)
 rintro _ rfl
 refine wL (OpA.geq rfl rfl rfl ?_)
 refine wL (OpA.a ?_)
 refine wpL_nil ?_
 refine wpA_ret ?_
 exact ⟨_, (.tmp (d := D.b (decide ((idxOf p s_) ≥ 0))) rfl .nil), _, (.same rfl .nil), ⟨(decide ((idxOf p s_) ≥ 0)), rfl, h⟩⟩
theorem cfSpan_c (s_ : (List Span)) (g_p : Nat) (fs_p cs_p : List D) (p : Span → Bool) (pD : Span → Prop) (hen_p : entersB Tryz.prog g_p = true) (hg_p : ∀ x0_, pD x0_ → Fun false Tryz.prog g_p (fs_p ++ [encSpan x0_] ++ cs_p) (fun d => d = D.b (p x0_))) (hp0 : s_.length ≤ 9223372036854775807) (hp1 : ∀ x ∈ s_, pD x) : Fun false Tryz.prog 65 [(encL 3 encSpan) s_, .fn (.func g_p) fs_p cs_p] (fun d => d = D.b ((s_.any p))) :=
 Fun.at (enc := fun r => D.b r) (v := (s_.any p)) (cfSpan_w s_ g_p fs_p cs_p p pD hen_p hg_p (fun r => r = (s_.any p)) (cfSpan_ok s_ p pD _ hp0 hp1 rfl))
theorem has_w (l : (List Span)) (x : Line) (Q : Bool → Prop) (h : has_vc l x Q) : Fun false Tryz.prog 29 [(encL 3 encSpan) l, encLine x] (fun d => ∃ r, d = D.b r ∧ Q r) := by
 unfold has_vc at h
 refine Fun.of_body Tryz.func29 rfl Tryz.ntmps29 rfl ?_
 refine wpA_seq ?_
 refine wpA_region ?_
 refine wL (OpA.bx (sz := 2) rfl (by with_reducible conv => lhs; whnf) (.of rfl) (fun c1 _ => ?_))
 refine wL (OpA.a ?_)
 refine wpL_nil ?_
 refine wpA_seq ?_
 refine wpA_region ?_
 refine wL (OpA.makeFunc rfl ?_)
 refine wL (OpA.a ?_)
 refine wpL_nil ?_
 refine wpA_seq ?_
 obtain ⟨q1, q2, q3, h⟩ := h
 refine wpA_mid (asg [(4, D.b ((l.any (fun (x0_ : Span) => has1F x0_ x)) && (validF l)))]) [(c1, .cells 2 [encLine x])] ?_ ?_
 refine wpA_region ?_
 iterate 2 refine wL (OpA.m ?_)
 refine wL (OpA.call_snap rfl rfl rfl en65 (.same rfl (.fn .nil (.ptrp rfl .head rfl .nil) .nil)) (cfSpan_c l 64 [] [.iptr (encLine x) 0] (fun (x0_ : Span) => has1F x0_ x) (fun (x0_ : Span) => True) en64 (fun x0_ _ => has1_c x0_ x ) q1 q2) (by rintro _ rfl; exact .inr (.v _)) ?_)
 rintro _ rfl
 refine wL (OpA.m ?_)
 refine wpL_split (s := 10) rfl (fun b2 => ?_) (fun b2 => ?_)
 refine wG (OpA.m ?_)
 refine wG (OpA.call rfl rfl rfl en63 (valid_c l (q3 b2).1 (q3 b2).2) ?_)
 rintro _ rfl
 refine wL (OpA.p ?_)
 refine wL (OpA.a ?_)
 refine wpL_nil ?_
 exact ⟨(Cov.asg ⟨(congrArg D.b (Eq.symm (andN b2 rfl))), trivial⟩), (.refl _)⟩
 iterate 2 refine wS ?_
 refine wL (OpA.p ?_)
 refine wL (OpA.a ?_)
 refine wpL_nil ?_
 exact ⟨(Cov.asg ⟨(congrArg D.b (Eq.symm (andS b2))), trivial⟩), (.refl _)⟩
 show wpA _ _ _ _ (asg [(4, D.b ((l.any (fun (x0_ : Span) => has1F x0_ x)) && (validF l)))]) [(c1, .cells 2 [encLine x])]
 refine wpA_ret ?_
 exact ⟨_, (.tmp (d := D.b ((l.any (fun (x0_ : Span) => has1F x0_ x)) && (validF l))) rfl .nil), _, (.same rfl .nil), ⟨((l.any (fun (x0_ : Span) => has1F x0_ x)) && (validF l)), rfl, h⟩⟩
theorem has_c (l : (List Span)) (x : Line) (hp0 : l.length ≤ 1000) (hp1 : ∀ z_ ∈ l, z_.path.size ≤ 1000000) : Fun false Tryz.prog 29 [(encL 3 encSpan) l, encLine x] (fun d => d = D.b (hasF l x)) :=
 Fun.at (enc := fun r => D.b r) (v := hasF l x) (has_w l x  (fun r => r = hasF l x) (has_ok l x _ hp0 hp1 rfl))
end Go.Proofs.YtglclijalehcmaaGreatDoor
