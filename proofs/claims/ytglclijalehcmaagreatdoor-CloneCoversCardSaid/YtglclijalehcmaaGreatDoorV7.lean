/-
  walks and contracts
-/
import Derived.Test.YtglclijalehcmaaGreatDoorV5
import Derived.Test.YtglclijalehcmaaGreatDoorV6
import Derived.Test.YtglclijalehcmaaGreatDoorKwZ
set_option maxRecDepth 10000
set_option maxHeartbeats 2000000
set_option linter.all false
namespace Go.Proofs.YtglclijalehcmaaGreatDoor
open Go Go.Lic Go.Sort Go.Proofs
attribute [local irreducible] addF addP againstC badR beforeF behindF blankF checkC checkF checkF29 cloneCmp clonesF cmpB cmpI codeF commonF4 countF countL coveredF famF fewC fewTs fewW findC findT gramsF growTF guarF has1F hasF hashF indexF insideF insideT leastF lenC lenF linesF listF lookF mergeF mul64F mulP nameR nearC nearF newF ofF orF packF pairF partF pathB pathF postCmp postLt postsF powF printsF pushF rightL rollF sameW selectF sizeF spanCmp spanR splitF splitG textF validF validT
theorem sortiC_w (data : (List Clone)) (a : Int) (b : Int) (g_p : Nat) (fs_p cs_p : List D) (p : Clone → Clone → Int) (pD : Clone → Clone → Prop) (hen_p : entersB Tryz.prog g_p = true) (hg_p : ∀ x0_ x1_, pD x0_ x1_ → Fun false Tryz.prog g_p (fs_p ++ [encClone x0_, encClone x1_] ++ cs_p) (fun d => d = D.i (p x0_ x1_))) (Q : Unit → Prop) (h : sortiC_vc data a b p pD Q) : Fun false Tryz.prog 143 [(encL 5 encClone) data, D.i a, D.i b, .fn (.func g_p) fs_p cs_p] (fun d => ∃ r, d = .tup [] ∧ Q r) := by
 unfold sortiC_vc at h
 refine Fun.of_body Tryz.func143 rfl Tryz.ntmps143 rfl ?_
 refine wpA_seq ?_
 obtain ⟨q1, h⟩ := h
 refine wpA_region ?_
 refine wL (OpA.m ?_)
 refine wL (OpA.addi rfl rfl rfl q1 ?_)
 refine wL (OpA.a ?_)
 refine wpL_nil ?_
 refine wpA_block ?_
 refine wpA_lfp (S := Int) (G := Unit) () (fun gg ss => asg [(0, (encL 5 encClone) data), (1, D.i a), (2, D.i b), (3, .fn (.func g_p) fs_p cs_p), (8, D.i ss)]) (fun gg ss => []) h (Cov.asg ⟨rfl, rfl, rfl, rfl, rfl, trivial⟩) (.refl _) ?_
 rintro again1 _ i h
 have h : sortiC_L1 data a b p pD Q again1 i := h
 unfold sortiC_L1 at h
 show wpA _ _ _ _ (asg [(0, (encL 5 encClone) data), (1, D.i a), (2, D.i b), (3, .fn (.func g_p) fs_p cs_p), (8, D.i i)]) []
 iterate 2 refine wpA_seq ?_
 refine wpA_region ?_
 iterate 2 refine wL (OpA.m ?_)
 refine wL (OpA.lss rfl rfl rfl ?_)
 refine wpL_nil ?_
 refine wpA_cond rfl (fun b2 => ?_) (fun b2 => ?_)
 have h := h.1 (decT b2)
 refine wpA_skip ?_
 refine wpA_seq ?_
 refine wpA_block ?_
 refine wpA_seq ?_
 refine wpA_region ?_
 refine wL (OpA.m ?_)
 refine wL (OpA.a ?_)
 refine wpL_nil ?_
 refine wpA_block ?_
 refine wpA_lfp (S := Unit) (G := Unit) () (fun gg ss => asg [(0, (encL 5 encClone) data), (1, D.i a), (2, D.i b), (3, .fn (.func g_p) fs_p cs_p), (8, D.i i), (9, D.i i)]) (fun gg ss => []) h (Cov.asg ⟨rfl, rfl, rfl, rfl, rfl, rfl, trivial⟩) (.refl _) ?_
 rintro again3 _ _ h
 have h : sortiC_L2 data a p pD i again1 again3  := h
 unfold sortiC_L2 at h
 show wpA _ _ _ _ (asg [(0, (encL 5 encClone) data), (1, D.i a), (2, D.i b), (3, .fn (.func g_p) fs_p cs_p), (8, D.i i), (9, D.i i)]) []
 iterate 2 refine wpA_seq ?_
 obtain ⟨q1, h⟩ := h
 refine wpA_mid (asg [(0, (encL 5 encClone) data), (1, D.i a), (2, D.i b), (3, .fn (.func g_p) fs_p cs_p), (8, D.i i), (9, D.i i), (34, D.b ((decide (i > a)) && (decide ((p (gi data i) (gi data (i - 1))) < 0))))]) [] ?_ ?_
 refine wpA_draw (m := 17) mo (by kernel_rfl) rfl ?_
 iterate 2 refine dL (OpA.m ⟨rfl, rfl⟩) ?_
 refine dL (OpA.gtr rfl rfl rfl ⟨rfl, rfl⟩) ?_
 refine dL (OpA.m ⟨rfl, rfl⟩) ?_
 refine DetK_split (s := 21) rfl (fun b5 => ?_) (fun b5 => ?_)
 iterate 3 refine dG (OpA.m ⟨rfl, rfl⟩) ?_
 refine dG (OpA.iixV (enc := encClone) rfl ts32 rfl rfl rfl (q1 (decT b5)).1 ⟨rfl, rfl⟩) ?_
 refine dG (OpA.iload_whole rfl ti38 rfl ⟨_, rfl, rfl⟩ ⟨rfl, rfl⟩) ?_
 iterate 2 refine dG (OpA.m ⟨rfl, rfl⟩) ?_
 refine dG (OpA.subi rfl rfl rfl (q1 (decT b5)).2.1 ⟨rfl, rfl⟩) ?_
 refine dG (OpA.iixV (enc := encClone) rfl ts32 rfl rfl rfl (q1 (decT b5)).2.2.1 ⟨rfl, rfl⟩) ?_
 refine dG (OpA.iload_whole rfl ti38 rfl ⟨_, rfl, rfl⟩ ⟨rfl, rfl⟩) ?_
 refine dG (OpA.call rfl rfl rfl hen_p (hg_p (gi data i) (gi data (i - 1)) (q1 (decT b5)).2.2.2) (by rintro _ rfl; exact ⟨rfl, rfl⟩)) ?_
 refine dG (OpA.lss rfl rfl rfl ⟨rfl, rfl⟩) ?_
 refine dL (OpA.p ⟨rfl, rfl⟩) ?_
 refine DetK.nil ?_
 refine wpL_nil ?_
 exact ⟨(Cov.asg ⟨rfl, rfl, rfl, rfl, rfl, rfl, (congrArg D.b (Eq.symm (andN b5 rfl))), trivial⟩), (.refl _)⟩
 iterate 12 refine dS ?_
 refine dL (OpA.p ⟨rfl, rfl⟩) ?_
 refine DetK.nil ?_
 refine wpL_nil ?_
 exact ⟨(Cov.asg ⟨rfl, rfl, rfl, rfl, rfl, rfl, (congrArg D.b (Eq.symm (andS b5))), trivial⟩), (.refl _)⟩
 show wpA _ _ _ _ (asg [(0, (encL 5 encClone) data), (1, D.i a), (2, D.i b), (3, .fn (.func g_p) fs_p cs_p), (8, D.i i), (9, D.i i), (34, D.b ((decide (i > a)) && (decide ((p (gi data i) (gi data (i - 1))) < 0))))]) []
 refine wpA_cond rfl (fun b4 => ?_) (fun b4 => ?_)
 have h := h.1 ⟨(decT (and1 b4)), (decT (and2 b4))⟩
 exact h.elim
 have h := h.2 ((and0 b4).imp (fun hh => (decF hh)) (fun hh => (decF hh)))
 refine wpA_exit ?_
 obtain ⟨q1, h⟩ := h
 refine wpA_region ?_
 refine wL (OpA.m ?_)
 refine wL (OpA.addi rfl rfl rfl q1 ?_)
 refine wL (OpA.a ?_)
 refine wpL_nil ?_
 exact ⟨(), (i + 1), h, (Cov.asg ⟨rfl, rfl, rfl, rfl, rfl, trivial⟩), (.refl _)⟩
 have h := h.2 (decF b2)
 refine wpA_exit ?_
 exact ⟨_, .nil, _, (.tup .nil .nil), ⟨(), rfl, h⟩⟩
theorem sortiC_c (data : (List Clone)) (a : Int) (b : Int) (g_p : Nat) (fs_p cs_p : List D) (p : Clone → Clone → Int) (pD : Clone → Clone → Prop) (hen_p : entersB Tryz.prog g_p = true) (hg_p : ∀ x0_ x1_, pD x0_ x1_ → Fun false Tryz.prog g_p (fs_p ++ [encClone x0_, encClone x1_] ++ cs_p) (fun d => d = D.i (p x0_ x1_))) (hp0 : data = ([] : List Clone)) (hp1 : a = (0 : Int)) (hp2 : b = (0 : Int)) : Fun false Tryz.prog 143 [(encL 5 encClone) data, D.i a, D.i b, .fn (.func g_p) fs_p cs_p] (fun d => d = .tup []) :=
 Fun.at (enc := fun r => .tup []) (v := ()) (sortiC_w data a b g_p fs_p cs_p p pD hen_p hg_p (fun r => r = ()) (sortiC_ok data a b p pD _ hp0 hp1 hp2 rfl))
theorem sortpC_w (data : (List Clone)) (a : Int) (b : Int) (limit : Int) (g_p : Nat) (fs_p cs_p : List D) (p : Clone → Clone → Int) (pD : Clone → Clone → Prop) (hen_p : entersB Tryz.prog g_p = true) (hg_p : ∀ x0_ x1_, pD x0_ x1_ → Fun false Tryz.prog g_p (fs_p ++ [encClone x0_, encClone x1_] ++ cs_p) (fun d => d = D.i (p x0_ x1_))) (Q : Unit → Prop) (h : sortpC_vc data a b limit p pD Q) : Fun false Tryz.prog 118 [(encL 5 encClone) data, D.i a, D.i b, D.i limit, .fn (.func g_p) fs_p cs_p] (fun d => ∃ r, d = .tup [] ∧ Q r) := by
 unfold sortpC_vc at h
 refine Fun.of_body Tryz.func118 rfl Tryz.ntmps118 rfl ?_
 refine wpA_seq ?_
 refine wpA_region ?_
 refine wL (OpA.a ?_)
 refine wpL_nil ?_
 refine wpA_seq ?_
 refine wpA_region ?_
 refine wL (OpA.a ?_)
 refine wpL_nil ?_
 refine wpA_block ?_
 refine wpA_lfp (S := Unit) (G := Unit) () (fun gg ss => asg [(0, (encL 5 encClone) data), (1, D.i a), (2, D.i b), (3, D.i limit), (4, .fn (.func g_p) fs_p cs_p), (10, D.b true), (11, D.b true)]) (fun gg ss => []) h (Cov.asg ⟨rfl, rfl, rfl, rfl, rfl, rfl, rfl, trivial⟩) (.refl _) ?_
 rintro again1 _ _ h
 have h : sortpC_L1 data a b limit Q again1  := h
 unfold sortpC_L1 at h
 show wpA _ _ _ _ (asg [(0, (encL 5 encClone) data), (1, D.i a), (2, D.i b), (3, D.i limit), (4, .fn (.func g_p) fs_p cs_p), (10, D.b true), (11, D.b true)]) []
 refine wpA_block ?_
 refine wpA_seq ?_
 obtain ⟨q1, h⟩ := h
 refine wpA_region ?_
 iterate 2 refine wL (OpA.m ?_)
 refine wL (OpA.subi rfl rfl rfl q1 ?_)
 refine wL (OpA.a ?_)
 refine wpL_nil ?_
 iterate 2 refine wpA_seq ?_
 refine wpA_region ?_
 refine wL (OpA.m ?_)
 refine wL (OpA.leq rfl rfl rfl ?_)
 refine wpL_nil ?_
 refine wpA_cond rfl (fun b2 => ?_) (fun b2 => ?_)
 have h := h.1 (decT b2)
 refine wpA_seq ?_
 obtain ⟨q1, q2, q3, h⟩ := h
 refine wpA_region ?_
 iterate 4 refine wL (OpA.m ?_)
 refine wL (OpA.call rfl rfl rfl en143 (sortiC_c data a b g_p fs_p cs_p p pD hen_p hg_p q1 q2 q3) ?_)
 rintro _ rfl
 refine wpL_nil ?_
 refine wpA_ret ?_
 exact ⟨_, .nil, _, (.tup .nil .nil), ⟨(), rfl, h⟩⟩
 have h := h.2 (decF b2)
 refine wpA_skip ?_
 iterate 2 refine wpA_seq ?_
 refine wpA_region ?_
 refine wL (OpA.m ?_)
 refine wL (OpA.eql rfl rfl rfl ?_)
 refine wpL_nil ?_
 refine wpA_cond rfl (fun b3 => ?_) (fun b3 => ?_)
 have h := h.1 (beqT b3)
 exact h.elim
 have h := h.2 (beqF b3)
 exact h.elim
theorem sortpC_c (data : (List Clone)) (a : Int) (b : Int) (limit : Int) (g_p : Nat) (fs_p cs_p : List D) (p : Clone → Clone → Int) (pD : Clone → Clone → Prop) (hen_p : entersB Tryz.prog g_p = true) (hg_p : ∀ x0_ x1_, pD x0_ x1_ → Fun false Tryz.prog g_p (fs_p ++ [encClone x0_, encClone x1_] ++ cs_p) (fun d => d = D.i (p x0_ x1_))) (hp0 : data = ([] : List Clone)) (hp1 : a = (0 : Int)) (hp2 : b = (0 : Int)) : Fun false Tryz.prog 118 [(encL 5 encClone) data, D.i a, D.i b, D.i limit, .fn (.func g_p) fs_p cs_p] (fun d => d = .tup []) :=
 Fun.at (enc := fun r => .tup []) (v := ()) (sortpC_w data a b limit g_p fs_p cs_p p pD hen_p hg_p (fun r => r = ()) (sortpC_ok data a b limit p pD _ hp0 hp1 hp2 rfl))
theorem sort0C_w (x : (List Clone)) (g_p : Nat) (fs_p cs_p : List D) (p : Clone → Clone → Int) (pD : Clone → Clone → Prop) (hen_p : entersB Tryz.prog g_p = true) (hg_p : ∀ x0_ x1_, pD x0_ x1_ → Fun false Tryz.prog g_p (fs_p ++ [encClone x0_, encClone x1_] ++ cs_p) (fun d => d = D.i (p x0_ x1_))) (Q : Unit → Prop) (h : sort0C_vc x p pD Q) : Fun false Tryz.prog 85 [(encL 5 encClone) x, .fn (.func g_p) fs_p cs_p] (fun d => ∃ r, d = .tup [] ∧ Q r) := by
 unfold sort0C_vc at h
 refine Fun.of_body Tryz.func85 rfl Tryz.ntmps85 rfl ?_
 refine wpA_seq ?_
 refine wpA_region ?_
 refine wL (OpA.m ?_)
 refine wL (OpA.len rfl rfl rfl rfl ts32.desc (.inl ⟨_, _, rfl, (List.length_map _).symm⟩) ?_)
 refine wL (OpA.a ?_)
 refine wpL_nil ?_
 obtain ⟨q1, q2, q3, q4, q5, h⟩ := h
 refine wpA_region ?_
 iterate 3 refine wL (OpA.m ?_)
 refine wL (OpA.conv rfl td3 td163 rfl ?_)
 refine wL (OpA.call rfl rfl rfl en119 (len_c (IntKind.u64.wrap (x.length : Int)) q1 q2) ?_)
 rintro _ rfl
 refine wL (OpA.m ?_)
 refine wL (OpA.call rfl rfl rfl en118 (sortpC_c x 0 (x.length : Int) (lenF (IntKind.u64.wrap (x.length : Int))) g_p fs_p cs_p p pD hen_p hg_p q3 q4 q5) ?_)
 rintro _ rfl
 refine wpL_nil ?_
 exact ⟨_, .nil, _, (.tup .nil .nil), ⟨(), rfl, h⟩⟩
theorem sort0C_c (x : (List Clone)) (g_p : Nat) (fs_p cs_p : List D) (p : Clone → Clone → Int) (pD : Clone → Clone → Prop) (hen_p : entersB Tryz.prog g_p = true) (hg_p : ∀ x0_ x1_, pD x0_ x1_ → Fun false Tryz.prog g_p (fs_p ++ [encClone x0_, encClone x1_] ++ cs_p) (fun d => d = D.i (p x0_ x1_))) (hp0 : x = ([] : List Clone)) : Fun false Tryz.prog 85 [(encL 5 encClone) x, .fn (.func g_p) fs_p cs_p] (fun d => d = .tup []) :=
 Fun.at (enc := fun r => .tup []) (v := ()) (sort0C_w x g_p fs_p cs_p p pD hen_p hg_p (fun r => r = ()) (sort0C_ok x p pD _ hp0 rfl))
theorem kright_w (l : (List Text)) (Q : Bool → Prop) (h : kright_vc l Q) : Fun false Tryz.prog 53 [(encL 2 encText) l] (fun d => ∃ r, d = D.b r ∧ Q r) := by
 unfold kright_vc at h
 refine Fun.of_body Tryz.func53 rfl Tryz.ntmps53 rfl ?_
 refine wpA_seq ?_
 refine wpA_region ?_
 refine wL (OpA.a ?_)
 refine wpL_nil ?_
 iterate 2 refine wpA_seq ?_
 refine wpA_region ?_
 refine wL (OpA.m ?_)
 refine wL (OpA.len rfl rfl rfl rfl ts22.desc (.inl ⟨_, _, rfl, (List.length_map _).symm⟩) ?_)
 refine wL (OpA.gtr rfl rfl rfl ?_)
 refine wpL_nil ?_
 refine wpA_cond rfl (fun b1 => ?_) (fun b1 => ?_)
 have h := h.1 (decT b1)
 refine wpA_seq ?_
 refine wpA_region ?_
 refine wL (OpA.a ?_)
 refine wpL_nil ?_
 refine wpA_ret ?_
 exact ⟨_, (.tmp (d := D.b false) rfl .nil), _, (.same rfl .nil), ⟨false, rfl, h⟩⟩
 have h := h.2 (decF b1)
 refine wpA_skip ?_
 iterate 2 refine wpA_seq ?_
 refine wpA_region ?_
 refine wL (OpA.m ?_)
 refine wL (OpA.len rfl rfl rfl rfl ts22.desc (.inl ⟨_, _, rfl, (List.length_map _).symm⟩) ?_)
 refine wL (OpA.m ?_)
 refine wpL_nil ?_
 refine wpA_block ?_
 refine wpA_lfp (S := Int) (G := Unit) () (fun gg ss => asg [(0, (encL 2 encText) l), (2, D.b false), (8, (encL 2 encText) l), (9, D.i (l.length : Int)), (10, D.i ss)]) (fun gg ss => []) h (Cov.asg ⟨rfl, rfl, rfl, rfl, rfl, trivial⟩) (.refl _) ?_
 rintro again2 _ x h
 have h : kright_L1 l Q again2 x := h
 unfold kright_L1 at h
 show wpA _ _ _ _ (asg [(0, (encL 2 encText) l), (2, D.b false), (8, (encL 2 encText) l), (9, D.i (l.length : Int)), (10, D.i x)]) []
 refine wpA_seq ?_
 refine wpA_region ?_
 refine wL (OpA.lss rfl rfl rfl ?_)
 refine wpL_nil ?_
 refine wpA_seq ?_
 refine wpA_cond rfl (fun b3 => ?_) (fun b3 => ?_)
 have h := h.1 (decT b3)
 refine wpA_skip ?_
 refine wpA_seq ?_
 refine wpA_block ?_
 refine wpA_seq ?_
 obtain ⟨q1, h⟩ := h
 refine wpA_region ?_
 refine wL (OpA.m ?_)
 refine wL (OpA.iixV (enc := encText) rfl ts22 rfl rfl rfl q1 ?_)
 refine wL (OpA.iload_whole rfl ti28 rfl ⟨_, rfl, rfl⟩ ?_)
 refine wL (OpA.alloc (sz := 2) (d := .agg ([D.s ByteArray.empty, .v (.slice none 0 0)])) rfl tz28 (fun _ _ => .agg (.cons (.v _) (.cons (.v _) .nil))) (.of rfl) (fun c4 _ => ?_))
 refine wL (OpA.a ?_)
 refine wE (OpA.storeW rfl ti28 rfl (by with_reducible conv => lhs; whnf) (.of rfl) rfl rfl .head ?_)
 refine wpL_nil ?_
 refine wpA_seq ?_
 obtain ⟨q1, q2, h⟩ := h
 refine wpA_mid (asg [(0, (encL 2 encText) l), (2, D.b false), (8, (encL 2 encText) l), (9, D.i (l.length : Int)), (10, D.i x), (32, D.b ((!(validT (gi l x))) || ((decide (x > 0)) && (sless ((gi l x).path) ((gi l (x - 1)).path) || decide ((gi l x).path = (gi l (x - 1)).path)))))]) [(c4, .cells 2 [encText (gi l x)])] ?_ ?_
 refine wpA_draw (m := 18) mo (by kernel_rfl) rfl ?_
 refine dL (OpA.load_whole rfl ti28 rfl rfl .head rfl ⟨_, rfl⟩ ⟨rfl, rfl⟩) ?_
 refine dL (OpA.call rfl rfl rfl en38 (nvalid_c (gi l x) q1) (by rintro _ rfl; exact ⟨rfl, rfl⟩)) ?_
 refine dL (OpA.not rfl rfl ⟨rfl, rfl⟩) ?_
 refine dL (OpA.m ⟨rfl, rfl⟩) ?_
 refine DetK_split (s := 18) rfl (fun b6 => ?_) (fun b6 => ?_)
 iterate 3 refine dS ?_
 iterate 9 refine DetK.skipU rfl rfl rfl ?_
 refine dS ?_
 refine dL (OpA.p ⟨rfl, rfl⟩) ?_
 refine DetK.nil ?_
 refine wpL_nil ?_
 exact ⟨(Cov.asg ⟨rfl, rfl, rfl, rfl, rfl, (congrArg D.b (Eq.symm (orS b6))), trivial⟩), (.refl _)⟩
 refine dG (OpA.m ⟨rfl, rfl⟩) ?_
 refine dG (OpA.gtr rfl rfl rfl ⟨rfl, rfl⟩) ?_
 refine dG (OpA.m ⟨rfl, rfl⟩) ?_
 refine DetK_split (s := 21) rfl (fun b7 => ?_) (fun b7 => ?_)
 refine dG (OpA.fieldAddr rfl tf28_0 rfl ⟨rfl, rfl⟩) ?_
 refine dG (OpA.load rfl ti9 rfl .head rfl rfl ⟨rfl, rfl⟩) ?_
 iterate 2 refine dG (OpA.m ⟨rfl, rfl⟩) ?_
 refine dG (OpA.subi rfl rfl rfl ((q2 (notF b6)) (decT b7)).1 ⟨rfl, rfl⟩) ?_
 refine dG (OpA.iixV (enc := encText) rfl ts22 rfl rfl rfl ((q2 (notF b6)) (decT b7)).2 ⟨rfl, rfl⟩) ?_
 refine dG (OpA.ifieldAddr rfl tf28_0 rfl ⟨rfl, rfl⟩) ?_
 refine dG (OpA.iload rfl ti9 rfl rfl ⟨rfl, rfl⟩) ?_
 refine dG (OpA.sleq rfl rfl rfl ⟨rfl, rfl⟩) ?_
 refine dG (OpA.p ⟨rfl, rfl⟩) ?_
 refine dL (OpA.p ⟨rfl, rfl⟩) ?_
 refine DetK.nil ?_
 refine wpL_nil ?_
 exact ⟨(Cov.asg ⟨rfl, rfl, rfl, rfl, rfl, (congrArg D.b (Eq.symm (orN b6 (andN b7 rfl)))), trivial⟩), (.refl _)⟩
 iterate 9 refine dS ?_
 refine dG (OpA.p ⟨rfl, rfl⟩) ?_
 refine dL (OpA.p ⟨rfl, rfl⟩) ?_
 refine DetK.nil ?_
 refine wpL_nil ?_
 exact ⟨(Cov.asg ⟨rfl, rfl, rfl, rfl, rfl, (congrArg D.b (Eq.symm (orN b6 (andS b7)))), trivial⟩), (.refl _)⟩
 show wpA _ _ _ _ (asg [(0, (encL 2 encText) l), (2, D.b false), (8, (encL 2 encText) l), (9, D.i (l.length : Int)), (10, D.i x), (32, D.b ((!(validT (gi l x))) || ((decide (x > 0)) && (sless ((gi l x).path) ((gi l (x - 1)).path) || decide ((gi l x).path = (gi l (x - 1)).path)))))]) [(c4, .cells 2 [encText (gi l x)])]
 refine wpA_cond rfl (fun b5 => ?_) (fun b5 => ?_)
 have h := h.1 ((or0 b5).imp (fun hh => (notT hh)) (fun hh => ⟨(decT (and1 hh)), (and2 hh)⟩))
 refine wpA_seq ?_
 refine wpA_region ?_
 refine wL (OpA.a ?_)
 refine wpL_nil ?_
 refine wpA_ret ?_
 exact ⟨_, (.tmp (d := D.b false) rfl .nil), _, (.same rfl .nil), ⟨false, rfl, h⟩⟩
 have h := h.2 ⟨(notF (or1 b5)), ((and0 (or2 b5)).imp (fun hh => (decF hh)) (fun hh => hh))⟩
 refine wpA_skip ?_
 obtain ⟨q1, h⟩ := h
 refine wpA_region ?_
 refine wL (OpA.addi rfl rfl rfl q1 ?_)
 refine wL (OpA.m ?_)
 refine wpL_nil ?_
 exact ⟨(), (x + 1), h, (Cov.asg ⟨rfl, rfl, rfl, rfl, rfl, trivial⟩), (.cons _ (.refl _))⟩
 have h := h.2 (decF b3)
 refine wpA_exit ?_
 refine wpA_seq ?_
 refine wpA_region ?_
 refine wL (OpA.a ?_)
 refine wpL_nil ?_
 refine wpA_ret ?_
 exact ⟨_, (.tmp (d := D.b true) rfl .nil), _, (.same rfl .nil), ⟨true, rfl, h⟩⟩
theorem kright_c (l : (List Text)) (hp0 : okTs l) : Fun false Tryz.prog 53 [(encL 2 encText) l] (fun d => d = D.b (rightL l)) :=
 Fun.at (enc := fun r => D.b r) (v := rightL l) (kright_w l  (fun r => r = rightL l) (kright_ok l _ hp0 rfl))
theorem kcompare_w (a : Clone) (b : Clone) (Q : Int → Prop) (h : kcompare_vc a b Q) : Fun false Tryz.prog 86 [encClone a, encClone b] (fun d => ∃ r, d = D.i r ∧ Q r) := by
 unfold kcompare_vc at h
 refine Fun.of_body Tryz.func86 rfl Tryz.ntmps86 rfl ?_
 refine wpA_seq ?_
 refine wpA_region ?_
 refine wL (OpA.bx (sz := 5) rfl (by with_reducible conv => lhs; whnf) (.of rfl) (fun c1 _ => ?_))
 refine wL (OpA.bx (sz := 5) rfl (by with_reducible conv => lhs; whnf) (.of rfl) (fun c2 _ => ?_))
 refine wL (OpA.a ?_)
 refine wpL_nil ?_
 refine wpA_seq ?_
 obtain ⟨q1, h⟩ := h
 refine wpA_draw (m := 23) mo (by kernel_rfl) rfl ?_
 refine dL (OpA.fieldAddr rfl tf38_0 rfl ⟨rfl, rfl⟩) ?_
 refine dL (OpA.load rfl ti3 rfl (.tail .head) rfl rfl ⟨rfl, rfl⟩) ?_
 refine dL (OpA.fieldAddr rfl tf38_0 rfl ⟨rfl, rfl⟩) ?_
 refine dL (OpA.load rfl ti3 rfl .head rfl rfl ⟨rfl, rfl⟩) ?_
 refine dL (OpA.call rfl rfl rfl en79 (iCompare_c a.a b.a ) (by rintro _ rfl; exact ⟨rfl, rfl⟩)) ?_
 refine dL (OpA.fieldAddr rfl tf38_1 rfl ⟨rfl, rfl⟩) ?_
 refine dL (OpA.load rfl ti3 rfl (.tail .head) rfl rfl ⟨rfl, rfl⟩) ?_
 refine dL (OpA.fieldAddr rfl tf38_1 rfl ⟨rfl, rfl⟩) ?_
 refine dL (OpA.load rfl ti3 rfl .head rfl rfl ⟨rfl, rfl⟩) ?_
 refine dL (OpA.call rfl rfl rfl en79 (iCompare_c a.atA b.atA ) (by rintro _ rfl; exact ⟨rfl, rfl⟩)) ?_
 refine dL (OpA.fieldAddr rfl tf38_2 rfl ⟨rfl, rfl⟩) ?_
 refine dL (OpA.load rfl ti3 rfl (.tail .head) rfl rfl ⟨rfl, rfl⟩) ?_
 refine dL (OpA.fieldAddr rfl tf38_2 rfl ⟨rfl, rfl⟩) ?_
 refine dL (OpA.load rfl ti3 rfl .head rfl rfl ⟨rfl, rfl⟩) ?_
 refine dL (OpA.call rfl rfl rfl en79 (iCompare_c a.b b.b ) (by rintro _ rfl; exact ⟨rfl, rfl⟩)) ?_
 refine dL (OpA.fieldAddr rfl tf38_3 rfl ⟨rfl, rfl⟩) ?_
 refine dL (OpA.load rfl ti3 rfl (.tail .head) rfl rfl ⟨rfl, rfl⟩) ?_
 refine dL (OpA.fieldAddr rfl tf38_3 rfl ⟨rfl, rfl⟩) ?_
 refine dL (OpA.load rfl ti3 rfl .head rfl rfl ⟨rfl, rfl⟩) ?_
 refine dL (OpA.call rfl rfl rfl en79 (iCompare_c a.atB b.atB ) (by rintro _ rfl; exact ⟨rfl, rfl⟩)) ?_
 refine dL (OpA.ibuildSliceO rfl ts67 rfl (.cons (.of (sz := 1) rfl) (.cons (.of (sz := 1) rfl) (.cons (.of (sz := 1) rfl) (.cons (.of (sz := 1) rfl) .nil)))) (by decide) ⟨rfl, rfl⟩) ?_
 refine dL (OpA.call rfl rfl rfl en120 (or_c ([(cmpI a.a b.a), (cmpI a.atA b.atA), (cmpI a.b b.b), (cmpI a.atB b.atB)] : List Int) q1) (by rintro _ rfl; exact ⟨rfl, rfl⟩)) ?_
 refine dL (OpA.a ⟨rfl, rfl⟩) ?_
 refine DetK.nil ?_
 refine wpL_nil ?_
 refine wpA_ret ?_
 exact ⟨_, (.tmp (d := D.i (orF ([(cmpI a.a b.a), (cmpI a.atA b.atA), (cmpI a.b b.b), (cmpI a.atB b.atB)] : List Int))) rfl .nil), _, (.same rfl .nil), ⟨(orF ([(cmpI a.a b.a), (cmpI a.atA b.atA), (cmpI a.b b.b), (cmpI a.atB b.atB)] : List Int)), rfl, h⟩⟩
theorem kcompare_c (a : Clone) (b : Clone)  : Fun false Tryz.prog 86 [encClone a, encClone b] (fun d => d = D.i (cloneCmp a b)) :=
 Fun.at (enc := fun r => D.i r) (v := cloneCmp a b) (kcompare_w a b  (fun r => r = cloneCmp a b) (kcompare_ok a b _  rfl))
theorem kinside_w (t : Text) (at_ : Int) (n : Int) (Q : Bool → Prop) (h : kinside_vc t at_ n Q) : Fun false Tryz.prog 92 [encText t, D.i at_, D.i n] (fun d => ∃ r, d = D.b r ∧ Q r) := by
 unfold kinside_vc at h
 refine Fun.of_body Tryz.func92 rfl Tryz.ntmps92 rfl ?_
 refine wpA_seq ?_
 refine wpA_region ?_
 refine wL (OpA.bx (sz := 2) rfl (by with_reducible conv => lhs; whnf) (.of rfl) (fun c1 _ => ?_))
 refine wL (OpA.a ?_)
 refine wpL_nil ?_
 refine wpA_seq ?_
 obtain ⟨q1, h⟩ := h
 refine wpA_mid (asg [(6, D.b ((decide (n ≤ (t.words.length : Int))) && (decide (at_ ≤ ((t.words.length : Int) - n)))))]) [(c1, .cells 2 [encText t])] ?_ ?_
 refine wpA_region ?_
 refine wL (OpA.m ?_)
 refine wL (OpA.fieldAddr rfl tf28_1 rfl ?_)
 refine wL (OpA.load rfl ti26 rfl .head rfl rfl ?_)
 refine wL (OpA.len rfl rfl rfl rfl ts26.desc (.inl ⟨_, _, rfl, (List.length_map _).symm⟩) ?_)
 refine wL (OpA.leq rfl rfl rfl ?_)
 refine wL (OpA.m ?_)
 refine wpL_split (s := 12) rfl (fun b2 => ?_) (fun b2 => ?_)
 refine wG (OpA.m ?_)
 refine wG (OpA.fieldAddr rfl tf28_1 rfl ?_)
 refine wG (OpA.load rfl ti26 rfl .head rfl rfl ?_)
 refine wG (OpA.len rfl rfl rfl rfl ts26.desc (.inl ⟨_, _, rfl, (List.length_map _).symm⟩) ?_)
 refine wG (OpA.m ?_)
 refine wG (OpA.subi rfl rfl rfl (q1 (decT b2)) ?_)
 refine wG (OpA.leq rfl rfl rfl ?_)
 refine wL (OpA.p ?_)
 refine wL (OpA.a ?_)
 refine wpL_nil ?_
 exact ⟨(Cov.asg ⟨(congrArg D.b (Eq.symm (andN b2 rfl))), trivial⟩), (.refl _)⟩
 iterate 7 refine wS ?_
 refine wL (OpA.p ?_)
 refine wL (OpA.a ?_)
 refine wpL_nil ?_
 exact ⟨(Cov.asg ⟨(congrArg D.b (Eq.symm (andS b2))), trivial⟩), (.refl _)⟩
 show wpA _ _ _ _ (asg [(6, D.b ((decide (n ≤ (t.words.length : Int))) && (decide (at_ ≤ ((t.words.length : Int) - n)))))]) [(c1, .cells 2 [encText t])]
 refine wpA_ret ?_
 exact ⟨_, (.tmp (d := D.b ((decide (n ≤ (t.words.length : Int))) && (decide (at_ ≤ ((t.words.length : Int) - n))))) rfl .nil), _, (.same rfl .nil), ⟨((decide (n ≤ (t.words.length : Int))) && (decide (at_ ≤ ((t.words.length : Int) - n)))), rfl, h⟩⟩
theorem kinside_c (t : Text) (at_ : Int) (n : Int) (hp0 : t.words.length ≤ 1000000) (hp1 : 0 ≤ n) : Fun false Tryz.prog 92 [encText t, D.i at_, D.i n] (fun d => d = D.b (insideT t at_ n)) :=
 Fun.at (enc := fun r => D.b r) (v := insideT t at_ n) (kinside_w t at_ n  (fun r => r = insideT t at_ n) (kinside_ok t at_ n _ hp0 hp1 rfl))
theorem kcheck1_w (i : Int) (a : (List Lexeme)) (x : Clone) (b : (List Lexeme)) (Q : Bool → Prop) (h : kcheck1_vc i a x b Q) : Fun false Tryz.prog 93 [D.i i, .iptr ((encL 2 encLex) a) 0, .iptr (encClone x) 0, .iptr ((encL 2 encLex) b) 0] (fun d => ∃ r, d = D.b r ∧ Q r) := by
 unfold kcheck1_vc at h
 refine Fun.of_body Tryz.func93 rfl Tryz.ntmps93 rfl ?_
 refine wpA_seq ?_
 refine wpA_region ?_
 refine wL (OpA.a ?_)
 refine wpL_nil ?_
 refine wpA_seq ?_
 obtain ⟨q1, q2, q3, q4, h⟩ := h
 refine wpA_draw (m := 18) mo (by kernel_rfl) rfl ?_
 refine dL (OpA.iload rfl ti26 rfl rfl ⟨rfl, rfl⟩) ?_
 refine dL (OpA.ifieldAddr rfl tf38_1 rfl ⟨rfl, rfl⟩) ?_
 refine dL (OpA.iload rfl ti3 rfl rfl ⟨rfl, rfl⟩) ?_
 refine dL (OpA.m ⟨rfl, rfl⟩) ?_
 refine dL (OpA.addi rfl rfl rfl q1 ⟨rfl, rfl⟩) ?_
 refine dL (OpA.iixV (enc := encLex) rfl ts26 rfl rfl rfl q2 ⟨rfl, rfl⟩) ?_
 refine dL (OpA.ifieldAddr rfl tf61_0 rfl ⟨rfl, rfl⟩) ?_
 refine dL (OpA.iload rfl ti9 rfl rfl ⟨rfl, rfl⟩) ?_
 refine dL (OpA.iload rfl ti26 rfl rfl ⟨rfl, rfl⟩) ?_
 refine dL (OpA.ifieldAddr rfl tf38_3 rfl ⟨rfl, rfl⟩) ?_
 refine dL (OpA.iload rfl ti3 rfl rfl ⟨rfl, rfl⟩) ?_
 refine dL (OpA.m ⟨rfl, rfl⟩) ?_
 refine dL (OpA.addi rfl rfl rfl q3 ⟨rfl, rfl⟩) ?_
 refine dL (OpA.iixV (enc := encLex) rfl ts26 rfl rfl rfl q4 ⟨rfl, rfl⟩) ?_
 refine dL (OpA.ifieldAddr rfl tf61_0 rfl ⟨rfl, rfl⟩) ?_
 refine dL (OpA.iload rfl ti9 rfl rfl ⟨rfl, rfl⟩) ?_
 refine dL (OpA.seql rfl rfl rfl ⟨rfl, rfl⟩) ?_
 refine dL (OpA.a ⟨rfl, rfl⟩) ?_
 refine DetK.nil ?_
 refine wpL_nil ?_
 refine wpA_ret ?_
 exact ⟨_, (.tmp (d := D.b (decide ((gi a (x.atA + i)).text = (gi b (x.atB + i)).text))) rfl .nil), _, (.same rfl .nil), ⟨(decide ((gi a (x.atA + i)).text = (gi b (x.atB + i)).text)), rfl, h⟩⟩
theorem kcheck1_c (i : Int) (a : (List Lexeme)) (x : Clone) (b : (List Lexeme)) (hp0 : inI (x.atA + i)) (hp1 : inL (x.atA + i) a.length) (hp2 : inI (x.atB + i)) (hp3 : inL (x.atB + i) b.length) : Fun false Tryz.prog 93 [D.i i, .iptr ((encL 2 encLex) a) 0, .iptr (encClone x) 0, .iptr ((encL 2 encLex) b) 0] (fun d => d = D.b ((sameAt i a x b))) :=
 Fun.at (enc := fun r => D.b r) (v := (sameAt i a x b)) (kcheck1_w i a x b  (fun r => r = (sameAt i a x b)) (kcheck1_ok i a x b _ hp0 hp1 hp2 hp3 rfl))
abbrev kcheckL_e0 (x : Clone) (l : (List Text)) := (((decide ((x.atA + x.len) < (((gi l x.a).words).length : Int))) && (decide ((x.atB + x.len) < (((gi l x.b).words).length : Int)))) && (sameAt x.len ((gi l x.a).words) x ((gi l x.b).words)))
theorem kcheckL_w (l : (List Text)) (x : Clone) (n : Int) (Q : Int → Prop) (h : kcheckL_vc l x n Q) : Fun false Tryz.prog 56 [(encL 2 encText) l, encClone x, D.i n] (fun d => ∃ r, d = D.i r ∧ Q r) := by
 unfold kcheckL_vc at h
 refine Fun.of_body Tryz.func56 rfl Tryz.ntmps56 rfl ?_
 refine wpA_seq ?_
 refine wpA_region ?_
 refine wL (OpA.bx (sz := 5) rfl (by with_reducible conv => lhs; whnf) (.of rfl) (fun c1 _ => ?_))
 refine wL (OpA.a ?_)
 refine wpL_nil ?_
 iterate 2 refine wpA_seq ?_
 refine wpA_mid (asg [(0, (encL 2 encText) l), (2, D.i n), (4, .ptr c1 5 0 0), (6, D.i 0), (70, D.b (((((((((decide (x.a < 0)) || (decide (x.a ≥ (l.length : Int)))) || (decide (x.b < 0))) || (decide (x.b ≥ (l.length : Int)))) || (decide (x.atA < 0))) || (decide (x.atB < 0))) || (decide (x.len < 1))) || (decide (x.a > x.b))) || ((x.a == x.b) && (decide (x.atA ≥ x.atB)))))]) [(c1, .cells 5 [encClone x])] ?_ ?_
 refine wpA_region ?_
 refine wL (OpA.fieldAddr rfl tf38_0 rfl ?_)
 refine wL (OpA.load rfl ti3 rfl .head rfl rfl ?_)
 refine wL (OpA.lss rfl rfl rfl ?_)
 refine wL (OpA.m ?_)
 refine wpL_split (s := 16) rfl (fun b195 => ?_) (fun b195 => ?_)
 iterate 5 refine wS ?_
 refine wL (OpA.p ?_)
 refine wL (OpA.m ?_)
 iterate 3 refine wS ?_
 refine wL (OpA.p ?_)
 refine wL (OpA.m ?_)
 iterate 5 refine wS ?_
 refine wL (OpA.p ?_)
 refine wL (OpA.m ?_)
 iterate 3 refine wS ?_
 refine wL (OpA.p ?_)
 refine wL (OpA.m ?_)
 iterate 3 refine wS ?_
 refine wL (OpA.p ?_)
 refine wL (OpA.m ?_)
 iterate 3 refine wS ?_
 refine wL (OpA.p ?_)
 refine wL (OpA.m ?_)
 iterate 5 refine wS ?_
 refine wL (OpA.p ?_)
 refine wL (OpA.m ?_)
 iterate 6 refine wS ?_
 iterate 5 refine wpL_skipU rfl rfl rfl rfl rfl ?_
 refine wS ?_
 refine wL (OpA.p ?_)
 refine wpL_nil ?_
 exact ⟨(Cov.asg ⟨rfl, rfl, rfl, rfl, (congrArg D.b (Eq.symm (orS (orS (orS (orS (orS (orS (orS (orS b195)))))))))), trivial⟩), (.refl _)⟩
 refine wG (OpA.fieldAddr rfl tf38_0 rfl ?_)
 refine wG (OpA.load rfl ti3 rfl .head rfl rfl ?_)
 refine wG (OpA.m ?_)
 refine wG (OpA.len rfl rfl rfl rfl ts22.desc (.inl ⟨_, _, rfl, (List.length_map _).symm⟩) ?_)
 refine wG (OpA.geq rfl rfl rfl ?_)
 refine wL (OpA.p ?_)
 refine wL (OpA.m ?_)
 refine wpL_split (s := 23) rfl (fun b196 => ?_) (fun b196 => ?_)
 iterate 3 refine wS ?_
 refine wL (OpA.p ?_)
 refine wL (OpA.m ?_)
 iterate 5 refine wS ?_
 refine wL (OpA.p ?_)
 refine wL (OpA.m ?_)
 iterate 3 refine wS ?_
 refine wL (OpA.p ?_)
 refine wL (OpA.m ?_)
 iterate 3 refine wS ?_
 refine wL (OpA.p ?_)
 refine wL (OpA.m ?_)
 iterate 3 refine wS ?_
 refine wL (OpA.p ?_)
 refine wL (OpA.m ?_)
 iterate 5 refine wS ?_
 refine wL (OpA.p ?_)
 refine wL (OpA.m ?_)
 iterate 6 refine wS ?_
 iterate 5 refine wpL_skipU rfl rfl rfl rfl rfl ?_
 refine wS ?_
 refine wL (OpA.p ?_)
 refine wpL_nil ?_
 exact ⟨(Cov.asg ⟨rfl, rfl, rfl, rfl, (congrArg D.b (Eq.symm (orS (orS (orS (orS (orS (orS (orS (orN b195 b196)))))))))), trivial⟩), (.refl _)⟩
 refine wG (OpA.fieldAddr rfl tf38_2 rfl ?_)
 refine wG (OpA.load rfl ti3 rfl .head rfl rfl ?_)
 refine wG (OpA.lss rfl rfl rfl ?_)
 refine wL (OpA.p ?_)
 refine wL (OpA.m ?_)
 refine wpL_split (s := 28) rfl (fun b197 => ?_) (fun b197 => ?_)
 iterate 5 refine wS ?_
 refine wL (OpA.p ?_)
 refine wL (OpA.m ?_)
 iterate 3 refine wS ?_
 refine wL (OpA.p ?_)
 refine wL (OpA.m ?_)
 iterate 3 refine wS ?_
 refine wL (OpA.p ?_)
 refine wL (OpA.m ?_)
 iterate 3 refine wS ?_
 refine wL (OpA.p ?_)
 refine wL (OpA.m ?_)
 iterate 5 refine wS ?_
 refine wL (OpA.p ?_)
 refine wL (OpA.m ?_)
 iterate 6 refine wS ?_
 iterate 5 refine wpL_skipU rfl rfl rfl rfl rfl ?_
 refine wS ?_
 refine wL (OpA.p ?_)
 refine wpL_nil ?_
 exact ⟨(Cov.asg ⟨rfl, rfl, rfl, rfl, (congrArg D.b (Eq.symm (orS (orS (orS (orS (orS (orS (orN (orN b195 b196) b197))))))))), trivial⟩), (.refl _)⟩
 refine wG (OpA.fieldAddr rfl tf38_2 rfl ?_)
 refine wG (OpA.load rfl ti3 rfl .head rfl rfl ?_)
 refine wG (OpA.m ?_)
 refine wG (OpA.len rfl rfl rfl rfl ts22.desc (.inl ⟨_, _, rfl, (List.length_map _).symm⟩) ?_)
 refine wG (OpA.geq rfl rfl rfl ?_)
 refine wL (OpA.p ?_)
 refine wL (OpA.m ?_)
 refine wpL_split (s := 35) rfl (fun b198 => ?_) (fun b198 => ?_)
 iterate 3 refine wS ?_
 refine wL (OpA.p ?_)
 refine wL (OpA.m ?_)
 iterate 3 refine wS ?_
 refine wL (OpA.p ?_)
 refine wL (OpA.m ?_)
 iterate 3 refine wS ?_
 refine wL (OpA.p ?_)
 refine wL (OpA.m ?_)
 iterate 5 refine wS ?_
 refine wL (OpA.p ?_)
 refine wL (OpA.m ?_)
 iterate 6 refine wS ?_
 iterate 5 refine wpL_skipU rfl rfl rfl rfl rfl ?_
 refine wS ?_
 refine wL (OpA.p ?_)
 refine wpL_nil ?_
 exact ⟨(Cov.asg ⟨rfl, rfl, rfl, rfl, (congrArg D.b (Eq.symm (orS (orS (orS (orS (orS (orN (orN (orN b195 b196) b197) b198)))))))), trivial⟩), (.refl _)⟩
 refine wG (OpA.fieldAddr rfl tf38_1 rfl ?_)
 refine wG (OpA.load rfl ti3 rfl .head rfl rfl ?_)
 refine wG (OpA.lss rfl rfl rfl ?_)
 refine wL (OpA.p ?_)
 refine wL (OpA.m ?_)
 refine wpL_split (s := 40) rfl (fun b199 => ?_) (fun b199 => ?_)
 iterate 3 refine wS ?_
 refine wL (OpA.p ?_)
 refine wL (OpA.m ?_)
 iterate 3 refine wS ?_
 refine wL (OpA.p ?_)
 refine wL (OpA.m ?_)
 iterate 5 refine wS ?_
 refine wL (OpA.p ?_)
 refine wL (OpA.m ?_)
 iterate 6 refine wS ?_
 iterate 5 refine wpL_skipU rfl rfl rfl rfl rfl ?_
 refine wS ?_
 refine wL (OpA.p ?_)
 refine wpL_nil ?_
 exact ⟨(Cov.asg ⟨rfl, rfl, rfl, rfl, (congrArg D.b (Eq.symm (orS (orS (orS (orS (orN (orN (orN (orN b195 b196) b197) b198) b199))))))), trivial⟩), (.refl _)⟩
 refine wG (OpA.fieldAddr rfl tf38_3 rfl ?_)
 refine wG (OpA.load rfl ti3 rfl .head rfl rfl ?_)
 refine wG (OpA.lss rfl rfl rfl ?_)
 refine wL (OpA.p ?_)
 refine wL (OpA.m ?_)
 refine wpL_split (s := 45) rfl (fun b200 => ?_) (fun b200 => ?_)
 iterate 3 refine wS ?_
 refine wL (OpA.p ?_)
 refine wL (OpA.m ?_)
 iterate 5 refine wS ?_
 refine wL (OpA.p ?_)
 refine wL (OpA.m ?_)
 iterate 6 refine wS ?_
 iterate 5 refine wpL_skipU rfl rfl rfl rfl rfl ?_
 refine wS ?_
 refine wL (OpA.p ?_)
 refine wpL_nil ?_
 exact ⟨(Cov.asg ⟨rfl, rfl, rfl, rfl, (congrArg D.b (Eq.symm (orS (orS (orS (orN (orN (orN (orN (orN b195 b196) b197) b198) b199) b200)))))), trivial⟩), (.refl _)⟩
 refine wG (OpA.fieldAddr rfl tf38_4 rfl ?_)
 refine wG (OpA.load rfl ti3 rfl .head rfl rfl ?_)
 refine wG (OpA.lss rfl rfl rfl ?_)
 refine wL (OpA.p ?_)
 refine wL (OpA.m ?_)
 refine wpL_split (s := 50) rfl (fun b201 => ?_) (fun b201 => ?_)
 iterate 5 refine wS ?_
 refine wL (OpA.p ?_)
 refine wL (OpA.m ?_)
 iterate 6 refine wS ?_
 iterate 5 refine wpL_skipU rfl rfl rfl rfl rfl ?_
 refine wS ?_
 refine wL (OpA.p ?_)
 refine wpL_nil ?_
 exact ⟨(Cov.asg ⟨rfl, rfl, rfl, rfl, (congrArg D.b (Eq.symm (orS (orS (orN (orN (orN (orN (orN (orN b195 b196) b197) b198) b199) b200) b201))))), trivial⟩), (.refl _)⟩
 refine wG (OpA.fieldAddr rfl tf38_0 rfl ?_)
 refine wG (OpA.load rfl ti3 rfl .head rfl rfl ?_)
 refine wG (OpA.fieldAddr rfl tf38_2 rfl ?_)
 refine wG (OpA.load rfl ti3 rfl .head rfl rfl ?_)
 refine wG (OpA.gtr rfl rfl rfl ?_)
 refine wL (OpA.p ?_)
 refine wL (OpA.m ?_)
 refine wpL_split (s := 57) rfl (fun b202 => ?_) (fun b202 => ?_)
 iterate 6 refine wS ?_
 iterate 5 refine wpL_skipU rfl rfl rfl rfl rfl ?_
 refine wS ?_
 refine wL (OpA.p ?_)
 refine wpL_nil ?_
 exact ⟨(Cov.asg ⟨rfl, rfl, rfl, rfl, (congrArg D.b (Eq.symm (orS (orN (orN (orN (orN (orN (orN (orN b195 b196) b197) b198) b199) b200) b201) b202)))), trivial⟩), (.refl _)⟩
 refine wG (OpA.fieldAddr rfl tf38_0 rfl ?_)
 refine wG (OpA.load rfl ti3 rfl .head rfl rfl ?_)
 refine wG (OpA.fieldAddr rfl tf38_2 rfl ?_)
 refine wG (OpA.load rfl ti3 rfl .head rfl rfl ?_)
 refine wG (OpA.eql rfl rfl rfl ?_)
 refine wG (OpA.m ?_)
 refine wpL_split (s := 63) rfl (fun b203 => ?_) (fun b203 => ?_)
 refine wG (OpA.fieldAddr rfl tf38_1 rfl ?_)
 refine wG (OpA.load rfl ti3 rfl .head rfl rfl ?_)
 refine wG (OpA.fieldAddr rfl tf38_3 rfl ?_)
 refine wG (OpA.load rfl ti3 rfl .head rfl rfl ?_)
 refine wG (OpA.geq rfl rfl rfl ?_)
 refine wG (OpA.p ?_)
 refine wL (OpA.p ?_)
 refine wpL_nil ?_
 exact ⟨(Cov.asg ⟨rfl, rfl, rfl, rfl, (congrArg D.b (Eq.symm (orN (orN (orN (orN (orN (orN (orN (orN b195 b196) b197) b198) b199) b200) b201) b202) (andN b203 rfl)))), trivial⟩), (.refl _)⟩
 iterate 5 refine wS ?_
 refine wG (OpA.p ?_)
 refine wL (OpA.p ?_)
 refine wpL_nil ?_
 exact ⟨(Cov.asg ⟨rfl, rfl, rfl, rfl, (congrArg D.b (Eq.symm (orN (orN (orN (orN (orN (orN (orN (orN b195 b196) b197) b198) b199) b200) b201) b202) (andS b203)))), trivial⟩), (.refl _)⟩
 show wpA _ _ _ _ (asg [(0, (encL 2 encText) l), (2, D.i n), (4, .ptr c1 5 0 0), (6, D.i 0), (70, D.b (((((((((decide (x.a < 0)) || (decide (x.a ≥ (l.length : Int)))) || (decide (x.b < 0))) || (decide (x.b ≥ (l.length : Int)))) || (decide (x.atA < 0))) || (decide (x.atB < 0))) || (decide (x.len < 1))) || (decide (x.a > x.b))) || ((x.a == x.b) && (decide (x.atA ≥ x.atB)))))]) [(c1, .cells 5 [encClone x])]
 refine wpA_cond rfl (fun b2 => ?_) (fun b2 => ?_)
 have h := h.1 ((or0 b2).imp (fun hh => ((or0 hh).imp (fun hh => ((or0 hh).imp (fun hh => ((or0 hh).imp (fun hh => ((or0 hh).imp (fun hh => ((or0 hh).imp (fun hh => ((or0 hh).imp (fun hh => ((or0 hh).imp (fun hh => (decT hh)) (fun hh => (decT hh)))) (fun hh => (decT hh)))) (fun hh => (decT hh)))) (fun hh => (decT hh)))) (fun hh => (decT hh)))) (fun hh => (decT hh)))) (fun hh => (decT hh)))) (fun hh => ⟨(beqT (and1 hh)), (decT (and2 hh))⟩))
 refine wpA_seq ?_
 refine wpA_region ?_
 refine wL (OpA.a ?_)
 refine wpL_nil ?_
 refine wpA_ret ?_
 exact ⟨_, (.tmp (d := D.i 3) rfl .nil), _, (.same rfl .nil), ⟨3, rfl, h⟩⟩
 have h := h.2 ⟨⟨⟨⟨⟨⟨⟨⟨(decF (or1 (or1 (or1 (or1 (or1 (or1 (or1 (or1 b2))))))))), (decF (or2 (or1 (or1 (or1 (or1 (or1 (or1 (or1 b2)))))))))⟩, (decF (or2 (or1 (or1 (or1 (or1 (or1 (or1 b2))))))))⟩, (decF (or2 (or1 (or1 (or1 (or1 (or1 b2)))))))⟩, (decF (or2 (or1 (or1 (or1 (or1 b2))))))⟩, (decF (or2 (or1 (or1 (or1 b2)))))⟩, (decF (or2 (or1 (or1 b2))))⟩, (decF (or2 (or1 b2)))⟩, ((and0 (or2 b2)).imp (fun hh => (beqF hh)) (fun hh => (decF hh)))⟩
 refine wpA_skip ?_
 iterate 2 refine wpA_seq ?_
 obtain ⟨q1, q2, q3, q4, h⟩ := h
 refine wpA_mid (asg [(0, (encL 2 encText) l), (2, D.i n), (4, .ptr c1 5 0 0), (6, D.i 0), (94, D.b ((!(insideT (gi l x.a) x.atA x.len)) || (!(insideT (gi l x.b) x.atB x.len))))]) [(c1, .cells 5 [encClone x])] ?_ ?_
 refine wpA_draw (m := 24) mo (by kernel_rfl) rfl ?_
 refine dL (OpA.m ⟨rfl, rfl⟩) ?_
 refine dL (OpA.fieldAddr rfl tf38_0 rfl ⟨rfl, rfl⟩) ?_
 refine dL (OpA.load rfl ti3 rfl .head rfl rfl ⟨rfl, rfl⟩) ?_
 refine dL (OpA.iixV (enc := encText) rfl ts22 rfl rfl rfl q1 ⟨rfl, rfl⟩) ?_
 refine dL (OpA.iload_whole rfl ti28 rfl ⟨_, rfl, rfl⟩ ⟨rfl, rfl⟩) ?_
 refine dL (OpA.fieldAddr rfl tf38_1 rfl ⟨rfl, rfl⟩) ?_
 refine dL (OpA.load rfl ti3 rfl .head rfl rfl ⟨rfl, rfl⟩) ?_
 refine dL (OpA.fieldAddr rfl tf38_4 rfl ⟨rfl, rfl⟩) ?_
 refine dL (OpA.load rfl ti3 rfl .head rfl rfl ⟨rfl, rfl⟩) ?_
 refine dL (OpA.call rfl rfl rfl en92 (kinside_c (gi l x.a) x.atA x.len q2 q3) (by rintro _ rfl; exact ⟨rfl, rfl⟩)) ?_
 refine dL (OpA.not rfl rfl ⟨rfl, rfl⟩) ?_
 refine dL (OpA.m ⟨rfl, rfl⟩) ?_
 refine DetK_split (s := 82) rfl (fun b194 => ?_) (fun b194 => ?_)
 iterate 11 refine dS ?_
 refine dL (OpA.p ⟨rfl, rfl⟩) ?_
 refine DetK.nil ?_
 refine wpL_nil ?_
 exact ⟨(Cov.asg ⟨rfl, rfl, rfl, rfl, (congrArg D.b (Eq.symm (orS b194))), trivial⟩), (.refl _)⟩
 refine dG (OpA.m ⟨rfl, rfl⟩) ?_
 refine dG (OpA.fieldAddr rfl tf38_2 rfl ⟨rfl, rfl⟩) ?_
 refine dG (OpA.load rfl ti3 rfl .head rfl rfl ⟨rfl, rfl⟩) ?_
 refine dG (OpA.iixV (enc := encText) rfl ts22 rfl rfl rfl (q4 (notF b194)).1 ⟨rfl, rfl⟩) ?_
 refine dG (OpA.iload_whole rfl ti28 rfl ⟨_, rfl, rfl⟩ ⟨rfl, rfl⟩) ?_
 refine dG (OpA.fieldAddr rfl tf38_3 rfl ⟨rfl, rfl⟩) ?_
 refine dG (OpA.load rfl ti3 rfl .head rfl rfl ⟨rfl, rfl⟩) ?_
 refine dG (OpA.fieldAddr rfl tf38_4 rfl ⟨rfl, rfl⟩) ?_
 refine dG (OpA.load rfl ti3 rfl .head rfl rfl ⟨rfl, rfl⟩) ?_
 refine dG (OpA.call rfl rfl rfl en92 (kinside_c (gi l x.b) x.atB x.len (q4 (notF b194)).2 q3) (by rintro _ rfl; exact ⟨rfl, rfl⟩)) ?_
 refine dG (OpA.not rfl rfl ⟨rfl, rfl⟩) ?_
 refine dL (OpA.p ⟨rfl, rfl⟩) ?_
 refine DetK.nil ?_
 refine wpL_nil ?_
 exact ⟨(Cov.asg ⟨rfl, rfl, rfl, rfl, (congrArg D.b (Eq.symm (orN b194 rfl))), trivial⟩), (.refl _)⟩
 show wpA _ _ _ _ (asg [(0, (encL 2 encText) l), (2, D.i n), (4, .ptr c1 5 0 0), (6, D.i 0), (94, D.b ((!(insideT (gi l x.a) x.atA x.len)) || (!(insideT (gi l x.b) x.atB x.len))))]) [(c1, .cells 5 [encClone x])]
 refine wpA_cond rfl (fun b3 => ?_) (fun b3 => ?_)
 have h := h.1 ((or0 b3).imp (fun hh => (notT hh)) (fun hh => (notT hh)))
 refine wpA_seq ?_
 refine wpA_region ?_
 refine wL (OpA.a ?_)
 refine wpL_nil ?_
 refine wpA_ret ?_
 exact ⟨_, (.tmp (d := D.i 18) rfl .nil), _, (.same rfl .nil), ⟨18, rfl, h⟩⟩
 have h := h.2 ⟨(notF (or1 b3)), (notF (or2 b3))⟩
 refine wpA_skip ?_
 refine wpA_seq ?_
 obtain ⟨q3_0, q9_0, h⟩ := h
 refine wpA_states mo (fun W hW => ?_)
 refine flip_goal (a := ∀ (c134 : Nat) (c144 : Nat), W 0 (lv 16 65535) (asg [(2, D.i n), (4, .ptr c1 5 0 0), (6, D.i 0), (7, .ptr c134 1 0 0), (8, .ptr c144 1 0 0)]) [(c144, .cells 1 [(encL 2 encLex) ((gi l x.b).words)]), (c134, .cells 1 [(encL 2 encLex) ((gi l x.a).words)]), (c1, .cells 5 [encClone x])]) (fun s0 => ?_) ?_
 have s1 : ∀ (c134 : Nat) (c144 : Nat), W 1 (lv 16 32767) (asg [(2, D.i n), (4, .ptr c1 5 0 0), (6, D.i 0), (7, .ptr c134 1 0 0), (8, .ptr c144 1 0 0), (106, (encL 2 encLex) ((gi l x.b).words))]) [(c144, .cells 1 [.v (.slice none 0 0)]), (c134, .cells 1 [(encL 2 encLex) ((gi l x.a).words)]), (c1, .cells 5 [encClone x])] := fun c134 c144 => wpS_of hW (by refine wpS_step (rs := [15]) (by kernel_rfl) rfl ⟨?_, trivial⟩; refine wpS_eff (i := 15) (li' := (lv 16 65535)) rfl rfl rfl (by kernel_rfl) (OpA.storeW rfl ti26 rfl (by with_reducible conv => lhs; whnf) (.of rfl) rfl rfl .head ?_); exact wpS_to hW (s0 c134 c144) (Cov.asg ⟨rfl, rfl, rfl, rfl, rfl, trivial⟩) (.refl _))
 have s2 : ∀ (c134 : Nat) (c144 : Nat), W 2 (lv 16 16383) (asg [(2, D.i n), (4, .ptr c1 5 0 0), (6, D.i 0), (7, .ptr c134 1 0 0), (8, .ptr c144 1 0 0), (100, (encL 2 encLex) ((gi l x.a).words)), (106, (encL 2 encLex) ((gi l x.b).words))]) [(c144, .cells 1 [.v (.slice none 0 0)]), (c134, .cells 1 [.v (.slice none 0 0)]), (c1, .cells 5 [encClone x])] := fun c134 c144 => wpS_of hW (by refine wpS_step (rs := [14]) (by kernel_rfl) rfl ⟨?_, trivial⟩; refine wpS_eff (i := 14) (li' := (lv 16 32767)) rfl rfl rfl (by kernel_rfl) (OpA.storeW rfl ti26 rfl (by with_reducible conv => lhs; whnf) (.of rfl) rfl rfl (.tail .head) ?_); exact wpS_to hW (s1 c134 c144) (Cov.asg ⟨rfl, rfl, rfl, rfl, rfl, rfl, trivial⟩) (.refl _))
 have s3 : ∀ (c134 : Nat) (c144 : Nat), W 2 (lv 16 30719) (asg [(2, D.i n), (4, .ptr c1 5 0 0), (6, D.i 0), (7, .ptr c134 1 0 0), (8, .ptr c144 1 0 0), (105, .iptr (encText (gi l x.b)) 1)]) [(c144, .cells 1 [.v (.slice none 0 0)]), (c134, .cells 1 [(encL 2 encLex) ((gi l x.a).words)]), (c1, .cells 5 [encClone x])] := fun c134 c144 => wpS_of hW (by refine wpS_step (rs := [11]) (by kernel_rfl) rfl ⟨?_, trivial⟩; refine wpS_op (i := 11) (li' := (lv 16 32767)) rfl rfl rfl rfl (by kernel_rfl) (OpA.iload rfl ti26 rfl rfl ?_); exact wpS_to hW (s1 c134 c144) (Cov.asg ⟨rfl, rfl, rfl, rfl, rfl, rfl, trivial⟩) (.refl _))
 have s4 : ∀ (c134 : Nat), W 3 (lv 16 8191) (asg [(2, D.i n), (4, .ptr c1 5 0 0), (6, D.i 0), (7, .ptr c134 1 0 0), (100, (encL 2 encLex) ((gi l x.a).words)), (106, (encL 2 encLex) ((gi l x.b).words))]) [(c134, .cells 1 [.v (.slice none 0 0)]), (c1, .cells 5 [encClone x])] := fun c134 => wpS_of hW (by refine wpS_step (rs := [13]) (by kernel_rfl) rfl ⟨?_, trivial⟩; refine wpS_op (i := 13) (li' := (lv 16 16383)) rfl rfl rfl rfl (by kernel_rfl) (OpA.alloc (sz := 1) (d := .v (.slice none 0 0)) rfl tz26 (fun _ _ => .v _) (.of rfl) (fun c144 _ => ?_)); exact wpS_to hW (s2 c134 c144) (Cov.asg ⟨rfl, rfl, rfl, rfl, rfl, rfl, rfl, trivial⟩) (.refl _))
 have s5 : ∀ (c144 : Nat), W 3 (lv 16 12287) (asg [(2, D.i n), (4, .ptr c1 5 0 0), (6, D.i 0), (8, .ptr c144 1 0 0), (100, (encL 2 encLex) ((gi l x.a).words)), (106, (encL 2 encLex) ((gi l x.b).words))]) [(c144, .cells 1 [.v (.slice none 0 0)]), (c1, .cells 5 [encClone x])] := fun c144 => wpS_of hW (by refine wpS_step (rs := [12]) (by kernel_rfl) rfl ⟨?_, trivial⟩; refine wpS_op (i := 12) (li' := (lv 16 16383)) rfl rfl rfl rfl (by kernel_rfl) (OpA.alloc (sz := 1) (d := .v (.slice none 0 0)) rfl tz26 (fun _ _ => .v _) (.of rfl) (fun c134 _ => ?_)); exact wpS_to hW (s2 c134 c144) (Cov.asg ⟨rfl, rfl, rfl, rfl, rfl, rfl, rfl, trivial⟩) pull1)
 have s6 : ∀ (c134 : Nat) (c144 : Nat), W 3 (lv 16 14335) (asg [(2, D.i n), (4, .ptr c1 5 0 0), (6, D.i 0), (7, .ptr c134 1 0 0), (8, .ptr c144 1 0 0), (100, (encL 2 encLex) ((gi l x.a).words)), (105, .iptr (encText (gi l x.b)) 1)]) [(c144, .cells 1 [.v (.slice none 0 0)]), (c134, .cells 1 [.v (.slice none 0 0)]), (c1, .cells 5 [encClone x])] := fun c134 c144 => wpS_of hW (by refine wpS_step (rs := [11, 14]) (by kernel_rfl) rfl ⟨?_, ?_, trivial⟩; refine wpS_op (i := 11) (li' := (lv 16 16383)) rfl rfl rfl rfl (by kernel_rfl) (OpA.iload rfl ti26 rfl rfl ?_); exact wpS_to hW (s2 c134 c144) (Cov.asg ⟨rfl, rfl, rfl, rfl, rfl, rfl, rfl, trivial⟩) (.refl _); refine wpS_eff (i := 14) (li' := (lv 16 30719)) rfl rfl rfl (by kernel_rfl) (OpA.storeW rfl ti26 rfl (by with_reducible conv => lhs; whnf) (.of rfl) rfl rfl (.tail .head) ?_); exact wpS_to hW (s3 c134 c144) (Cov.asg ⟨rfl, rfl, rfl, rfl, rfl, rfl, trivial⟩) (.refl _))
 have s7 : ∀ (c134 : Nat) (c144 : Nat), W 3 (lv 16 16351) (asg [(2, D.i n), (4, .ptr c1 5 0 0), (6, D.i 0), (7, .ptr c134 1 0 0), (8, .ptr c144 1 0 0), (99, .iptr (encText (gi l x.a)) 1), (106, (encL 2 encLex) ((gi l x.b).words))]) [(c144, .cells 1 [.v (.slice none 0 0)]), (c134, .cells 1 [.v (.slice none 0 0)]), (c1, .cells 5 [encClone x])] := fun c134 c144 => wpS_of hW (by refine wpS_step (rs := [5]) (by kernel_rfl) rfl ⟨?_, trivial⟩; refine wpS_op (i := 5) (li' := (lv 16 16383)) rfl rfl rfl rfl (by kernel_rfl) (OpA.iload rfl ti26 rfl rfl ?_); exact wpS_to hW (s2 c134 c144) (Cov.asg ⟨rfl, rfl, rfl, rfl, rfl, rfl, rfl, trivial⟩) (.refl _))
 have s8 : W 4 (lv 16 4095) (asg [(2, D.i n), (4, .ptr c1 5 0 0), (6, D.i 0), (100, (encL 2 encLex) ((gi l x.a).words)), (106, (encL 2 encLex) ((gi l x.b).words))]) [(c1, .cells 5 [encClone x])] := wpS_of hW (by refine wpS_step (rs := [12, 13]) (by kernel_rfl) rfl ⟨?_, ?_, trivial⟩; refine wpS_op (i := 12) (li' := (lv 16 8191)) rfl rfl rfl rfl (by kernel_rfl) (OpA.alloc (sz := 1) (d := .v (.slice none 0 0)) rfl tz26 (fun _ _ => .v _) (.of rfl) (fun c134 _ => ?_)); exact wpS_to hW (s4 c134) (Cov.asg ⟨rfl, rfl, rfl, rfl, rfl, rfl, trivial⟩) (.refl _); refine wpS_op (i := 13) (li' := (lv 16 12287)) rfl rfl rfl rfl (by kernel_rfl) (OpA.alloc (sz := 1) (d := .v (.slice none 0 0)) rfl tz26 (fun _ _ => .v _) (.of rfl) (fun c144 _ => ?_)); exact wpS_to hW (s5 c144) (Cov.asg ⟨rfl, rfl, rfl, rfl, rfl, rfl, trivial⟩) (.refl _))
 have s9 : ∀ (c134 : Nat), W 4 (lv 16 6143) (asg [(2, D.i n), (4, .ptr c1 5 0 0), (6, D.i 0), (7, .ptr c134 1 0 0), (100, (encL 2 encLex) ((gi l x.a).words)), (105, .iptr (encText (gi l x.b)) 1)]) [(c134, .cells 1 [.v (.slice none 0 0)]), (c1, .cells 5 [encClone x])] := fun c134 => wpS_of hW (by refine wpS_step (rs := [11, 13]) (by kernel_rfl) rfl ⟨?_, ?_, trivial⟩; refine wpS_op (i := 11) (li' := (lv 16 8191)) rfl rfl rfl rfl (by kernel_rfl) (OpA.iload rfl ti26 rfl rfl ?_); exact wpS_to hW (s4 c134) (Cov.asg ⟨rfl, rfl, rfl, rfl, rfl, rfl, trivial⟩) (.refl _); refine wpS_op (i := 13) (li' := (lv 16 14335)) rfl rfl rfl rfl (by kernel_rfl) (OpA.alloc (sz := 1) (d := .v (.slice none 0 0)) rfl tz26 (fun _ _ => .v _) (.of rfl) (fun c144 _ => ?_)); exact wpS_to hW (s6 c134 c144) (Cov.asg ⟨rfl, rfl, rfl, rfl, rfl, rfl, rfl, trivial⟩) (.refl _))
 have s10 : ∀ (c144 : Nat), W 4 (lv 16 10239) (asg [(2, D.i n), (4, .ptr c1 5 0 0), (6, D.i 0), (8, .ptr c144 1 0 0), (100, (encL 2 encLex) ((gi l x.a).words)), (105, .iptr (encText (gi l x.b)) 1)]) [(c144, .cells 1 [.v (.slice none 0 0)]), (c1, .cells 5 [encClone x])] := fun c144 => wpS_of hW (by refine wpS_step (rs := [11, 12]) (by kernel_rfl) rfl ⟨?_, ?_, trivial⟩; refine wpS_op (i := 11) (li' := (lv 16 12287)) rfl rfl rfl rfl (by kernel_rfl) (OpA.iload rfl ti26 rfl rfl ?_); exact wpS_to hW (s5 c144) (Cov.asg ⟨rfl, rfl, rfl, rfl, rfl, rfl, trivial⟩) (.refl _); refine wpS_op (i := 12) (li' := (lv 16 14335)) rfl rfl rfl rfl (by kernel_rfl) (OpA.alloc (sz := 1) (d := .v (.slice none 0 0)) rfl tz26 (fun _ _ => .v _) (.of rfl) (fun c134 _ => ?_)); exact wpS_to hW (s6 c134 c144) (Cov.asg ⟨rfl, rfl, rfl, rfl, rfl, rfl, rfl, trivial⟩) pull1)
 have s11 : ∀ (c134 : Nat), W 4 (lv 16 8159) (asg [(2, D.i n), (4, .ptr c1 5 0 0), (6, D.i 0), (7, .ptr c134 1 0 0), (99, .iptr (encText (gi l x.a)) 1), (106, (encL 2 encLex) ((gi l x.b).words))]) [(c134, .cells 1 [.v (.slice none 0 0)]), (c1, .cells 5 [encClone x])] := fun c134 => wpS_of hW (by refine wpS_step (rs := [5, 13]) (by kernel_rfl) rfl ⟨?_, ?_, trivial⟩; refine wpS_op (i := 5) (li' := (lv 16 8191)) rfl rfl rfl rfl (by kernel_rfl) (OpA.iload rfl ti26 rfl rfl ?_); exact wpS_to hW (s4 c134) (Cov.asg ⟨rfl, rfl, rfl, rfl, rfl, rfl, trivial⟩) (.refl _); refine wpS_op (i := 13) (li' := (lv 16 16351)) rfl rfl rfl rfl (by kernel_rfl) (OpA.alloc (sz := 1) (d := .v (.slice none 0 0)) rfl tz26 (fun _ _ => .v _) (.of rfl) (fun c144 _ => ?_)); exact wpS_to hW (s7 c134 c144) (Cov.asg ⟨rfl, rfl, rfl, rfl, rfl, rfl, rfl, trivial⟩) (.refl _))
 have s12 : ∀ (c144 : Nat), W 4 (lv 16 12255) (asg [(2, D.i n), (4, .ptr c1 5 0 0), (6, D.i 0), (8, .ptr c144 1 0 0), (99, .iptr (encText (gi l x.a)) 1), (106, (encL 2 encLex) ((gi l x.b).words))]) [(c144, .cells 1 [.v (.slice none 0 0)]), (c1, .cells 5 [encClone x])] := fun c144 => wpS_of hW (by refine wpS_step (rs := [5, 12]) (by kernel_rfl) rfl ⟨?_, ?_, trivial⟩; refine wpS_op (i := 5) (li' := (lv 16 12287)) rfl rfl rfl rfl (by kernel_rfl) (OpA.iload rfl ti26 rfl rfl ?_); exact wpS_to hW (s5 c144) (Cov.asg ⟨rfl, rfl, rfl, rfl, rfl, rfl, trivial⟩) (.refl _); refine wpS_op (i := 12) (li' := (lv 16 16351)) rfl rfl rfl rfl (by kernel_rfl) (OpA.alloc (sz := 1) (d := .v (.slice none 0 0)) rfl tz26 (fun _ _ => .v _) (.of rfl) (fun c134 _ => ?_)); exact wpS_to hW (s7 c134 c144) (Cov.asg ⟨rfl, rfl, rfl, rfl, rfl, rfl, rfl, trivial⟩) pull1)
 have s13 : ∀ (c134 : Nat) (c144 : Nat), W 4 (lv 16 14303) (asg [(2, D.i n), (4, .ptr c1 5 0 0), (6, D.i 0), (7, .ptr c134 1 0 0), (8, .ptr c144 1 0 0), (99, .iptr (encText (gi l x.a)) 1), (105, .iptr (encText (gi l x.b)) 1)]) [(c144, .cells 1 [.v (.slice none 0 0)]), (c134, .cells 1 [.v (.slice none 0 0)]), (c1, .cells 5 [encClone x])] := fun c134 c144 => wpS_of hW (by refine wpS_step (rs := [5, 11]) (by kernel_rfl) rfl ⟨?_, ?_, trivial⟩; refine wpS_op (i := 5) (li' := (lv 16 14335)) rfl rfl rfl rfl (by kernel_rfl) (OpA.iload rfl ti26 rfl rfl ?_); exact wpS_to hW (s6 c134 c144) (Cov.asg ⟨rfl, rfl, rfl, rfl, rfl, rfl, rfl, trivial⟩) (.refl _); refine wpS_op (i := 11) (li' := (lv 16 16351)) rfl rfl rfl rfl (by kernel_rfl) (OpA.iload rfl ti26 rfl rfl ?_); exact wpS_to hW (s7 c134 c144) (Cov.asg ⟨rfl, rfl, rfl, rfl, rfl, rfl, rfl, trivial⟩) (.refl _))
 have s14 : W 5 (lv 16 2047) (asg [(2, D.i n), (4, .ptr c1 5 0 0), (6, D.i 0), (100, (encL 2 encLex) ((gi l x.a).words)), (105, .iptr (encText (gi l x.b)) 1)]) [(c1, .cells 5 [encClone x])] := wpS_of hW (by refine wpS_step (rs := [11, 12, 13]) (by kernel_rfl) rfl ⟨?_, ?_, ?_, trivial⟩; refine wpS_op (i := 11) (li' := (lv 16 4095)) rfl rfl rfl rfl (by kernel_rfl) (OpA.iload rfl ti26 rfl rfl ?_); exact wpS_to hW (s8) (Cov.asg ⟨rfl, rfl, rfl, rfl, rfl, trivial⟩) (.refl _); refine wpS_op (i := 12) (li' := (lv 16 6143)) rfl rfl rfl rfl (by kernel_rfl) (OpA.alloc (sz := 1) (d := .v (.slice none 0 0)) rfl tz26 (fun _ _ => .v _) (.of rfl) (fun c134 _ => ?_)); exact wpS_to hW (s9 c134) (Cov.asg ⟨rfl, rfl, rfl, rfl, rfl, rfl, trivial⟩) (.refl _); refine wpS_op (i := 13) (li' := (lv 16 10239)) rfl rfl rfl rfl (by kernel_rfl) (OpA.alloc (sz := 1) (d := .v (.slice none 0 0)) rfl tz26 (fun _ _ => .v _) (.of rfl) (fun c144 _ => ?_)); exact wpS_to hW (s10 c144) (Cov.asg ⟨rfl, rfl, rfl, rfl, rfl, rfl, trivial⟩) (.refl _))
 have s15 : ∀ (c134 : Nat) (c144 : Nat), W 5 (lv 16 28927) (asg [(2, D.i n), (4, .ptr c1 5 0 0), (6, D.i 0), (7, .ptr c134 1 0 0), (8, .ptr c144 1 0 0), (101, (encL 2 encText) l), (102, .ptr c1 5 0 2)]) [(c144, .cells 1 [.v (.slice none 0 0)]), (c134, .cells 1 [(encL 2 encLex) ((gi l x.a).words)]), (c1, .cells 5 [encClone x])] := fun c134 c144 => wpS_of hW (by refine wpS_step (rs := [8]) (by kernel_rfl) rfl ⟨?_, trivial⟩; refine wpS_op (i := 8) (li' := (lv 16 29183)) rfl rfl rfl rfl (by kernel_rfl) (OpA.load rfl ti3 rfl (.tail (.tail .head)) rfl rfl ?_); refine wpS_firstY (fuel := 3) (i := 9) (li' := (lv 16 29695)) rfl rfl (.iix (enc := encText) rfl ts22 rfl rfl rfl q9_0) rfl rfl (by kernel_rfl) (by kernel_rfl) (by kernel_rfl) (fun _ _ _ hx => hx) rfl rfl (by kernel_rfl) ?_; refine wpS_firstY (fuel := 2) (i := 10) (li' := (lv 16 30719)) rfl rfl (.ifieldAddr rfl tf28_1 rfl) rfl rfl (by kernel_rfl) (by kernel_rfl) (by kernel_rfl) (fun _ _ _ hx => hx) rfl rfl (by kernel_rfl) ?_; exact wpS_to hW (s3 c134 c144) (Cov.asg ⟨rfl, rfl, rfl, rfl, rfl, rfl, trivial⟩) (.refl _))
 have s16 : W 5 (lv 16 4063) (asg [(2, D.i n), (4, .ptr c1 5 0 0), (6, D.i 0), (99, .iptr (encText (gi l x.a)) 1), (106, (encL 2 encLex) ((gi l x.b).words))]) [(c1, .cells 5 [encClone x])] := wpS_of hW (by refine wpS_step (rs := [5, 12, 13]) (by kernel_rfl) rfl ⟨?_, ?_, ?_, trivial⟩; refine wpS_op (i := 5) (li' := (lv 16 4095)) rfl rfl rfl rfl (by kernel_rfl) (OpA.iload rfl ti26 rfl rfl ?_); exact wpS_to hW (s8) (Cov.asg ⟨rfl, rfl, rfl, rfl, rfl, trivial⟩) (.refl _); refine wpS_op (i := 12) (li' := (lv 16 8159)) rfl rfl rfl rfl (by kernel_rfl) (OpA.alloc (sz := 1) (d := .v (.slice none 0 0)) rfl tz26 (fun _ _ => .v _) (.of rfl) (fun c134 _ => ?_)); exact wpS_to hW (s11 c134) (Cov.asg ⟨rfl, rfl, rfl, rfl, rfl, rfl, trivial⟩) (.refl _); refine wpS_op (i := 13) (li' := (lv 16 12255)) rfl rfl rfl rfl (by kernel_rfl) (OpA.alloc (sz := 1) (d := .v (.slice none 0 0)) rfl tz26 (fun _ _ => .v _) (.of rfl) (fun c144 _ => ?_)); exact wpS_to hW (s12 c144) (Cov.asg ⟨rfl, rfl, rfl, rfl, rfl, rfl, trivial⟩) (.refl _))
 have s17 : ∀ (c134 : Nat), W 5 (lv 16 6111) (asg [(2, D.i n), (4, .ptr c1 5 0 0), (6, D.i 0), (7, .ptr c134 1 0 0), (99, .iptr (encText (gi l x.a)) 1), (105, .iptr (encText (gi l x.b)) 1)]) [(c134, .cells 1 [.v (.slice none 0 0)]), (c1, .cells 5 [encClone x])] := fun c134 => wpS_of hW (by refine wpS_step (rs := [5, 11, 13]) (by kernel_rfl) rfl ⟨?_, ?_, ?_, trivial⟩; refine wpS_op (i := 5) (li' := (lv 16 6143)) rfl rfl rfl rfl (by kernel_rfl) (OpA.iload rfl ti26 rfl rfl ?_); exact wpS_to hW (s9 c134) (Cov.asg ⟨rfl, rfl, rfl, rfl, rfl, rfl, trivial⟩) (.refl _); refine wpS_op (i := 11) (li' := (lv 16 8159)) rfl rfl rfl rfl (by kernel_rfl) (OpA.iload rfl ti26 rfl rfl ?_); exact wpS_to hW (s11 c134) (Cov.asg ⟨rfl, rfl, rfl, rfl, rfl, rfl, trivial⟩) (.refl _); refine wpS_op (i := 13) (li' := (lv 16 14303)) rfl rfl rfl rfl (by kernel_rfl) (OpA.alloc (sz := 1) (d := .v (.slice none 0 0)) rfl tz26 (fun _ _ => .v _) (.of rfl) (fun c144 _ => ?_)); exact wpS_to hW (s13 c134 c144) (Cov.asg ⟨rfl, rfl, rfl, rfl, rfl, rfl, rfl, trivial⟩) (.refl _))
 have s18 : ∀ (c144 : Nat), W 5 (lv 16 10207) (asg [(2, D.i n), (4, .ptr c1 5 0 0), (6, D.i 0), (8, .ptr c144 1 0 0), (99, .iptr (encText (gi l x.a)) 1), (105, .iptr (encText (gi l x.b)) 1)]) [(c144, .cells 1 [.v (.slice none 0 0)]), (c1, .cells 5 [encClone x])] := fun c144 => wpS_of hW (by refine wpS_step (rs := [5, 11, 12]) (by kernel_rfl) rfl ⟨?_, ?_, ?_, trivial⟩; refine wpS_op (i := 5) (li' := (lv 16 10239)) rfl rfl rfl rfl (by kernel_rfl) (OpA.iload rfl ti26 rfl rfl ?_); exact wpS_to hW (s10 c144) (Cov.asg ⟨rfl, rfl, rfl, rfl, rfl, rfl, trivial⟩) (.refl _); refine wpS_op (i := 11) (li' := (lv 16 12255)) rfl rfl rfl rfl (by kernel_rfl) (OpA.iload rfl ti26 rfl rfl ?_); exact wpS_to hW (s12 c144) (Cov.asg ⟨rfl, rfl, rfl, rfl, rfl, rfl, trivial⟩) (.refl _); refine wpS_op (i := 12) (li' := (lv 16 14303)) rfl rfl rfl rfl (by kernel_rfl) (OpA.alloc (sz := 1) (d := .v (.slice none 0 0)) rfl tz26 (fun _ _ => .v _) (.of rfl) (fun c134 _ => ?_)); exact wpS_to hW (s13 c134 c144) (Cov.asg ⟨rfl, rfl, rfl, rfl, rfl, rfl, rfl, trivial⟩) pull1)
 have s19 : ∀ (c134 : Nat) (c144 : Nat), W 6 (lv 16 12543) (asg [(2, D.i n), (4, .ptr c1 5 0 0), (6, D.i 0), (7, .ptr c134 1 0 0), (8, .ptr c144 1 0 0), (100, (encL 2 encLex) ((gi l x.a).words)), (101, (encL 2 encText) l), (102, .ptr c1 5 0 2)]) [(c144, .cells 1 [.v (.slice none 0 0)]), (c134, .cells 1 [.v (.slice none 0 0)]), (c1, .cells 5 [encClone x])] := fun c134 c144 => wpS_of hW (by refine wpS_step (rs := [8, 14]) (by kernel_rfl) rfl ⟨?_, ?_, trivial⟩; refine wpS_op (i := 8) (li' := (lv 16 12799)) rfl rfl rfl rfl (by kernel_rfl) (OpA.load rfl ti3 rfl (.tail (.tail .head)) rfl rfl ?_); refine wpS_firstY (fuel := 4) (i := 9) (li' := (lv 16 13311)) rfl rfl (.iix (enc := encText) rfl ts22 rfl rfl rfl q9_0) rfl rfl (by kernel_rfl) (by kernel_rfl) (by kernel_rfl) (fun _ _ _ hx => hx) rfl rfl (by kernel_rfl) ?_; refine wpS_firstY (fuel := 3) (i := 10) (li' := (lv 16 14335)) rfl rfl (.ifieldAddr rfl tf28_1 rfl) rfl rfl (by kernel_rfl) (by kernel_rfl) (by kernel_rfl) (fun _ _ _ hx => hx) rfl rfl (by kernel_rfl) ?_; exact wpS_to hW (s6 c134 c144) (Cov.asg ⟨rfl, rfl, rfl, rfl, rfl, rfl, rfl, trivial⟩) (.refl _); refine wpS_eff (i := 14) (li' := (lv 16 28927)) rfl rfl rfl (by kernel_rfl) (OpA.storeW rfl ti26 rfl (by with_reducible conv => lhs; whnf) (.of rfl) rfl rfl (.tail .head) ?_); exact wpS_to hW (s15 c134 c144) (Cov.asg ⟨rfl, rfl, rfl, rfl, rfl, rfl, rfl, trivial⟩) (.refl _))
 have s20 : W 6 (lv 16 2015) (asg [(2, D.i n), (4, .ptr c1 5 0 0), (6, D.i 0), (99, .iptr (encText (gi l x.a)) 1), (105, .iptr (encText (gi l x.b)) 1)]) [(c1, .cells 5 [encClone x])] := wpS_of hW (by refine wpS_step (rs := [5, 11, 12, 13]) (by kernel_rfl) rfl ⟨?_, ?_, ?_, ?_, trivial⟩; refine wpS_op (i := 5) (li' := (lv 16 2047)) rfl rfl rfl rfl (by kernel_rfl) (OpA.iload rfl ti26 rfl rfl ?_); exact wpS_to hW (s14) (Cov.asg ⟨rfl, rfl, rfl, rfl, rfl, trivial⟩) (.refl _); refine wpS_op (i := 11) (li' := (lv 16 4063)) rfl rfl rfl rfl (by kernel_rfl) (OpA.iload rfl ti26 rfl rfl ?_); exact wpS_to hW (s16) (Cov.asg ⟨rfl, rfl, rfl, rfl, rfl, trivial⟩) (.refl _); refine wpS_op (i := 12) (li' := (lv 16 6111)) rfl rfl rfl rfl (by kernel_rfl) (OpA.alloc (sz := 1) (d := .v (.slice none 0 0)) rfl tz26 (fun _ _ => .v _) (.of rfl) (fun c134 _ => ?_)); exact wpS_to hW (s17 c134) (Cov.asg ⟨rfl, rfl, rfl, rfl, rfl, rfl, trivial⟩) (.refl _); refine wpS_op (i := 13) (li' := (lv 16 10207)) rfl rfl rfl rfl (by kernel_rfl) (OpA.alloc (sz := 1) (d := .v (.slice none 0 0)) rfl tz26 (fun _ _ => .v _) (.of rfl) (fun c144 _ => ?_)); exact wpS_to hW (s18 c144) (Cov.asg ⟨rfl, rfl, rfl, rfl, rfl, rfl, trivial⟩) (.refl _))
 have s21 : ∀ (c134 : Nat) (c144 : Nat), W 6 (lv 16 16323) (asg [(2, D.i n), (4, .ptr c1 5 0 0), (6, D.i 0), (7, .ptr c134 1 0 0), (8, .ptr c144 1 0 0), (95, (encL 2 encText) l), (96, .ptr c1 5 0 0), (106, (encL 2 encLex) ((gi l x.b).words))]) [(c144, .cells 1 [.v (.slice none 0 0)]), (c134, .cells 1 [.v (.slice none 0 0)]), (c1, .cells 5 [encClone x])] := fun c134 c144 => wpS_of hW (by refine wpS_step (rs := [2]) (by kernel_rfl) rfl ⟨?_, trivial⟩; refine wpS_op (i := 2) (li' := (lv 16 16327)) rfl rfl rfl rfl (by kernel_rfl) (OpA.load rfl ti3 rfl (.tail (.tail .head)) rfl rfl ?_); refine wpS_firstY (fuel := 4) (i := 3) (li' := (lv 16 16335)) rfl rfl (.iix (enc := encText) rfl ts22 rfl rfl rfl q3_0) rfl rfl (by kernel_rfl) (by kernel_rfl) (by kernel_rfl) (fun _ _ _ hx => hx) rfl rfl (by kernel_rfl) ?_; refine wpS_firstY (fuel := 3) (i := 4) (li' := (lv 16 16351)) rfl rfl (.ifieldAddr rfl tf28_1 rfl) rfl rfl (by kernel_rfl) (by kernel_rfl) (by kernel_rfl) (fun _ _ _ hx => hx) rfl rfl (by kernel_rfl) ?_; exact wpS_to hW (s7 c134 c144) (Cov.asg ⟨rfl, rfl, rfl, rfl, rfl, rfl, rfl, trivial⟩) (.refl _))
 have s22 : ∀ (c134 : Nat), W 7 (lv 16 4351) (asg [(2, D.i n), (4, .ptr c1 5 0 0), (6, D.i 0), (7, .ptr c134 1 0 0), (100, (encL 2 encLex) ((gi l x.a).words)), (101, (encL 2 encText) l), (102, .ptr c1 5 0 2)]) [(c134, .cells 1 [.v (.slice none 0 0)]), (c1, .cells 5 [encClone x])] := fun c134 => wpS_of hW (by refine wpS_step (rs := [8, 13]) (by kernel_rfl) rfl ⟨?_, ?_, trivial⟩; refine wpS_op (i := 8) (li' := (lv 16 4607)) rfl rfl rfl rfl (by kernel_rfl) (OpA.load rfl ti3 rfl (.tail .head) rfl rfl ?_); refine wpS_firstY (fuel := 5) (i := 9) (li' := (lv 16 5119)) rfl rfl (.iix (enc := encText) rfl ts22 rfl rfl rfl q9_0) rfl rfl (by kernel_rfl) (by kernel_rfl) (by kernel_rfl) (fun _ _ _ hx => hx) rfl rfl (by kernel_rfl) ?_; refine wpS_firstY (fuel := 4) (i := 10) (li' := (lv 16 6143)) rfl rfl (.ifieldAddr rfl tf28_1 rfl) rfl rfl (by kernel_rfl) (by kernel_rfl) (by kernel_rfl) (fun _ _ _ hx => hx) rfl rfl (by kernel_rfl) ?_; exact wpS_to hW (s9 c134) (Cov.asg ⟨rfl, rfl, rfl, rfl, rfl, rfl, trivial⟩) (.refl _); refine wpS_op (i := 13) (li' := (lv 16 12543)) rfl rfl rfl rfl (by kernel_rfl) (OpA.alloc (sz := 1) (d := .v (.slice none 0 0)) rfl tz26 (fun _ _ => .v _) (.of rfl) (fun c144 _ => ?_)); exact wpS_to hW (s19 c134 c144) (Cov.asg ⟨rfl, rfl, rfl, rfl, rfl, rfl, rfl, rfl, trivial⟩) (.refl _))
 have s23 : ∀ (c144 : Nat), W 7 (lv 16 8447) (asg [(2, D.i n), (4, .ptr c1 5 0 0), (6, D.i 0), (8, .ptr c144 1 0 0), (100, (encL 2 encLex) ((gi l x.a).words)), (101, (encL 2 encText) l), (102, .ptr c1 5 0 2)]) [(c144, .cells 1 [.v (.slice none 0 0)]), (c1, .cells 5 [encClone x])] := fun c144 => wpS_of hW (by refine wpS_step (rs := [8, 12]) (by kernel_rfl) rfl ⟨?_, ?_, trivial⟩; refine wpS_op (i := 8) (li' := (lv 16 8703)) rfl rfl rfl rfl (by kernel_rfl) (OpA.load rfl ti3 rfl (.tail .head) rfl rfl ?_); refine wpS_firstY (fuel := 5) (i := 9) (li' := (lv 16 9215)) rfl rfl (.iix (enc := encText) rfl ts22 rfl rfl rfl q9_0) rfl rfl (by kernel_rfl) (by kernel_rfl) (by kernel_rfl) (fun _ _ _ hx => hx) rfl rfl (by kernel_rfl) ?_; refine wpS_firstY (fuel := 4) (i := 10) (li' := (lv 16 10239)) rfl rfl (.ifieldAddr rfl tf28_1 rfl) rfl rfl (by kernel_rfl) (by kernel_rfl) (by kernel_rfl) (fun _ _ _ hx => hx) rfl rfl (by kernel_rfl) ?_; exact wpS_to hW (s10 c144) (Cov.asg ⟨rfl, rfl, rfl, rfl, rfl, rfl, trivial⟩) (.refl _); refine wpS_op (i := 12) (li' := (lv 16 12543)) rfl rfl rfl rfl (by kernel_rfl) (OpA.alloc (sz := 1) (d := .v (.slice none 0 0)) rfl tz26 (fun _ _ => .v _) (.of rfl) (fun c134 _ => ?_)); exact wpS_to hW (s19 c134 c144) (Cov.asg ⟨rfl, rfl, rfl, rfl, rfl, rfl, rfl, rfl, trivial⟩) pull1)
 have s24 : ∀ (c134 : Nat) (c144 : Nat), W 7 (lv 16 12511) (asg [(2, D.i n), (4, .ptr c1 5 0 0), (6, D.i 0), (7, .ptr c134 1 0 0), (8, .ptr c144 1 0 0), (99, .iptr (encText (gi l x.a)) 1), (101, (encL 2 encText) l), (102, .ptr c1 5 0 2)]) [(c144, .cells 1 [.v (.slice none 0 0)]), (c134, .cells 1 [.v (.slice none 0 0)]), (c1, .cells 5 [encClone x])] := fun c134 c144 => wpS_of hW (by refine wpS_step (rs := [5, 8]) (by kernel_rfl) rfl ⟨?_, ?_, trivial⟩; refine wpS_op (i := 5) (li' := (lv 16 12543)) rfl rfl rfl rfl (by kernel_rfl) (OpA.iload rfl ti26 rfl rfl ?_); exact wpS_to hW (s19 c134 c144) (Cov.asg ⟨rfl, rfl, rfl, rfl, rfl, rfl, rfl, rfl, trivial⟩) (.refl _); refine wpS_op (i := 8) (li' := (lv 16 12767)) rfl rfl rfl rfl (by kernel_rfl) (OpA.load rfl ti3 rfl (.tail (.tail .head)) rfl rfl ?_); refine wpS_firstY (fuel := 5) (i := 9) (li' := (lv 16 13279)) rfl rfl (.iix (enc := encText) rfl ts22 rfl rfl rfl q9_0) rfl rfl (by kernel_rfl) (by kernel_rfl) (by kernel_rfl) (fun _ _ _ hx => hx) rfl rfl (by kernel_rfl) ?_; refine wpS_firstY (fuel := 4) (i := 10) (li' := (lv 16 14303)) rfl rfl (.ifieldAddr rfl tf28_1 rfl) rfl rfl (by kernel_rfl) (by kernel_rfl) (by kernel_rfl) (fun _ _ _ hx => hx) rfl rfl (by kernel_rfl) ?_; exact wpS_to hW (s13 c134 c144) (Cov.asg ⟨rfl, rfl, rfl, rfl, rfl, rfl, rfl, trivial⟩) (.refl _))
 have s25 : ∀ (c134 : Nat), W 7 (lv 16 8131) (asg [(2, D.i n), (4, .ptr c1 5 0 0), (6, D.i 0), (7, .ptr c134 1 0 0), (95, (encL 2 encText) l), (96, .ptr c1 5 0 0), (106, (encL 2 encLex) ((gi l x.b).words))]) [(c134, .cells 1 [.v (.slice none 0 0)]), (c1, .cells 5 [encClone x])] := fun c134 => wpS_of hW (by refine wpS_step (rs := [2, 13]) (by kernel_rfl) rfl ⟨?_, ?_, trivial⟩; refine wpS_op (i := 2) (li' := (lv 16 8135)) rfl rfl rfl rfl (by kernel_rfl) (OpA.load rfl ti3 rfl (.tail .head) rfl rfl ?_); refine wpS_firstY (fuel := 5) (i := 3) (li' := (lv 16 8143)) rfl rfl (.iix (enc := encText) rfl ts22 rfl rfl rfl q3_0) rfl rfl (by kernel_rfl) (by kernel_rfl) (by kernel_rfl) (fun _ _ _ hx => hx) rfl rfl (by kernel_rfl) ?_; refine wpS_firstY (fuel := 4) (i := 4) (li' := (lv 16 8159)) rfl rfl (.ifieldAddr rfl tf28_1 rfl) rfl rfl (by kernel_rfl) (by kernel_rfl) (by kernel_rfl) (fun _ _ _ hx => hx) rfl rfl (by kernel_rfl) ?_; exact wpS_to hW (s11 c134) (Cov.asg ⟨rfl, rfl, rfl, rfl, rfl, rfl, trivial⟩) (.refl _); refine wpS_op (i := 13) (li' := (lv 16 16323)) rfl rfl rfl rfl (by kernel_rfl) (OpA.alloc (sz := 1) (d := .v (.slice none 0 0)) rfl tz26 (fun _ _ => .v _) (.of rfl) (fun c144 _ => ?_)); exact wpS_to hW (s21 c134 c144) (Cov.asg ⟨rfl, rfl, rfl, rfl, rfl, rfl, rfl, rfl, trivial⟩) (.refl _))
 have s26 : ∀ (c144 : Nat), W 7 (lv 16 12227) (asg [(2, D.i n), (4, .ptr c1 5 0 0), (6, D.i 0), (8, .ptr c144 1 0 0), (95, (encL 2 encText) l), (96, .ptr c1 5 0 0), (106, (encL 2 encLex) ((gi l x.b).words))]) [(c144, .cells 1 [.v (.slice none 0 0)]), (c1, .cells 5 [encClone x])] := fun c144 => wpS_of hW (by refine wpS_step (rs := [2, 12]) (by kernel_rfl) rfl ⟨?_, ?_, trivial⟩; refine wpS_op (i := 2) (li' := (lv 16 12231)) rfl rfl rfl rfl (by kernel_rfl) (OpA.load rfl ti3 rfl (.tail .head) rfl rfl ?_); refine wpS_firstY (fuel := 5) (i := 3) (li' := (lv 16 12239)) rfl rfl (.iix (enc := encText) rfl ts22 rfl rfl rfl q3_0) rfl rfl (by kernel_rfl) (by kernel_rfl) (by kernel_rfl) (fun _ _ _ hx => hx) rfl rfl (by kernel_rfl) ?_; refine wpS_firstY (fuel := 4) (i := 4) (li' := (lv 16 12255)) rfl rfl (.ifieldAddr rfl tf28_1 rfl) rfl rfl (by kernel_rfl) (by kernel_rfl) (by kernel_rfl) (fun _ _ _ hx => hx) rfl rfl (by kernel_rfl) ?_; exact wpS_to hW (s12 c144) (Cov.asg ⟨rfl, rfl, rfl, rfl, rfl, rfl, trivial⟩) (.refl _); refine wpS_op (i := 12) (li' := (lv 16 16323)) rfl rfl rfl rfl (by kernel_rfl) (OpA.alloc (sz := 1) (d := .v (.slice none 0 0)) rfl tz26 (fun _ _ => .v _) (.of rfl) (fun c134 _ => ?_)); exact wpS_to hW (s21 c134 c144) (Cov.asg ⟨rfl, rfl, rfl, rfl, rfl, rfl, rfl, rfl, trivial⟩) pull1)
 have s27 : ∀ (c134 : Nat) (c144 : Nat), W 7 (lv 16 14275) (asg [(2, D.i n), (4, .ptr c1 5 0 0), (6, D.i 0), (7, .ptr c134 1 0 0), (8, .ptr c144 1 0 0), (95, (encL 2 encText) l), (96, .ptr c1 5 0 0), (105, .iptr (encText (gi l x.b)) 1)]) [(c144, .cells 1 [.v (.slice none 0 0)]), (c134, .cells 1 [.v (.slice none 0 0)]), (c1, .cells 5 [encClone x])] := fun c134 c144 => wpS_of hW (by refine wpS_step (rs := [2, 11]) (by kernel_rfl) rfl ⟨?_, ?_, trivial⟩; refine wpS_op (i := 2) (li' := (lv 16 14279)) rfl rfl rfl rfl (by kernel_rfl) (OpA.load rfl ti3 rfl (.tail (.tail .head)) rfl rfl ?_); refine wpS_firstY (fuel := 5) (i := 3) (li' := (lv 16 14287)) rfl rfl (.iix (enc := encText) rfl ts22 rfl rfl rfl q3_0) rfl rfl (by kernel_rfl) (by kernel_rfl) (by kernel_rfl) (fun _ _ _ hx => hx) rfl rfl (by kernel_rfl) ?_; refine wpS_firstY (fuel := 4) (i := 4) (li' := (lv 16 14303)) rfl rfl (.ifieldAddr rfl tf28_1 rfl) rfl rfl (by kernel_rfl) (by kernel_rfl) (by kernel_rfl) (fun _ _ _ hx => hx) rfl rfl (by kernel_rfl) ?_; exact wpS_to hW (s13 c134 c144) (Cov.asg ⟨rfl, rfl, rfl, rfl, rfl, rfl, rfl, trivial⟩) (.refl _); refine wpS_op (i := 11) (li' := (lv 16 16323)) rfl rfl rfl rfl (by kernel_rfl) (OpA.iload rfl ti26 rfl rfl ?_); exact wpS_to hW (s21 c134 c144) (Cov.asg ⟨rfl, rfl, rfl, rfl, rfl, rfl, rfl, rfl, trivial⟩) (.refl _))
 have s28 : W 8 (lv 16 255) (asg [(2, D.i n), (4, .ptr c1 5 0 0), (6, D.i 0), (100, (encL 2 encLex) ((gi l x.a).words)), (101, (encL 2 encText) l), (102, .ptr c1 5 0 2)]) [(c1, .cells 5 [encClone x])] := wpS_of hW (by refine wpS_step (rs := [8, 12, 13]) (by kernel_rfl) rfl ⟨?_, ?_, ?_, trivial⟩; refine wpS_op (i := 8) (li' := (lv 16 511)) rfl rfl rfl rfl (by kernel_rfl) (OpA.load rfl ti3 rfl .head rfl rfl ?_); refine wpS_firstY (fuel := 6) (i := 9) (li' := (lv 16 1023)) rfl rfl (.iix (enc := encText) rfl ts22 rfl rfl rfl q9_0) rfl rfl (by kernel_rfl) (by kernel_rfl) (by kernel_rfl) (fun _ _ _ hx => hx) rfl rfl (by kernel_rfl) ?_; refine wpS_firstY (fuel := 5) (i := 10) (li' := (lv 16 2047)) rfl rfl (.ifieldAddr rfl tf28_1 rfl) rfl rfl (by kernel_rfl) (by kernel_rfl) (by kernel_rfl) (fun _ _ _ hx => hx) rfl rfl (by kernel_rfl) ?_; exact wpS_to hW (s14) (Cov.asg ⟨rfl, rfl, rfl, rfl, rfl, trivial⟩) (.refl _); refine wpS_op (i := 12) (li' := (lv 16 4351)) rfl rfl rfl rfl (by kernel_rfl) (OpA.alloc (sz := 1) (d := .v (.slice none 0 0)) rfl tz26 (fun _ _ => .v _) (.of rfl) (fun c134 _ => ?_)); exact wpS_to hW (s22 c134) (Cov.asg ⟨rfl, rfl, rfl, rfl, rfl, rfl, rfl, trivial⟩) (.refl _); refine wpS_op (i := 13) (li' := (lv 16 8447)) rfl rfl rfl rfl (by kernel_rfl) (OpA.alloc (sz := 1) (d := .v (.slice none 0 0)) rfl tz26 (fun _ _ => .v _) (.of rfl) (fun c144 _ => ?_)); exact wpS_to hW (s23 c144) (Cov.asg ⟨rfl, rfl, rfl, rfl, rfl, rfl, rfl, trivial⟩) (.refl _))
 have s29 : ∀ (c134 : Nat), W 8 (lv 16 4319) (asg [(2, D.i n), (4, .ptr c1 5 0 0), (6, D.i 0), (7, .ptr c134 1 0 0), (99, .iptr (encText (gi l x.a)) 1), (101, (encL 2 encText) l), (102, .ptr c1 5 0 2)]) [(c134, .cells 1 [.v (.slice none 0 0)]), (c1, .cells 5 [encClone x])] := fun c134 => wpS_of hW (by refine wpS_step (rs := [5, 8, 13]) (by kernel_rfl) rfl ⟨?_, ?_, ?_, trivial⟩; refine wpS_op (i := 5) (li' := (lv 16 4351)) rfl rfl rfl rfl (by kernel_rfl) (OpA.iload rfl ti26 rfl rfl ?_); exact wpS_to hW (s22 c134) (Cov.asg ⟨rfl, rfl, rfl, rfl, rfl, rfl, rfl, trivial⟩) (.refl _); refine wpS_op (i := 8) (li' := (lv 16 4575)) rfl rfl rfl rfl (by kernel_rfl) (OpA.load rfl ti3 rfl (.tail .head) rfl rfl ?_); refine wpS_firstY (fuel := 6) (i := 9) (li' := (lv 16 5087)) rfl rfl (.iix (enc := encText) rfl ts22 rfl rfl rfl q9_0) rfl rfl (by kernel_rfl) (by kernel_rfl) (by kernel_rfl) (fun _ _ _ hx => hx) rfl rfl (by kernel_rfl) ?_; refine wpS_firstY (fuel := 5) (i := 10) (li' := (lv 16 6111)) rfl rfl (.ifieldAddr rfl tf28_1 rfl) rfl rfl (by kernel_rfl) (by kernel_rfl) (by kernel_rfl) (fun _ _ _ hx => hx) rfl rfl (by kernel_rfl) ?_; exact wpS_to hW (s17 c134) (Cov.asg ⟨rfl, rfl, rfl, rfl, rfl, rfl, trivial⟩) (.refl _); refine wpS_op (i := 13) (li' := (lv 16 12511)) rfl rfl rfl rfl (by kernel_rfl) (OpA.alloc (sz := 1) (d := .v (.slice none 0 0)) rfl tz26 (fun _ _ => .v _) (.of rfl) (fun c144 _ => ?_)); exact wpS_to hW (s24 c134 c144) (Cov.asg ⟨rfl, rfl, rfl, rfl, rfl, rfl, rfl, rfl, trivial⟩) (.refl _))
 have s30 : ∀ (c144 : Nat), W 8 (lv 16 8415) (asg [(2, D.i n), (4, .ptr c1 5 0 0), (6, D.i 0), (8, .ptr c144 1 0 0), (99, .iptr (encText (gi l x.a)) 1), (101, (encL 2 encText) l), (102, .ptr c1 5 0 2)]) [(c144, .cells 1 [.v (.slice none 0 0)]), (c1, .cells 5 [encClone x])] := fun c144 => wpS_of hW (by refine wpS_step (rs := [5, 8, 12]) (by kernel_rfl) rfl ⟨?_, ?_, ?_, trivial⟩; refine wpS_op (i := 5) (li' := (lv 16 8447)) rfl rfl rfl rfl (by kernel_rfl) (OpA.iload rfl ti26 rfl rfl ?_); exact wpS_to hW (s23 c144) (Cov.asg ⟨rfl, rfl, rfl, rfl, rfl, rfl, rfl, trivial⟩) (.refl _); refine wpS_op (i := 8) (li' := (lv 16 8671)) rfl rfl rfl rfl (by kernel_rfl) (OpA.load rfl ti3 rfl (.tail .head) rfl rfl ?_); refine wpS_firstY (fuel := 6) (i := 9) (li' := (lv 16 9183)) rfl rfl (.iix (enc := encText) rfl ts22 rfl rfl rfl q9_0) rfl rfl (by kernel_rfl) (by kernel_rfl) (by kernel_rfl) (fun _ _ _ hx => hx) rfl rfl (by kernel_rfl) ?_; refine wpS_firstY (fuel := 5) (i := 10) (li' := (lv 16 10207)) rfl rfl (.ifieldAddr rfl tf28_1 rfl) rfl rfl (by kernel_rfl) (by kernel_rfl) (by kernel_rfl) (fun _ _ _ hx => hx) rfl rfl (by kernel_rfl) ?_; exact wpS_to hW (s18 c144) (Cov.asg ⟨rfl, rfl, rfl, rfl, rfl, rfl, trivial⟩) (.refl _); refine wpS_op (i := 12) (li' := (lv 16 12511)) rfl rfl rfl rfl (by kernel_rfl) (OpA.alloc (sz := 1) (d := .v (.slice none 0 0)) rfl tz26 (fun _ _ => .v _) (.of rfl) (fun c134 _ => ?_)); exact wpS_to hW (s24 c134 c144) (Cov.asg ⟨rfl, rfl, rfl, rfl, rfl, rfl, rfl, rfl, trivial⟩) pull1)
 have s31 : W 8 (lv 16 4035) (asg [(2, D.i n), (4, .ptr c1 5 0 0), (6, D.i 0), (95, (encL 2 encText) l), (96, .ptr c1 5 0 0), (106, (encL 2 encLex) ((gi l x.b).words))]) [(c1, .cells 5 [encClone x])] := wpS_of hW (by refine wpS_step (rs := [2, 12, 13]) (by kernel_rfl) rfl ⟨?_, ?_, ?_, trivial⟩; refine wpS_op (i := 2) (li' := (lv 16 4039)) rfl rfl rfl rfl (by kernel_rfl) (OpA.load rfl ti3 rfl .head rfl rfl ?_); refine wpS_firstY (fuel := 6) (i := 3) (li' := (lv 16 4047)) rfl rfl (.iix (enc := encText) rfl ts22 rfl rfl rfl q3_0) rfl rfl (by kernel_rfl) (by kernel_rfl) (by kernel_rfl) (fun _ _ _ hx => hx) rfl rfl (by kernel_rfl) ?_; refine wpS_firstY (fuel := 5) (i := 4) (li' := (lv 16 4063)) rfl rfl (.ifieldAddr rfl tf28_1 rfl) rfl rfl (by kernel_rfl) (by kernel_rfl) (by kernel_rfl) (fun _ _ _ hx => hx) rfl rfl (by kernel_rfl) ?_; exact wpS_to hW (s16) (Cov.asg ⟨rfl, rfl, rfl, rfl, rfl, trivial⟩) (.refl _); refine wpS_op (i := 12) (li' := (lv 16 8131)) rfl rfl rfl rfl (by kernel_rfl) (OpA.alloc (sz := 1) (d := .v (.slice none 0 0)) rfl tz26 (fun _ _ => .v _) (.of rfl) (fun c134 _ => ?_)); exact wpS_to hW (s25 c134) (Cov.asg ⟨rfl, rfl, rfl, rfl, rfl, rfl, rfl, trivial⟩) (.refl _); refine wpS_op (i := 13) (li' := (lv 16 12227)) rfl rfl rfl rfl (by kernel_rfl) (OpA.alloc (sz := 1) (d := .v (.slice none 0 0)) rfl tz26 (fun _ _ => .v _) (.of rfl) (fun c144 _ => ?_)); exact wpS_to hW (s26 c144) (Cov.asg ⟨rfl, rfl, rfl, rfl, rfl, rfl, rfl, trivial⟩) (.refl _))
 have s32 : ∀ (c134 : Nat), W 8 (lv 16 6083) (asg [(2, D.i n), (4, .ptr c1 5 0 0), (6, D.i 0), (7, .ptr c134 1 0 0), (95, (encL 2 encText) l), (96, .ptr c1 5 0 0), (105, .iptr (encText (gi l x.b)) 1)]) [(c134, .cells 1 [.v (.slice none 0 0)]), (c1, .cells 5 [encClone x])] := fun c134 => wpS_of hW (by refine wpS_step (rs := [2, 11, 13]) (by kernel_rfl) rfl ⟨?_, ?_, ?_, trivial⟩; refine wpS_op (i := 2) (li' := (lv 16 6087)) rfl rfl rfl rfl (by kernel_rfl) (OpA.load rfl ti3 rfl (.tail .head) rfl rfl ?_); refine wpS_firstY (fuel := 6) (i := 3) (li' := (lv 16 6095)) rfl rfl (.iix (enc := encText) rfl ts22 rfl rfl rfl q3_0) rfl rfl (by kernel_rfl) (by kernel_rfl) (by kernel_rfl) (fun _ _ _ hx => hx) rfl rfl (by kernel_rfl) ?_; refine wpS_firstY (fuel := 5) (i := 4) (li' := (lv 16 6111)) rfl rfl (.ifieldAddr rfl tf28_1 rfl) rfl rfl (by kernel_rfl) (by kernel_rfl) (by kernel_rfl) (fun _ _ _ hx => hx) rfl rfl (by kernel_rfl) ?_; exact wpS_to hW (s17 c134) (Cov.asg ⟨rfl, rfl, rfl, rfl, rfl, rfl, trivial⟩) (.refl _); refine wpS_op (i := 11) (li' := (lv 16 8131)) rfl rfl rfl rfl (by kernel_rfl) (OpA.iload rfl ti26 rfl rfl ?_); exact wpS_to hW (s25 c134) (Cov.asg ⟨rfl, rfl, rfl, rfl, rfl, rfl, rfl, trivial⟩) (.refl _); refine wpS_op (i := 13) (li' := (lv 16 14275)) rfl rfl rfl rfl (by kernel_rfl) (OpA.alloc (sz := 1) (d := .v (.slice none 0 0)) rfl tz26 (fun _ _ => .v _) (.of rfl) (fun c144 _ => ?_)); exact wpS_to hW (s27 c134 c144) (Cov.asg ⟨rfl, rfl, rfl, rfl, rfl, rfl, rfl, rfl, trivial⟩) (.refl _))
 have s33 : ∀ (c144 : Nat), W 8 (lv 16 10179) (asg [(2, D.i n), (4, .ptr c1 5 0 0), (6, D.i 0), (8, .ptr c144 1 0 0), (95, (encL 2 encText) l), (96, .ptr c1 5 0 0), (105, .iptr (encText (gi l x.b)) 1)]) [(c144, .cells 1 [.v (.slice none 0 0)]), (c1, .cells 5 [encClone x])] := fun c144 => wpS_of hW (by refine wpS_step (rs := [2, 11, 12]) (by kernel_rfl) rfl ⟨?_, ?_, ?_, trivial⟩; refine wpS_op (i := 2) (li' := (lv 16 10183)) rfl rfl rfl rfl (by kernel_rfl) (OpA.load rfl ti3 rfl (.tail .head) rfl rfl ?_); refine wpS_firstY (fuel := 6) (i := 3) (li' := (lv 16 10191)) rfl rfl (.iix (enc := encText) rfl ts22 rfl rfl rfl q3_0) rfl rfl (by kernel_rfl) (by kernel_rfl) (by kernel_rfl) (fun _ _ _ hx => hx) rfl rfl (by kernel_rfl) ?_; refine wpS_firstY (fuel := 5) (i := 4) (li' := (lv 16 10207)) rfl rfl (.ifieldAddr rfl tf28_1 rfl) rfl rfl (by kernel_rfl) (by kernel_rfl) (by kernel_rfl) (fun _ _ _ hx => hx) rfl rfl (by kernel_rfl) ?_; exact wpS_to hW (s18 c144) (Cov.asg ⟨rfl, rfl, rfl, rfl, rfl, rfl, trivial⟩) (.refl _); refine wpS_op (i := 11) (li' := (lv 16 12227)) rfl rfl rfl rfl (by kernel_rfl) (OpA.iload rfl ti26 rfl rfl ?_); exact wpS_to hW (s26 c144) (Cov.asg ⟨rfl, rfl, rfl, rfl, rfl, rfl, rfl, trivial⟩) (.refl _); refine wpS_op (i := 12) (li' := (lv 16 14275)) rfl rfl rfl rfl (by kernel_rfl) (OpA.alloc (sz := 1) (d := .v (.slice none 0 0)) rfl tz26 (fun _ _ => .v _) (.of rfl) (fun c134 _ => ?_)); exact wpS_to hW (s27 c134 c144) (Cov.asg ⟨rfl, rfl, rfl, rfl, rfl, rfl, rfl, rfl, trivial⟩) pull1)
 have s34 : W 9 (lv 16 223) (asg [(2, D.i n), (4, .ptr c1 5 0 0), (6, D.i 0), (99, .iptr (encText (gi l x.a)) 1), (101, (encL 2 encText) l), (102, .ptr c1 5 0 2)]) [(c1, .cells 5 [encClone x])] := wpS_of hW (by refine wpS_step (rs := [5, 8, 12, 13]) (by kernel_rfl) rfl ⟨?_, ?_, ?_, ?_, trivial⟩; refine wpS_op (i := 5) (li' := (lv 16 255)) rfl rfl rfl rfl (by kernel_rfl) (OpA.iload rfl ti26 rfl rfl ?_); exact wpS_to hW (s28) (Cov.asg ⟨rfl, rfl, rfl, rfl, rfl, rfl, trivial⟩) (.refl _); refine wpS_op (i := 8) (li' := (lv 16 479)) rfl rfl rfl rfl (by kernel_rfl) (OpA.load rfl ti3 rfl .head rfl rfl ?_); refine wpS_firstY (fuel := 7) (i := 9) (li' := (lv 16 991)) rfl rfl (.iix (enc := encText) rfl ts22 rfl rfl rfl q9_0) rfl rfl (by kernel_rfl) (by kernel_rfl) (by kernel_rfl) (fun _ _ _ hx => hx) rfl rfl (by kernel_rfl) ?_; refine wpS_firstY (fuel := 6) (i := 10) (li' := (lv 16 2015)) rfl rfl (.ifieldAddr rfl tf28_1 rfl) rfl rfl (by kernel_rfl) (by kernel_rfl) (by kernel_rfl) (fun _ _ _ hx => hx) rfl rfl (by kernel_rfl) ?_; exact wpS_to hW (s20) (Cov.asg ⟨rfl, rfl, rfl, rfl, rfl, trivial⟩) (.refl _); refine wpS_op (i := 12) (li' := (lv 16 4319)) rfl rfl rfl rfl (by kernel_rfl) (OpA.alloc (sz := 1) (d := .v (.slice none 0 0)) rfl tz26 (fun _ _ => .v _) (.of rfl) (fun c134 _ => ?_)); exact wpS_to hW (s29 c134) (Cov.asg ⟨rfl, rfl, rfl, rfl, rfl, rfl, rfl, trivial⟩) (.refl _); refine wpS_op (i := 13) (li' := (lv 16 8415)) rfl rfl rfl rfl (by kernel_rfl) (OpA.alloc (sz := 1) (d := .v (.slice none 0 0)) rfl tz26 (fun _ _ => .v _) (.of rfl) (fun c144 _ => ?_)); exact wpS_to hW (s30 c144) (Cov.asg ⟨rfl, rfl, rfl, rfl, rfl, rfl, rfl, trivial⟩) (.refl _))
 have s35 : W 9 (lv 16 1987) (asg [(2, D.i n), (4, .ptr c1 5 0 0), (6, D.i 0), (95, (encL 2 encText) l), (96, .ptr c1 5 0 0), (105, .iptr (encText (gi l x.b)) 1)]) [(c1, .cells 5 [encClone x])] := wpS_of hW (by refine wpS_step (rs := [2, 11, 12, 13]) (by kernel_rfl) rfl ⟨?_, ?_, ?_, ?_, trivial⟩; refine wpS_op (i := 2) (li' := (lv 16 1991)) rfl rfl rfl rfl (by kernel_rfl) (OpA.load rfl ti3 rfl .head rfl rfl ?_); refine wpS_firstY (fuel := 7) (i := 3) (li' := (lv 16 1999)) rfl rfl (.iix (enc := encText) rfl ts22 rfl rfl rfl q3_0) rfl rfl (by kernel_rfl) (by kernel_rfl) (by kernel_rfl) (fun _ _ _ hx => hx) rfl rfl (by kernel_rfl) ?_; refine wpS_firstY (fuel := 6) (i := 4) (li' := (lv 16 2015)) rfl rfl (.ifieldAddr rfl tf28_1 rfl) rfl rfl (by kernel_rfl) (by kernel_rfl) (by kernel_rfl) (fun _ _ _ hx => hx) rfl rfl (by kernel_rfl) ?_; exact wpS_to hW (s20) (Cov.asg ⟨rfl, rfl, rfl, rfl, rfl, trivial⟩) (.refl _); refine wpS_op (i := 11) (li' := (lv 16 4035)) rfl rfl rfl rfl (by kernel_rfl) (OpA.iload rfl ti26 rfl rfl ?_); exact wpS_to hW (s31) (Cov.asg ⟨rfl, rfl, rfl, rfl, rfl, rfl, trivial⟩) (.refl _); refine wpS_op (i := 12) (li' := (lv 16 6083)) rfl rfl rfl rfl (by kernel_rfl) (OpA.alloc (sz := 1) (d := .v (.slice none 0 0)) rfl tz26 (fun _ _ => .v _) (.of rfl) (fun c134 _ => ?_)); exact wpS_to hW (s32 c134) (Cov.asg ⟨rfl, rfl, rfl, rfl, rfl, rfl, rfl, trivial⟩) (.refl _); refine wpS_op (i := 13) (li' := (lv 16 10179)) rfl rfl rfl rfl (by kernel_rfl) (OpA.alloc (sz := 1) (d := .v (.slice none 0 0)) rfl tz26 (fun _ _ => .v _) (.of rfl) (fun c144 _ => ?_)); exact wpS_to hW (s33 c144) (Cov.asg ⟨rfl, rfl, rfl, rfl, rfl, rfl, rfl, trivial⟩) (.refl _))
 have s36 : ∀ (c134 : Nat) (c144 : Nat), W 10 (lv 16 12483) (asg [(2, D.i n), (4, .ptr c1 5 0 0), (6, D.i 0), (7, .ptr c134 1 0 0), (8, .ptr c144 1 0 0), (95, (encL 2 encText) l), (96, .ptr c1 5 0 0), (101, (encL 2 encText) l), (102, .ptr c1 5 0 2)]) [(c144, .cells 1 [.v (.slice none 0 0)]), (c134, .cells 1 [.v (.slice none 0 0)]), (c1, .cells 5 [encClone x])] := fun c134 c144 => wpS_of hW (by refine wpS_step (rs := [2, 8]) (by kernel_rfl) rfl ⟨?_, ?_, trivial⟩; refine wpS_op (i := 2) (li' := (lv 16 12487)) rfl rfl rfl rfl (by kernel_rfl) (OpA.load rfl ti3 rfl (.tail (.tail .head)) rfl rfl ?_); refine wpS_firstY (fuel := 8) (i := 3) (li' := (lv 16 12495)) rfl rfl (.iix (enc := encText) rfl ts22 rfl rfl rfl q3_0) rfl rfl (by kernel_rfl) (by kernel_rfl) (by kernel_rfl) (fun _ _ _ hx => hx) rfl rfl (by kernel_rfl) ?_; refine wpS_firstY (fuel := 7) (i := 4) (li' := (lv 16 12511)) rfl rfl (.ifieldAddr rfl tf28_1 rfl) rfl rfl (by kernel_rfl) (by kernel_rfl) (by kernel_rfl) (fun _ _ _ hx => hx) rfl rfl (by kernel_rfl) ?_; exact wpS_to hW (s24 c134 c144) (Cov.asg ⟨rfl, rfl, rfl, rfl, rfl, rfl, rfl, rfl, trivial⟩) (.refl _); refine wpS_op (i := 8) (li' := (lv 16 12739)) rfl rfl rfl rfl (by kernel_rfl) (OpA.load rfl ti3 rfl (.tail (.tail .head)) rfl rfl ?_); refine wpS_firstY (fuel := 8) (i := 9) (li' := (lv 16 13251)) rfl rfl (.iix (enc := encText) rfl ts22 rfl rfl rfl q9_0) rfl rfl (by kernel_rfl) (by kernel_rfl) (by kernel_rfl) (fun _ _ _ hx => hx) rfl rfl (by kernel_rfl) ?_; refine wpS_firstY (fuel := 7) (i := 10) (li' := (lv 16 14275)) rfl rfl (.ifieldAddr rfl tf28_1 rfl) rfl rfl (by kernel_rfl) (by kernel_rfl) (by kernel_rfl) (fun _ _ _ hx => hx) rfl rfl (by kernel_rfl) ?_; exact wpS_to hW (s27 c134 c144) (Cov.asg ⟨rfl, rfl, rfl, rfl, rfl, rfl, rfl, rfl, trivial⟩) (.refl _))
 have s37 : ∀ (c134 : Nat), W 11 (lv 16 4291) (asg [(2, D.i n), (4, .ptr c1 5 0 0), (6, D.i 0), (7, .ptr c134 1 0 0), (95, (encL 2 encText) l), (96, .ptr c1 5 0 0), (101, (encL 2 encText) l), (102, .ptr c1 5 0 2)]) [(c134, .cells 1 [.v (.slice none 0 0)]), (c1, .cells 5 [encClone x])] := fun c134 => wpS_of hW (by refine wpS_step (rs := [2, 8, 13]) (by kernel_rfl) rfl ⟨?_, ?_, ?_, trivial⟩; refine wpS_op (i := 2) (li' := (lv 16 4295)) rfl rfl rfl rfl (by kernel_rfl) (OpA.load rfl ti3 rfl (.tail .head) rfl rfl ?_); refine wpS_firstY (fuel := 9) (i := 3) (li' := (lv 16 4303)) rfl rfl (.iix (enc := encText) rfl ts22 rfl rfl rfl q3_0) rfl rfl (by kernel_rfl) (by kernel_rfl) (by kernel_rfl) (fun _ _ _ hx => hx) rfl rfl (by kernel_rfl) ?_; refine wpS_firstY (fuel := 8) (i := 4) (li' := (lv 16 4319)) rfl rfl (.ifieldAddr rfl tf28_1 rfl) rfl rfl (by kernel_rfl) (by kernel_rfl) (by kernel_rfl) (fun _ _ _ hx => hx) rfl rfl (by kernel_rfl) ?_; exact wpS_to hW (s29 c134) (Cov.asg ⟨rfl, rfl, rfl, rfl, rfl, rfl, rfl, trivial⟩) (.refl _); refine wpS_op (i := 8) (li' := (lv 16 4547)) rfl rfl rfl rfl (by kernel_rfl) (OpA.load rfl ti3 rfl (.tail .head) rfl rfl ?_); refine wpS_firstY (fuel := 9) (i := 9) (li' := (lv 16 5059)) rfl rfl (.iix (enc := encText) rfl ts22 rfl rfl rfl q9_0) rfl rfl (by kernel_rfl) (by kernel_rfl) (by kernel_rfl) (fun _ _ _ hx => hx) rfl rfl (by kernel_rfl) ?_; refine wpS_firstY (fuel := 8) (i := 10) (li' := (lv 16 6083)) rfl rfl (.ifieldAddr rfl tf28_1 rfl) rfl rfl (by kernel_rfl) (by kernel_rfl) (by kernel_rfl) (fun _ _ _ hx => hx) rfl rfl (by kernel_rfl) ?_; exact wpS_to hW (s32 c134) (Cov.asg ⟨rfl, rfl, rfl, rfl, rfl, rfl, rfl, trivial⟩) (.refl _); refine wpS_op (i := 13) (li' := (lv 16 12483)) rfl rfl rfl rfl (by kernel_rfl) (OpA.alloc (sz := 1) (d := .v (.slice none 0 0)) rfl tz26 (fun _ _ => .v _) (.of rfl) (fun c144 _ => ?_)); exact wpS_to hW (s36 c134 c144) (Cov.asg ⟨rfl, rfl, rfl, rfl, rfl, rfl, rfl, rfl, rfl, trivial⟩) (.refl _))
 have s38 : ∀ (c144 : Nat), W 11 (lv 16 8387) (asg [(2, D.i n), (4, .ptr c1 5 0 0), (6, D.i 0), (8, .ptr c144 1 0 0), (95, (encL 2 encText) l), (96, .ptr c1 5 0 0), (101, (encL 2 encText) l), (102, .ptr c1 5 0 2)]) [(c144, .cells 1 [.v (.slice none 0 0)]), (c1, .cells 5 [encClone x])] := fun c144 => wpS_of hW (by refine wpS_step (rs := [2, 8, 12]) (by kernel_rfl) rfl ⟨?_, ?_, ?_, trivial⟩; refine wpS_op (i := 2) (li' := (lv 16 8391)) rfl rfl rfl rfl (by kernel_rfl) (OpA.load rfl ti3 rfl (.tail .head) rfl rfl ?_); refine wpS_firstY (fuel := 9) (i := 3) (li' := (lv 16 8399)) rfl rfl (.iix (enc := encText) rfl ts22 rfl rfl rfl q3_0) rfl rfl (by kernel_rfl) (by kernel_rfl) (by kernel_rfl) (fun _ _ _ hx => hx) rfl rfl (by kernel_rfl) ?_; refine wpS_firstY (fuel := 8) (i := 4) (li' := (lv 16 8415)) rfl rfl (.ifieldAddr rfl tf28_1 rfl) rfl rfl (by kernel_rfl) (by kernel_rfl) (by kernel_rfl) (fun _ _ _ hx => hx) rfl rfl (by kernel_rfl) ?_; exact wpS_to hW (s30 c144) (Cov.asg ⟨rfl, rfl, rfl, rfl, rfl, rfl, rfl, trivial⟩) (.refl _); refine wpS_op (i := 8) (li' := (lv 16 8643)) rfl rfl rfl rfl (by kernel_rfl) (OpA.load rfl ti3 rfl (.tail .head) rfl rfl ?_); refine wpS_firstY (fuel := 9) (i := 9) (li' := (lv 16 9155)) rfl rfl (.iix (enc := encText) rfl ts22 rfl rfl rfl q9_0) rfl rfl (by kernel_rfl) (by kernel_rfl) (by kernel_rfl) (fun _ _ _ hx => hx) rfl rfl (by kernel_rfl) ?_; refine wpS_firstY (fuel := 8) (i := 10) (li' := (lv 16 10179)) rfl rfl (.ifieldAddr rfl tf28_1 rfl) rfl rfl (by kernel_rfl) (by kernel_rfl) (by kernel_rfl) (fun _ _ _ hx => hx) rfl rfl (by kernel_rfl) ?_; exact wpS_to hW (s33 c144) (Cov.asg ⟨rfl, rfl, rfl, rfl, rfl, rfl, rfl, trivial⟩) (.refl _); refine wpS_op (i := 12) (li' := (lv 16 12483)) rfl rfl rfl rfl (by kernel_rfl) (OpA.alloc (sz := 1) (d := .v (.slice none 0 0)) rfl tz26 (fun _ _ => .v _) (.of rfl) (fun c134 _ => ?_)); exact wpS_to hW (s36 c134 c144) (Cov.asg ⟨rfl, rfl, rfl, rfl, rfl, rfl, rfl, rfl, rfl, trivial⟩) pull1)
 have s39 : W 12 (lv 16 195) (asg [(2, D.i n), (4, .ptr c1 5 0 0), (6, D.i 0), (95, (encL 2 encText) l), (96, .ptr c1 5 0 0), (101, (encL 2 encText) l), (102, .ptr c1 5 0 2)]) [(c1, .cells 5 [encClone x])] := wpS_of hW (by refine wpS_step (rs := [2, 8, 12, 13]) (by kernel_rfl) rfl ⟨?_, ?_, ?_, ?_, trivial⟩; refine wpS_op (i := 2) (li' := (lv 16 199)) rfl rfl rfl rfl (by kernel_rfl) (OpA.load rfl ti3 rfl .head rfl rfl ?_); refine wpS_firstY (fuel := 10) (i := 3) (li' := (lv 16 207)) rfl rfl (.iix (enc := encText) rfl ts22 rfl rfl rfl q3_0) rfl rfl (by kernel_rfl) (by kernel_rfl) (by kernel_rfl) (fun _ _ _ hx => hx) rfl rfl (by kernel_rfl) ?_; refine wpS_firstY (fuel := 9) (i := 4) (li' := (lv 16 223)) rfl rfl (.ifieldAddr rfl tf28_1 rfl) rfl rfl (by kernel_rfl) (by kernel_rfl) (by kernel_rfl) (fun _ _ _ hx => hx) rfl rfl (by kernel_rfl) ?_; exact wpS_to hW (s34) (Cov.asg ⟨rfl, rfl, rfl, rfl, rfl, rfl, trivial⟩) (.refl _); refine wpS_op (i := 8) (li' := (lv 16 451)) rfl rfl rfl rfl (by kernel_rfl) (OpA.load rfl ti3 rfl .head rfl rfl ?_); refine wpS_firstY (fuel := 10) (i := 9) (li' := (lv 16 963)) rfl rfl (.iix (enc := encText) rfl ts22 rfl rfl rfl q9_0) rfl rfl (by kernel_rfl) (by kernel_rfl) (by kernel_rfl) (fun _ _ _ hx => hx) rfl rfl (by kernel_rfl) ?_; refine wpS_firstY (fuel := 9) (i := 10) (li' := (lv 16 1987)) rfl rfl (.ifieldAddr rfl tf28_1 rfl) rfl rfl (by kernel_rfl) (by kernel_rfl) (by kernel_rfl) (fun _ _ _ hx => hx) rfl rfl (by kernel_rfl) ?_; exact wpS_to hW (s35) (Cov.asg ⟨rfl, rfl, rfl, rfl, rfl, rfl, trivial⟩) (.refl _); refine wpS_op (i := 12) (li' := (lv 16 4291)) rfl rfl rfl rfl (by kernel_rfl) (OpA.alloc (sz := 1) (d := .v (.slice none 0 0)) rfl tz26 (fun _ _ => .v _) (.of rfl) (fun c134 _ => ?_)); exact wpS_to hW (s37 c134) (Cov.asg ⟨rfl, rfl, rfl, rfl, rfl, rfl, rfl, rfl, trivial⟩) (.refl _); refine wpS_op (i := 13) (li' := (lv 16 8387)) rfl rfl rfl rfl (by kernel_rfl) (OpA.alloc (sz := 1) (d := .v (.slice none 0 0)) rfl tz26 (fun _ _ => .v _) (.of rfl) (fun c144 _ => ?_)); exact wpS_to hW (s38 c144) (Cov.asg ⟨rfl, rfl, rfl, rfl, rfl, rfl, rfl, rfl, trivial⟩) (.refl _))
 refine wpS_of hW ?_
 refine wpS_firstY (fuel := 15) (i := 0) (li' := (lv 16 1)) rfl rfl (.move rfl) rfl rfl (by kernel_rfl) (by kernel_rfl) (by kernel_rfl) (fun _ _ _ hx => hx) rfl rfl (by kernel_rfl) ?_
 refine wpS_firstY (fuel := 14) (i := 1) (li' := (lv 16 3)) rfl rfl (.fieldAddr rfl tf38_0 rfl) rfl rfl (by kernel_rfl) (by kernel_rfl) (by kernel_rfl) (fun _ _ _ hx => hx) rfl rfl (by kernel_rfl) ?_
 refine wpS_firstY (fuel := 13) (i := 6) (li' := (lv 16 67)) rfl rfl (.move rfl) rfl rfl (by kernel_rfl) (by kernel_rfl) (by kernel_rfl) (fun _ _ _ hx => hx) rfl rfl (by kernel_rfl) ?_
 refine wpS_firstY (fuel := 12) (i := 7) (li' := (lv 16 195)) rfl rfl (.fieldAddr rfl tf38_2 rfl) rfl rfl (by kernel_rfl) (by kernel_rfl) (by kernel_rfl) (fun _ _ _ hx => hx) rfl rfl (by kernel_rfl) ?_
 exact wpS_to hW s39 (Cov.asg ⟨rfl, rfl, rfl, rfl, rfl, rfl, rfl, trivial⟩) (.refl _)
 intro c134 c144
 refine wpS_of hW (wpS_done (by kernel_rfl) ?_)
 refine wpA_seq ?_
 refine wpA_region ?_
 refine wL (OpA.makeFunc rfl ?_)
 refine wL (OpA.a ?_)
 refine wpL_nil ?_
 iterate 2 refine wpA_seq ?_
 refine wpA_region ?_
 refine wL (OpA.fieldAddr rfl tf38_4 rfl ?_)
 refine wL (OpA.load rfl ti3 rfl (.tail (.tail .head)) rfl rfl ?_)
 refine wL (OpA.m ?_)
 refine wpL_nil ?_
 refine wpA_block ?_
 refine wpA_lfp (S := Int) (G := Unit) () (fun gg ss => asg [(2, D.i n), (4, .ptr c1 5 0 0), (6, D.i 0), (7, .ptr c134 1 0 0), (8, .ptr c144 1 0 0), (9, .fn (.func 93) [] [.ptr c134 1 0 0, .ptr c1 5 0 0, .ptr c144 1 0 0]), (109, D.i x.len), (110, D.i ss)]) (fun gg ss => [(c144, .cells 1 [(encL 2 encLex) ((gi l x.b).words)]), (c134, .cells 1 [(encL 2 encLex) ((gi l x.a).words)]), (c1, .cells 5 [encClone x])]) h (Cov.asg ⟨rfl, rfl, rfl, rfl, rfl, rfl, rfl, rfl, trivial⟩) (.refl _) ?_
 rintro again184 _ x1 h
 have h : kcheckL_L1 l x n Q again184 x1 := h
 unfold kcheckL_L1 at h
 show wpA _ _ _ _ (asg [(2, D.i n), (4, .ptr c1 5 0 0), (6, D.i 0), (7, .ptr c134 1 0 0), (8, .ptr c144 1 0 0), (9, .fn (.func 93) [] [.ptr c134 1 0 0, .ptr c1 5 0 0, .ptr c144 1 0 0]), (109, D.i x.len), (110, D.i x1)]) [(c144, .cells 1 [(encL 2 encLex) ((gi l x.b).words)]), (c134, .cells 1 [(encL 2 encLex) ((gi l x.a).words)]), (c1, .cells 5 [encClone x])]
 refine wpA_seq ?_
 refine wpA_region ?_
 refine wL (OpA.lss rfl rfl rfl ?_)
 refine wpL_nil ?_
 refine wpA_seq ?_
 refine wpA_cond rfl (fun b185 => ?_) (fun b185 => ?_)
 have h := h.1 (decT b185)
 refine wpA_skip ?_
 refine wpA_seq ?_
 refine wpA_block ?_
 refine wpA_seq ?_
 refine wpA_region ?_
 refine wL (OpA.m ?_)
 refine wL (OpA.a ?_)
 refine wpL_nil ?_
 refine wpA_seq ?_
 obtain ⟨q1, q2, q3, q4, h⟩ := h
 refine wpA_region ?_
 iterate 2 refine wL (OpA.m ?_)
 refine wL (OpA.call_snap rfl rfl rfl en93 (.same rfl (.ptrp rfl (.tail .head) rfl (.ptrp rfl (.tail (.tail .head)) rfl (.ptrp rfl .head rfl .nil)))) (kcheck1_c x1 ((gi l x.a).words) x ((gi l x.b).words) q1 q2 q3 q4) (by rintro _ rfl; exact .inr (.v _)) ?_)
 rintro _ rfl
 refine wL (OpA.not rfl rfl ?_)
 refine wpL_nil ?_
 refine wpA_cond rfl (fun b186 => ?_) (fun b186 => ?_)
 have h := h.1 (notT b186)
 refine wpA_seq ?_
 refine wpA_region ?_
 refine wL (OpA.a ?_)
 refine wpL_nil ?_
 refine wpA_ret ?_
 exact ⟨_, (.tmp (d := D.i 18) rfl .nil), _, (.same rfl .nil), ⟨18, rfl, h⟩⟩
 have h := h.2 (notF b186)
 refine wpA_skip ?_
 obtain ⟨q1, h⟩ := h
 refine wpA_region ?_
 refine wL (OpA.addi rfl rfl rfl q1 ?_)
 refine wL (OpA.m ?_)
 refine wpL_nil ?_
 exact ⟨(), (x1 + 1), h, (Cov.asg ⟨rfl, rfl, rfl, rfl, rfl, rfl, rfl, rfl, trivial⟩), (.refl _)⟩
 have h := h.2 (decF b185)
 refine wpA_exit ?_
 refine wpA_seq ?_
 obtain ⟨q1, h⟩ := h
 refine wpA_mid (asg [(2, D.i n), (4, .ptr c1 5 0 0), (6, D.i 0), (7, .ptr c134 1 0 0), (8, .ptr c144 1 0 0), (9, .fn (.func 93) [] [.ptr c134 1 0 0, .ptr c1 5 0 0, .ptr c144 1 0 0]), (11, D.b (((decide (x.atA > 0)) && (decide (x.atB > 0))) && (sameAt (-1) ((gi l x.a).words) x ((gi l x.b).words))))]) [(c144, .cells 1 [(encL 2 encLex) ((gi l x.b).words)]), (c134, .cells 1 [(encL 2 encLex) ((gi l x.a).words)]), (c1, .cells 5 [encClone x])] ?_ ?_
 refine wpA_region ?_
 refine wL (OpA.fieldAddr rfl tf38_1 rfl ?_)
 refine wL (OpA.load rfl ti3 rfl (.tail (.tail .head)) rfl rfl ?_)
 refine wL (OpA.gtr rfl rfl rfl ?_)
 refine wL (OpA.m ?_)
 refine wpL_split (s := 121) rfl (fun b192 => ?_) (fun b192 => ?_)
 refine wG (OpA.fieldAddr rfl tf38_3 rfl ?_)
 refine wG (OpA.load rfl ti3 rfl (.tail (.tail .head)) rfl rfl ?_)
 refine wG (OpA.gtr rfl rfl rfl ?_)
 refine wL (OpA.p ?_)
 refine wL (OpA.m ?_)
 refine wpL_split (s := 126) rfl (fun b193 => ?_) (fun b193 => ?_)
 refine wG (OpA.m ?_)
 refine wG (OpA.call_snap rfl rfl rfl en93 (.same rfl (.ptrp rfl (.tail .head) rfl (.ptrp rfl (.tail (.tail .head)) rfl (.ptrp rfl .head rfl .nil)))) (kcheck1_c (-1) ((gi l x.a).words) x ((gi l x.b).words) (q1 ⟨(decT b192), (decT b193)⟩).1 (q1 ⟨(decT b192), (decT b193)⟩).2.1 (q1 ⟨(decT b192), (decT b193)⟩).2.2.1 (q1 ⟨(decT b192), (decT b193)⟩).2.2.2) (by rintro _ rfl; exact .inr (.v _)) ?_)
 rintro _ rfl
 refine wL (OpA.p ?_)
 refine wL (OpA.a ?_)
 refine wpL_nil ?_
 exact ⟨(Cov.asg ⟨rfl, rfl, rfl, rfl, rfl, rfl, (congrArg D.b (Eq.symm (andN (andN b192 b193) rfl))), trivial⟩), (.refl _)⟩
 iterate 2 refine wS ?_
 refine wL (OpA.p ?_)
 refine wL (OpA.a ?_)
 refine wpL_nil ?_
 exact ⟨(Cov.asg ⟨rfl, rfl, rfl, rfl, rfl, rfl, (congrArg D.b (Eq.symm (andS (andN b192 b193)))), trivial⟩), (.refl _)⟩
 iterate 3 refine wS ?_
 refine wL (OpA.p ?_)
 refine wL (OpA.m ?_)
 iterate 2 refine wS ?_
 refine wL (OpA.p ?_)
 refine wL (OpA.a ?_)
 refine wpL_nil ?_
 exact ⟨(Cov.asg ⟨rfl, rfl, rfl, rfl, rfl, rfl, (congrArg D.b (Eq.symm (andS (andS b192)))), trivial⟩), (.refl _)⟩
 show wpA _ _ _ _ (asg [(2, D.i n), (4, .ptr c1 5 0 0), (6, D.i 0), (7, .ptr c134 1 0 0), (8, .ptr c144 1 0 0), (9, .fn (.func 93) [] [.ptr c134 1 0 0, .ptr c1 5 0 0, .ptr c144 1 0 0]), (11, D.b (((decide (x.atA > 0)) && (decide (x.atB > 0))) && (sameAt (-1) ((gi l x.a).words) x ((gi l x.b).words))))]) [(c144, .cells 1 [(encL 2 encLex) ((gi l x.b).words)]), (c134, .cells 1 [(encL 2 encLex) ((gi l x.a).words)]), (c1, .cells 5 [encClone x])]
 refine wpA_seq ?_
 obtain ⟨q1, q2, q3, h⟩ := h
 refine wpA_mid (asg [(2, D.i n), (4, .ptr c1 5 0 0), (6, D.i 0), (11, D.b (((decide (x.atA > 0)) && (decide (x.atB > 0))) && (sameAt (-1) ((gi l x.a).words) x ((gi l x.b).words)))), (12, D.b (kcheckL_e0 x l))]) [(c144, .cells 1 [(encL 2 encLex) ((gi l x.b).words)]), (c134, .cells 1 [(encL 2 encLex) ((gi l x.a).words)]), (c1, .cells 5 [encClone x])] ?_ ?_
 refine wpA_region ?_
 refine wL (OpA.fieldAddr rfl tf38_1 rfl ?_)
 refine wL (OpA.load rfl ti3 rfl (.tail (.tail .head)) rfl rfl ?_)
 refine wL (OpA.fieldAddr rfl tf38_4 rfl ?_)
 refine wL (OpA.load rfl ti3 rfl (.tail (.tail .head)) rfl rfl ?_)
 refine wL (OpA.addi rfl rfl rfl q1 ?_)
 refine wL (OpA.load rfl ti26 rfl (.tail .head) rfl rfl ?_)
 refine wL (OpA.len rfl rfl rfl rfl ts26.desc (.inl ⟨_, _, rfl, (List.length_map _).symm⟩) ?_)
 refine wL (OpA.lss rfl rfl rfl ?_)
 refine wL (OpA.m ?_)
 refine wpL_split (s := 138) rfl (fun b190 => ?_) (fun b190 => ?_)
 refine wG (OpA.fieldAddr rfl tf38_3 rfl ?_)
 refine wG (OpA.load rfl ti3 rfl (.tail (.tail .head)) rfl rfl ?_)
 refine wG (OpA.fieldAddr rfl tf38_4 rfl ?_)
 refine wG (OpA.load rfl ti3 rfl (.tail (.tail .head)) rfl rfl ?_)
 refine wG (OpA.addi rfl rfl rfl (q2 (decT b190)) ?_)
 refine wG (OpA.load rfl ti26 rfl .head rfl rfl ?_)
 refine wG (OpA.len rfl rfl rfl rfl ts26.desc (.inl ⟨_, _, rfl, (List.length_map _).symm⟩) ?_)
 refine wG (OpA.lss rfl rfl rfl ?_)
 refine wL (OpA.p ?_)
 refine wL (OpA.m ?_)
 refine wpL_split (s := 148) rfl (fun b191 => ?_) (fun b191 => ?_)
 refine wG (OpA.m ?_)
 refine wG (OpA.fieldAddr rfl tf38_4 rfl ?_)
 refine wG (OpA.load rfl ti3 rfl (.tail (.tail .head)) rfl rfl ?_)
 refine wG (OpA.call_snap rfl rfl rfl en93 (.same rfl (.ptrp rfl (.tail .head) rfl (.ptrp rfl (.tail (.tail .head)) rfl (.ptrp rfl .head rfl .nil)))) (kcheck1_c x.len ((gi l x.a).words) x ((gi l x.b).words) q1 (q3 ⟨(decT b190), (decT b191)⟩).1 (q3 ⟨(decT b190), (decT b191)⟩).2.1 (q3 ⟨(decT b190), (decT b191)⟩).2.2) (by rintro _ rfl; exact .inr (.v _)) ?_)
 rintro _ rfl
 refine wL (OpA.p ?_)
 refine wL (OpA.a ?_)
 refine wpL_nil ?_
 exact ⟨(Cov.asg ⟨rfl, rfl, rfl, rfl, (congrArg D.b (Eq.symm (andN (andN b190 b191) rfl))), trivial⟩), (.refl _)⟩
 iterate 4 refine wS ?_
 refine wL (OpA.p ?_)
 refine wL (OpA.a ?_)
 refine wpL_nil ?_
 exact ⟨(Cov.asg ⟨rfl, rfl, rfl, rfl, (congrArg D.b (Eq.symm (andS (andN b190 b191)))), trivial⟩), (.refl _)⟩
 iterate 8 refine wS ?_
 refine wL (OpA.p ?_)
 refine wL (OpA.m ?_)
 iterate 4 refine wS ?_
 refine wL (OpA.p ?_)
 refine wL (OpA.a ?_)
 refine wpL_nil ?_
 exact ⟨(Cov.asg ⟨rfl, rfl, rfl, rfl, (congrArg D.b (Eq.symm (andS (andS b190)))), trivial⟩), (.refl _)⟩
 show wpA _ _ _ _ (asg [(2, D.i n), (4, .ptr c1 5 0 0), (6, D.i 0), (11, D.b (((decide (x.atA > 0)) && (decide (x.atB > 0))) && (sameAt (-1) ((gi l x.a).words) x ((gi l x.b).words)))), (12, D.b (kcheckL_e0 x l))]) [(c144, .cells 1 [(encL 2 encLex) ((gi l x.b).words)]), (c134, .cells 1 [(encL 2 encLex) ((gi l x.a).words)]), (c1, .cells 5 [encClone x])]
 refine wpA_seq ?_
 refine wpA_block ?_
 refine wpA_seq ?_
 refine wpA_mid (asg [(2, D.i n), (4, .ptr c1 5 0 0), (6, D.i 0), (154, D.b ((((decide (x.atA > 0)) && (decide (x.atB > 0))) && (sameAt (-1) ((gi l x.a).words) x ((gi l x.b).words))) || (kcheckL_e0 x l)))]) [(c144, .cells 1 [(encL 2 encLex) ((gi l x.b).words)]), (c134, .cells 1 [(encL 2 encLex) ((gi l x.a).words)]), (c1, .cells 5 [encClone x])] ?_ ?_
 refine wpA_region ?_
 iterate 2 refine wL (OpA.m ?_)
 refine wpL_split (s := 156) rfl (fun b189 => ?_) (fun b189 => ?_)
 refine wS ?_
 refine wL (OpA.p ?_)
 refine wL (OpA.a ?_)
 refine wpL_nil ?_
 exact ⟨(Cov.asg ⟨rfl, rfl, rfl, (congrArg D.b (Eq.symm (orS b189))), trivial⟩), (.refl _)⟩
 refine wG (OpA.m ?_)
 refine wL (OpA.p ?_)
 refine wL (OpA.a ?_)
 refine wpL_nil ?_
 exact ⟨(Cov.asg ⟨rfl, rfl, rfl, (congrArg D.b (Eq.symm (orN b189 rfl))), trivial⟩), (.refl _)⟩
 show wpA _ _ _ _ (asg [(2, D.i n), (4, .ptr c1 5 0 0), (6, D.i 0), (154, D.b ((((decide (x.atA > 0)) && (decide (x.atB > 0))) && (sameAt (-1) ((gi l x.a).words) x ((gi l x.b).words))) || (kcheckL_e0 x l)))]) [(c144, .cells 1 [(encL 2 encLex) ((gi l x.b).words)]), (c134, .cells 1 [(encL 2 encLex) ((gi l x.a).words)]), (c1, .cells 5 [encClone x])]
 refine wpA_cond rfl (fun b187 => ?_) (fun b187 => ?_)
 have h := h.1 ((or0 b187).imp (fun hh => ⟨⟨(decT (and1 (and1 hh))), (decT (and2 (and1 hh)))⟩, (and2 hh)⟩) (fun hh => ⟨⟨(decT (and1 (and1 hh))), (decT (and2 (and1 hh)))⟩, (and2 hh)⟩))
 refine wpA_seq ?_
 refine wpA_region ?_
 refine wL (OpA.a ?_)
 refine wpL_nil ?_
 refine wpA_ret ?_
 exact ⟨_, (.tmp (d := D.i 18) rfl .nil), _, (.same rfl .nil), ⟨18, rfl, h⟩⟩
 have h := h.2 ⟨((and0 (or1 b187)).imp (fun hh => ((and0 hh).imp (fun hh => (decF hh)) (fun hh => (decF hh)))) (fun hh => hh)), ((and0 (or2 b187)).imp (fun hh => ((and0 hh).imp (fun hh => (decF hh)) (fun hh => (decF hh)))) (fun hh => hh))⟩
 refine wpA_seq ?_
 refine wpA_region ?_
 refine wL (OpA.fieldAddr rfl tf38_4 rfl ?_)
 refine wL (OpA.load rfl ti3 rfl (.tail (.tail .head)) rfl rfl ?_)
 refine wL (OpA.m ?_)
 refine wL (OpA.lss rfl rfl rfl ?_)
 refine wL (OpA.a ?_)
 refine wpL_nil ?_
 refine wpA_cond rfl (fun b188 => ?_) (fun b188 => ?_)
 have h := h.1 (decT b188)
 refine wpA_seq ?_
 refine wpA_region ?_
 refine wL (OpA.a ?_)
 refine wpL_nil ?_
 refine wpA_ret ?_
 exact ⟨_, (.tmp (d := D.i 13) rfl .nil), _, (.same rfl .nil), ⟨13, rfl, h⟩⟩
 have h := h.2 (decF b188)
 refine wpA_skip ?_
 refine wpA_seq ?_
 refine wpA_region ?_
 refine wL (OpA.a ?_)
 refine wpL_nil ?_
 refine wpA_ret ?_
 exact ⟨_, (.tmp (d := D.i 0) rfl .nil), _, (.same rfl .nil), ⟨0, rfl, h⟩⟩
theorem kcheckL_c (l : (List Text)) (x : Clone) (n : Int) (hp0 : okTs l) : Fun false Tryz.prog 56 [(encL 2 encText) l, encClone x, D.i n] (fun d => d = D.i (checkC l x n)) :=
 Fun.at (enc := fun r => D.i r) (v := checkC l x n) (kcheckL_w l x n  (fun r => r = checkC l x n) (kcheckL_ok l x n _ hp0 rfl))
theorem kcheck_w (l : (List Text)) (x : Clone) (n : Int) (Q : Int → Prop) (h : kcheck_vc l x n Q) : Fun false Tryz.prog 20 [(encL 2 encText) l, encClone x, D.i n] (fun d => ∃ r, d = D.i r ∧ Q r) := by
 unfold kcheck_vc at h
 refine Fun.of_body Tryz.func20 rfl Tryz.ntmps20 rfl ?_
 refine wpA_seq ?_
 refine wpA_region ?_
 refine wL (OpA.bx (sz := 5) rfl (by with_reducible conv => lhs; whnf) (.of rfl) (fun c1 _ => ?_))
 refine wL (OpA.a ?_)
 refine wpL_nil ?_
 iterate 2 refine wpA_seq ?_
 obtain ⟨q1, h⟩ := h
 refine wpA_region ?_
 refine wL (OpA.m ?_)
 refine wL (OpA.call rfl rfl rfl en53 (kright_c l q1) ?_)
 rintro _ rfl
 refine wL (OpA.not rfl rfl ?_)
 refine wpL_nil ?_
 refine wpA_cond rfl (fun b2 => ?_) (fun b2 => ?_)
 have h := h.1 (notT b2)
 refine wpA_seq ?_
 refine wpA_region ?_
 refine wL (OpA.a ?_)
 refine wpL_nil ?_
 refine wpA_ret ?_
 exact ⟨_, (.tmp (d := D.i 1) rfl .nil), _, (.same rfl .nil), ⟨1, rfl, h⟩⟩
 have h := h.2 (notF b2)
 refine wpA_skip ?_
 refine wpA_seq ?_
 obtain ⟨q1, h⟩ := h
 refine wpA_region ?_
 refine wL (OpA.m ?_)
 refine wL (OpA.load_whole rfl ti38 rfl rfl .head rfl ⟨_, rfl⟩ ?_)
 refine wL (OpA.m ?_)
 refine wL (OpA.call rfl rfl rfl en56 (kcheckL_c l x n q1) ?_)
 rintro _ rfl
 refine wL (OpA.a ?_)
 refine wpL_nil ?_
 refine wpA_ret ?_
 exact ⟨_, (.tmp (d := D.i (checkC l x n)) rfl .nil), _, (.same rfl .nil), ⟨(checkC l x n), rfl, h⟩⟩
theorem kcheck_c (l : (List Text)) (x : Clone) (n : Int) (hp0 : okTs l) : Fun false Tryz.prog 20 [(encL 2 encText) l, encClone x, D.i n] (fun d => d = D.i (checkF29 l x n)) :=
 Fun.at (enc := fun r => D.i r) (v := checkF29 l x n) (kcheck_w l x n  (fun r => r = checkF29 l x n) (kcheck_ok l x n _ hp0 rfl))
abbrev klook_e0 (x : ClonePlace) (y : ClonePlace) := (CloneDiagonal.mk x.text y.text (y.at_ - x.at_))
theorem klook_w (texts : (List Text)) (least : Int) (seen : (List (CloneDiagonal × Int))) (found : (List (Clone × Unit))) (c_f d_seen d_found : Nat) (x : ClonePlace) (y : ClonePlace) (Q : (List (CloneDiagonal × Int)) × (List (Clone × Unit)) → Prop) (h : klook_vc texts least seen found x y Q) : CallH Tryz.prog 84 [.ptr c_f 4 0 0, encClonePlace x, encClonePlace y] [(c_f, .cells 4 [.agg ([(encL 2 encText) texts, D.i least, .map d_seen, .map d_found])]), (d_seen, .raw (mapK kf159 vI seen)), (d_found, .raw (mapK kf38 vU found))] (fun d h' => ∃ (r : (List (CloneDiagonal × Int)) × (List (Clone × Unit))) (g : Unit), d = .tup [] ∧ h' = [(c_f, .cells 4 [.agg ([(encL 2 encText) texts, D.i least, .map d_seen, .map d_found])]), (d_seen, .raw (mapK kf159 vI r.1)), (d_found, .raw (mapK kf38 vU r.2))] ∧ Q r) := by
 unfold klook_vc at h
 refine CallH.of_bodyP Tryz.func84 rfl Tryz.ntmps84 rfl ?_
 refine wpA_seq ?_
 refine wpA_region ?_
 refine wL (OpA.bx (sz := 2) rfl (by with_reducible conv => lhs; whnf) (.of rfl) (fun c1 _ => ?_))
 refine wL (OpA.bx (sz := 2) rfl (by with_reducible conv => lhs; whnf) (.of rfl) (fun c2 _ => ?_))
 refine wpL_nil ?_
 refine wpA_seq ?_
 obtain ⟨q1, h⟩ := h
 refine wpA_region ?_
 refine wL (OpA.fieldAddr rfl tf130_0 rfl ?_)
 refine wL (OpA.load rfl ti3 rfl (.tail .head) rfl rfl ?_)
 refine wL (OpA.fieldAddr rfl tf130_0 rfl ?_)
 refine wL (OpA.load rfl ti3 rfl .head rfl rfl ?_)
 refine wL (OpA.fieldAddr rfl tf130_1 rfl ?_)
 refine wL (OpA.load rfl ti3 rfl .head rfl rfl ?_)
 refine wL (OpA.fieldAddr rfl tf130_1 rfl ?_)
 refine wL (OpA.load rfl ti3 rfl (.tail .head) rfl rfl ?_)
 refine wL (OpA.subi rfl rfl rfl q1 ?_)
 refine wL (OpA.buildO (zs := [.v (.int .i64 0), .v (.int .i64 0), .v (.int .i64 0)]) rfl tp159 tz159 (fun _ _ => (.cons (.v _) (.cons (.v _) (.cons (.v _) .nil)))) (.cons (.of (sz := 1) rfl) (.cons (.of (sz := 1) rfl) (.cons (.of (sz := 1) rfl) .nil))) rfl ?_)
 refine wL (OpA.alloc (sz := 3) (d := encCloneDiagonal (CloneDiagonal.mk 0 0 0)) rfl tz159 (fun _ _ => .agg (.cons (.v _) (.cons (.v _) (.cons (.v _) .nil)))) (.of rfl) (fun c3 _ => ?_))
 refine wE (OpA.storeW rfl ti159 rfl (by with_reducible conv => lhs; whnf) (.of rfl) rfl rfl .head ?_)
 refine wpL_nil ?_
 iterate 2 refine wpA_seq ?_
 refine wpA_draw (m := 9) mo (by kernel_rfl) rfl ?_
 refine dL (OpA.m ⟨rfl, rfl⟩) ?_
 refine dL (OpA.nc rfl (by with_reducible conv => lhs; whnf) (.inl ⟨_, _, _, _, rfl⟩) ⟨rfl, rfl⟩) ?_
 refine dL (OpA.fieldAddr rfl tf125_2 rfl ⟨rfl, rfl⟩) ?_
 refine dL (OpA.load rfl ti122 rfl (.tail (.tail (.tail .head))) rfl rfl ⟨rfl, rfl⟩) ?_
 refine dL (OpA.load_whole rfl ti159 rfl rfl .head rfl ⟨_, rfl⟩ ⟨rfl, rfl⟩) ?_
 refine dL (OpA.mapGetK (kf := kf159) (vf := vI) (kd := encCloneDiagonal) (vd := D.i) (k := (klook_e0 x y)) (l := seen) 0 kt159 pk159 (plain_v vI) rfl td122 tz3 rfl rfl (.tail (.tail (.tail (.tail .head)))) ⟨rfl, rfl⟩) ?_
 refine dL (OpA.fieldAddr rfl tf130_1 rfl ⟨rfl, rfl⟩) ?_
 refine dL (OpA.load rfl ti3 rfl (.tail (.tail .head)) rfl rfl ⟨rfl, rfl⟩) ?_
 refine dL (OpA.gtr rfl rfl rfl ⟨rfl, rfl⟩) ?_
 refine DetK.nil ?_
 refine wpL_nil ?_
 refine wpA_cond rfl (fun b4 => ?_) (fun b4 => ?_)
 have h := h.1 (decT b4)
 refine wpA_ret ?_
 exact ⟨_, .nil, [(c_f, .cells 4 [.agg ([(encL 2 encText) texts, D.i least, .map d_seen, .map d_found])]), (d_seen, .raw (mapK kf159 vI seen)), (d_found, .raw (mapK kf38 vU found)), (c3, .cells 3 [encCloneDiagonal (klook_e0 x y)]), (c2, .cells 2 [encClonePlace y]), (c1, .cells 2 [encClonePlace x])], [(c_f, .cells 4 [.agg ([(encL 2 encText) texts, D.i least, .map d_seen, .map d_found])]), (d_seen, .raw (mapK kf159 vI seen)), (d_found, .raw (mapK kf38 vU found))], (pull3.trans (.cons _ (pull3.trans (.cons _ pull3)))), (.cons₂ _ (.cons₂ _ (.cons₂ _ (.cons _ (.cons _ (.cons _ (.refl _))))))), (seen, found), (), rfl, rfl, h⟩
 have h := h.2 (decF b4)
 refine wpA_skip ?_
 refine wpA_seq ?_
 obtain ⟨q1, q2, h⟩ := h
 refine wpA_draw (m := 20) mo (by kernel_rfl) rfl ?_
 refine dL (OpA.m ⟨rfl, rfl⟩) ?_
 refine dL (OpA.nc rfl (by with_reducible conv => lhs; whnf) (.inl ⟨_, _, _, _, rfl⟩) ⟨rfl, rfl⟩) ?_
 refine dL (OpA.fieldAddr rfl tf125_0 rfl ⟨rfl, rfl⟩) ?_
 refine dL (OpA.load rfl ti22 rfl (.tail (.tail (.tail .head))) rfl rfl ⟨rfl, rfl⟩) ?_
 refine dL (OpA.fieldAddr rfl tf130_0 rfl ⟨rfl, rfl⟩) ?_
 refine dL (OpA.load rfl ti3 rfl (.tail (.tail .head)) rfl rfl ⟨rfl, rfl⟩) ?_
 refine dL (OpA.iixV (enc := encText) rfl ts22 rfl rfl rfl q1 ⟨rfl, rfl⟩) ?_
 refine dL (OpA.ifieldAddr rfl tf28_1 rfl ⟨rfl, rfl⟩) ?_
 refine dL (OpA.iload rfl ti26 rfl rfl ⟨rfl, rfl⟩) ?_
 refine dL (OpA.m ⟨rfl, rfl⟩) ?_
 refine dL (OpA.nc rfl (by with_reducible conv => lhs; whnf) (.inl ⟨_, _, _, _, rfl⟩) ⟨rfl, rfl⟩) ?_
 refine dL (OpA.fieldAddr rfl tf125_0 rfl ⟨rfl, rfl⟩) ?_
 refine dL (OpA.load rfl ti22 rfl (.tail (.tail (.tail .head))) rfl rfl ⟨rfl, rfl⟩) ?_
 refine dL (OpA.fieldAddr rfl tf130_0 rfl ⟨rfl, rfl⟩) ?_
 refine dL (OpA.load rfl ti3 rfl (.tail .head) rfl rfl ⟨rfl, rfl⟩) ?_
 refine dL (OpA.iixV (enc := encText) rfl ts22 rfl rfl rfl q2 ⟨rfl, rfl⟩) ?_
 refine dL (OpA.ifieldAddr rfl tf28_1 rfl ⟨rfl, rfl⟩) ?_
 refine dL (OpA.iload rfl ti26 rfl rfl ⟨rfl, rfl⟩) ?_
 iterate 2 refine dL (OpA.a ⟨rfl, rfl⟩) ?_
 refine DetK.nil ?_
 refine wpL_nil ?_
 refine wpA_seq ?_
 refine wpA_region ?_
 iterate 2 refine wL (OpA.a ?_)
 refine wpL_nil ?_
 refine wpA_seq ?_
 refine wpA_block ?_
 refine wpA_lfp (S := Int) (G := Unit) () (fun gg ss => asg [(0, .ptr c_f 4 0 0), (4, .ptr c1 2 0 0), (5, .ptr c2 2 0 0), (6, .ptr c3 3 0 0), (7, (encL 2 encLex) ((gi texts x.text).words)), (8, (encL 2 encLex) ((gi texts y.text).words)), (9, D.i 0), (10, D.i ss)]) (fun gg ss => [(c3, .cells 3 [encCloneDiagonal (klook_e0 x y)]), (c2, .cells 2 [encClonePlace y]), (c1, .cells 2 [encClonePlace x]), (c_f, .cells 4 [.agg ([(encL 2 encText) texts, D.i least, .map d_seen, .map d_found])]), (d_seen, .raw (mapK kf159 vI seen)), (d_found, .raw (mapK kf38 vU found))]) h (Cov.asg ⟨rfl, rfl, rfl, rfl, rfl, rfl, rfl, rfl, trivial⟩) (.refl _) ?_
 rintro again5 _ to h
 have h : klook_L1 texts least seen found x y Q again5 to := h
 unfold klook_L1 at h
 show wpA _ _ _ _ (asg [(0, .ptr c_f 4 0 0), (4, .ptr c1 2 0 0), (5, .ptr c2 2 0 0), (6, .ptr c3 3 0 0), (7, (encL 2 encLex) ((gi texts x.text).words)), (8, (encL 2 encLex) ((gi texts y.text).words)), (9, D.i 0), (10, D.i to)]) [(c3, .cells 3 [encCloneDiagonal (klook_e0 x y)]), (c2, .cells 2 [encClonePlace y]), (c1, .cells 2 [encClonePlace x]), (c_f, .cells 4 [.agg ([(encL 2 encText) texts, D.i least, .map d_seen, .map d_found])]), (d_seen, .raw (mapK kf159 vI seen)), (d_found, .raw (mapK kf38 vU found))]
 iterate 2 refine wpA_seq ?_
 obtain ⟨q1, q2, q3, h⟩ := h
 refine wpA_mid (asg [(0, .ptr c_f 4 0 0), (4, .ptr c1 2 0 0), (5, .ptr c2 2 0 0), (6, .ptr c3 3 0 0), (7, (encL 2 encLex) ((gi texts x.text).words)), (8, (encL 2 encLex) ((gi texts y.text).words)), (9, D.i 0), (10, D.i to), (82, D.b (((decide ((x.at_ + to) < (((gi texts x.text).words).length : Int))) && (decide ((y.at_ + to) < (((gi texts y.text).words).length : Int)))) && (decide ((gi ((gi texts x.text).words) (x.at_ + to)).text = (gi ((gi texts y.text).words) (y.at_ + to)).text))))]) [(c3, .cells 3 [encCloneDiagonal (klook_e0 x y)]), (c2, .cells 2 [encClonePlace y]), (c1, .cells 2 [encClonePlace x]), (c_f, .cells 4 [.agg ([(encL 2 encText) texts, D.i least, .map d_seen, .map d_found])]), (d_seen, .raw (mapK kf159 vI seen)), (d_found, .raw (mapK kf38 vU found))] ?_ ?_
 refine wpA_draw (m := 35) mo (by kernel_rfl) rfl ?_
 refine dL (OpA.fieldAddr rfl tf130_1 rfl ⟨rfl, rfl⟩) ?_
 refine dL (OpA.load rfl ti3 rfl (.tail (.tail .head)) rfl rfl ⟨rfl, rfl⟩) ?_
 refine dL (OpA.m ⟨rfl, rfl⟩) ?_
 refine dL (OpA.addi rfl rfl rfl q1 ⟨rfl, rfl⟩) ?_
 refine dL (OpA.m ⟨rfl, rfl⟩) ?_
 refine dL (OpA.len rfl rfl rfl rfl ts26.desc (.inl ⟨_, _, rfl, (List.length_map _).symm⟩) ⟨rfl, rfl⟩) ?_
 refine dL (OpA.lss rfl rfl rfl ⟨rfl, rfl⟩) ?_
 refine dL (OpA.m ⟨rfl, rfl⟩) ?_
 refine DetK_split (s := 55) rfl (fun b14 => ?_) (fun b14 => ?_)
 refine dG (OpA.fieldAddr rfl tf130_1 rfl ⟨rfl, rfl⟩) ?_
 refine dG (OpA.load rfl ti3 rfl (.tail .head) rfl rfl ⟨rfl, rfl⟩) ?_
 refine dG (OpA.m ⟨rfl, rfl⟩) ?_
 refine dG (OpA.addi rfl rfl rfl (q2 (decT b14)) ⟨rfl, rfl⟩) ?_
 refine dG (OpA.m ⟨rfl, rfl⟩) ?_
 refine dG (OpA.len rfl rfl rfl rfl ts26.desc (.inl ⟨_, _, rfl, (List.length_map _).symm⟩) ⟨rfl, rfl⟩) ?_
 refine dG (OpA.lss rfl rfl rfl ⟨rfl, rfl⟩) ?_
 refine dL (OpA.p ⟨rfl, rfl⟩) ?_
 refine dL (OpA.m ⟨rfl, rfl⟩) ?_
 refine DetK_split (s := 64) rfl (fun b15 => ?_) (fun b15 => ?_)
 refine dG (OpA.m ⟨rfl, rfl⟩) ?_
 refine dG (OpA.fieldAddr rfl tf130_1 rfl ⟨rfl, rfl⟩) ?_
 refine dG (OpA.load rfl ti3 rfl (.tail (.tail .head)) rfl rfl ⟨rfl, rfl⟩) ?_
 refine dG (OpA.m ⟨rfl, rfl⟩) ?_
 refine dG (OpA.addi rfl rfl rfl q1 ⟨rfl, rfl⟩) ?_
 refine dG (OpA.iixV (enc := encLex) rfl ts26 rfl rfl rfl (q3 ⟨(decT b14), (decT b15)⟩).1 ⟨rfl, rfl⟩) ?_
 refine dG (OpA.ifieldAddr rfl tf61_0 rfl ⟨rfl, rfl⟩) ?_
 refine dG (OpA.iload rfl ti9 rfl rfl ⟨rfl, rfl⟩) ?_
 refine dG (OpA.m ⟨rfl, rfl⟩) ?_
 refine dG (OpA.fieldAddr rfl tf130_1 rfl ⟨rfl, rfl⟩) ?_
 refine dG (OpA.load rfl ti3 rfl (.tail .head) rfl rfl ⟨rfl, rfl⟩) ?_
 refine dG (OpA.m ⟨rfl, rfl⟩) ?_
 refine dG (OpA.addi rfl rfl rfl (q3 ⟨(decT b14), (decT b15)⟩).2.1 ⟨rfl, rfl⟩) ?_
 refine dG (OpA.iixV (enc := encLex) rfl ts26 rfl rfl rfl (q3 ⟨(decT b14), (decT b15)⟩).2.2 ⟨rfl, rfl⟩) ?_
 refine dG (OpA.ifieldAddr rfl tf61_0 rfl ⟨rfl, rfl⟩) ?_
 refine dG (OpA.iload rfl ti9 rfl rfl ⟨rfl, rfl⟩) ?_
 refine dG (OpA.seql rfl rfl rfl ⟨rfl, rfl⟩) ?_
 refine dL (OpA.p ⟨rfl, rfl⟩) ?_
 refine DetK.nil ?_
 refine wpL_nil ?_
 exact ⟨(Cov.asg ⟨rfl, rfl, rfl, rfl, rfl, rfl, rfl, rfl, (congrArg D.b (Eq.symm (andN (andN b14 b15) rfl))), trivial⟩), (.refl _)⟩
 iterate 17 refine dS ?_
 refine dL (OpA.p ⟨rfl, rfl⟩) ?_
 refine DetK.nil ?_
 refine wpL_nil ?_
 exact ⟨(Cov.asg ⟨rfl, rfl, rfl, rfl, rfl, rfl, rfl, rfl, (congrArg D.b (Eq.symm (andS (andN b14 b15)))), trivial⟩), (.refl _)⟩
 iterate 7 refine dS ?_
 refine dL (OpA.p ⟨rfl, rfl⟩) ?_
 refine dL (OpA.m ⟨rfl, rfl⟩) ?_
 iterate 17 refine dS ?_
 refine dL (OpA.p ⟨rfl, rfl⟩) ?_
 refine DetK.nil ?_
 refine wpL_nil ?_
 exact ⟨(Cov.asg ⟨rfl, rfl, rfl, rfl, rfl, rfl, rfl, rfl, (congrArg D.b (Eq.symm (andS (andS b14)))), trivial⟩), (.refl _)⟩
 show wpA _ _ _ _ (asg [(0, .ptr c_f 4 0 0), (4, .ptr c1 2 0 0), (5, .ptr c2 2 0 0), (6, .ptr c3 3 0 0), (7, (encL 2 encLex) ((gi texts x.text).words)), (8, (encL 2 encLex) ((gi texts y.text).words)), (9, D.i 0), (10, D.i to), (82, D.b (((decide ((x.at_ + to) < (((gi texts x.text).words).length : Int))) && (decide ((y.at_ + to) < (((gi texts y.text).words).length : Int)))) && (decide ((gi ((gi texts x.text).words) (x.at_ + to)).text = (gi ((gi texts y.text).words) (y.at_ + to)).text))))]) [(c3, .cells 3 [encCloneDiagonal (klook_e0 x y)]), (c2, .cells 2 [encClonePlace y]), (c1, .cells 2 [encClonePlace x]), (c_f, .cells 4 [.agg ([(encL 2 encText) texts, D.i least, .map d_seen, .map d_found])]), (d_seen, .raw (mapK kf159 vI seen)), (d_found, .raw (mapK kf38 vU found))]
 refine wpA_cond rfl (fun b6 => ?_) (fun b6 => ?_)
 have h := h.1 ⟨⟨(decT (and1 (and1 b6))), (decT (and2 (and1 b6)))⟩, (decT (and2 b6))⟩
 refine wpA_skip ?_
 refine wpA_block ?_
 obtain ⟨q1, h⟩ := h
 refine wpA_region ?_
 refine wL (OpA.m ?_)
 refine wL (OpA.addi rfl rfl rfl q1 ?_)
 refine wL (OpA.a ?_)
 refine wpL_nil ?_
 exact ⟨(), (to + 1), h, (Cov.asg ⟨rfl, rfl, rfl, rfl, rfl, rfl, rfl, rfl, trivial⟩), (.refl _)⟩
 have h := h.2 ((and0 b6).imp (fun hh => ((and0 hh).imp (fun hh => (decF hh)) (fun hh => (decF hh)))) (fun hh => (decF hh)))
 refine wpA_exit ?_
 refine wpA_seq ?_
 obtain ⟨q1, h⟩ := h
 refine wpA_draw (m := 10) mo (by kernel_rfl) rfl ?_
 refine dL (OpA.m ⟨rfl, rfl⟩) ?_
 refine dL (OpA.nc rfl (by with_reducible conv => lhs; whnf) (.inl ⟨_, _, _, _, rfl⟩) ⟨rfl, rfl⟩) ?_
 refine dL (OpA.fieldAddr rfl tf125_2 rfl ⟨rfl, rfl⟩) ?_
 refine dL (OpA.load rfl ti122 rfl (.tail (.tail (.tail .head))) rfl rfl ⟨rfl, rfl⟩) ?_
 refine dL (OpA.load_whole rfl ti159 rfl rfl .head rfl ⟨_, rfl⟩ ⟨rfl, rfl⟩) ?_
 refine dL (OpA.fieldAddr rfl tf130_1 rfl ⟨rfl, rfl⟩) ?_
 refine dL (OpA.load rfl ti3 rfl (.tail (.tail .head)) rfl rfl ⟨rfl, rfl⟩) ?_
 refine dL (OpA.m ⟨rfl, rfl⟩) ?_
 refine dL (OpA.max (l := [_]) rfl rfl rfl rfl ⟨rfl, rfl⟩) ?_
 refine dL (OpA.addi rfl rfl rfl q1 ⟨rfl, rfl⟩) ?_
 refine DetK.nil ?_
 refine wE (OpA.mapSetK (kf := kf159) (vf := vI) (kd := encCloneDiagonal) (vd := D.i) (k := (klook_e0 x y)) (v := (x.at_ + (gmax to [1]))) (l := seen) kt159 pk159 (plain_v vI) rfl td122 rfl rfl rfl (.tail (.tail (.tail (.tail .head)))) ?_)
 refine wpL_nil ?_
 refine wpA_seq ?_
 refine wpA_block ?_
 refine wpA_lfp (S := Int) (G := Unit) () (fun gg ss => asg [(0, .ptr c_f 4 0 0), (4, .ptr c1 2 0 0), (5, .ptr c2 2 0 0), (7, (encL 2 encLex) ((gi texts x.text).words)), (8, (encL 2 encLex) ((gi texts y.text).words)), (9, D.i ss), (10, D.i to)]) (fun gg ss => [(c3, .cells 3 [encCloneDiagonal (klook_e0 x y)]), (c2, .cells 2 [encClonePlace y]), (c1, .cells 2 [encClonePlace x]), (c_f, .cells 4 [.agg ([(encL 2 encText) texts, D.i least, .map d_seen, .map d_found])]), (d_seen, .raw (mapK kf159 vI (kset seen (klook_e0 x y) (x.at_ + (gmax to [1]))))), (d_found, .raw (mapK kf38 vU found))]) h (Cov.asg ⟨rfl, rfl, rfl, rfl, rfl, rfl, rfl, trivial⟩) (.refl _) ?_
 rintro again7 _ from_ h
 have h : klook_L2 texts least seen found x y to Q again7 from_ := h
 unfold klook_L2 at h
 show wpA _ _ _ _ (asg [(0, .ptr c_f 4 0 0), (4, .ptr c1 2 0 0), (5, .ptr c2 2 0 0), (7, (encL 2 encLex) ((gi texts x.text).words)), (8, (encL 2 encLex) ((gi texts y.text).words)), (9, D.i from_), (10, D.i to)]) [(c3, .cells 3 [encCloneDiagonal (klook_e0 x y)]), (c2, .cells 2 [encClonePlace y]), (c1, .cells 2 [encClonePlace x]), (c_f, .cells 4 [.agg ([(encL 2 encText) texts, D.i least, .map d_seen, .map d_found])]), (d_seen, .raw (mapK kf159 vI (kset seen (klook_e0 x y) (x.at_ + (gmax to [1]))))), (d_found, .raw (mapK kf38 vU found))]
 iterate 2 refine wpA_seq ?_
 obtain ⟨q1, h⟩ := h
 refine wpA_mid (asg [(0, .ptr c_f 4 0 0), (4, .ptr c1 2 0 0), (5, .ptr c2 2 0 0), (7, (encL 2 encLex) ((gi texts x.text).words)), (8, (encL 2 encLex) ((gi texts y.text).words)), (9, D.i from_), (10, D.i to), (129, D.b ((((decide (to > 0)) && (decide (x.at_ > from_))) && (decide (y.at_ > from_))) && (decide ((gi ((gi texts x.text).words) ((x.at_ - from_) - 1)).text = (gi ((gi texts y.text).words) ((y.at_ - from_) - 1)).text))))]) [(c3, .cells 3 [encCloneDiagonal (klook_e0 x y)]), (c2, .cells 2 [encClonePlace y]), (c1, .cells 2 [encClonePlace x]), (c_f, .cells 4 [.agg ([(encL 2 encText) texts, D.i least, .map d_seen, .map d_found])]), (d_seen, .raw (mapK kf159 vI (kset seen (klook_e0 x y) (x.at_ + (gmax to [1]))))), (d_found, .raw (mapK kf38 vU found))] ?_ ?_
 refine wpA_draw (m := 35) mo (by kernel_rfl) rfl ?_
 refine dL (OpA.m ⟨rfl, rfl⟩) ?_
 refine dL (OpA.gtr rfl rfl rfl ⟨rfl, rfl⟩) ?_
 refine dL (OpA.m ⟨rfl, rfl⟩) ?_
 refine DetK_split (s := 97) rfl (fun b11 => ?_) (fun b11 => ?_)
 refine dG (OpA.fieldAddr rfl tf130_1 rfl ⟨rfl, rfl⟩) ?_
 refine dG (OpA.load rfl ti3 rfl (.tail (.tail .head)) rfl rfl ⟨rfl, rfl⟩) ?_
 refine dG (OpA.m ⟨rfl, rfl⟩) ?_
 refine dG (OpA.gtr rfl rfl rfl ⟨rfl, rfl⟩) ?_
 refine dL (OpA.p ⟨rfl, rfl⟩) ?_
 refine dL (OpA.m ⟨rfl, rfl⟩) ?_
 refine DetK_split (s := 103) rfl (fun b12 => ?_) (fun b12 => ?_)
 refine dG (OpA.fieldAddr rfl tf130_1 rfl ⟨rfl, rfl⟩) ?_
 refine dG (OpA.load rfl ti3 rfl (.tail .head) rfl rfl ⟨rfl, rfl⟩) ?_
 refine dG (OpA.m ⟨rfl, rfl⟩) ?_
 refine dG (OpA.gtr rfl rfl rfl ⟨rfl, rfl⟩) ?_
 refine dL (OpA.p ⟨rfl, rfl⟩) ?_
 refine dL (OpA.m ⟨rfl, rfl⟩) ?_
 refine DetK_split (s := 109) rfl (fun b13 => ?_) (fun b13 => ?_)
 refine dG (OpA.m ⟨rfl, rfl⟩) ?_
 refine dG (OpA.fieldAddr rfl tf130_1 rfl ⟨rfl, rfl⟩) ?_
 refine dG (OpA.load rfl ti3 rfl (.tail (.tail .head)) rfl rfl ⟨rfl, rfl⟩) ?_
 refine dG (OpA.m ⟨rfl, rfl⟩) ?_
 refine dG (OpA.subi rfl rfl rfl (q1 ⟨⟨(decT b11), (decT b12)⟩, (decT b13)⟩).1 ⟨rfl, rfl⟩) ?_
 refine dG (OpA.subi rfl rfl rfl (q1 ⟨⟨(decT b11), (decT b12)⟩, (decT b13)⟩).2.1 ⟨rfl, rfl⟩) ?_
 refine dG (OpA.iixV (enc := encLex) rfl ts26 rfl rfl rfl (q1 ⟨⟨(decT b11), (decT b12)⟩, (decT b13)⟩).2.2.1 ⟨rfl, rfl⟩) ?_
 refine dG (OpA.ifieldAddr rfl tf61_0 rfl ⟨rfl, rfl⟩) ?_
 refine dG (OpA.iload rfl ti9 rfl rfl ⟨rfl, rfl⟩) ?_
 refine dG (OpA.m ⟨rfl, rfl⟩) ?_
 refine dG (OpA.fieldAddr rfl tf130_1 rfl ⟨rfl, rfl⟩) ?_
 refine dG (OpA.load rfl ti3 rfl (.tail .head) rfl rfl ⟨rfl, rfl⟩) ?_
 refine dG (OpA.m ⟨rfl, rfl⟩) ?_
 refine dG (OpA.subi rfl rfl rfl (q1 ⟨⟨(decT b11), (decT b12)⟩, (decT b13)⟩).2.2.2.1 ⟨rfl, rfl⟩) ?_
 refine dG (OpA.subi rfl rfl rfl (q1 ⟨⟨(decT b11), (decT b12)⟩, (decT b13)⟩).2.2.2.2.1 ⟨rfl, rfl⟩) ?_
 refine dG (OpA.iixV (enc := encLex) rfl ts26 rfl rfl rfl (q1 ⟨⟨(decT b11), (decT b12)⟩, (decT b13)⟩).2.2.2.2.2 ⟨rfl, rfl⟩) ?_
 refine dG (OpA.ifieldAddr rfl tf61_0 rfl ⟨rfl, rfl⟩) ?_
 refine dG (OpA.iload rfl ti9 rfl rfl ⟨rfl, rfl⟩) ?_
 refine dG (OpA.seql rfl rfl rfl ⟨rfl, rfl⟩) ?_
 refine dL (OpA.p ⟨rfl, rfl⟩) ?_
 refine DetK.nil ?_
 refine wpL_nil ?_
 exact ⟨(Cov.asg ⟨rfl, rfl, rfl, rfl, rfl, rfl, rfl, (congrArg D.b (Eq.symm (andN (andN (andN b11 b12) b13) rfl))), trivial⟩), (.refl _)⟩
 iterate 19 refine dS ?_
 refine dL (OpA.p ⟨rfl, rfl⟩) ?_
 refine DetK.nil ?_
 refine wpL_nil ?_
 exact ⟨(Cov.asg ⟨rfl, rfl, rfl, rfl, rfl, rfl, rfl, (congrArg D.b (Eq.symm (andS (andN (andN b11 b12) b13)))), trivial⟩), (.refl _)⟩
 iterate 4 refine dS ?_
 refine dL (OpA.p ⟨rfl, rfl⟩) ?_
 refine dL (OpA.m ⟨rfl, rfl⟩) ?_
 iterate 19 refine dS ?_
 refine dL (OpA.p ⟨rfl, rfl⟩) ?_
 refine DetK.nil ?_
 refine wpL_nil ?_
 exact ⟨(Cov.asg ⟨rfl, rfl, rfl, rfl, rfl, rfl, rfl, (congrArg D.b (Eq.symm (andS (andS (andN b11 b12))))), trivial⟩), (.refl _)⟩
 iterate 4 refine dS ?_
 refine dL (OpA.p ⟨rfl, rfl⟩) ?_
 refine dL (OpA.m ⟨rfl, rfl⟩) ?_
 iterate 4 refine dS ?_
 refine dL (OpA.p ⟨rfl, rfl⟩) ?_
 refine dL (OpA.m ⟨rfl, rfl⟩) ?_
 iterate 19 refine dS ?_
 refine dL (OpA.p ⟨rfl, rfl⟩) ?_
 refine DetK.nil ?_
 refine wpL_nil ?_
 exact ⟨(Cov.asg ⟨rfl, rfl, rfl, rfl, rfl, rfl, rfl, (congrArg D.b (Eq.symm (andS (andS (andS b11))))), trivial⟩), (.refl _)⟩
 show wpA _ _ _ _ (asg [(0, .ptr c_f 4 0 0), (4, .ptr c1 2 0 0), (5, .ptr c2 2 0 0), (7, (encL 2 encLex) ((gi texts x.text).words)), (8, (encL 2 encLex) ((gi texts y.text).words)), (9, D.i from_), (10, D.i to), (129, D.b ((((decide (to > 0)) && (decide (x.at_ > from_))) && (decide (y.at_ > from_))) && (decide ((gi ((gi texts x.text).words) ((x.at_ - from_) - 1)).text = (gi ((gi texts y.text).words) ((y.at_ - from_) - 1)).text))))]) [(c3, .cells 3 [encCloneDiagonal (klook_e0 x y)]), (c2, .cells 2 [encClonePlace y]), (c1, .cells 2 [encClonePlace x]), (c_f, .cells 4 [.agg ([(encL 2 encText) texts, D.i least, .map d_seen, .map d_found])]), (d_seen, .raw (mapK kf159 vI (kset seen (klook_e0 x y) (x.at_ + (gmax to [1]))))), (d_found, .raw (mapK kf38 vU found))]
 refine wpA_cond rfl (fun b8 => ?_) (fun b8 => ?_)
 have h := h.1 ⟨⟨⟨(decT (and1 (and1 (and1 b8)))), (decT (and2 (and1 (and1 b8))))⟩, (decT (and2 (and1 b8)))⟩, (decT (and2 b8))⟩
 refine wpA_skip ?_
 refine wpA_block ?_
 obtain ⟨q1, h⟩ := h
 refine wpA_region ?_
 refine wL (OpA.m ?_)
 refine wL (OpA.addi rfl rfl rfl q1 ?_)
 refine wL (OpA.a ?_)
 refine wpL_nil ?_
 exact ⟨(), (from_ + 1), h, (Cov.asg ⟨rfl, rfl, rfl, rfl, rfl, rfl, rfl, trivial⟩), (.refl _)⟩
 have h := h.2 ((and0 b8).imp (fun hh => ((and0 hh).imp (fun hh => ((and0 hh).imp (fun hh => (decF hh)) (fun hh => (decF hh)))) (fun hh => (decF hh)))) (fun hh => (decF hh)))
 refine wpA_exit ?_
 refine wpA_seq ?_
 obtain ⟨q1, h⟩ := h
 refine wpA_mid (asg [(0, .ptr c_f 4 0 0), (4, .ptr c1 2 0 0), (5, .ptr c2 2 0 0), (9, D.i from_), (10, D.i to), (143, D.b ((decide ((from_ + to) ≥ least)) && (decide (to > 0))))]) [(c3, .cells 3 [encCloneDiagonal (klook_e0 x y)]), (c2, .cells 2 [encClonePlace y]), (c1, .cells 2 [encClonePlace x]), (c_f, .cells 4 [.agg ([(encL 2 encText) texts, D.i least, .map d_seen, .map d_found])]), (d_seen, .raw (mapK kf159 vI (kset seen (klook_e0 x y) (x.at_ + (gmax to [1]))))), (d_found, .raw (mapK kf38 vU found))] ?_ ?_
 refine wpA_region ?_
 iterate 2 refine wL (OpA.m ?_)
 refine wL (OpA.addi rfl rfl rfl q1 ?_)
 refine wL (OpA.m ?_)
 refine wL (OpA.nc rfl (by with_reducible conv => lhs; whnf) (.inl ⟨_, _, _, _, rfl⟩) ?_)
 refine wL (OpA.fieldAddr rfl tf125_1 rfl ?_)
 refine wL (OpA.load rfl ti3 rfl (.tail (.tail (.tail .head))) rfl rfl ?_)
 refine wL (OpA.geq rfl rfl rfl ?_)
 refine wL (OpA.m ?_)
 refine wpL_split (s := 140) rfl (fun b10 => ?_) (fun b10 => ?_)
 refine wG (OpA.m ?_)
 refine wG (OpA.gtr rfl rfl rfl ?_)
 refine wL (OpA.p ?_)
 refine wpL_nil ?_
 exact ⟨(Cov.asg ⟨rfl, rfl, rfl, rfl, rfl, (congrArg D.b (Eq.symm (andN b10 rfl))), trivial⟩), (.refl _)⟩
 iterate 2 refine wS ?_
 refine wL (OpA.p ?_)
 refine wpL_nil ?_
 exact ⟨(Cov.asg ⟨rfl, rfl, rfl, rfl, rfl, (congrArg D.b (Eq.symm (andS b10))), trivial⟩), (.refl _)⟩
 show wpA _ _ _ _ (asg [(0, .ptr c_f 4 0 0), (4, .ptr c1 2 0 0), (5, .ptr c2 2 0 0), (9, D.i from_), (10, D.i to), (143, D.b ((decide ((from_ + to) ≥ least)) && (decide (to > 0))))]) [(c3, .cells 3 [encCloneDiagonal (klook_e0 x y)]), (c2, .cells 2 [encClonePlace y]), (c1, .cells 2 [encClonePlace x]), (c_f, .cells 4 [.agg ([(encL 2 encText) texts, D.i least, .map d_seen, .map d_found])]), (d_seen, .raw (mapK kf159 vI (kset seen (klook_e0 x y) (x.at_ + (gmax to [1]))))), (d_found, .raw (mapK kf38 vU found))]
 refine wpA_cond rfl (fun b9 => ?_) (fun b9 => ?_)
 have h := h.1 ⟨(decT (and1 b9)), (decT (and2 b9))⟩
 obtain ⟨q1, q2, q3, h⟩ := h
 refine wpA_draw (m := 21) mo (by kernel_rfl) rfl ?_
 refine dL (OpA.m ⟨rfl, rfl⟩) ?_
 refine dL (OpA.nc rfl (by with_reducible conv => lhs; whnf) (.inl ⟨_, _, _, _, rfl⟩) ⟨rfl, rfl⟩) ?_
 refine dL (OpA.fieldAddr rfl tf125_3 rfl ⟨rfl, rfl⟩) ?_
 refine dL (OpA.load rfl ti123 rfl (.tail (.tail (.tail .head))) rfl rfl ⟨rfl, rfl⟩) ?_
 refine dL (OpA.fieldAddr rfl tf130_0 rfl ⟨rfl, rfl⟩) ?_
 refine dL (OpA.load rfl ti3 rfl (.tail (.tail .head)) rfl rfl ⟨rfl, rfl⟩) ?_
 refine dL (OpA.fieldAddr rfl tf130_1 rfl ⟨rfl, rfl⟩) ?_
 refine dL (OpA.load rfl ti3 rfl (.tail (.tail .head)) rfl rfl ⟨rfl, rfl⟩) ?_
 refine dL (OpA.m ⟨rfl, rfl⟩) ?_
 refine dL (OpA.subi rfl rfl rfl q1 ⟨rfl, rfl⟩) ?_
 refine dL (OpA.fieldAddr rfl tf130_0 rfl ⟨rfl, rfl⟩) ?_
 refine dL (OpA.load rfl ti3 rfl (.tail .head) rfl rfl ⟨rfl, rfl⟩) ?_
 refine dL (OpA.fieldAddr rfl tf130_1 rfl ⟨rfl, rfl⟩) ?_
 refine dL (OpA.load rfl ti3 rfl (.tail .head) rfl rfl ⟨rfl, rfl⟩) ?_
 refine dL (OpA.m ⟨rfl, rfl⟩) ?_
 refine dL (OpA.subi rfl rfl rfl q2 ⟨rfl, rfl⟩) ?_
 iterate 2 refine dL (OpA.m ⟨rfl, rfl⟩) ?_
 refine dL (OpA.addi rfl rfl rfl q3 ⟨rfl, rfl⟩) ?_
 refine dL (OpA.buildO (zs := [.v (.int .i64 0), .v (.int .i64 0), .v (.int .i64 0), .v (.int .i64 0), .v (.int .i64 0)]) rfl tp38 tz38 (fun _ _ => (.cons (.v _) (.cons (.v _) (.cons (.v _) (.cons (.v _) (.cons (.v _) .nil)))))) (.cons (.of (sz := 1) rfl) (.cons (.of (sz := 1) rfl) (.cons (.of (sz := 1) rfl) (.cons (.of (sz := 1) rfl) (.cons (.of (sz := 1) rfl) .nil))))) rfl ⟨rfl, rfl⟩) ?_
 refine dL (OpA.buildO (zs := []) rfl tp160 tz160 (fun _ _ => .nil) .nil rfl ⟨rfl, rfl⟩) ?_
 refine DetK.nil ?_
 refine wE (OpA.mapSetK (kf := kf38) (vf := vU) (kd := encClone) (vd := encU) (k := (Clone.mk x.text (x.at_ - from_) y.text (y.at_ - from_) (from_ + to))) (v := ()) (l := found) kt38 pk38 plain_u rfl td123 rfl rfl rfl (.tail (.tail (.tail (.tail (.tail .head))))) ?_)
 refine wpL_nil ?_
 exact ⟨_, .nil, [(c_f, .cells 4 [.agg ([(encL 2 encText) texts, D.i least, .map d_seen, .map d_found])]), (d_seen, .raw (mapK kf159 vI (kset seen (klook_e0 x y) (x.at_ + (gmax to [1]))))), (d_found, .raw (mapK kf38 vU (kset found (Clone.mk x.text (x.at_ - from_) y.text (y.at_ - from_) (from_ + to)) ()))), (c3, .cells 3 [encCloneDiagonal (klook_e0 x y)]), (c2, .cells 2 [encClonePlace y]), (c1, .cells 2 [encClonePlace x])], [(c_f, .cells 4 [.agg ([(encL 2 encText) texts, D.i least, .map d_seen, .map d_found])]), (d_seen, .raw (mapK kf159 vI (kset seen (klook_e0 x y) (x.at_ + (gmax to [1]))))), (d_found, .raw (mapK kf38 vU (kset found (Clone.mk x.text (x.at_ - from_) y.text (y.at_ - from_) (from_ + to)) ())))], (pull3.trans (.cons _ (pull3.trans (.cons _ pull3)))), (.cons₂ _ (.cons₂ _ (.cons₂ _ (.cons _ (.cons _ (.cons _ (.refl _))))))), ((kset seen (klook_e0 x y) (x.at_ + (gmax to [1]))), (kset found (Clone.mk x.text (x.at_ - from_) y.text (y.at_ - from_) (from_ + to)) ())), (), rfl, rfl, h⟩
 have h := h.2 ((and0 b9).imp (fun hh => (decF hh)) (fun hh => (decF hh)))
 refine wpA_skip ?_
 exact ⟨_, .nil, [(c_f, .cells 4 [.agg ([(encL 2 encText) texts, D.i least, .map d_seen, .map d_found])]), (d_seen, .raw (mapK kf159 vI (kset seen (klook_e0 x y) (x.at_ + (gmax to [1]))))), (d_found, .raw (mapK kf38 vU found)), (c3, .cells 3 [encCloneDiagonal (klook_e0 x y)]), (c2, .cells 2 [encClonePlace y]), (c1, .cells 2 [encClonePlace x])], [(c_f, .cells 4 [.agg ([(encL 2 encText) texts, D.i least, .map d_seen, .map d_found])]), (d_seen, .raw (mapK kf159 vI (kset seen (klook_e0 x y) (x.at_ + (gmax to [1]))))), (d_found, .raw (mapK kf38 vU found))], (pull3.trans (.cons _ (pull3.trans (.cons _ pull3)))), (.cons₂ _ (.cons₂ _ (.cons₂ _ (.cons _ (.cons _ (.cons _ (.refl _))))))), ((kset seen (klook_e0 x y) (x.at_ + (gmax to [1]))), found), (), rfl, rfl, h⟩
theorem klook_c (texts : (List Text)) (least : Int) (seen : (List (CloneDiagonal × Int))) (found : (List (Clone × Unit))) (c_f d_seen d_found : Nat) (x : ClonePlace) (y : ClonePlace) (hp0 : okTs texts) (hp1 : OkP texts (x, y)) : CallH Tryz.prog 84 [.ptr c_f 4 0 0, encClonePlace x, encClonePlace y] [(c_f, .cells 4 [.agg ([(encL 2 encText) texts, D.i least, .map d_seen, .map d_found])]), (d_seen, .raw (mapK kf159 vI seen)), (d_found, .raw (mapK kf38 vU found))] (fun d h' => ∃ (g : Unit), d = .tup [] ∧ h' = [(c_f, .cells 4 [.agg ([(encL 2 encText) texts, D.i least, .map d_seen, .map d_found])]), (d_seen, .raw (mapK kf159 vI ((lookF texts least seen found x y).1))), (d_found, .raw (mapK kf38 vU ((lookF texts least seen found x y).2)))]) :=
 (klook_w texts least seen found c_f d_seen d_found x y  (fun r => r = lookF texts least seen found x y) (klook_ok texts least seen found x y _ hp0 hp1 rfl)).mono (by rintro d h' ⟨r, g, hd, hh, rfl⟩; exact ⟨g, hd, hh⟩)
end Go.Proofs.YtglclijalehcmaaGreatDoor
