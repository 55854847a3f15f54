/-
  walks and contracts
-/
import Derived.Test.YtglclijalehcmaaGreatDoorV3
set_option maxRecDepth 10000
set_option maxHeartbeats 2000000
set_option linter.all false
namespace Go.Proofs.YtglclijalehcmaaGreatDoor
open Go Go.Lic Go.Sort Go.Proofs
attribute [local irreducible] addF addP againstC badR behindF blankF checkC checkF checkF29 cloneCmp clonesF cmpB cmpI codeF commonF4 countF countL famF fewC fewTs fewW findC findT gramsF growTF guarF has1F hasF hashF indexF insideF insideT leastF lenC lenF lookF mergeF mul64F mulP nameR nearC nearF newF ofF orF packF pairF partF pathB pathF postCmp postLt postsF powF printsF pushF rightL rollF sameW selectF sizeF spanCmp splitF splitG textF validF validT
theorem ccompare_w (a : Pst) (b : Pst) (Q : Int → Prop) (h : ccompare_vc a b Q) : Fun false Tryz.prog 107 [encPst a, encPst b] (fun d => ∃ r, d = D.i r ∧ Q r) := by
 unfold ccompare_vc at h
 refine Fun.of_body Tryz.func107 rfl Tryz.ntmps107 rfl ?_
 refine wpA_seq ?_
 refine wpA_region ?_
 refine wL (OpA.bx (sz := 3) rfl (by with_reducible conv => lhs; whnf) (.of rfl) (fun c1 _ => ?_))
 refine wL (OpA.bx (sz := 3) rfl (by with_reducible conv => lhs; whnf) (.of rfl) (fun c2 _ => ?_))
 refine wL (OpA.a ?_)
 refine wpL_nil ?_
 refine wpA_seq ?_
 obtain ⟨q1, h⟩ := h
 refine wpA_draw (m := 18) mo (by kernel_rfl) rfl ?_
 refine dL (OpA.fieldAddr rfl tf107_0 rfl ⟨rfl, rfl⟩) ?_
 refine dL (OpA.load rfl ti3 rfl (.tail .head) rfl rfl ⟨rfl, rfl⟩) ?_
 refine dL (OpA.fieldAddr rfl tf107_0 rfl ⟨rfl, rfl⟩) ?_
 refine dL (OpA.load rfl ti3 rfl .head rfl rfl ⟨rfl, rfl⟩) ?_
 refine dL (OpA.call rfl rfl rfl en79 (iCompare_c a.hash b.hash ) (by rintro _ rfl; exact ⟨rfl, rfl⟩)) ?_
 refine dL (OpA.fieldAddr rfl tf107_1 rfl ⟨rfl, rfl⟩) ?_
 refine dL (OpA.load rfl ti3 rfl (.tail .head) rfl rfl ⟨rfl, rfl⟩) ?_
 refine dL (OpA.fieldAddr rfl tf107_1 rfl ⟨rfl, rfl⟩) ?_
 refine dL (OpA.load rfl ti3 rfl .head rfl rfl ⟨rfl, rfl⟩) ?_
 refine dL (OpA.call rfl rfl rfl en79 (iCompare_c a.text b.text ) (by rintro _ rfl; exact ⟨rfl, rfl⟩)) ?_
 refine dL (OpA.fieldAddr rfl tf107_2 rfl ⟨rfl, rfl⟩) ?_
 refine dL (OpA.load rfl ti3 rfl (.tail .head) rfl rfl ⟨rfl, rfl⟩) ?_
 refine dL (OpA.fieldAddr rfl tf107_2 rfl ⟨rfl, rfl⟩) ?_
 refine dL (OpA.load rfl ti3 rfl .head rfl rfl ⟨rfl, rfl⟩) ?_
 refine dL (OpA.call rfl rfl rfl en79 (iCompare_c a.at_ b.at_ ) (by rintro _ rfl; exact ⟨rfl, rfl⟩)) ?_
 refine dL (OpA.ibuildSliceO rfl ts67 rfl (.cons (.of (sz := 1) rfl) (.cons (.of (sz := 1) rfl) (.cons (.of (sz := 1) rfl) .nil))) (by decide) ⟨rfl, rfl⟩) ?_
 refine dL (OpA.call rfl rfl rfl en120 (or_c ([(cmpI a.hash b.hash), (cmpI a.text b.text), (cmpI a.at_ b.at_)] : List Int) q1) (by rintro _ rfl; exact ⟨rfl, rfl⟩)) ?_
 refine dL (OpA.a ⟨rfl, rfl⟩) ?_
 refine DetK.nil ?_
 refine wpL_nil ?_
 refine wpA_ret ?_
 exact ⟨_, (.tmp (d := D.i (orF ([(cmpI a.hash b.hash), (cmpI a.text b.text), (cmpI a.at_ b.at_)] : List Int))) rfl .nil), _, (.same rfl .nil), ⟨(orF ([(cmpI a.hash b.hash), (cmpI a.text b.text), (cmpI a.at_ b.at_)] : List Int)), rfl, h⟩⟩
theorem ccompare_c (a : Pst) (b : Pst)  : Fun false Tryz.prog 107 [encPst a, encPst b] (fun d => d = D.i (postCmp a b)) :=
 Fun.at (enc := fun r => D.i r) (v := postCmp a b) (ccompare_w a b  (fun r => r = postCmp a b) (ccompare_ok a b _  rfl))
theorem csize_w (n : Int) (Q : Bool → Prop) (h : csize_vc n Q) : Fun false Tryz.prog 72 [D.i n] (fun d => ∃ r, d = D.b r ∧ Q r) := by
 unfold csize_vc at h
 refine Fun.of_body Tryz.func72 rfl Tryz.ntmps72 rfl ?_
 refine wpA_seq ?_
 refine wpA_region ?_
 refine wL (OpA.a ?_)
 refine wpL_nil ?_
 refine wpA_seq ?_
 refine wpA_mid (asg [(2, D.b ((decide (n ≥ 1)) && (decide (n ≤ 1024))))]) [] ?_ ?_
 refine wpA_region ?_
 refine wL (OpA.m ?_)
 refine wL (OpA.geq rfl rfl rfl ?_)
 refine wL (OpA.m ?_)
 refine wpL_split (s := 5) rfl (fun b1 => ?_) (fun b1 => ?_)
 refine wG (OpA.m ?_)
 refine wG (OpA.leq rfl rfl rfl ?_)
 refine wL (OpA.p ?_)
 refine wL (OpA.a ?_)
 refine wpL_nil ?_
 exact ⟨(Cov.asg ⟨(congrArg D.b (Eq.symm (andN b1 rfl))), trivial⟩), (.refl _)⟩
 iterate 2 refine wS ?_
 refine wL (OpA.p ?_)
 refine wL (OpA.a ?_)
 refine wpL_nil ?_
 exact ⟨(Cov.asg ⟨(congrArg D.b (Eq.symm (andS b1))), trivial⟩), (.refl _)⟩
 show wpA _ _ _ _ (asg [(2, D.b ((decide (n ≥ 1)) && (decide (n ≤ 1024))))]) []
 refine wpA_ret ?_
 exact ⟨_, (.tmp (d := D.b ((decide (n ≥ 1)) && (decide (n ≤ 1024)))) rfl .nil), _, (.same rfl .nil), ⟨((decide (n ≥ 1)) && (decide (n ≤ 1024))), rfl, h⟩⟩
theorem csize_c (n : Int)  : Fun false Tryz.prog 72 [D.i n] (fun d => d = D.b (sizeF n)) :=
 Fun.at (enc := fun r => D.b r) (v := sizeF n) (csize_w n  (fun r => r = sizeF n) (csize_ok n _  rfl))
theorem sortiP_w (data : (List Pst)) (a : Int) (b : Int) (g_p : Nat) (fs_p cs_p : List D) (p : Pst → Pst → Int) (pD : Pst → Pst → Prop) (hen_p : entersB Tryz.prog g_p = true) (hg_p : ∀ x0_ x1_, pD x0_ x1_ → Fun false Tryz.prog g_p (fs_p ++ [encPst x0_, encPst x1_] ++ cs_p) (fun d => d = D.i (p x0_ x1_))) (Q : Unit → Prop) (h : sortiP_vc data a b p pD Q) : Fun false Tryz.prog 159 [(encL 3 encPst) data, D.i a, D.i b, .fn (.func g_p) fs_p cs_p] (fun d => ∃ r, d = .tup [] ∧ Q r) := by
 unfold sortiP_vc at h
 refine Fun.of_body Tryz.func159 rfl Tryz.ntmps159 rfl ?_
 refine wpA_seq ?_
 obtain ⟨q1, h⟩ := h
 refine wpA_region ?_
 refine wL (OpA.m ?_)
 refine wL (OpA.addi rfl rfl rfl q1 ?_)
 refine wL (OpA.a ?_)
 refine wpL_nil ?_
 refine wpA_block ?_
 refine wpA_lfp (S := Int) (G := Unit) () (fun gg ss => asg [(0, (encL 3 encPst) data), (1, D.i a), (2, D.i b), (3, .fn (.func g_p) fs_p cs_p), (8, D.i ss)]) (fun gg ss => []) h (Cov.asg ⟨rfl, rfl, rfl, rfl, rfl, trivial⟩) (.refl _) ?_
 rintro again1 _ i h
 have h : sortiP_L1 data a b p pD Q again1 i := h
 unfold sortiP_L1 at h
 show wpA _ _ _ _ (asg [(0, (encL 3 encPst) data), (1, D.i a), (2, D.i b), (3, .fn (.func g_p) fs_p cs_p), (8, D.i i)]) []
 iterate 2 refine wpA_seq ?_
 refine wpA_region ?_
 iterate 2 refine wL (OpA.m ?_)
 refine wL (OpA.lss rfl rfl rfl ?_)
 refine wpL_nil ?_
 refine wpA_cond rfl (fun b2 => ?_) (fun b2 => ?_)
 have h := h.1 (decT b2)
 refine wpA_skip ?_
 refine wpA_seq ?_
 refine wpA_block ?_
 refine wpA_seq ?_
 refine wpA_region ?_
 refine wL (OpA.m ?_)
 refine wL (OpA.a ?_)
 refine wpL_nil ?_
 refine wpA_block ?_
 refine wpA_lfp (S := Unit) (G := Unit) () (fun gg ss => asg [(0, (encL 3 encPst) data), (1, D.i a), (2, D.i b), (3, .fn (.func g_p) fs_p cs_p), (8, D.i i), (9, D.i i)]) (fun gg ss => []) h (Cov.asg ⟨rfl, rfl, rfl, rfl, rfl, rfl, trivial⟩) (.refl _) ?_
 rintro again3 _ _ h
 have h : sortiP_L2 data a p pD i again1 again3  := h
 unfold sortiP_L2 at h
 show wpA _ _ _ _ (asg [(0, (encL 3 encPst) data), (1, D.i a), (2, D.i b), (3, .fn (.func g_p) fs_p cs_p), (8, D.i i), (9, D.i i)]) []
 iterate 2 refine wpA_seq ?_
 obtain ⟨q1, h⟩ := h
 refine wpA_mid (asg [(0, (encL 3 encPst) data), (1, D.i a), (2, D.i b), (3, .fn (.func g_p) fs_p cs_p), (8, D.i i), (9, D.i i), (34, D.b ((decide (i > a)) && (decide ((p (gi data i) (gi data (i - 1))) < 0))))]) [] ?_ ?_
 refine wpA_draw (m := 17) mo (by kernel_rfl) rfl ?_
 iterate 2 refine dL (OpA.m ⟨rfl, rfl⟩) ?_
 refine dL (OpA.gtr rfl rfl rfl ⟨rfl, rfl⟩) ?_
 refine dL (OpA.m ⟨rfl, rfl⟩) ?_
 refine DetK_split (s := 21) rfl (fun b5 => ?_) (fun b5 => ?_)
 iterate 3 refine dG (OpA.m ⟨rfl, rfl⟩) ?_
 refine dG (OpA.iixV (enc := encPst) rfl ts23 rfl rfl rfl (q1 (decT b5)).1 ⟨rfl, rfl⟩) ?_
 refine dG (OpA.iload_whole rfl ti107 rfl ⟨_, rfl, rfl⟩ ⟨rfl, rfl⟩) ?_
 iterate 2 refine dG (OpA.m ⟨rfl, rfl⟩) ?_
 refine dG (OpA.subi rfl rfl rfl (q1 (decT b5)).2.1 ⟨rfl, rfl⟩) ?_
 refine dG (OpA.iixV (enc := encPst) rfl ts23 rfl rfl rfl (q1 (decT b5)).2.2.1 ⟨rfl, rfl⟩) ?_
 refine dG (OpA.iload_whole rfl ti107 rfl ⟨_, rfl, rfl⟩ ⟨rfl, rfl⟩) ?_
 refine dG (OpA.call rfl rfl rfl hen_p (hg_p (gi data i) (gi data (i - 1)) (q1 (decT b5)).2.2.2) (by rintro _ rfl; exact ⟨rfl, rfl⟩)) ?_
 refine dG (OpA.lss rfl rfl rfl ⟨rfl, rfl⟩) ?_
 refine dL (OpA.p ⟨rfl, rfl⟩) ?_
 refine DetK.nil ?_
 refine wpL_nil ?_
 exact ⟨(Cov.asg ⟨rfl, rfl, rfl, rfl, rfl, rfl, (congrArg D.b (Eq.symm (andN b5 rfl))), trivial⟩), (.refl _)⟩
 iterate 12 refine dS ?_
 refine dL (OpA.p ⟨rfl, rfl⟩) ?_
 refine DetK.nil ?_
 refine wpL_nil ?_
 exact ⟨(Cov.asg ⟨rfl, rfl, rfl, rfl, rfl, rfl, (congrArg D.b (Eq.symm (andS b5))), trivial⟩), (.refl _)⟩
 show wpA _ _ _ _ (asg [(0, (encL 3 encPst) data), (1, D.i a), (2, D.i b), (3, .fn (.func g_p) fs_p cs_p), (8, D.i i), (9, D.i i), (34, D.b ((decide (i > a)) && (decide ((p (gi data i) (gi data (i - 1))) < 0))))]) []
 refine wpA_cond rfl (fun b4 => ?_) (fun b4 => ?_)
 have h := h.1 ⟨(decT (and1 b4)), (decT (and2 b4))⟩
 exact h.elim
 have h := h.2 ((and0 b4).imp (fun hh => (decF hh)) (fun hh => (decF hh)))
 refine wpA_exit ?_
 obtain ⟨q1, h⟩ := h
 refine wpA_region ?_
 refine wL (OpA.m ?_)
 refine wL (OpA.addi rfl rfl rfl q1 ?_)
 refine wL (OpA.a ?_)
 refine wpL_nil ?_
 exact ⟨(), (i + 1), h, (Cov.asg ⟨rfl, rfl, rfl, rfl, rfl, trivial⟩), (.refl _)⟩
 have h := h.2 (decF b2)
 refine wpA_exit ?_
 exact ⟨_, .nil, _, (.tup .nil .nil), ⟨(), rfl, h⟩⟩
theorem sortiP_c (data : (List Pst)) (a : Int) (b : Int) (g_p : Nat) (fs_p cs_p : List D) (p : Pst → Pst → Int) (pD : Pst → Pst → Prop) (hen_p : entersB Tryz.prog g_p = true) (hg_p : ∀ x0_ x1_, pD x0_ x1_ → Fun false Tryz.prog g_p (fs_p ++ [encPst x0_, encPst x1_] ++ cs_p) (fun d => d = D.i (p x0_ x1_))) (hp0 : data = ([] : List Pst)) (hp1 : a = (0 : Int)) (hp2 : b = (0 : Int)) : Fun false Tryz.prog 159 [(encL 3 encPst) data, D.i a, D.i b, .fn (.func g_p) fs_p cs_p] (fun d => d = .tup []) :=
 Fun.at (enc := fun r => .tup []) (v := ()) (sortiP_w data a b g_p fs_p cs_p p pD hen_p hg_p (fun r => r = ()) (sortiP_ok data a b p pD _ hp0 hp1 hp2 rfl))
theorem sortpP_w (data : (List Pst)) (a : Int) (b : Int) (limit : Int) (g_p : Nat) (fs_p cs_p : List D) (p : Pst → Pst → Int) (pD : Pst → Pst → Prop) (hen_p : entersB Tryz.prog g_p = true) (hg_p : ∀ x0_ x1_, pD x0_ x1_ → Fun false Tryz.prog g_p (fs_p ++ [encPst x0_, encPst x1_] ++ cs_p) (fun d => d = D.i (p x0_ x1_))) (Q : Unit → Prop) (h : sortpP_vc data a b limit p pD Q) : Fun false Tryz.prog 132 [(encL 3 encPst) data, D.i a, D.i b, D.i limit, .fn (.func g_p) fs_p cs_p] (fun d => ∃ r, d = .tup [] ∧ Q r) := by
 unfold sortpP_vc at h
 refine Fun.of_body Tryz.func132 rfl Tryz.ntmps132 rfl ?_
 refine wpA_seq ?_
 refine wpA_region ?_
 refine wL (OpA.a ?_)
 refine wpL_nil ?_
 refine wpA_seq ?_
 refine wpA_region ?_
 refine wL (OpA.a ?_)
 refine wpL_nil ?_
 refine wpA_block ?_
 refine wpA_lfp (S := Unit) (G := Unit) () (fun gg ss => asg [(0, (encL 3 encPst) data), (1, D.i a), (2, D.i b), (3, D.i limit), (4, .fn (.func g_p) fs_p cs_p), (10, D.b true), (11, D.b true)]) (fun gg ss => []) h (Cov.asg ⟨rfl, rfl, rfl, rfl, rfl, rfl, rfl, trivial⟩) (.refl _) ?_
 rintro again1 _ _ h
 have h : sortpP_L1 data a b limit Q again1  := h
 unfold sortpP_L1 at h
 show wpA _ _ _ _ (asg [(0, (encL 3 encPst) data), (1, D.i a), (2, D.i b), (3, D.i limit), (4, .fn (.func g_p) fs_p cs_p), (10, D.b true), (11, D.b true)]) []
 refine wpA_block ?_
 refine wpA_seq ?_
 obtain ⟨q1, h⟩ := h
 refine wpA_region ?_
 iterate 2 refine wL (OpA.m ?_)
 refine wL (OpA.subi rfl rfl rfl q1 ?_)
 refine wL (OpA.a ?_)
 refine wpL_nil ?_
 iterate 2 refine wpA_seq ?_
 refine wpA_region ?_
 refine wL (OpA.m ?_)
 refine wL (OpA.leq rfl rfl rfl ?_)
 refine wpL_nil ?_
 refine wpA_cond rfl (fun b2 => ?_) (fun b2 => ?_)
 have h := h.1 (decT b2)
 refine wpA_seq ?_
 obtain ⟨q1, q2, q3, h⟩ := h
 refine wpA_region ?_
 iterate 4 refine wL (OpA.m ?_)
 refine wL (OpA.call rfl rfl rfl en159 (sortiP_c data a b g_p fs_p cs_p p pD hen_p hg_p q1 q2 q3) ?_)
 rintro _ rfl
 refine wpL_nil ?_
 refine wpA_ret ?_
 exact ⟨_, .nil, _, (.tup .nil .nil), ⟨(), rfl, h⟩⟩
 have h := h.2 (decF b2)
 refine wpA_skip ?_
 iterate 2 refine wpA_seq ?_
 refine wpA_region ?_
 refine wL (OpA.m ?_)
 refine wL (OpA.eql rfl rfl rfl ?_)
 refine wpL_nil ?_
 refine wpA_cond rfl (fun b3 => ?_) (fun b3 => ?_)
 have h := h.1 (beqT b3)
 exact h.elim
 have h := h.2 (beqF b3)
 exact h.elim
theorem sortpP_c (data : (List Pst)) (a : Int) (b : Int) (limit : Int) (g_p : Nat) (fs_p cs_p : List D) (p : Pst → Pst → Int) (pD : Pst → Pst → Prop) (hen_p : entersB Tryz.prog g_p = true) (hg_p : ∀ x0_ x1_, pD x0_ x1_ → Fun false Tryz.prog g_p (fs_p ++ [encPst x0_, encPst x1_] ++ cs_p) (fun d => d = D.i (p x0_ x1_))) (hp0 : data = ([] : List Pst)) (hp1 : a = (0 : Int)) (hp2 : b = (0 : Int)) : Fun false Tryz.prog 132 [(encL 3 encPst) data, D.i a, D.i b, D.i limit, .fn (.func g_p) fs_p cs_p] (fun d => d = .tup []) :=
 Fun.at (enc := fun r => .tup []) (v := ()) (sortpP_w data a b limit g_p fs_p cs_p p pD hen_p hg_p (fun r => r = ()) (sortpP_ok data a b limit p pD _ hp0 hp1 hp2 rfl))
theorem sort0P_w (x : (List Pst)) (g_p : Nat) (fs_p cs_p : List D) (p : Pst → Pst → Int) (pD : Pst → Pst → Prop) (hen_p : entersB Tryz.prog g_p = true) (hg_p : ∀ x0_ x1_, pD x0_ x1_ → Fun false Tryz.prog g_p (fs_p ++ [encPst x0_, encPst x1_] ++ cs_p) (fun d => d = D.i (p x0_ x1_))) (Q : Unit → Prop) (h : sort0P_vc x p pD Q) : Fun false Tryz.prog 106 [(encL 3 encPst) x, .fn (.func g_p) fs_p cs_p] (fun d => ∃ r, d = .tup [] ∧ Q r) := by
 unfold sort0P_vc at h
 refine Fun.of_body Tryz.func106 rfl Tryz.ntmps106 rfl ?_
 refine wpA_seq ?_
 refine wpA_region ?_
 refine wL (OpA.m ?_)
 refine wL (OpA.len rfl rfl rfl rfl ts23.desc (.inl ⟨_, _, rfl, (List.length_map _).symm⟩) ?_)
 refine wL (OpA.a ?_)
 refine wpL_nil ?_
 obtain ⟨q1, q2, q3, q4, q5, h⟩ := h
 refine wpA_region ?_
 iterate 3 refine wL (OpA.m ?_)
 refine wL (OpA.conv rfl td3 td163 rfl ?_)
 refine wL (OpA.call rfl rfl rfl en119 (len_c (IntKind.u64.wrap (x.length : Int)) q1 q2) ?_)
 rintro _ rfl
 refine wL (OpA.m ?_)
 refine wL (OpA.call rfl rfl rfl en132 (sortpP_c x 0 (x.length : Int) (lenF (IntKind.u64.wrap (x.length : Int))) g_p fs_p cs_p p pD hen_p hg_p q3 q4 q5) ?_)
 rintro _ rfl
 refine wpL_nil ?_
 exact ⟨_, .nil, _, (.tup .nil .nil), ⟨(), rfl, h⟩⟩
theorem sort0P_c (x : (List Pst)) (g_p : Nat) (fs_p cs_p : List D) (p : Pst → Pst → Int) (pD : Pst → Pst → Prop) (hen_p : entersB Tryz.prog g_p = true) (hg_p : ∀ x0_ x1_, pD x0_ x1_ → Fun false Tryz.prog g_p (fs_p ++ [encPst x0_, encPst x1_] ++ cs_p) (fun d => d = D.i (p x0_ x1_))) (hp0 : x = ([] : List Pst)) : Fun false Tryz.prog 106 [(encL 3 encPst) x, .fn (.func g_p) fs_p cs_p] (fun d => d = .tup []) :=
 Fun.at (enc := fun r => .tup []) (v := ()) (sort0P_w x g_p fs_p cs_p p pD hen_p hg_p (fun r => r = ()) (sort0P_ok x p pD _ hp0 rfl))
theorem cposts_w (texts : (List Text)) (k : Int) (w : Int) (Q : (List Pst) → Prop) (h : cposts_vc texts k w Q) : Fun false Tryz.prog 73 [(encL 2 encText) texts, D.i k, D.i w] (fun d => ∃ r, d = (encL 3 encPst) r ∧ Q r) := by
 unfold cposts_vc at h
 refine Fun.of_body Tryz.func73 rfl Tryz.ntmps73 rfl ?_
 refine wpA_seq ?_
 refine wpA_region ?_
 refine wL (OpA.a ?_)
 refine wpL_nil ?_
 refine wpA_seq ?_
 refine wpA_region ?_
 refine wL (OpA.asnG (T := Pst) (enc := encPst) (sz := 3) rfl rfl (fun c7_g1 => ?_))
 refine wpL_nil ?_
 iterate 2 refine wpA_seq ?_
 refine wpA_region ?_
 refine wL (OpA.m ?_)
 refine wL (OpA.len rfl rfl rfl rfl ts22.desc (.inl ⟨_, _, rfl, (List.length_map _).symm⟩) ?_)
 refine wL (OpA.m ?_)
 refine wpL_nil ?_
 refine wpA_block ?_
 refine wpA_lfp (S := (List Pst) × Int) (G := Nat × List D × List D) (c7_g1, ([] : List D), ([] : List D)) (fun gg ss => asg [(1, D.i k), (2, D.i w), (6, .v (.slice none 0 0)), (7, .own gg.1 3 gg.2.1.length ss.1.length), (14, (encL 2 encText) texts), (15, D.i (texts.length : Int)), (16, D.i ss.2)]) (fun gg ss => [(gg.1, .cells 3 (winL encPst gg.2.1 ss.1 gg.2.2))]) h (Cov.asg ⟨rfl, rfl, rfl, rfl, rfl, rfl, rfl, trivial⟩) (.refl _) ?_
 rintro again2 ⟨cb7, pre7, post7⟩ ⟨out, x⟩ h
 have h : cposts_L1 texts k w Q again2 out x := h
 unfold cposts_L1 at h
 show wpA _ _ _ _ (asg [(1, D.i k), (2, D.i w), (6, .v (.slice none 0 0)), (7, .own cb7 3 pre7.length out.length), (14, (encL 2 encText) texts), (15, D.i (texts.length : Int)), (16, D.i x)]) [(cb7, .cells 3 (winL encPst pre7 out post7))]
 refine wpA_seq ?_
 refine wpA_region ?_
 refine wL (OpA.lss rfl rfl rfl ?_)
 refine wpL_nil ?_
 refine wpA_seq ?_
 refine wpA_cond rfl (fun b3 => ?_) (fun b3 => ?_)
 have h := h.1 (decT b3)
 refine wpA_skip ?_
 refine wpA_seq ?_
 refine wpA_block ?_
 refine wpA_seq ?_
 obtain ⟨q1, h⟩ := h
 refine wpA_region ?_
 refine wL (OpA.m ?_)
 refine wL (OpA.iixV (enc := encText) rfl ts22 rfl rfl rfl q1 ?_)
 refine wL (OpA.iload_whole rfl ti28 rfl ⟨_, rfl, rfl⟩ ?_)
 refine wL (OpA.alloc (sz := 2) (d := .agg ([D.s ByteArray.empty, .v (.slice none 0 0)])) rfl tz28 (fun _ _ => .agg (.cons (.v _) (.cons (.v _) .nil))) (.of rfl) (fun c4 _ => ?_))
 refine wL (OpA.a ?_)
 refine wE (OpA.storeW rfl ti28 rfl (by with_reducible conv => lhs; whnf) (.of rfl) rfl rfl .head ?_)
 refine wpL_nil ?_
 refine wpA_seq ?_
 obtain ⟨q1, h⟩ := h
 refine wpA_region ?_
 refine wL (OpA.load_whole rfl ti28 rfl rfl .head rfl ⟨_, rfl⟩ ?_)
 iterate 2 refine wL (OpA.m ?_)
 refine wL (OpA.call rfl rfl rfl en41 (wprints_c (gi texts x) k w q1) ?_)
 rintro _ rfl
 refine wL (OpA.m ?_)
 iterate 2 refine wL (OpA.extract rfl rfl rfl ?_)
 iterate 2 refine wL (OpA.a ?_)
 refine wpL_nil ?_
 refine wpA_seq ?_
 refine wpA_region ?_
 refine wL (OpA.m ?_)
 refine wL (OpA.len rfl rfl rfl rfl ts77.desc (.inl ⟨_, _, rfl, (List.length_map _).symm⟩) ?_)
 refine wL (OpA.m ?_)
 refine wpL_nil ?_
 refine wpA_block ?_
 refine wpA_lfp (S := (List Pst) × Int) (G := Nat × List D × List D) (cb7, pre7, post7) (fun gg ss => asg [(1, D.i k), (2, D.i w), (6, .v (.slice none 0 0)), (7, .own gg.1 3 gg.2.1.length ss.1.length), (8, D.i x), (14, (encL 2 encText) texts), (15, D.i (texts.length : Int)), (16, D.i x), (28, (encL 2 encPrint) ((printsF (gi texts x) k w).1)), (29, D.i (((printsF (gi texts x) k w).1).length : Int)), (30, D.i ss.2)]) (fun gg ss => [(c4, .cells 2 [encText (gi texts x)]), (gg.1, .cells 3 (winL encPst gg.2.1 ss.1 gg.2.2))]) h (Cov.asg ⟨rfl, rfl, rfl, rfl, rfl, rfl, rfl, rfl, rfl, rfl, rfl, trivial⟩) (.refl _) ?_
 rintro again5 ⟨cb71, pre71, post71⟩ ⟨out1, x1⟩ h
 have h : cposts_L2 texts k w x again2 again5 out1 x1 := h
 unfold cposts_L2 at h
 show wpA _ _ _ _ (asg [(1, D.i k), (2, D.i w), (6, .v (.slice none 0 0)), (7, .own cb71 3 pre71.length out1.length), (8, D.i x), (14, (encL 2 encText) texts), (15, D.i (texts.length : Int)), (16, D.i x), (28, (encL 2 encPrint) ((printsF (gi texts x) k w).1)), (29, D.i (((printsF (gi texts x) k w).1).length : Int)), (30, D.i x1)]) [(c4, .cells 2 [encText (gi texts x)]), (cb71, .cells 3 (winL encPst pre71 out1 post71))]
 refine wpA_seq ?_
 refine wpA_region ?_
 refine wL (OpA.lss rfl rfl rfl ?_)
 refine wpL_nil ?_
 refine wpA_seq ?_
 refine wpA_cond rfl (fun b6 => ?_) (fun b6 => ?_)
 have h := h.1 (decT b6)
 refine wpA_skip ?_
 refine wpA_seq ?_
 refine wpA_block ?_
 refine wpA_seq ?_
 obtain ⟨q1, h⟩ := h
 refine wpA_region ?_
 refine wL (OpA.iixV (enc := encPrint) rfl ts77 rfl rfl rfl q1 ?_)
 refine wL (OpA.iload_whole rfl ti83 rfl ⟨_, rfl, rfl⟩ ?_)
 refine wL (OpA.alloc (sz := 2) (d := encPrint (Print.mk 0 0)) rfl tz83 (fun _ _ => .agg (.cons (.v _) (.cons (.v _) .nil))) (.of rfl) (fun c7 _ => ?_))
 refine wE (OpA.storeW rfl ti83 rfl (by with_reducible conv => lhs; whnf) (.of rfl) rfl rfl .head ?_)
 refine wpL_nil ?_
 obtain ⟨q1, h⟩ := h
 refine wpA_region ?_
 refine wL (OpA.m ?_)
 refine wL (OpA.fieldAddr rfl tf83_0 rfl ?_)
 refine wL (OpA.load rfl ti3 rfl .head rfl rfl ?_)
 refine wL (OpA.m ?_)
 refine wL (OpA.fieldAddr rfl tf83_1 rfl ?_)
 refine wL (OpA.load rfl ti3 rfl .head rfl rfl ?_)
 refine wL (OpA.buildO (zs := [.v (.int .i64 0), .v (.int .i64 0), .v (.int .i64 0)]) rfl tp107 tz107 (fun _ _ => (.cons (.v _) (.cons (.v _) (.cons (.v _) .nil)))) (.cons (.of (sz := 1) rfl) (.cons (.of (sz := 1) rfl) (.cons (.of (sz := 1) rfl) .nil))) rfl ?_)
 refine wL (OpA.ibuildSliceO rfl ts23 rfl (.cons (.of (sz := 3) rfl) .nil) (by decide) ?_)
 refine wL (OpA.appendW (enc := encPst) rfl rfl rfl rfl ts23 rfl (fun _ _ => (.tail (.tail .head))) (.list (ys := ([(Pst.mk ((gi ((printsF (gi texts x) k w).1) x1).hash) x ((gi ((printsF (gi texts x) k w).1) x1).at_))] : List Pst))) q1 (fun c8 pre9 => ?_))
 refine wL (OpA.a ?_)
 refine wpL_nil ?_
 obtain ⟨q1, h⟩ := h
 refine wpA_region ?_
 refine wL (OpA.addi rfl rfl rfl q1 ?_)
 refine wL (OpA.m ?_)
 refine wpL_nil ?_
 exact ⟨(c8, pre9, ([] : List D)), ((out1 ++ ([(Pst.mk ((gi ((printsF (gi texts x) k w).1) x1).hash) x ((gi ((printsF (gi texts x) k w).1) x1).at_))] : List Pst)), (x1 + 1)), h, (Cov.asg ⟨rfl, rfl, rfl, rfl, rfl, rfl, rfl, rfl, rfl, rfl, rfl, trivial⟩), (.cons _ (.refl _))⟩
 have h := h.2 (decF b6)
 refine wpA_exit ?_
 obtain ⟨q1, h⟩ := h
 refine wpA_region ?_
 refine wL (OpA.addi rfl rfl rfl q1 ?_)
 refine wL (OpA.m ?_)
 refine wpL_nil ?_
 exact ⟨(cb71, pre71, post71), (out1, (x + 1)), h, (Cov.asg ⟨rfl, rfl, rfl, rfl, rfl, rfl, rfl, trivial⟩), (.cons _ (.refl _))⟩
 have h := h.2 (decF b3)
 refine wpA_exit ?_
 refine wpA_seq ?_
 obtain ⟨q1, h⟩ := h
 refine wpA_region ?_
 refine wL (OpA.m ?_)
 refine wL (OpA.sortW (enc := encPst) (encV := valPst) Tryz.sortPost Tryz.isAgg107 Tryz.sizeOf107 (fun _ => rfl) valPst_one (fun _ => rfl) (cf := postCmp) (xs := out) rfl rfl rfl rfl en106 rfl rfl rfl en107 (fun a b => ccompare_c a b) (sort0P_c [] 107 [] [] postCmp (fun _ _ => True) en107 (fun a b _ => ccompare_c a b) rfl) q1 .head ?_)
 refine wpL_nil ?_
 refine wpA_seq ?_
 refine wpA_region ?_
 refine wL (OpA.m ?_)
 refine wL (OpA.a ?_)
 refine wpL_nil ?_
 refine wpA_cov (fr0 := asg [(1, D.i k), (2, D.i w), (6, .own cb7 3 pre7.length (sortF postCmp out).length), (7, .own cb7 3 pre7.length (sortF postCmp out).length), (14, (encL 2 encText) texts), (15, D.i (texts.length : Int)), (16, D.i x), (17, D.b (decide (x < (texts.length : Int)))), (45, .own cb7 3 pre7.length (sortF postCmp out).length), (46, .tup []), (47, .own cb7 3 pre7.length (sortF postCmp out).length)]) (Cov.asg ⟨rfl, rfl, (congrArg (D.own cb7 3 pre7.length) (by simp only [si_length, gcopy_length, clearF_length, sortF_len postCmp_swo, sortF_len cloneCmp_swo, sortF_len spanCmp_swo] <;> rfl)), (congrArg (D.own cb7 3 pre7.length) (by simp only [si_length, gcopy_length, clearF_length, sortF_len postCmp_swo, sortF_len cloneCmp_swo, sortF_len spanCmp_swo] <;> rfl)), rfl, rfl, rfl, rfl, (congrArg (D.own cb7 3 pre7.length) (by simp only [si_length, gcopy_length, clearF_length, sortF_len postCmp_swo, sortF_len cloneCmp_swo, sortF_len spanCmp_swo] <;> rfl)), rfl, (congrArg (D.own cb7 3 pre7.length) (by simp only [si_length, gcopy_length, clearF_length, sortF_len postCmp_swo, sortF_len cloneCmp_swo, sortF_len spanCmp_swo] <;> rfl)), trivial⟩) ?_
 refine wpA_ret ?_
 exact ⟨_, (.tmp (d := .own cb7 3 pre7.length (sortF postCmp out).length) rfl .nil), _, (.win .head (by intro hf; cases hf) .nil), ⟨(sortF postCmp out), rfl, h⟩⟩
theorem cposts_c (texts : (List Text)) (k : Int) (w : Int) (hp0 : okTs texts) : Fun false Tryz.prog 73 [(encL 2 encText) texts, D.i k, D.i w] (fun d => d = (encL 3 encPst) (postsF texts k w)) :=
 Fun.at (enc := fun r => (encL 3 encPst) r) (v := postsF texts k w) (cposts_w texts k w  (fun r => r = postsF texts k w) (cposts_ok texts k w _ hp0 rfl))
theorem eqPosts_w (s1 : (List Pst)) (s2 : (List Pst)) (Q : Bool → Prop) (h : eqPosts_vc s1 s2 Q) : Fun false Tryz.prog 70 [(encL 3 encPst) s1, (encL 3 encPst) s2] (fun d => ∃ r, d = D.b r ∧ Q r) := by
 unfold eqPosts_vc at h
 refine Fun.of_body Tryz.func70 rfl Tryz.ntmps70 rfl ?_
 refine wpA_seq ?_
 refine wpA_region ?_
 refine wL (OpA.a ?_)
 refine wpL_nil ?_
 iterate 2 refine wpA_seq ?_
 refine wpA_region ?_
 refine wL (OpA.m ?_)
 refine wL (OpA.len rfl rfl rfl rfl ts23.desc (.inl ⟨_, _, rfl, (List.length_map _).symm⟩) ?_)
 refine wL (OpA.m ?_)
 refine wL (OpA.len rfl rfl rfl rfl ts23.desc (.inl ⟨_, _, rfl, (List.length_map _).symm⟩) ?_)
 refine wL (OpA.neq rfl rfl rfl ?_)
 refine wpL_nil ?_
 refine wpA_cond rfl (fun b1 => ?_) (fun b1 => ?_)
 have h := h.1 (bneT b1)
 refine wpA_seq ?_
 refine wpA_region ?_
 refine wL (OpA.a ?_)
 refine wpL_nil ?_
 refine wpA_ret ?_
 exact ⟨_, (.tmp (d := D.b false) rfl .nil), _, (.same rfl .nil), ⟨false, rfl, h⟩⟩
 have h := h.2 (bneF b1)
 refine wpA_skip ?_
 iterate 2 refine wpA_seq ?_
 refine wpA_region ?_
 refine wL (OpA.m ?_)
 refine wL (OpA.len rfl rfl rfl rfl ts23.desc (.inl ⟨_, _, rfl, (List.length_map _).symm⟩) ?_)
 refine wL (OpA.m ?_)
 refine wpL_nil ?_
 refine wpA_block ?_
 refine wpA_lfp (S := Int) (G := Unit) () (fun gg ss => asg [(0, (encL 3 encPst) s1), (1, (encL 3 encPst) s2), (4, D.b false), (12, D.i (s1.length : Int)), (13, D.i ss)]) (fun gg ss => []) h (Cov.asg ⟨rfl, rfl, rfl, rfl, rfl, trivial⟩) (.refl _) ?_
 rintro again2 _ x h
 have h : eqPosts_L1 s1 s2 Q again2 x := h
 unfold eqPosts_L1 at h
 show wpA _ _ _ _ (asg [(0, (encL 3 encPst) s1), (1, (encL 3 encPst) s2), (4, D.b false), (12, D.i (s1.length : Int)), (13, D.i x)]) []
 refine wpA_seq ?_
 refine wpA_region ?_
 refine wL (OpA.lss rfl rfl rfl ?_)
 refine wpL_nil ?_
 refine wpA_seq ?_
 refine wpA_cond rfl (fun b3 => ?_) (fun b3 => ?_)
 have h := h.1 (decT b3)
 refine wpA_skip ?_
 refine wpA_seq ?_
 refine wpA_block ?_
 refine wpA_seq ?_
 refine wpA_region ?_
 refine wL (OpA.m ?_)
 refine wL (OpA.a ?_)
 refine wpL_nil ?_
 refine wpA_seq ?_
 obtain ⟨q1, q2, h⟩ := h
 refine wpA_draw (m := 9) mo (by kernel_rfl) rfl ?_
 iterate 2 refine dL (OpA.m ⟨rfl, rfl⟩) ?_
 refine dL (OpA.iixV (enc := encPst) rfl ts23 rfl rfl rfl q1 ⟨rfl, rfl⟩) ?_
 refine dL (OpA.iload_whole rfl ti107 rfl ⟨_, rfl, rfl⟩ ⟨rfl, rfl⟩) ?_
 iterate 2 refine dL (OpA.m ⟨rfl, rfl⟩) ?_
 refine dL (OpA.iixV (enc := encPst) rfl ts23 rfl rfl rfl q2 ⟨rfl, rfl⟩) ?_
 refine dL (OpA.iload_whole rfl ti107 rfl ⟨_, rfl, rfl⟩ ⟨rfl, rfl⟩) ?_
 refine dL (OpA.structcmp (xs := [.int .i64 ((gi s1 x).hash), .int .i64 ((gi s1 x).text), .int .i64 ((gi s1 x).at_)]) (ys := [.int .i64 ((gi s2 x).hash), .int .i64 ((gi s2 x).text), .int .i64 ((gi s2 x).at_)]) (r := (eqPst (gi s1 x) (gi s2 x))) rfl eg107 su107.1 su107.2.1 su107.2.2 rfl rfl (.int td3 ti3 rfl rfl (.int td3 ti3 rfl rfl (.int td3 ti3 rfl rfl .nil))) (.inr ⟨rfl, rfl⟩) ⟨rfl, rfl⟩) ?_
 refine DetK.nil ?_
 refine wpL_nil ?_
 refine wpA_cond rfl (fun b4 => ?_) (fun b4 => ?_)
 have h := h.1 (notT b4)
 refine wpA_seq ?_
 refine wpA_region ?_
 refine wL (OpA.a ?_)
 refine wpL_nil ?_
 refine wpA_ret ?_
 exact ⟨_, (.tmp (d := D.b false) rfl .nil), _, (.same rfl .nil), ⟨false, rfl, h⟩⟩
 have h := h.2 (notF b4)
 refine wpA_skip ?_
 obtain ⟨q1, h⟩ := h
 refine wpA_region ?_
 refine wL (OpA.addi rfl rfl rfl q1 ?_)
 refine wL (OpA.m ?_)
 refine wpL_nil ?_
 exact ⟨(), (x + 1), h, (Cov.asg ⟨rfl, rfl, rfl, rfl, rfl, trivial⟩), (.refl _)⟩
 have h := h.2 (decF b3)
 refine wpA_exit ?_
 refine wpA_seq ?_
 refine wpA_region ?_
 refine wL (OpA.a ?_)
 refine wpL_nil ?_
 refine wpA_ret ?_
 exact ⟨_, (.tmp (d := D.b true) rfl .nil), _, (.same rfl .nil), ⟨true, rfl, h⟩⟩
theorem eqPosts_c (s1 : (List Pst)) (s2 : (List Pst)) (hp0 : s1.length ≤ 9223372036854775807) : Fun false Tryz.prog 70 [(encL 3 encPst) s1, (encL 3 encPst) s2] (fun d => d = D.b ((decide (s1 = s2)))) :=
 Fun.at (enc := fun r => D.b r) (v := (decide (s1 = s2))) (eqPosts_w s1 s2  (fun r => r = (decide (s1 = s2))) (eqPosts_ok s1 s2 _ hp0 rfl))
theorem ccheck_w (c : Corpus) (Q : Int → Prop) (h : ccheck_vc c Q) : Fun false Tryz.prog 37 [encCorpus c] (fun d => ∃ r, d = D.i r ∧ Q r) := by
 unfold ccheck_vc at h
 refine Fun.of_body Tryz.func37 rfl Tryz.ntmps37 rfl ?_
 refine wpA_seq ?_
 refine wpA_region ?_
 refine wL (OpA.bx (sz := 4) rfl (by with_reducible conv => lhs; whnf) (.of rfl) (fun c1 _ => ?_))
 refine wL (OpA.a ?_)
 refine wpL_nil ?_
 refine wpA_seq ?_
 refine wpA_block ?_
 refine wpA_seq ?_
 refine wpA_mid (asg [(1, .ptr c1 4 0 0), (2, D.i 0), (5, D.b ((!(sizeF c.k)) || (!(sizeF c.w))))]) [(c1, .cells 4 [encCorpus c])] ?_ ?_
 refine wpA_region ?_
 refine wL (OpA.fieldAddr rfl tf25_0 rfl ?_)
 refine wL (OpA.load rfl ti3 rfl .head rfl rfl ?_)
 refine wL (OpA.call rfl rfl rfl en72 (csize_c c.k ) ?_)
 rintro _ rfl
 refine wL (OpA.not rfl rfl ?_)
 refine wL (OpA.m ?_)
 refine wpL_split (s := 10) rfl (fun b11 => ?_) (fun b11 => ?_)
 iterate 4 refine wS ?_
 refine wL (OpA.p ?_)
 refine wL (OpA.a ?_)
 refine wpL_nil ?_
 exact ⟨(Cov.asg ⟨rfl, rfl, (congrArg D.b (Eq.symm (orS b11))), trivial⟩), (.refl _)⟩
 refine wG (OpA.fieldAddr rfl tf25_1 rfl ?_)
 refine wG (OpA.load rfl ti3 rfl .head rfl rfl ?_)
 refine wG (OpA.call rfl rfl rfl en72 (csize_c c.w ) ?_)
 rintro _ rfl
 refine wG (OpA.not rfl rfl ?_)
 refine wL (OpA.p ?_)
 refine wL (OpA.a ?_)
 refine wpL_nil ?_
 exact ⟨(Cov.asg ⟨rfl, rfl, (congrArg D.b (Eq.symm (orN b11 rfl))), trivial⟩), (.refl _)⟩
 show wpA _ _ _ _ (asg [(1, .ptr c1 4 0 0), (2, D.i 0), (5, D.b ((!(sizeF c.k)) || (!(sizeF c.w))))]) [(c1, .cells 4 [encCorpus c])]
 refine wpA_cond rfl (fun b2 => ?_) (fun b2 => ?_)
 have h := h.1 ((or0 b2).imp (fun hh => (notT hh)) (fun hh => (notT hh)))
 refine wpA_seq ?_
 refine wpA_region ?_
 refine wL (OpA.a ?_)
 refine wpL_nil ?_
 refine wpA_ret ?_
 exact ⟨_, (.tmp (d := D.i 3) rfl .nil), _, (.same rfl .nil), ⟨3, rfl, h⟩⟩
 have h := h.2 ⟨(notF (or1 b2)), (notF (or2 b2))⟩
 refine wpA_seq ?_
 refine wpA_region ?_
 refine wL (OpA.fieldAddr rfl tf25_2 rfl ?_)
 refine wL (OpA.load rfl ti22 rfl .head rfl rfl ?_)
 refine wL (OpA.len rfl rfl rfl rfl ts22.desc (.inl ⟨_, _, rfl, (List.length_map _).symm⟩) ?_)
 refine wL (OpA.gtr rfl rfl rfl ?_)
 refine wL (OpA.a ?_)
 refine wpL_nil ?_
 refine wpA_cond rfl (fun b3 => ?_) (fun b3 => ?_)
 have h := h.1 (decT b3)
 refine wpA_seq ?_
 refine wpA_region ?_
 refine wL (OpA.a ?_)
 refine wpL_nil ?_
 refine wpA_ret ?_
 exact ⟨_, (.tmp (d := D.i 10) rfl .nil), _, (.same rfl .nil), ⟨10, rfl, h⟩⟩
 have h := h.2 (decF b3)
 refine wpA_skip ?_
 iterate 2 refine wpA_seq ?_
 refine wpA_region ?_
 refine wL (OpA.fieldAddr rfl tf25_2 rfl ?_)
 refine wL (OpA.load rfl ti22 rfl .head rfl rfl ?_)
 refine wL (OpA.len rfl rfl rfl rfl ts22.desc (.inl ⟨_, _, rfl, (List.length_map _).symm⟩) ?_)
 refine wL (OpA.m ?_)
 refine wpL_nil ?_
 refine wpA_block ?_
 refine wpA_lfp (S := Int) (G := Unit) () (fun gg ss => asg [(1, .ptr c1 4 0 0), (2, D.i 0), (22, (encL 2 encText) c.texts), (23, D.i (c.texts.length : Int)), (24, D.i ss)]) (fun gg ss => [(c1, .cells 4 [encCorpus c])]) h (Cov.asg ⟨rfl, rfl, rfl, rfl, rfl, trivial⟩) (.refl _) ?_
 rintro again4 _ x h
 have h : ccheck_L1 c Q again4 x := h
 unfold ccheck_L1 at h
 show wpA _ _ _ _ (asg [(1, .ptr c1 4 0 0), (2, D.i 0), (22, (encL 2 encText) c.texts), (23, D.i (c.texts.length : Int)), (24, D.i x)]) [(c1, .cells 4 [encCorpus c])]
 refine wpA_seq ?_
 refine wpA_region ?_
 refine wL (OpA.lss rfl rfl rfl ?_)
 refine wpL_nil ?_
 refine wpA_seq ?_
 refine wpA_cond rfl (fun b5 => ?_) (fun b5 => ?_)
 have h := h.1 (decT b5)
 refine wpA_skip ?_
 refine wpA_seq ?_
 refine wpA_block ?_
 refine wpA_seq ?_
 obtain ⟨q1, h⟩ := h
 refine wpA_region ?_
 refine wL (OpA.m ?_)
 refine wL (OpA.iixV (enc := encText) rfl ts22 rfl rfl rfl q1 ?_)
 refine wL (OpA.iload_whole rfl ti28 rfl ⟨_, rfl, rfl⟩ ?_)
 refine wL (OpA.alloc (sz := 2) (d := .agg ([D.s ByteArray.empty, .v (.slice none 0 0)])) rfl tz28 (fun _ _ => .agg (.cons (.v _) (.cons (.v _) .nil))) (.of rfl) (fun c6 _ => ?_))
 refine wL (OpA.a ?_)
 refine wE (OpA.storeW rfl ti28 rfl (by with_reducible conv => lhs; whnf) (.of rfl) rfl rfl .head ?_)
 refine wpL_nil ?_
 refine wpA_block ?_
 refine wpA_seq ?_
 obtain ⟨q1, h⟩ := h
 refine wpA_region ?_
 refine wL (OpA.load_whole rfl ti28 rfl rfl .head rfl ⟨_, rfl⟩ ?_)
 refine wL (OpA.call rfl rfl rfl en38 (nvalid_c (gi c.texts x) q1) ?_)
 rintro _ rfl
 refine wL (OpA.not rfl rfl ?_)
 refine wL (OpA.a ?_)
 refine wpL_nil ?_
 refine wpA_cond rfl (fun b7 => ?_) (fun b7 => ?_)
 have h := h.1 (notT b7)
 refine wpA_seq ?_
 refine wpA_region ?_
 refine wL (OpA.a ?_)
 refine wpL_nil ?_
 refine wpA_ret ?_
 exact ⟨_, (.tmp (d := D.i 1) rfl .nil), _, (.same rfl .nil), ⟨1, rfl, h⟩⟩
 have h := h.2 (notF b7)
 refine wpA_seq ?_
 obtain ⟨q1, h⟩ := h
 refine wpA_mid (asg [(1, .ptr c1 4 0 0), (2, D.i 0), (22, (encL 2 encText) c.texts), (23, D.i (c.texts.length : Int)), (24, D.i x), (33, D.b ((decide (x > 0)) && (sless ((gi c.texts x).path) ((gi c.texts (x - 1)).path) || decide ((gi c.texts x).path = (gi c.texts (x - 1)).path))))]) [(c6, .cells 2 [encText (gi c.texts x)]), (c1, .cells 4 [encCorpus c])] ?_ ?_
 refine wpA_draw (m := 15) mo (by kernel_rfl) rfl ?_
 refine dL (OpA.m ⟨rfl, rfl⟩) ?_
 refine dL (OpA.gtr rfl rfl rfl ⟨rfl, rfl⟩) ?_
 refine dL (OpA.m ⟨rfl, rfl⟩) ?_
 refine DetK_split (s := 36) rfl (fun b9 => ?_) (fun b9 => ?_)
 refine dG (OpA.fieldAddr rfl tf28_0 rfl ⟨rfl, rfl⟩) ?_
 refine dG (OpA.load rfl ti9 rfl .head rfl rfl ⟨rfl, rfl⟩) ?_
 refine dG (OpA.fieldAddr rfl tf25_2 rfl ⟨rfl, rfl⟩) ?_
 refine dG (OpA.load rfl ti22 rfl (.tail .head) rfl rfl ⟨rfl, rfl⟩) ?_
 refine dG (OpA.m ⟨rfl, rfl⟩) ?_
 refine dG (OpA.subi rfl rfl rfl (q1 (decT b9)).1 ⟨rfl, rfl⟩) ?_
 refine dG (OpA.iixV (enc := encText) rfl ts22 rfl rfl rfl (q1 (decT b9)).2 ⟨rfl, rfl⟩) ?_
 refine dG (OpA.ifieldAddr rfl tf28_0 rfl ⟨rfl, rfl⟩) ?_
 refine dG (OpA.iload rfl ti9 rfl rfl ⟨rfl, rfl⟩) ?_
 refine dG (OpA.sleq rfl rfl rfl ⟨rfl, rfl⟩) ?_
 refine dL (OpA.p ⟨rfl, rfl⟩) ?_
 refine dL (OpA.a ⟨rfl, rfl⟩) ?_
 refine DetK.nil ?_
 refine wpL_nil ?_
 exact ⟨(Cov.asg ⟨rfl, rfl, rfl, rfl, rfl, (congrArg D.b (Eq.symm (andN b9 rfl))), trivial⟩), (.refl _)⟩
 iterate 10 refine dS ?_
 refine dL (OpA.p ⟨rfl, rfl⟩) ?_
 refine dL (OpA.a ⟨rfl, rfl⟩) ?_
 refine DetK.nil ?_
 refine wpL_nil ?_
 exact ⟨(Cov.asg ⟨rfl, rfl, rfl, rfl, rfl, (congrArg D.b (Eq.symm (andS b9))), trivial⟩), (.refl _)⟩
 show wpA _ _ _ _ (asg [(1, .ptr c1 4 0 0), (2, D.i 0), (22, (encL 2 encText) c.texts), (23, D.i (c.texts.length : Int)), (24, D.i x), (33, D.b ((decide (x > 0)) && (sless ((gi c.texts x).path) ((gi c.texts (x - 1)).path) || decide ((gi c.texts x).path = (gi c.texts (x - 1)).path))))]) [(c6, .cells 2 [encText (gi c.texts x)]), (c1, .cells 4 [encCorpus c])]
 refine wpA_cond rfl (fun b8 => ?_) (fun b8 => ?_)
 have h := h.1 ⟨(decT (and1 b8)), (and2 b8)⟩
 refine wpA_seq ?_
 refine wpA_region ?_
 refine wL (OpA.a ?_)
 refine wpL_nil ?_
 refine wpA_ret ?_
 exact ⟨_, (.tmp (d := D.i 5) rfl .nil), _, (.same rfl .nil), ⟨5, rfl, h⟩⟩
 have h := h.2 ((and0 b8).imp (fun hh => (decF hh)) (fun hh => hh))
 refine wpA_skip ?_
 obtain ⟨q1, h⟩ := h
 refine wpA_region ?_
 refine wL (OpA.addi rfl rfl rfl q1 ?_)
 refine wL (OpA.m ?_)
 refine wpL_nil ?_
 exact ⟨(), (x + 1), h, (Cov.asg ⟨rfl, rfl, rfl, rfl, rfl, trivial⟩), (.cons _ (.refl _))⟩
 have h := h.2 (decF b5)
 refine wpA_exit ?_
 iterate 2 refine wpA_seq ?_
 obtain ⟨q1, q2, h⟩ := h
 refine wpA_draw (m := 11) mo (by kernel_rfl) rfl ?_
 refine dL (OpA.fieldAddr rfl tf25_3 rfl ⟨rfl, rfl⟩) ?_
 refine dL (OpA.load rfl ti23 rfl .head rfl rfl ⟨rfl, rfl⟩) ?_
 refine dL (OpA.fieldAddr rfl tf25_2 rfl ⟨rfl, rfl⟩) ?_
 refine dL (OpA.load rfl ti22 rfl .head rfl rfl ⟨rfl, rfl⟩) ?_
 refine dL (OpA.fieldAddr rfl tf25_0 rfl ⟨rfl, rfl⟩) ?_
 refine dL (OpA.load rfl ti3 rfl .head rfl rfl ⟨rfl, rfl⟩) ?_
 refine dL (OpA.fieldAddr rfl tf25_1 rfl ⟨rfl, rfl⟩) ?_
 refine dL (OpA.load rfl ti3 rfl .head rfl rfl ⟨rfl, rfl⟩) ?_
 refine dL (OpA.call rfl rfl rfl en73 (cposts_c c.texts c.k c.w q1) (by rintro _ rfl; exact ⟨rfl, rfl⟩)) ?_
 refine dL (OpA.call rfl rfl rfl en70 (eqPosts_c c.posts (postsF c.texts c.k c.w) q2) (by rintro _ rfl; exact ⟨rfl, rfl⟩)) ?_
 refine dL (OpA.not rfl rfl ⟨rfl, rfl⟩) ?_
 refine DetK.nil ?_
 refine wpL_nil ?_
 refine wpA_cond rfl (fun b10 => ?_) (fun b10 => ?_)
 have h := h.1 (notT b10)
 refine wpA_seq ?_
 refine wpA_region ?_
 refine wL (OpA.a ?_)
 refine wpL_nil ?_
 refine wpA_ret ?_
 exact ⟨_, (.tmp (d := D.i 9) rfl .nil), _, (.same rfl .nil), ⟨9, rfl, h⟩⟩
 have h := h.2 (notF b10)
 refine wpA_skip ?_
 refine wpA_seq ?_
 refine wpA_region ?_
 refine wL (OpA.a ?_)
 refine wpL_nil ?_
 refine wpA_ret ?_
 exact ⟨_, (.tmp (d := D.i 0) rfl .nil), _, (.same rfl .nil), ⟨0, rfl, h⟩⟩
theorem ccheck_c (c : Corpus) (hp0 : okC c) : Fun false Tryz.prog 37 [encCorpus c] (fun d => d = D.i (checkF c)) :=
 Fun.at (enc := fun r => D.i r) (v := checkF c) (ccheck_w c  (fun r => r = checkF c) (ccheck_ok c _ hp0 rfl))
end Go.Proofs.YtglclijalehcmaaGreatDoor
