/-
  walks and contracts
-/
import Derived.Test.YtjncggaheahjiaaGreatDoorV0
import Derived.Test.YtjncggaheahjiaaGreatDoorNm
import Derived.Test.YtjncggaheahjiaaGreatDoorLw
import Derived.Test.YtjncggaheahjiaaGreatDoorNo4
set_option maxRecDepth 10000
set_option maxHeartbeats 2000000
set_option linter.all false
namespace Go.Proofs.YtjncggaheahjiaaGreatDoor
open Go Go.Lic Go.Sort Go.Proofs
variable [Fl]
attribute [local irreducible] badR behindF cmpB cmpI countF countL fewF has1F hasF hasPrefF indexF insideF itoaF lenF listF mergeF minusF nameR numF numR ofF oneF orF parseF partF pathB pathF printF scutF spanCmp spanF spanR splitB splitF splitG underF validF
theorem sorti_w (data : (List Span)) (a : Int) (b : Int) (g_p : Nat) (fs_p cs_p : List D) (p : Span → Span → Int) (pD : Span → Span → Prop) (hen_p : entersB Tryz.prog g_p = true) (hg_p : ∀ x0_ x1_, pD x0_ x1_ → Fun false Tryz.prog g_p (fs_p ++ [encSpan x0_, encSpan x1_] ++ cs_p) (fun d => d = D.i (p x0_ x1_))) (Q : Unit → Prop) (h : sorti_vc data a b p pD Q) : Fun false Tryz.prog 83 [(encL 3 encSpan) data, D.i a, D.i b, .fn (.func g_p) fs_p cs_p] (fun d => ∃ r, d = .tup [] ∧ Q r) := by
 unfold sorti_vc at h
 refine Fun.of_body Tryz.func83 rfl Tryz.ntmps83 rfl ?_
 refine wpA_seq ?_
 obtain ⟨q1, h⟩ := h
 refine wpA_region ?_
 refine wL (OpA.m ?_)
 refine wL (OpA.addi rfl rfl rfl q1 ?_)
 refine wL (OpA.a ?_)
 refine wpL_nil ?_
 refine wpA_block ?_
 refine wpA_lfp (S := Int) (G := Unit) () (fun gg ss => asg [(0, (encL 3 encSpan) data), (1, D.i a), (2, D.i b), (3, .fn (.func g_p) fs_p cs_p), (8, D.i ss)]) (fun gg ss => []) h (Cov.asg ⟨rfl, rfl, rfl, rfl, rfl, trivial⟩) (.refl _) ?_
 rintro again1 _ i h
 have h : sorti_L1 data a b p pD Q again1 i := h
 unfold sorti_L1 at h
 show wpA _ _ _ _ (asg [(0, (encL 3 encSpan) data), (1, D.i a), (2, D.i b), (3, .fn (.func g_p) fs_p cs_p), (8, D.i i)]) []
 iterate 2 refine wpA_seq ?_
 refine wpA_region ?_
 iterate 2 refine wL (OpA.m ?_)
 refine wL (OpA.lss rfl rfl rfl ?_)
 refine wpL_nil ?_
 refine wpA_cond rfl (fun b2 => ?_) (fun b2 => ?_)
 have h := h.1 (decT b2)
 refine wpA_skip ?_
 refine wpA_seq ?_
 refine wpA_block ?_
 refine wpA_seq ?_
 refine wpA_region ?_
 refine wL (OpA.m ?_)
 refine wL (OpA.a ?_)
 refine wpL_nil ?_
 refine wpA_block ?_
 refine wpA_lfp (S := Unit) (G := Unit) () (fun gg ss => asg [(0, (encL 3 encSpan) data), (1, D.i a), (2, D.i b), (3, .fn (.func g_p) fs_p cs_p), (8, D.i i), (9, D.i i)]) (fun gg ss => []) h (Cov.asg ⟨rfl, rfl, rfl, rfl, rfl, rfl, trivial⟩) (.refl _) ?_
 rintro again3 _ _ h
 have h : sorti_L2 data a p pD i again1 again3  := h
 unfold sorti_L2 at h
 show wpA _ _ _ _ (asg [(0, (encL 3 encSpan) data), (1, D.i a), (2, D.i b), (3, .fn (.func g_p) fs_p cs_p), (8, D.i i), (9, D.i i)]) []
 iterate 2 refine wpA_seq ?_
 obtain ⟨q1, h⟩ := h
 refine wpA_mid (asg [(0, (encL 3 encSpan) data), (1, D.i a), (2, D.i b), (3, .fn (.func g_p) fs_p cs_p), (8, D.i i), (9, D.i i), (34, D.b ((decide (i > a)) && (decide ((p (gi data i) (gi data (i - 1))) < 0))))]) [] ?_ ?_
 refine wpA_draw (m := 17) mo (by kernel_rfl) rfl ?_
 iterate 2 refine dL (OpA.m ⟨rfl, rfl⟩) ?_
 refine dL (OpA.gtr rfl rfl rfl ⟨rfl, rfl⟩) ?_
 refine dL (OpA.m ⟨rfl, rfl⟩) ?_
 refine DetK_split (s := 21) rfl (fun b5 => ?_) (fun b5 => ?_)
 iterate 3 refine dG (OpA.m ⟨rfl, rfl⟩) ?_
 refine dG (OpA.iixV (enc := encSpan) rfl ts22 rfl rfl rfl (q1 (decT b5)).1 ⟨rfl, rfl⟩) ?_
 refine dG (OpA.iload_whole rfl ti33 rfl ⟨_, rfl, rfl⟩ ⟨rfl, rfl⟩) ?_
 iterate 2 refine dG (OpA.m ⟨rfl, rfl⟩) ?_
 refine dG (OpA.subi rfl rfl rfl (q1 (decT b5)).2.1 ⟨rfl, rfl⟩) ?_
 refine dG (OpA.iixV (enc := encSpan) rfl ts22 rfl rfl rfl (q1 (decT b5)).2.2.1 ⟨rfl, rfl⟩) ?_
 refine dG (OpA.iload_whole rfl ti33 rfl ⟨_, rfl, rfl⟩ ⟨rfl, rfl⟩) ?_
 refine dG (OpA.call rfl rfl rfl hen_p (hg_p (gi data i) (gi data (i - 1)) (q1 (decT b5)).2.2.2) (by rintro _ rfl; exact ⟨rfl, rfl⟩)) ?_
 refine dG (OpA.lss rfl rfl rfl ⟨rfl, rfl⟩) ?_
 refine dL (OpA.p ⟨rfl, rfl⟩) ?_
 refine DetK.nil ?_
 refine wpL_nil ?_
 exact ⟨(Cov.asg ⟨rfl, rfl, rfl, rfl, rfl, rfl, (congrArg D.b (Eq.symm (andN b5 rfl))), trivial⟩), (.refl _)⟩
 iterate 12 refine dS ?_
 refine dL (OpA.p ⟨rfl, rfl⟩) ?_
 refine DetK.nil ?_
 refine wpL_nil ?_
 exact ⟨(Cov.asg ⟨rfl, rfl, rfl, rfl, rfl, rfl, (congrArg D.b (Eq.symm (andS b5))), trivial⟩), (.refl _)⟩
 show wpA _ _ _ _ (asg [(0, (encL 3 encSpan) data), (1, D.i a), (2, D.i b), (3, .fn (.func g_p) fs_p cs_p), (8, D.i i), (9, D.i i), (34, D.b ((decide (i > a)) && (decide ((p (gi data i) (gi data (i - 1))) < 0))))]) []
 refine wpA_cond rfl (fun b4 => ?_) (fun b4 => ?_)
 have h := h.1 ⟨(decT (and1 b4)), (decT (and2 b4))⟩
 exact h.elim
 have h := h.2 ((and0 b4).imp (fun hh => (decF hh)) (fun hh => (decF hh)))
 refine wpA_exit ?_
 obtain ⟨q1, h⟩ := h
 refine wpA_region ?_
 refine wL (OpA.m ?_)
 refine wL (OpA.addi rfl rfl rfl q1 ?_)
 refine wL (OpA.a ?_)
 refine wpL_nil ?_
 exact ⟨(), (i + 1), h, (Cov.asg ⟨rfl, rfl, rfl, rfl, rfl, trivial⟩), (.refl _)⟩
 have h := h.2 (decF b2)
 refine wpA_exit ?_
 exact ⟨_, .nil, _, (.tup .nil .nil), ⟨(), rfl, h⟩⟩
theorem sorti_c (data : (List Span)) (a : Int) (b : Int) (g_p : Nat) (fs_p cs_p : List D) (p : Span → Span → Int) (pD : Span → Span → Prop) (hen_p : entersB Tryz.prog g_p = true) (hg_p : ∀ x0_ x1_, pD x0_ x1_ → Fun false Tryz.prog g_p (fs_p ++ [encSpan x0_, encSpan x1_] ++ cs_p) (fun d => d = D.i (p x0_ x1_))) (hp0 : data = ([] : List Span)) (hp1 : a = (0 : Int)) (hp2 : b = (0 : Int)) : Fun false Tryz.prog 83 [(encL 3 encSpan) data, D.i a, D.i b, .fn (.func g_p) fs_p cs_p] (fun d => d = .tup []) :=
 Fun.at (enc := fun r => .tup []) (v := ()) (sorti_w data a b g_p fs_p cs_p p pD hen_p hg_p (fun r => r = ()) (sorti_ok data a b p pD _ hp0 hp1 hp2 rfl))
theorem sortp_w (data : (List Span)) (a : Int) (b : Int) (limit : Int) (g_p : Nat) (fs_p cs_p : List D) (p : Span → Span → Int) (pD : Span → Span → Prop) (hen_p : entersB Tryz.prog g_p = true) (hg_p : ∀ x0_ x1_, pD x0_ x1_ → Fun false Tryz.prog g_p (fs_p ++ [encSpan x0_, encSpan x1_] ++ cs_p) (fun d => d = D.i (p x0_ x1_))) (Q : Unit → Prop) (h : sortp_vc data a b limit p pD Q) : Fun false Tryz.prog 65 [(encL 3 encSpan) data, D.i a, D.i b, D.i limit, .fn (.func g_p) fs_p cs_p] (fun d => ∃ r, d = .tup [] ∧ Q r) := by
 unfold sortp_vc at h
 refine Fun.of_body Tryz.func65 rfl Tryz.ntmps65 rfl ?_
 refine wpA_seq ?_
 refine wpA_region ?_
 refine wL (OpA.a ?_)
 refine wpL_nil ?_
 refine wpA_seq ?_
 refine wpA_region ?_
 refine wL (OpA.a ?_)
 refine wpL_nil ?_
 refine wpA_block ?_
 refine wpA_lfp (S := Unit) (G := Unit) () (fun gg ss => asg [(0, (encL 3 encSpan) data), (1, D.i a), (2, D.i b), (3, D.i limit), (4, .fn (.func g_p) fs_p cs_p), (10, D.b true), (11, D.b true)]) (fun gg ss => []) h (Cov.asg ⟨rfl, rfl, rfl, rfl, rfl, rfl, rfl, trivial⟩) (.refl _) ?_
 rintro again1 _ _ h
 have h : sortp_L1 data a b limit Q again1  := h
 unfold sortp_L1 at h
 show wpA _ _ _ _ (asg [(0, (encL 3 encSpan) data), (1, D.i a), (2, D.i b), (3, D.i limit), (4, .fn (.func g_p) fs_p cs_p), (10, D.b true), (11, D.b true)]) []
 refine wpA_block ?_
 refine wpA_seq ?_
 obtain ⟨q1, h⟩ := h
 refine wpA_region ?_
 iterate 2 refine wL (OpA.m ?_)
 refine wL (OpA.subi rfl rfl rfl q1 ?_)
 refine wL (OpA.a ?_)
 refine wpL_nil ?_
 iterate 2 refine wpA_seq ?_
 refine wpA_region ?_
 refine wL (OpA.m ?_)
 refine wL (OpA.leq rfl rfl rfl ?_)
 refine wpL_nil ?_
 refine wpA_cond rfl (fun b2 => ?_) (fun b2 => ?_)
 have h := h.1 (decT b2)
 refine wpA_seq ?_
 obtain ⟨q1, q2, q3, h⟩ := h
 refine wpA_region ?_
 iterate 4 refine wL (OpA.m ?_)
 refine wL (OpA.call rfl rfl rfl en83 (sorti_c data a b g_p fs_p cs_p p pD hen_p hg_p q1 q2 q3) ?_)
 rintro _ rfl
 refine wpL_nil ?_
 refine wpA_ret ?_
 exact ⟨_, .nil, _, (.tup .nil .nil), ⟨(), rfl, h⟩⟩
 have h := h.2 (decF b2)
 refine wpA_skip ?_
 iterate 2 refine wpA_seq ?_
 refine wpA_region ?_
 refine wL (OpA.m ?_)
 refine wL (OpA.eql rfl rfl rfl ?_)
 refine wpL_nil ?_
 refine wpA_cond rfl (fun b3 => ?_) (fun b3 => ?_)
 have h := h.1 (beqT b3)
 exact h.elim
 have h := h.2 (beqF b3)
 exact h.elim
theorem sortp_c (data : (List Span)) (a : Int) (b : Int) (limit : Int) (g_p : Nat) (fs_p cs_p : List D) (p : Span → Span → Int) (pD : Span → Span → Prop) (hen_p : entersB Tryz.prog g_p = true) (hg_p : ∀ x0_ x1_, pD x0_ x1_ → Fun false Tryz.prog g_p (fs_p ++ [encSpan x0_, encSpan x1_] ++ cs_p) (fun d => d = D.i (p x0_ x1_))) (hp0 : data = ([] : List Span)) (hp1 : a = (0 : Int)) (hp2 : b = (0 : Int)) : Fun false Tryz.prog 65 [(encL 3 encSpan) data, D.i a, D.i b, D.i limit, .fn (.func g_p) fs_p cs_p] (fun d => d = .tup []) :=
 Fun.at (enc := fun r => .tup []) (v := ()) (sortp_w data a b limit g_p fs_p cs_p p pD hen_p hg_p (fun r => r = ()) (sortp_ok data a b limit p pD _ hp0 hp1 hp2 rfl))
theorem sort0_w (x : (List Span)) (g_p : Nat) (fs_p cs_p : List D) (p : Span → Span → Int) (pD : Span → Span → Prop) (hen_p : entersB Tryz.prog g_p = true) (hg_p : ∀ x0_ x1_, pD x0_ x1_ → Fun false Tryz.prog g_p (fs_p ++ [encSpan x0_, encSpan x1_] ++ cs_p) (fun d => d = D.i (p x0_ x1_))) (Q : Unit → Prop) (h : sort0_vc x p pD Q) : Fun false Tryz.prog 49 [(encL 3 encSpan) x, .fn (.func g_p) fs_p cs_p] (fun d => ∃ r, d = .tup [] ∧ Q r) := by
 unfold sort0_vc at h
 refine Fun.of_body Tryz.func49 rfl Tryz.ntmps49 rfl ?_
 refine wpA_seq ?_
 refine wpA_region ?_
 refine wL (OpA.m ?_)
 refine wL (OpA.len rfl rfl rfl rfl ts22.desc (.inl ⟨_, _, rfl, (List.length_map _).symm⟩) ?_)
 refine wL (OpA.a ?_)
 refine wpL_nil ?_
 obtain ⟨q1, q2, q3, q4, q5, h⟩ := h
 refine wpA_region ?_
 iterate 3 refine wL (OpA.m ?_)
 refine wL (OpA.conv rfl td3 td92 rfl ?_)
 refine wL (OpA.call rfl rfl rfl en66 (len_c (IntKind.u64.wrap (x.length : Int)) q1 q2) ?_)
 rintro _ rfl
 refine wL (OpA.m ?_)
 refine wL (OpA.call rfl rfl rfl en65 (sortp_c x 0 (x.length : Int) (lenF (IntKind.u64.wrap (x.length : Int))) g_p fs_p cs_p p pD hen_p hg_p q3 q4 q5) ?_)
 rintro _ rfl
 refine wpL_nil ?_
 exact ⟨_, .nil, _, (.tup .nil .nil), ⟨(), rfl, h⟩⟩
theorem sort0_c (x : (List Span)) (g_p : Nat) (fs_p cs_p : List D) (p : Span → Span → Int) (pD : Span → Span → Prop) (hen_p : entersB Tryz.prog g_p = true) (hg_p : ∀ x0_ x1_, pD x0_ x1_ → Fun false Tryz.prog g_p (fs_p ++ [encSpan x0_, encSpan x1_] ++ cs_p) (fun d => d = D.i (p x0_ x1_))) (hp0 : x = ([] : List Span)) : Fun false Tryz.prog 49 [(encL 3 encSpan) x, .fn (.func g_p) fs_p cs_p] (fun d => d = .tup []) :=
 Fun.at (enc := fun r => .tup []) (v := ()) (sort0_w x g_p fs_p cs_p p pD hen_p hg_p (fun r => r = ()) (sort0_ok x p pD _ hp0 rfl))
theorem gsplit_w (s_ : ByteArray) (sep : ByteArray) (sepSave : Int) (n : Int) (Q : (List ByteArray) → Prop) (h : gsplit_vc s_ sep sepSave n Q) : Fun false Tryz.prog 59 [D.s s_, D.s sep, D.i sepSave, D.i n] (fun d => ∃ r, d = (encL 1 D.s) r ∧ Q r) := by
 unfold gsplit_vc at h
 refine Fun.of_body Tryz.func59 rfl Tryz.ntmps59 rfl ?_
 refine wpA_seq ?_
 refine wpA_region ?_
 refine wL (OpA.a ?_)
 refine wpL_nil ?_
 iterate 2 refine wpA_seq ?_
 refine wpA_region ?_
 refine wL (OpA.m ?_)
 refine wL (OpA.eql rfl rfl rfl ?_)
 refine wpL_nil ?_
 refine wpA_cond rfl (fun b1 => ?_) (fun b1 => ?_)
 have h := h.1 (beqT b1)
 refine wpA_seq ?_
 refine wpA_region ?_
 refine wL (OpA.a ?_)
 refine wpL_nil ?_
 refine wpA_ret ?_
 exact ⟨_, (.tmp (d := .v (.slice none 0 0)) rfl .nil), _, (.nilv (sz := 1) .nil), ⟨[], rfl, h⟩⟩
 have h := h.2 (beqF b1)
 refine wpA_skip ?_
 iterate 2 refine wpA_seq ?_
 refine wpA_region ?_
 refine wL (OpA.m ?_)
 refine wL (OpA.seql rfl rfl rfl ?_)
 refine wpL_nil ?_
 refine wpA_cond rfl (fun b2 => ?_) (fun b2 => ?_)
 have h := h.1 (decT b2)
 exact h.elim
 have h := h.2 (decF b2)
 refine wpA_skip ?_
 iterate 2 refine wpA_seq ?_
 refine wpA_region ?_
 refine wL (OpA.m ?_)
 refine wL (OpA.lss rfl rfl rfl ?_)
 refine wpL_nil ?_
 refine wpA_join (S := Int) (G := Unit) (fun gg ss => asg [(0, D.s s_), (1, D.s sep), (2, D.i sepSave), (3, D.i ss), (8, .v (.slice none 0 0))]) (fun gg ss => []) (fun ss => gsplit_J1 s_ sep sepSave Q ss) ?_ ?_
 refine wpA_cond rfl (fun b7 => ?_) (fun b7 => ?_)
 have h := h.1 (decT b7)
 obtain ⟨q1, q2, h⟩ := h
 refine wpA_region ?_
 iterate 2 refine wL (OpA.m ?_)
 refine wL (OpA.call rfl rfl rfl en78 (count_c s_ sep q1) ?_)
 rintro _ rfl
 refine wL (OpA.addi rfl rfl rfl q2 ?_)
 refine wL (OpA.a ?_)
 refine wpL_nil ?_
 exact ⟨(), ((countF s_ sep) + 1), h, (Cov.asg ⟨rfl, rfl, rfl, rfl, rfl, trivial⟩), (.refl _)⟩
 have h := h.2 (decF b7)
 refine wpA_skip ?_
 exact ⟨(), n, h, (Cov.asg ⟨rfl, rfl, rfl, rfl, rfl, trivial⟩), (.refl _)⟩
 rintro _ n1 h
 have h : gsplit_J1 s_ sep sepSave Q n1 := h
 unfold gsplit_J1 at h
 show wpA _ _ _ _ (asg [(0, D.s s_), (1, D.s sep), (2, D.i sepSave), (3, D.i n1), (8, .v (.slice none 0 0))]) []
 refine wpA_seq ?_
 obtain ⟨q1, h⟩ := h
 refine wpA_region ?_
 iterate 2 refine wL (OpA.m ?_)
 refine wL (OpA.slen rfl rfl rfl rfl td9 rfl ?_)
 refine wL (OpA.addi rfl rfl rfl q1 ?_)
 refine wL (OpA.min (l := [_]) rfl rfl rfl rfl ?_)
 refine wL (OpA.a ?_)
 refine wpL_nil ?_
 refine wpA_seq ?_
 obtain ⟨q1, h⟩ := h
 refine wpA_region ?_
 refine wL (OpA.m ?_)
 refine wL (OpA.makeSliceV (enc := D.s) (v0 := ByteArray.empty) rfl ts60 rfl rfl tz9 (fun _ _ => .v _) (.of rfl) q1 (fun c3 => ?_))
 refine wL (OpA.a ?_)
 refine wpL_nil ?_
 refine wpA_seq ?_
 obtain ⟨q1, h⟩ := h
 refine wpA_region ?_
 refine wL (OpA.m ?_)
 refine wL (OpA.subi rfl rfl rfl q1 ?_)
 refine wL (OpA.a ?_)
 refine wpL_nil ?_
 refine wpA_seq ?_
 refine wpA_region ?_
 refine wL (OpA.a ?_)
 refine wpL_nil ?_
 refine wpA_seq ?_
 refine wpA_block ?_
 refine wpA_lfp (S := (List ByteArray) × ByteArray × Int) (G := Nat × List D × List D) (c3, ([] : List D), ([] : List D)) (fun gg ss => asg [(0, D.s ss.2.1), (1, D.s sep), (2, D.i sepSave), (3, D.i ((gmin n1 [((s_.size : Int) + 1)]) - 1)), (8, .v (.slice none 0 0)), (9, .own gg.1 1 gg.2.1.length ss.1.length), (10, D.i ss.2.2)]) (fun gg ss => [(gg.1, .cells 1 (winL D.s gg.2.1 ss.1 gg.2.2))]) h (Cov.asg ⟨rfl, rfl, rfl, rfl, rfl, rfl, rfl, trivial⟩) (.refl _) ?_
 rintro again4 ⟨cb31, pre31, post31⟩ ⟨a, s_1, i⟩ h
 have h : gsplit_L1 s_ sep sepSave n1 Q again4 a s_1 i := h
 unfold gsplit_L1 at h
 show wpA _ _ _ _ (asg [(0, D.s s_1), (1, D.s sep), (2, D.i sepSave), (3, D.i ((gmin n1 [((s_.size : Int) + 1)]) - 1)), (8, .v (.slice none 0 0)), (9, .own cb31 1 pre31.length a.length), (10, D.i i)]) [(cb31, .cells 1 (winL D.s pre31 a post31))]
 iterate 2 refine wpA_seq ?_
 refine wpA_region ?_
 iterate 2 refine wL (OpA.m ?_)
 refine wL (OpA.lss rfl rfl rfl ?_)
 refine wpL_nil ?_
 refine wpA_cond rfl (fun b5 => ?_) (fun b5 => ?_)
 have h := h.1 (decT b5)
 refine wpA_skip ?_
 refine wpA_block ?_
 refine wpA_seq ?_
 obtain ⟨q1, h⟩ := h
 refine wpA_region ?_
 iterate 2 refine wL (OpA.m ?_)
 refine wL (OpA.call rfl rfl rfl en79 (index_c s_1 sep q1) ?_)
 rintro _ rfl
 refine wL (OpA.a ?_)
 refine wpL_nil ?_
 iterate 2 refine wpA_seq ?_
 refine wpA_region ?_
 refine wL (OpA.m ?_)
 refine wL (OpA.lss rfl rfl rfl ?_)
 refine wpL_nil ?_
 refine wpA_cond rfl (fun b6 => ?_) (fun b6 => ?_)
 have h := h.1 (decT b6)
 refine wpA_exit ?_
 refine wpA_seq ?_
 obtain ⟨q1, h⟩ := h
 refine wpA_region ?_
 iterate 3 refine wL (OpA.m ?_)
 refine wL (OpA.ixV rfl ts60 rfl rfl q1 ?_)
 refine wE (OpA.storeV (enc := D.s) (v := s_1) rfl ti9 rfl rfl (.of rfl) rfl q1 .head ?_)
 refine wpL_nil ?_
 refine wpA_seq ?_
 refine wpA_cov (fr0 := asg [(0, D.s s_1), (1, D.s sep), (2, D.i sepSave), (3, D.i ((gmin n1 [((s_.size : Int) + 1)]) - 1)), (8, .v (.slice none 0 0)), (9, .own cb31 1 pre31.length (si a i s_1).length), (10, D.i i), (11, D.i (indexF s_1 sep)), (34, D.i i), (35, D.i ((gmin n1 [((s_.size : Int) + 1)]) - 1)), (36, D.b (decide (i < ((gmin n1 [((s_.size : Int) + 1)]) - 1)))), (37, D.s s_1), (38, D.s sep), (39, D.i (indexF s_1 sep)), (40, D.i (indexF s_1 sep)), (41, D.b (decide ((indexF s_1 sep) < 0))), (58, .own cb31 1 pre31.length (si a i s_1).length), (59, D.i i), (60, D.s s_1), (61, .ptr cb31 1 (pre31.length + (Int.toNat i)) 0)]) (Cov.asg ⟨rfl, rfl, rfl, rfl, rfl, (congrArg (D.own cb31 1 pre31.length) (by simp only [si_length, gcopy_length, sortF_len spanCmp_swo, List.length_reverse] <;> rfl)), rfl, rfl, rfl, rfl, rfl, rfl, rfl, rfl, rfl, rfl, (congrArg (D.own cb31 1 pre31.length) (by simp only [si_length, gcopy_length, sortF_len spanCmp_swo, List.length_reverse] <;> rfl)), rfl, rfl, rfl, trivial⟩) ?_
 obtain ⟨q1, q2, h⟩ := h
 refine wpA_region ?_
 iterate 2 refine wL (OpA.m ?_)
 refine wL (OpA.addi rfl rfl rfl q1 ?_)
 refine wL (OpA.sliceV (enc := D.s) rfl ts60 rfl (.none _) (.some rfl) q2 .head ?_)
 refine wL (OpA.a ?_)
 refine wpL_nil ?_
 refine wpA_ret ?_
 exact ⟨_, (.tmp (d := .own cb31 1 (pre31 ++ ((si a i s_1).take (Int.toNat 0)).map D.s).length (lsub (si a i s_1) 0 (i + 1)).length) rfl .nil), _, (.win .head (by intro hf; cases hf) .nil), ⟨(lsub (si a i s_1) 0 (i + 1)), rfl, h⟩⟩
 have h := h.2 (decF b6)
 refine wpA_skip ?_
 refine wpA_seq ?_
 obtain ⟨q1, q2, q3, h⟩ := h
 refine wpA_region ?_
 iterate 5 refine wL (OpA.m ?_)
 refine wL (OpA.addi rfl rfl rfl q1 ?_)
 refine wL (OpA.ssliceV rfl td9 rfl (.none _) (.some rfl) q2 ?_)
 refine wL (OpA.ixV rfl ts60 rfl rfl q3 ?_)
 refine wE (OpA.storeV (enc := D.s) (v := (ssub s_1 0 ((indexF s_1 sep) + sepSave))) rfl ti9 rfl rfl (.of rfl) rfl q3 .head ?_)
 refine wpL_nil ?_
 refine wpA_seq ?_
 refine wpA_cov (fr0 := asg [(0, D.s s_1), (1, D.s sep), (2, D.i sepSave), (3, D.i ((gmin n1 [((s_.size : Int) + 1)]) - 1)), (8, .v (.slice none 0 0)), (9, .own cb31 1 pre31.length (si a i (ssub s_1 0 ((indexF s_1 sep) + sepSave))).length), (10, D.i i), (11, D.i (indexF s_1 sep)), (34, D.i i), (35, D.i ((gmin n1 [((s_.size : Int) + 1)]) - 1)), (36, D.b (decide (i < ((gmin n1 [((s_.size : Int) + 1)]) - 1)))), (37, D.s s_1), (38, D.s sep), (39, D.i (indexF s_1 sep)), (40, D.i (indexF s_1 sep)), (41, D.b (decide ((indexF s_1 sep) < 0))), (42, .own cb31 1 pre31.length (si a i (ssub s_1 0 ((indexF s_1 sep) + sepSave))).length), (43, D.i i), (44, D.s s_1), (45, D.i (indexF s_1 sep)), (46, D.i sepSave), (47, D.i ((indexF s_1 sep) + sepSave)), (48, D.s (ssub s_1 0 ((indexF s_1 sep) + sepSave))), (49, .ptr cb31 1 (pre31.length + (Int.toNat i)) 0)]) (Cov.asg ⟨rfl, rfl, rfl, rfl, rfl, (congrArg (D.own cb31 1 pre31.length) (by simp only [si_length, gcopy_length, sortF_len spanCmp_swo, List.length_reverse] <;> rfl)), rfl, rfl, rfl, rfl, rfl, rfl, rfl, rfl, rfl, rfl, (congrArg (D.own cb31 1 pre31.length) (by simp only [si_length, gcopy_length, sortF_len spanCmp_swo, List.length_reverse] <;> rfl)), rfl, rfl, rfl, rfl, rfl, rfl, rfl, trivial⟩) ?_
 obtain ⟨q1, q2, h⟩ := h
 refine wpA_region ?_
 iterate 3 refine wL (OpA.m ?_)
 refine wL (OpA.slen rfl rfl rfl rfl td9 rfl ?_)
 refine wL (OpA.addi rfl rfl rfl q1 ?_)
 refine wL (OpA.ssliceV rfl td9 rfl (.some rfl) (.none _) q2 ?_)
 refine wL (OpA.a ?_)
 refine wpL_nil ?_
 obtain ⟨q1, h⟩ := h
 refine wpA_region ?_
 refine wL (OpA.m ?_)
 refine wL (OpA.addi rfl rfl rfl q1 ?_)
 refine wL (OpA.a ?_)
 refine wpL_nil ?_
 exact ⟨(cb31, pre31, post31), ((si a i (ssub s_1 0 ((indexF s_1 sep) + sepSave))), (ssub s_1 ((indexF s_1 sep) + (sep.size : Int)) (s_1.size : Int)), (i + 1)), h, (Cov.asg ⟨rfl, rfl, rfl, rfl, rfl, rfl, rfl, trivial⟩), (.refl _)⟩
 have h := h.2 (decF b5)
 refine wpA_exit ?_
 refine wpA_seq ?_
 obtain ⟨q1, h⟩ := h
 refine wpA_region ?_
 iterate 3 refine wL (OpA.m ?_)
 refine wL (OpA.ixV rfl ts60 rfl rfl q1 ?_)
 refine wE (OpA.storeV (enc := D.s) (v := s_1) rfl ti9 rfl rfl (.of rfl) rfl q1 .head ?_)
 refine wpL_nil ?_
 refine wpA_seq ?_
 refine wpA_cov (fr0 := asg [(0, D.s s_1), (1, D.s sep), (2, D.i sepSave), (3, D.i ((gmin n1 [((s_.size : Int) + 1)]) - 1)), (8, .v (.slice none 0 0)), (9, .own cb31 1 pre31.length (si a i s_1).length), (10, D.i i), (34, D.i i), (35, D.i ((gmin n1 [((s_.size : Int) + 1)]) - 1)), (36, D.b (decide (i < ((gmin n1 [((s_.size : Int) + 1)]) - 1)))), (58, .own cb31 1 pre31.length (si a i s_1).length), (59, D.i i), (60, D.s s_1), (61, .ptr cb31 1 (pre31.length + (Int.toNat i)) 0)]) (Cov.asg ⟨rfl, rfl, rfl, rfl, rfl, (congrArg (D.own cb31 1 pre31.length) (by simp only [si_length, gcopy_length, sortF_len spanCmp_swo, List.length_reverse] <;> rfl)), rfl, rfl, rfl, rfl, (congrArg (D.own cb31 1 pre31.length) (by simp only [si_length, gcopy_length, sortF_len spanCmp_swo, List.length_reverse] <;> rfl)), rfl, rfl, rfl, trivial⟩) ?_
 obtain ⟨q1, q2, h⟩ := h
 refine wpA_region ?_
 iterate 2 refine wL (OpA.m ?_)
 refine wL (OpA.addi rfl rfl rfl q1 ?_)
 refine wL (OpA.sliceV (enc := D.s) rfl ts60 rfl (.none _) (.some rfl) q2 .head ?_)
 refine wL (OpA.a ?_)
 refine wpL_nil ?_
 refine wpA_ret ?_
 exact ⟨_, (.tmp (d := .own cb31 1 (pre31 ++ ((si a i s_1).take (Int.toNat 0)).map D.s).length (lsub (si a i s_1) 0 (i + 1)).length) rfl .nil), _, (.win .head (by intro hf; cases hf) .nil), ⟨(lsub (si a i s_1) 0 (i + 1)), rfl, h⟩⟩
theorem gsplit_c (s_ : ByteArray) (sep : ByteArray) (sepSave : Int) (n : Int) (hp0 : s_.size ≤ 1000000) (hp1 : sep.size = 1) (hp2 : sepSave = (0 : Int)) (hp3 : n = (-1 : Int)) : Fun false Tryz.prog 59 [D.s s_, D.s sep, D.i sepSave, D.i n] (fun d => d = (encL 1 D.s) (splitG s_ sep sepSave n)) :=
 Fun.at (enc := fun r => (encL 1 D.s) r) (v := splitG s_ sep sepSave n) (gsplit_w s_ sep sepSave n  (fun r => r = splitG s_ sep sepSave n) (gsplit_ok s_ sep sepSave n _ hp0 hp1 hp2 hp3 rfl))
theorem split_w (s_ : ByteArray) (sep : ByteArray) (Q : (List ByteArray) → Prop) (h : split_vc s_ sep Q) : Fun false Tryz.prog 42 [D.s s_, D.s sep] (fun d => ∃ r, d = (encL 1 D.s) r ∧ Q r) := by
 unfold split_vc at h
 refine Fun.of_body Tryz.func42 rfl Tryz.ntmps42 rfl ?_
 refine wpA_seq ?_
 refine wpA_region ?_
 refine wL (OpA.asnN (T := ByteArray) (enc := D.s) (sz := 1) rfl rfl ?_)
 refine wpL_nil ?_
 refine wpA_seq ?_
 obtain ⟨q1, q2, q3, q4, h⟩ := h
 refine wpA_region ?_
 iterate 2 refine wL (OpA.m ?_)
 refine wL (OpA.call rfl rfl rfl en59 (gsplit_c s_ sep 0 (-1) q1 q2 q3 q4) ?_)
 rintro _ rfl
 refine wL (OpA.a ?_)
 refine wpL_nil ?_
 refine wpA_ret ?_
 exact ⟨_, (.tmp (d := (encL 1 D.s) (splitG s_ sep 0 (-1))) rfl .nil), _, (.same rfl .nil), ⟨(splitG s_ sep 0 (-1)), rfl, h⟩⟩
theorem split_c (s_ : ByteArray) (sep : ByteArray) (hp0 : s_.size ≤ 1000000) (hp1 : sep.size = 1) : Fun false Tryz.prog 42 [D.s s_, D.s sep] (fun d => d = (encL 1 D.s) (splitF s_ sep)) :=
 Fun.at (enc := fun r => (encL 1 D.s) r) (v := splitF s_ sep) (split_w s_ sep  (fun r => r = splitF s_ sep) (split_ok s_ sep _ hp0 hp1 rfl))
theorem sixf_w (s_ : ByteArray) (g_p : Nat) (fs_p cs_p : List D) (p : Int → Bool) (pD : Int → Prop) (truth : Bool) (hen_p : entersB Tryz.prog g_p = true) (hg_p : ∀ x0_, pD x0_ → Fun false Tryz.prog g_p (fs_p ++ [(D.k .i32) x0_] ++ cs_p) (fun d => d = D.b (p x0_))) (Q : Int → Prop) (h : sixf_vc s_ p pD truth Q) : Fun false Tryz.prog 108 [D.s s_, .fn (.func g_p) fs_p cs_p, D.b truth] (fun d => ∃ r, d = D.i r ∧ Q r) := by
 unfold sixf_vc at h
 refine Fun.of_body Tryz.func108 rfl Tryz.ntmps108 rfl ?_
 refine wpA_seq ?_
 refine wpA_region ?_
 refine wL (OpA.a ?_)
 refine wpL_nil ?_
 iterate 2 refine wpA_seq ?_
 refine wpA_region ?_
 refine wL (OpA.m ?_)
 refine wL (OpA.rangeStr rfl td9 rfl (fun c1 => ?_))
 refine wpL_nil ?_
 refine wpA_block ?_
 refine wpA_lfp (S := Int) (G := Unit) () (fun gg ss => asg [(1, .fn (.func g_p) fs_p cs_p), (2, D.b truth), (6, D.i 0), (10, .ptr c1 1 0 0)]) (fun gg ss => [(c1, .raw (.stringIter s_ (Int.toNat ss)))]) h (Cov.asg ⟨rfl, rfl, rfl, rfl, trivial⟩) (.refl _) ?_
 rintro again2 _ pos h
 have h : sixf_L1 s_ p pD truth Q again2 pos := h
 unfold sixf_L1 at h
 show wpA _ _ _ _ (asg [(1, .fn (.func g_p) fs_p cs_p), (2, D.b truth), (6, D.i 0), (10, .ptr c1 1 0 0)]) [(c1, .raw (.stringIter s_ (Int.toNat pos)))]
 refine wpA_seq ?_
 refine wpA_region ?_
 refine em_split (p := pos < (s_.size : Int)) (fun b3 => ?_) (fun b3 => ?_)
 obtain ⟨q1, h⟩ := h.1 b3
 refine wL (OpA.nextStr rfl rfl ⟨q1, b3⟩ .head ?_)
 refine wL (OpA.extract rfl rfl rfl ?_)
 refine wpL_nil ?_
 refine wpA_seq ?_
 refine wpA_condT rfl ?_
 refine wpA_skip ?_
 refine wpA_block ?_
 refine wpA_seq ?_
 refine wpA_region ?_
 iterate 2 refine wL (OpA.extract rfl rfl rfl ?_)
 iterate 2 refine wL (OpA.a ?_)
 refine wpL_nil ?_
 refine wpA_seq ?_
 obtain ⟨q1, h⟩ := h
 refine wpA_region ?_
 iterate 2 refine wL (OpA.m ?_)
 refine wL (OpA.call rfl rfl rfl hen_p (hg_p (runeAt s_ pos) q1) ?_)
 rintro _ rfl
 refine wL (OpA.m ?_)
 refine wL (OpA.bcmp rfl td4 rfl rfl (.inl ⟨rfl, rfl⟩) ?_)
 refine wpL_nil ?_
 refine wpA_cond rfl (fun b4 => ?_) (fun b4 => ?_)
 have h := h.1 b4
 refine wpA_seq ?_
 refine wpA_region ?_
 refine wL (OpA.m ?_)
 refine wL (OpA.a ?_)
 refine wpL_nil ?_
 refine wpA_ret ?_
 exact ⟨_, (.tmp (d := D.i pos) rfl .nil), _, (.same rfl .nil), ⟨pos, rfl, h⟩⟩
 have h := h.2 b4
 refine wpA_skip ?_
 exact ⟨(), (pos + runeW s_ pos), h, (Cov.asg ⟨rfl, rfl, rfl, rfl, trivial⟩), (.refl _)⟩
 have h := h.2 b3
 refine wL (OpA.overStr rfl rfl b3 .head ?_)
 refine wL (OpA.extract rfl rfl rfl ?_)
 refine wpL_nil ?_
 refine wpA_seq ?_
 refine wpA_condF rfl ?_
 refine wpA_exit ?_
 refine wpA_seq ?_
 refine wpA_region ?_
 refine wL (OpA.a ?_)
 refine wpL_nil ?_
 refine wpA_ret ?_
 exact ⟨_, (.tmp (d := D.i (-1)) rfl .nil), _, (.same rfl .nil), ⟨(-1), rfl, h⟩⟩
theorem sixf_c (s_ : ByteArray) (g_p : Nat) (fs_p cs_p : List D) (p : Int → Bool) (pD : Int → Prop) (truth : Bool) (hen_p : entersB Tryz.prog g_p = true) (hg_p : ∀ x0_, pD x0_ → Fun false Tryz.prog g_p (fs_p ++ [(D.k .i32) x0_] ++ cs_p) (fun d => d = D.b (p x0_))) (hp0 : ∀ x, pD x) : Fun false Tryz.prog 108 [D.s s_, .fn (.func g_p) fs_p cs_p, D.b truth] (fun d => d = D.i ((runeIx p s_ truth))) :=
 Fun.at (enc := fun r => D.i r) (v := (runeIx p s_ truth)) (sixf_w s_ g_p fs_p cs_p p pD truth hen_p hg_p (fun r => r = (runeIx p s_ truth)) (sixf_ok s_ p pD truth _ hp0 rfl))
theorem sixF_w (s_ : ByteArray) (g_p : Nat) (fs_p cs_p : List D) (p : Int → Bool) (pD : Int → Prop) (hen_p : entersB Tryz.prog g_p = true) (hg_p : ∀ x0_, pD x0_ → Fun false Tryz.prog g_p (fs_p ++ [(D.k .i32) x0_] ++ cs_p) (fun d => d = D.b (p x0_))) (Q : Int → Prop) (h : sixF_vc s_ p pD Q) : Fun false Tryz.prog 82 [D.s s_, .fn (.func g_p) fs_p cs_p] (fun d => ∃ r, d = D.i r ∧ Q r) := by
 unfold sixF_vc at h
 refine Fun.of_body Tryz.func82 rfl Tryz.ntmps82 rfl ?_
 refine wpA_seq ?_
 refine wpA_region ?_
 refine wL (OpA.a ?_)
 refine wpL_nil ?_
 refine wpA_seq ?_
 obtain ⟨q1, h⟩ := h
 refine wpA_region ?_
 iterate 2 refine wL (OpA.m ?_)
 refine wL (OpA.call rfl rfl rfl en108 (sixf_c s_ g_p fs_p cs_p p pD true hen_p hg_p q1) ?_)
 rintro _ rfl
 refine wL (OpA.a ?_)
 refine wpL_nil ?_
 refine wpA_ret ?_
 exact ⟨_, (.tmp (d := D.i (runeIx p s_ true)) rfl .nil), _, (.same rfl .nil), ⟨(runeIx p s_ true), rfl, h⟩⟩
theorem sixF_c (s_ : ByteArray) (g_p : Nat) (fs_p cs_p : List D) (p : Int → Bool) (pD : Int → Prop) (hen_p : entersB Tryz.prog g_p = true) (hg_p : ∀ x0_, pD x0_ → Fun false Tryz.prog g_p (fs_p ++ [(D.k .i32) x0_] ++ cs_p) (fun d => d = D.b (p x0_))) (hp0 : ∀ x, pD x) : Fun false Tryz.prog 82 [D.s s_, .fn (.func g_p) fs_p cs_p] (fun d => d = D.i ((runeIx p s_ true))) :=
 Fun.at (enc := fun r => D.i r) (v := (runeIx p s_ true)) (sixF_w s_ g_p fs_p cs_p p pD hen_p hg_p (fun r => r = (runeIx p s_ true)) (sixF_ok s_ p pD _ hp0 rfl))
theorem scf_w (s_ : ByteArray) (g_p : Nat) (fs_p cs_p : List D) (p : Int → Bool) (pD : Int → Prop) (hen_p : entersB Tryz.prog g_p = true) (hg_p : ∀ x0_, pD x0_ → Fun false Tryz.prog g_p (fs_p ++ [(D.k .i32) x0_] ++ cs_p) (fun d => d = D.b (p x0_))) (Q : Bool → Prop) (h : scf_vc s_ p pD Q) : Fun false Tryz.prog 63 [D.s s_, .fn (.func g_p) fs_p cs_p] (fun d => ∃ r, d = D.b r ∧ Q r) := by
 unfold scf_vc at h
 refine Fun.of_body Tryz.func63 rfl Tryz.ntmps63 rfl ?_
 refine wpA_seq ?_
 refine wpA_region ?_
 refine wL (OpA.a ?_)
 refine wpL_nil ?_
 refine wpA_seq ?_
 obtain ⟨q1, h⟩ := h
 refine wpA_region ?_
 iterate 2 refine wL (OpA.m ?_)
 refine wL (OpA.call rfl rfl rfl en82 (sixF_c s_ g_p fs_p cs_p p pD hen_p hg_p q1) ?_)
 rintro _ rfl
 refine wL (OpA.geq rfl rfl rfl ?_)
 refine wL (OpA.a ?_)
 refine wpL_nil ?_
 refine wpA_ret ?_
 exact ⟨_, (.tmp (d := D.b (decide ((runeIx p s_ true) ≥ 0))) rfl .nil), _, (.same rfl .nil), ⟨(decide ((runeIx p s_ true) ≥ 0)), rfl, h⟩⟩
theorem scf_c (s_ : ByteArray) (g_p : Nat) (fs_p cs_p : List D) (p : Int → Bool) (pD : Int → Prop) (hen_p : entersB Tryz.prog g_p = true) (hg_p : ∀ x0_, pD x0_ → Fun false Tryz.prog g_p (fs_p ++ [(D.k .i32) x0_] ++ cs_p) (fun d => d = D.b (p x0_))) (hp0 : ∀ x, pD x) : Fun false Tryz.prog 63 [D.s s_, .fn (.func g_p) fs_p cs_p] (fun d => d = D.b ((decide (0 ≤ runeIx p s_ true)))) :=
 Fun.at (enc := fun r => D.b r) (v := (decide (0 ≤ runeIx p s_ true))) (scf_w s_ g_p fs_p cs_p p pD hen_p hg_p (fun r => r = (decide (0 ≤ runeIx p s_ true))) (scf_ok s_ p pD _ hp0 rfl))
theorem ixStr_w (s_ : (List ByteArray)) (g_p : Nat) (fs_p cs_p : List D) (p : ByteArray → Bool) (pD : ByteArray → Prop) (hen_p : entersB Tryz.prog g_p = true) (hg_p : ∀ x0_, pD x0_ → Fun false Tryz.prog g_p (fs_p ++ [D.s x0_] ++ cs_p) (fun d => d = D.b (p x0_))) (Q : Int → Prop) (h : ixStr_vc s_ p pD Q) : Fun false Tryz.prog 62 [(encL 1 D.s) s_, .fn (.func g_p) fs_p cs_p] (fun d => ∃ r, d = D.i r ∧ Q r) := by
 unfold ixStr_vc at h
 refine Fun.of_body Tryz.func62 rfl Tryz.ntmps62 rfl ?_
 refine wpA_seq ?_
 refine wpA_region ?_
 refine wL (OpA.a ?_)
 refine wpL_nil ?_
 iterate 2 refine wpA_seq ?_
 refine wpA_region ?_
 refine wL (OpA.m ?_)
 refine wL (OpA.len rfl rfl rfl rfl ts60.desc (.inl ⟨_, _, rfl, (List.length_map _).symm⟩) ?_)
 refine wL (OpA.m ?_)
 refine wpL_nil ?_
 refine wpA_block ?_
 refine wpA_lfp (S := Int) (G := Unit) () (fun gg ss => asg [(0, (encL 1 D.s) s_), (1, .fn (.func g_p) fs_p cs_p), (4, D.i 0), (7, D.i (s_.length : Int)), (8, D.i ss)]) (fun gg ss => []) h (Cov.asg ⟨rfl, rfl, rfl, rfl, rfl, trivial⟩) (.refl _) ?_
 rintro again1 _ x h
 have h : ixStr_L1 s_ p pD Q again1 x := h
 unfold ixStr_L1 at h
 show wpA _ _ _ _ (asg [(0, (encL 1 D.s) s_), (1, .fn (.func g_p) fs_p cs_p), (4, D.i 0), (7, D.i (s_.length : Int)), (8, D.i x)]) []
 refine wpA_seq ?_
 refine wpA_region ?_
 refine wL (OpA.lss rfl rfl rfl ?_)
 refine wpL_nil ?_
 refine wpA_seq ?_
 refine wpA_cond rfl (fun b2 => ?_) (fun b2 => ?_)
 have h := h.1 (decT b2)
 refine wpA_skip ?_
 refine wpA_seq ?_
 refine wpA_block ?_
 refine wpA_seq ?_
 refine wpA_region ?_
 refine wL (OpA.m ?_)
 refine wL (OpA.a ?_)
 refine wpL_nil ?_
 refine wpA_seq ?_
 obtain ⟨q1, q2, h⟩ := h
 refine wpA_region ?_
 iterate 3 refine wL (OpA.m ?_)
 refine wL (OpA.iixV (enc := D.s) rfl ts60 rfl rfl rfl q1 ?_)
 refine wL (OpA.iload rfl ti9 rfl rfl ?_)
 refine wL (OpA.call rfl rfl rfl hen_p (hg_p (gi s_ x) q2) ?_)
 rintro _ rfl
 refine wpL_nil ?_
 refine wpA_cond rfl (fun b3 => ?_) (fun b3 => ?_)
 have h := h.1 b3
 refine wpA_seq ?_
 refine wpA_region ?_
 refine wL (OpA.m ?_)
 refine wL (OpA.a ?_)
 refine wpL_nil ?_
 refine wpA_ret ?_
 exact ⟨_, (.tmp (d := D.i x) rfl .nil), _, (.same rfl .nil), ⟨x, rfl, h⟩⟩
 have h := h.2 b3
 refine wpA_skip ?_
 obtain ⟨q1, h⟩ := h
 refine wpA_region ?_
 refine wL (OpA.addi rfl rfl rfl q1 ?_)
 refine wL (OpA.m ?_)
 refine wpL_nil ?_
 exact ⟨(), (x + 1), h, (Cov.asg ⟨rfl, rfl, rfl, rfl, rfl, trivial⟩), (.refl _)⟩
 have h := h.2 (decF b2)
 refine wpA_exit ?_
 refine wpA_seq ?_
 refine wpA_region ?_
 refine wL (OpA.a ?_)
 refine wpL_nil ?_
 refine wpA_ret ?_
 exact ⟨_, (.tmp (d := D.i (-1)) rfl .nil), _, (.same rfl .nil), ⟨(-1), rfl, h⟩⟩
theorem ixStr_c (s_ : (List ByteArray)) (g_p : Nat) (fs_p cs_p : List D) (p : ByteArray → Bool) (pD : ByteArray → Prop) (hen_p : entersB Tryz.prog g_p = true) (hg_p : ∀ x0_, pD x0_ → Fun false Tryz.prog g_p (fs_p ++ [D.s x0_] ++ cs_p) (fun d => d = D.b (p x0_))) (hp0 : s_.length ≤ 9223372036854775807) (hp1 : ∀ x ∈ s_, pD x) : Fun false Tryz.prog 62 [(encL 1 D.s) s_, .fn (.func g_p) fs_p cs_p] (fun d => d = D.i ((idxOf p s_))) :=
 Fun.at (enc := fun r => D.i r) (v := (idxOf p s_)) (ixStr_w s_ g_p fs_p cs_p p pD hen_p hg_p (fun r => r = (idxOf p s_)) (ixStr_ok s_ p pD _ hp0 hp1 rfl))
theorem cfStr_w (s_ : (List ByteArray)) (g_p : Nat) (fs_p cs_p : List D) (p : ByteArray → Bool) (pD : ByteArray → Prop) (hen_p : entersB Tryz.prog g_p = true) (hg_p : ∀ x0_, pD x0_ → Fun false Tryz.prog g_p (fs_p ++ [D.s x0_] ++ cs_p) (fun d => d = D.b (p x0_))) (Q : Bool → Prop) (h : cfStr_vc s_ p pD Q) : Fun false Tryz.prog 46 [(encL 1 D.s) s_, .fn (.func g_p) fs_p cs_p] (fun d => ∃ r, d = D.b r ∧ Q r) := by
 unfold cfStr_vc at h
 refine Fun.of_body Tryz.func46 rfl Tryz.ntmps46 rfl ?_
 refine wpA_seq ?_
 refine wpA_region ?_
 refine wL (OpA.a ?_)
 refine wpL_nil ?_
 refine wpA_seq ?_
 obtain ⟨q1, q2, h⟩ := h
 refine wpA_region ?_
 iterate 2 refine wL (OpA.m ?_)
 refine wL (OpA.call rfl rfl rfl en62 (ixStr_c s_ g_p fs_p cs_p p pD hen_p hg_p q1 q2) ?_)
 rintro _ rfl
 refine wL (OpA.geq rfl rfl rfl ?_)
 refine wL (OpA.a ?_)
 refine wpL_nil ?_
 refine wpA_ret ?_
 exact ⟨_, (.tmp (d := D.b (decide ((idxOf p s_) ≥ 0))) rfl .nil), _, (.same rfl .nil), ⟨(decide ((idxOf p s_) ≥ 0)), rfl, h⟩⟩
theorem cfStr_c (s_ : (List ByteArray)) (g_p : Nat) (fs_p cs_p : List D) (p : ByteArray → Bool) (pD : ByteArray → Prop) (hen_p : entersB Tryz.prog g_p = true) (hg_p : ∀ x0_, pD x0_ → Fun false Tryz.prog g_p (fs_p ++ [D.s x0_] ++ cs_p) (fun d => d = D.b (p x0_))) (hp0 : s_.length ≤ 9223372036854775807) (hp1 : ∀ x ∈ s_, pD x) : Fun false Tryz.prog 46 [(encL 1 D.s) s_, .fn (.func g_p) fs_p cs_p] (fun d => d = D.b ((s_.any p))) :=
 Fun.at (enc := fun r => D.b r) (v := (s_.any p)) (cfStr_w s_ g_p fs_p cs_p p pD hen_p hg_p (fun r => r = (s_.any p)) (cfStr_ok s_ p pD _ hp0 hp1 rfl))
theorem part1_w (c : Int) (Q : Bool → Prop) (h : part1_vc c Q) : Fun false Tryz.prog 64 [(D.k .i32) c] (fun d => ∃ r, d = D.b r ∧ Q r) := by
 unfold part1_vc at h
 refine Fun.of_body Tryz.func64 rfl Tryz.ntmps64 rfl ?_
 refine wpA_seq ?_
 refine wpA_region ?_
 refine wL (OpA.a ?_)
 refine wpL_nil ?_
 refine wpA_seq ?_
 refine wpA_mid (asg [(2, D.b (!((((((decide (c ≥ 97)) && (decide (c ≤ 122))) || ((decide (c ≥ 48)) && (decide (c ≤ 57)))) || (c == 46)) || (c == 95)) || (c == 45))))]) [] ?_ ?_
 refine wpA_region ?_
 refine wL (OpA.m ?_)
 refine wL (OpA.geq rfl rfl rfl ?_)
 refine wL (OpA.m ?_)
 refine wpL_split (s := 5) rfl (fun b1 => ?_) (fun b1 => ?_)
 refine wG (OpA.m ?_)
 refine wG (OpA.leq rfl rfl rfl ?_)
 refine wL (OpA.p ?_)
 refine wL (OpA.m ?_)
 refine wpL_split (s := 9) rfl (fun b2 => ?_) (fun b2 => ?_)
 iterate 3 refine wS ?_
 iterate 2 refine wpL_skipU rfl rfl rfl rfl rfl ?_
 refine wS ?_
 refine wL (OpA.p ?_)
 refine wL (OpA.m ?_)
 iterate 2 refine wS ?_
 refine wL (OpA.p ?_)
 refine wL (OpA.m ?_)
 iterate 2 refine wS ?_
 refine wL (OpA.p ?_)
 refine wL (OpA.m ?_)
 iterate 2 refine wS ?_
 refine wL (OpA.p ?_)
 refine wL (OpA.not rfl rfl ?_)
 refine wL (OpA.a ?_)
 refine wpL_nil ?_
 exact ⟨(Cov.asg ⟨(congrArg D.b (Eq.symm (notFt (orS (orS (orS (orS (andN b1 b2)))))))), trivial⟩), (.refl _)⟩
 refine wG (OpA.m ?_)
 refine wG (OpA.geq rfl rfl rfl ?_)
 refine wG (OpA.m ?_)
 refine wpL_split (s := 12) rfl (fun b3 => ?_) (fun b3 => ?_)
 refine wG (OpA.m ?_)
 refine wG (OpA.leq rfl rfl rfl ?_)
 refine wG (OpA.p ?_)
 refine wL (OpA.p ?_)
 refine wL (OpA.m ?_)
 refine wpL_split (s := 17) rfl (fun b4 => ?_) (fun b4 => ?_)
 iterate 2 refine wS ?_
 refine wL (OpA.p ?_)
 refine wL (OpA.m ?_)
 iterate 2 refine wS ?_
 refine wL (OpA.p ?_)
 refine wL (OpA.m ?_)
 iterate 2 refine wS ?_
 refine wL (OpA.p ?_)
 refine wL (OpA.not rfl rfl ?_)
 refine wL (OpA.a ?_)
 refine wpL_nil ?_
 exact ⟨(Cov.asg ⟨(congrArg D.b (Eq.symm (notFt (orS (orS (orS (orN (andN b1 b2) (andN b3 b4)))))))), trivial⟩), (.refl _)⟩
 refine wG (OpA.m ?_)
 refine wG (OpA.eql rfl rfl rfl ?_)
 refine wL (OpA.p ?_)
 refine wL (OpA.m ?_)
 refine wpL_split (s := 21) rfl (fun b5 => ?_) (fun b5 => ?_)
 iterate 2 refine wS ?_
 refine wL (OpA.p ?_)
 refine wL (OpA.m ?_)
 iterate 2 refine wS ?_
 refine wL (OpA.p ?_)
 refine wL (OpA.not rfl rfl ?_)
 refine wL (OpA.a ?_)
 refine wpL_nil ?_
 exact ⟨(Cov.asg ⟨(congrArg D.b (Eq.symm (notFt (orS (orS (orN (orN (andN b1 b2) (andN b3 b4)) b5)))))), trivial⟩), (.refl _)⟩
 refine wG (OpA.m ?_)
 refine wG (OpA.eql rfl rfl rfl ?_)
 refine wL (OpA.p ?_)
 refine wL (OpA.m ?_)
 refine wpL_split (s := 25) rfl (fun b6 => ?_) (fun b6 => ?_)
 iterate 2 refine wS ?_
 refine wL (OpA.p ?_)
 refine wL (OpA.not rfl rfl ?_)
 refine wL (OpA.a ?_)
 refine wpL_nil ?_
 exact ⟨(Cov.asg ⟨(congrArg D.b (Eq.symm (notFt (orS (orN (orN (orN (andN b1 b2) (andN b3 b4)) b5) b6))))), trivial⟩), (.refl _)⟩
 refine wG (OpA.m ?_)
 refine wG (OpA.eql rfl rfl rfl ?_)
 refine wL (OpA.p ?_)
 refine wL (OpA.not rfl rfl ?_)
 refine wL (OpA.a ?_)
 refine wpL_nil ?_
 exact ⟨(Cov.asg ⟨(congrArg D.b (Eq.symm (congrArg Bool.not (orN (orN (orN (orN (andN b1 b2) (andN b3 b4)) b5) b6) rfl)))), trivial⟩), (.refl _)⟩
 iterate 2 refine wS ?_
 refine wG (OpA.p ?_)
 refine wL (OpA.p ?_)
 refine wL (OpA.m ?_)
 refine wG (OpA.m ?_)
 refine wG (OpA.eql rfl rfl rfl ?_)
 refine wL (OpA.p ?_)
 refine wL (OpA.m ?_)
 refine wpL_split (s := 21) rfl (fun b7 => ?_) (fun b7 => ?_)
 iterate 2 refine wS ?_
 refine wL (OpA.p ?_)
 refine wL (OpA.m ?_)
 iterate 2 refine wS ?_
 refine wL (OpA.p ?_)
 refine wL (OpA.not rfl rfl ?_)
 refine wL (OpA.a ?_)
 refine wpL_nil ?_
 exact ⟨(Cov.asg ⟨(congrArg D.b (Eq.symm (notFt (orS (orS (orN (orN (andN b1 b2) (andS b3)) b7)))))), trivial⟩), (.refl _)⟩
 refine wG (OpA.m ?_)
 refine wG (OpA.eql rfl rfl rfl ?_)
 refine wL (OpA.p ?_)
 refine wL (OpA.m ?_)
 refine wpL_split (s := 25) rfl (fun b8 => ?_) (fun b8 => ?_)
 iterate 2 refine wS ?_
 refine wL (OpA.p ?_)
 refine wL (OpA.not rfl rfl ?_)
 refine wL (OpA.a ?_)
 refine wpL_nil ?_
 exact ⟨(Cov.asg ⟨(congrArg D.b (Eq.symm (notFt (orS (orN (orN (orN (andN b1 b2) (andS b3)) b7) b8))))), trivial⟩), (.refl _)⟩
 refine wG (OpA.m ?_)
 refine wG (OpA.eql rfl rfl rfl ?_)
 refine wL (OpA.p ?_)
 refine wL (OpA.not rfl rfl ?_)
 refine wL (OpA.a ?_)
 refine wpL_nil ?_
 exact ⟨(Cov.asg ⟨(congrArg D.b (Eq.symm (congrArg Bool.not (orN (orN (orN (orN (andN b1 b2) (andS b3)) b7) b8) rfl)))), trivial⟩), (.refl _)⟩
 iterate 2 refine wS ?_
 refine wL (OpA.p ?_)
 refine wL (OpA.m ?_)
 refine wG (OpA.m ?_)
 refine wG (OpA.geq rfl rfl rfl ?_)
 refine wG (OpA.m ?_)
 refine wpL_split (s := 12) rfl (fun b9 => ?_) (fun b9 => ?_)
 refine wG (OpA.m ?_)
 refine wG (OpA.leq rfl rfl rfl ?_)
 refine wG (OpA.p ?_)
 refine wL (OpA.p ?_)
 refine wL (OpA.m ?_)
 refine wpL_split (s := 17) rfl (fun b10 => ?_) (fun b10 => ?_)
 iterate 2 refine wS ?_
 refine wL (OpA.p ?_)
 refine wL (OpA.m ?_)
 iterate 2 refine wS ?_
 refine wL (OpA.p ?_)
 refine wL (OpA.m ?_)
 iterate 2 refine wS ?_
 refine wL (OpA.p ?_)
 refine wL (OpA.not rfl rfl ?_)
 refine wL (OpA.a ?_)
 refine wpL_nil ?_
 exact ⟨(Cov.asg ⟨(congrArg D.b (Eq.symm (notFt (orS (orS (orS (orN (andS b1) (andN b9 b10)))))))), trivial⟩), (.refl _)⟩
 refine wG (OpA.m ?_)
 refine wG (OpA.eql rfl rfl rfl ?_)
 refine wL (OpA.p ?_)
 refine wL (OpA.m ?_)
 refine wpL_split (s := 21) rfl (fun b11 => ?_) (fun b11 => ?_)
 iterate 2 refine wS ?_
 refine wL (OpA.p ?_)
 refine wL (OpA.m ?_)
 iterate 2 refine wS ?_
 refine wL (OpA.p ?_)
 refine wL (OpA.not rfl rfl ?_)
 refine wL (OpA.a ?_)
 refine wpL_nil ?_
 exact ⟨(Cov.asg ⟨(congrArg D.b (Eq.symm (notFt (orS (orS (orN (orN (andS b1) (andN b9 b10)) b11)))))), trivial⟩), (.refl _)⟩
 refine wG (OpA.m ?_)
 refine wG (OpA.eql rfl rfl rfl ?_)
 refine wL (OpA.p ?_)
 refine wL (OpA.m ?_)
 refine wpL_split (s := 25) rfl (fun b12 => ?_) (fun b12 => ?_)
 iterate 2 refine wS ?_
 refine wL (OpA.p ?_)
 refine wL (OpA.not rfl rfl ?_)
 refine wL (OpA.a ?_)
 refine wpL_nil ?_
 exact ⟨(Cov.asg ⟨(congrArg D.b (Eq.symm (notFt (orS (orN (orN (orN (andS b1) (andN b9 b10)) b11) b12))))), trivial⟩), (.refl _)⟩
 refine wG (OpA.m ?_)
 refine wG (OpA.eql rfl rfl rfl ?_)
 refine wL (OpA.p ?_)
 refine wL (OpA.not rfl rfl ?_)
 refine wL (OpA.a ?_)
 refine wpL_nil ?_
 exact ⟨(Cov.asg ⟨(congrArg D.b (Eq.symm (congrArg Bool.not (orN (orN (orN (orN (andS b1) (andN b9 b10)) b11) b12) rfl)))), trivial⟩), (.refl _)⟩
 iterate 2 refine wS ?_
 refine wG (OpA.p ?_)
 refine wL (OpA.p ?_)
 refine wL (OpA.m ?_)
 refine wG (OpA.m ?_)
 refine wG (OpA.eql rfl rfl rfl ?_)
 refine wL (OpA.p ?_)
 refine wL (OpA.m ?_)
 refine wpL_split (s := 21) rfl (fun b13 => ?_) (fun b13 => ?_)
 iterate 2 refine wS ?_
 refine wL (OpA.p ?_)
 refine wL (OpA.m ?_)
 iterate 2 refine wS ?_
 refine wL (OpA.p ?_)
 refine wL (OpA.not rfl rfl ?_)
 refine wL (OpA.a ?_)
 refine wpL_nil ?_
 exact ⟨(Cov.asg ⟨(congrArg D.b (Eq.symm (notFt (orS (orS (orN (orN (andS b1) (andS b9)) b13)))))), trivial⟩), (.refl _)⟩
 refine wG (OpA.m ?_)
 refine wG (OpA.eql rfl rfl rfl ?_)
 refine wL (OpA.p ?_)
 refine wL (OpA.m ?_)
 refine wpL_split (s := 25) rfl (fun b14 => ?_) (fun b14 => ?_)
 iterate 2 refine wS ?_
 refine wL (OpA.p ?_)
 refine wL (OpA.not rfl rfl ?_)
 refine wL (OpA.a ?_)
 refine wpL_nil ?_
 exact ⟨(Cov.asg ⟨(congrArg D.b (Eq.symm (notFt (orS (orN (orN (orN (andS b1) (andS b9)) b13) b14))))), trivial⟩), (.refl _)⟩
 refine wG (OpA.m ?_)
 refine wG (OpA.eql rfl rfl rfl ?_)
 refine wL (OpA.p ?_)
 refine wL (OpA.not rfl rfl ?_)
 refine wL (OpA.a ?_)
 refine wpL_nil ?_
 exact ⟨(Cov.asg ⟨(congrArg D.b (Eq.symm (congrArg Bool.not (orN (orN (orN (orN (andS b1) (andS b9)) b13) b14) rfl)))), trivial⟩), (.refl _)⟩
 show wpA _ _ _ _ (asg [(2, D.b (!((((((decide (c ≥ 97)) && (decide (c ≤ 122))) || ((decide (c ≥ 48)) && (decide (c ≤ 57)))) || (c == 46)) || (c == 95)) || (c == 45))))]) []
 refine wpA_ret ?_
 exact ⟨_, (.tmp (d := D.b (!((((((decide (c ≥ 97)) && (decide (c ≤ 122))) || ((decide (c ≥ 48)) && (decide (c ≤ 57)))) || (c == 46)) || (c == 95)) || (c == 45)))) rfl .nil), _, (.same rfl .nil), ⟨(!((((((decide (c ≥ 97)) && (decide (c ≤ 122))) || ((decide (c ≥ 48)) && (decide (c ≤ 57)))) || (c == 46)) || (c == 95)) || (c == 45))), rfl, h⟩⟩
theorem part1_c (c : Int)  : Fun false Tryz.prog 64 [(D.k .i32) c] (fun d => d = D.b (badR c)) :=
 Fun.at (enc := fun r => D.b r) (v := badR c) (part1_w c  (fun r => r = badR c) (part1_ok c _  rfl))
theorem part_w (s_ : ByteArray) (Q : Bool → Prop) (h : part_vc s_ Q) : Fun false Tryz.prog 48 [D.s s_] (fun d => ∃ r, d = D.b r ∧ Q r) := by
 unfold part_vc at h
 refine Fun.of_body Tryz.func48 rfl Tryz.ntmps48 rfl ?_
 refine wpA_seq ?_
 refine wpA_region ?_
 refine wL (OpA.a ?_)
 refine wpL_nil ?_
 iterate 2 refine wpA_seq ?_
 obtain ⟨q1, q2, h⟩ := h
 refine wpA_mid (asg [(0, D.s s_), (2, D.b false), (19, D.b ((((decide (s_ = (⟨#[]⟩ : ByteArray))) || (decide ((s_.size : Int) > 32))) || ((sgi s_ 0) == 46)) || ((sgi s_ 0) == 45)))]) [] ?_ ?_
 refine wpA_region ?_
 refine wL (OpA.m ?_)
 refine wL (OpA.seql rfl rfl rfl ?_)
 refine wL (OpA.m ?_)
 refine wpL_split (s := 5) rfl (fun b2 => ?_) (fun b2 => ?_)
 iterate 3 refine wS ?_
 refine wL (OpA.p ?_)
 refine wL (OpA.m ?_)
 iterate 3 refine wS ?_
 refine wL (OpA.p ?_)
 refine wL (OpA.m ?_)
 iterate 3 refine wS ?_
 refine wL (OpA.p ?_)
 refine wpL_nil ?_
 exact ⟨(Cov.asg ⟨rfl, rfl, (congrArg D.b (Eq.symm (orS (orS (orS b2))))), trivial⟩), (.refl _)⟩
 refine wG (OpA.m ?_)
 refine wG (OpA.slen rfl rfl rfl rfl td9 rfl ?_)
 refine wG (OpA.gtr rfl rfl rfl ?_)
 refine wL (OpA.p ?_)
 refine wL (OpA.m ?_)
 refine wpL_split (s := 10) rfl (fun b3 => ?_) (fun b3 => ?_)
 iterate 3 refine wS ?_
 refine wL (OpA.p ?_)
 refine wL (OpA.m ?_)
 iterate 3 refine wS ?_
 refine wL (OpA.p ?_)
 refine wpL_nil ?_
 exact ⟨(Cov.asg ⟨rfl, rfl, (congrArg D.b (Eq.symm (orS (orS (orN b2 b3))))), trivial⟩), (.refl _)⟩
 refine wG (OpA.m ?_)
 refine wG (OpA.sixV rfl td9 rfl rfl (q1 ⟨(decF b2), (decF b3)⟩) ?_)
 refine wG (OpA.eql rfl rfl rfl ?_)
 refine wL (OpA.p ?_)
 refine wL (OpA.m ?_)
 refine wpL_split (s := 15) rfl (fun b4 => ?_) (fun b4 => ?_)
 iterate 3 refine wS ?_
 refine wL (OpA.p ?_)
 refine wpL_nil ?_
 exact ⟨(Cov.asg ⟨rfl, rfl, (congrArg D.b (Eq.symm (orS (orN (orN b2 b3) b4)))), trivial⟩), (.refl _)⟩
 refine wG (OpA.m ?_)
 refine wG (OpA.sixV rfl td9 rfl rfl (q2 ⟨⟨(decF b2), (decF b3)⟩, (beqF b4)⟩) ?_)
 refine wG (OpA.eql rfl rfl rfl ?_)
 refine wL (OpA.p ?_)
 refine wpL_nil ?_
 exact ⟨(Cov.asg ⟨rfl, rfl, (congrArg D.b (Eq.symm (orN (orN (orN b2 b3) b4) rfl))), trivial⟩), (.refl _)⟩
 show wpA _ _ _ _ (asg [(0, D.s s_), (2, D.b false), (19, D.b ((((decide (s_ = (⟨#[]⟩ : ByteArray))) || (decide ((s_.size : Int) > 32))) || ((sgi s_ 0) == 46)) || ((sgi s_ 0) == 45)))]) []
 refine wpA_cond rfl (fun b1 => ?_) (fun b1 => ?_)
 have h := h.1 ((or0 b1).imp (fun hh => ((or0 hh).imp (fun hh => ((or0 hh).imp (fun hh => (decT hh)) (fun hh => (decT hh)))) (fun hh => (beqT hh)))) (fun hh => (beqT hh)))
 refine wpA_seq ?_
 refine wpA_region ?_
 refine wL (OpA.a ?_)
 refine wpL_nil ?_
 refine wpA_ret ?_
 exact ⟨_, (.tmp (d := D.b false) rfl .nil), _, (.same rfl .nil), ⟨false, rfl, h⟩⟩
 have h := h.2 ⟨⟨⟨(decF (or1 (or1 (or1 b1)))), (decF (or2 (or1 (or1 b1))))⟩, (beqF (or2 (or1 b1)))⟩, (beqF (or2 b1))⟩
 refine wpA_skip ?_
 refine wpA_seq ?_
 obtain ⟨q1, h⟩ := h
 refine wpA_region ?_
 refine wL (OpA.m ?_)
 refine wL (OpA.call rfl rfl rfl en63 (scf_c s_ 64 [] [] (fun (x0_ : Int) => badR x0_) (fun (x0_ : Int) => True) en64 (fun x0_ _ => part1_c x0_ ) q1) ?_)
 rintro _ rfl
 refine wL (OpA.not rfl rfl ?_)
 refine wL (OpA.a ?_)
 refine wpL_nil ?_
 refine wpA_ret ?_
 exact ⟨_, (.tmp (d := D.b (!(decide (0 ≤ runeIx (fun (x0_ : Int) => badR x0_) s_ true)))) rfl .nil), _, (.same rfl .nil), ⟨(!(decide (0 ≤ runeIx (fun (x0_ : Int) => badR x0_) s_ true))), rfl, h⟩⟩
theorem part_c (s_ : ByteArray) (hp0 : s_.size ≤ 1000000) : Fun false Tryz.prog 48 [D.s s_] (fun d => d = D.b (partF s_)) :=
 Fun.at (enc := fun r => D.b r) (v := partF s_) (part_w s_  (fun r => r = partF s_) (part_ok s_ _ hp0 rfl))
theorem path1_w (s_ : ByteArray) (Q : Bool → Prop) (h : path1_vc s_ Q) : Fun false Tryz.prog 47 [D.s s_] (fun d => ∃ r, d = D.b r ∧ Q r) := by
 unfold path1_vc at h
 refine Fun.of_body Tryz.func47 rfl Tryz.ntmps47 rfl ?_
 refine wpA_seq ?_
 refine wpA_region ?_
 refine wL (OpA.a ?_)
 refine wpL_nil ?_
 refine wpA_seq ?_
 obtain ⟨q1, h⟩ := h
 refine wpA_region ?_
 refine wL (OpA.m ?_)
 refine wL (OpA.call rfl rfl rfl en48 (part_c s_ q1) ?_)
 rintro _ rfl
 refine wL (OpA.not rfl rfl ?_)
 refine wL (OpA.a ?_)
 refine wpL_nil ?_
 refine wpA_ret ?_
 exact ⟨_, (.tmp (d := D.b (!(partF s_))) rfl .nil), _, (.same rfl .nil), ⟨(!(partF s_)), rfl, h⟩⟩
theorem path1_c (s_ : ByteArray) (hp0 : s_.size ≤ 1000000) : Fun false Tryz.prog 47 [D.s s_] (fun d => d = D.b ((!partF s_))) :=
 Fun.at (enc := fun r => D.b r) (v := (!partF s_)) (path1_w s_  (fun r => r = (!partF s_)) (path1_ok s_ _ hp0 rfl))
theorem path_w (path : ByteArray) (Q : Int → Prop) (h : path_vc path Q) : Fun false Tryz.prog 32 [D.s path] (fun d => ∃ r, d = D.i r ∧ Q r) := by
 unfold path_vc at h
 refine Fun.of_body Tryz.func32 rfl Tryz.ntmps32 rfl ?_
 refine wpA_seq ?_
 refine wpA_region ?_
 refine wL (OpA.a ?_)
 refine wpL_nil ?_
 refine wpA_seq ?_
 obtain ⟨q1, q2, h⟩ := h
 refine wpA_region ?_
 refine wL (OpA.m ?_)
 refine wL (OpA.call rfl rfl rfl en42 (split_c path (⟨#[47]⟩ : ByteArray) q1 q2) ?_)
 rintro _ rfl
 refine wL (OpA.a ?_)
 refine wpL_nil ?_
 iterate 2 refine wpA_seq ?_
 obtain ⟨q1, h⟩ := h
 refine wpA_mid (asg [(2, D.i 0), (17, D.b (((decide ((path.size : Int) > 128)) || (decide (((splitF path (⟨#[47]⟩ : ByteArray)).length : Int) > 8))) || ((splitF path (⟨#[47]⟩ : ByteArray)).any (fun (x0_ : ByteArray) => (!partF x0_)))))]) [] ?_ ?_
 refine wpA_region ?_
 refine wL (OpA.m ?_)
 refine wL (OpA.slen rfl rfl rfl rfl td9 rfl ?_)
 refine wL (OpA.gtr rfl rfl rfl ?_)
 refine wL (OpA.m ?_)
 refine wpL_split (s := 9) rfl (fun b2 => ?_) (fun b2 => ?_)
 iterate 3 refine wS ?_
 refine wL (OpA.p ?_)
 refine wL (OpA.m ?_)
 iterate 2 refine wS ?_
 refine wL (OpA.p ?_)
 refine wpL_nil ?_
 exact ⟨(Cov.asg ⟨rfl, (congrArg D.b (Eq.symm (orS (orS b2)))), trivial⟩), (.refl _)⟩
 refine wG (OpA.m ?_)
 refine wG (OpA.len rfl rfl rfl rfl ts60.desc (.inl ⟨_, _, rfl, (List.length_map _).symm⟩) ?_)
 refine wG (OpA.gtr rfl rfl rfl ?_)
 refine wL (OpA.p ?_)
 refine wL (OpA.m ?_)
 refine wpL_split (s := 14) rfl (fun b3 => ?_) (fun b3 => ?_)
 iterate 2 refine wS ?_
 refine wL (OpA.p ?_)
 refine wpL_nil ?_
 exact ⟨(Cov.asg ⟨rfl, (congrArg D.b (Eq.symm (orS (orN b2 b3)))), trivial⟩), (.refl _)⟩
 refine wG (OpA.m ?_)
 refine wG (OpA.call rfl rfl rfl en46 (cfStr_c (splitF path (⟨#[47]⟩ : ByteArray)) 47 [] [] (fun (x0_ : ByteArray) => (!partF x0_)) (fun (x0_ : ByteArray) => x0_.size ≤ 1000000) en47 (fun x0_ hh => path1_c x0_ hh) (q1 ⟨(decF b2), (decF b3)⟩).1 (q1 ⟨(decF b2), (decF b3)⟩).2) ?_)
 rintro _ rfl
 refine wL (OpA.p ?_)
 refine wpL_nil ?_
 exact ⟨(Cov.asg ⟨rfl, (congrArg D.b (Eq.symm (orN (orN b2 b3) rfl))), trivial⟩), (.refl _)⟩
 show wpA _ _ _ _ (asg [(2, D.i 0), (17, D.b (((decide ((path.size : Int) > 128)) || (decide (((splitF path (⟨#[47]⟩ : ByteArray)).length : Int) > 8))) || ((splitF path (⟨#[47]⟩ : ByteArray)).any (fun (x0_ : ByteArray) => (!partF x0_)))))]) []
 refine wpA_cond rfl (fun b1 => ?_) (fun b1 => ?_)
 have h := h.1 ((or0 b1).imp (fun hh => ((or0 hh).imp (fun hh => (decT hh)) (fun hh => (decT hh)))) (fun hh => hh))
 refine wpA_seq ?_
 refine wpA_region ?_
 refine wL (OpA.a ?_)
 refine wpL_nil ?_
 refine wpA_ret ?_
 exact ⟨_, (.tmp (d := D.i 2) rfl .nil), _, (.same rfl .nil), ⟨2, rfl, h⟩⟩
 have h := h.2 ⟨⟨(decF (or1 (or1 b1))), (decF (or2 (or1 b1)))⟩, (or2 b1)⟩
 refine wpA_skip ?_
 refine wpA_seq ?_
 refine wpA_region ?_
 refine wL (OpA.a ?_)
 refine wpL_nil ?_
 refine wpA_ret ?_
 exact ⟨_, (.tmp (d := D.i 0) rfl .nil), _, (.same rfl .nil), ⟨0, rfl, h⟩⟩
theorem path_c (path : ByteArray) (hp0 : path.size ≤ 1000000) : Fun false Tryz.prog 32 [D.s path] (fun d => d = D.i (pathF path)) :=
 Fun.at (enc := fun r => D.i r) (v := pathF path) (path_w path  (fun r => r = pathF path) (path_ok path _ hp0 rfl))
theorem or_w (vals : (List Int)) (Q : Int → Prop) (h : or_vc vals Q) : Fun false Tryz.prog 51 [(encL 1 D.i) vals] (fun d => ∃ r, d = D.i r ∧ Q r) := by
 unfold or_vc at h
 refine Fun.of_body Tryz.func51 rfl Tryz.ntmps51 rfl ?_
 refine wpA_seq ?_
 refine wpA_region ?_
 refine wL (OpA.a ?_)
 refine wpL_nil ?_
 refine wpA_seq ?_
 refine wpA_region ?_
 refine wL (OpA.a ?_)
 refine wpL_nil ?_
 iterate 2 refine wpA_seq ?_
 refine wpA_region ?_
 refine wL (OpA.m ?_)
 refine wL (OpA.len rfl rfl rfl rfl ts93.desc (.inl ⟨_, _, rfl, (List.length_map _).symm⟩) ?_)
 refine wL (OpA.m ?_)
 refine wpL_nil ?_
 refine wpA_block ?_
 refine wpA_lfp (S := Int) (G := Unit) () (fun gg ss => asg [(2, D.i 0), (3, D.i 0), (6, (encL 1 D.i) vals), (7, D.i (vals.length : Int)), (8, D.i ss)]) (fun gg ss => []) h (Cov.asg ⟨rfl, rfl, rfl, rfl, rfl, trivial⟩) (.refl _) ?_
 rintro again1 _ x h
 have h : or_L1 vals Q again1 x := h
 unfold or_L1 at h
 show wpA _ _ _ _ (asg [(2, D.i 0), (3, D.i 0), (6, (encL 1 D.i) vals), (7, D.i (vals.length : Int)), (8, D.i x)]) []
 refine wpA_seq ?_
 refine wpA_region ?_
 refine wL (OpA.lss rfl rfl rfl ?_)
 refine wpL_nil ?_
 refine wpA_seq ?_
 refine wpA_cond rfl (fun b2 => ?_) (fun b2 => ?_)
 have h := h.1 (decT b2)
 refine wpA_skip ?_
 refine wpA_seq ?_
 refine wpA_block ?_
 refine wpA_seq ?_
 obtain ⟨q1, h⟩ := h
 refine wpA_region ?_
 refine wL (OpA.iixV (enc := D.i) rfl ts93 rfl rfl rfl q1 ?_)
 refine wL (OpA.iload rfl ti3 rfl rfl ?_)
 refine wL (OpA.a ?_)
 refine wpL_nil ?_
 refine wpA_seq ?_
 refine wpA_region ?_
 iterate 2 refine wL (OpA.m ?_)
 refine wL (OpA.neq rfl rfl rfl ?_)
 refine wpL_nil ?_
 refine wpA_cond rfl (fun b3 => ?_) (fun b3 => ?_)
 have h := h.1 (bneT b3)
 refine wpA_seq ?_
 refine wpA_region ?_
 refine wL (OpA.m ?_)
 refine wL (OpA.a ?_)
 refine wpL_nil ?_
 refine wpA_ret ?_
 exact ⟨_, (.tmp (d := D.i (gi vals x)) rfl .nil), _, (.same rfl .nil), ⟨(gi vals x), rfl, h⟩⟩
 have h := h.2 (bneF b3)
 refine wpA_skip ?_
 obtain ⟨q1, h⟩ := h
 refine wpA_region ?_
 refine wL (OpA.addi rfl rfl rfl q1 ?_)
 refine wL (OpA.m ?_)
 refine wpL_nil ?_
 exact ⟨(), (x + 1), h, (Cov.asg ⟨rfl, rfl, rfl, rfl, rfl, trivial⟩), (.refl _)⟩
 have h := h.2 (decF b2)
 refine wpA_exit ?_
 refine wpA_seq ?_
 refine wpA_region ?_
 refine wL (OpA.m ?_)
 refine wL (OpA.a ?_)
 refine wpL_nil ?_
 refine wpA_ret ?_
 exact ⟨_, (.tmp (d := D.i 0) rfl .nil), _, (.same rfl .nil), ⟨0, rfl, h⟩⟩
theorem or_c (vals : (List Int)) (hp0 : vals.length ≤ 9223372036854775807) : Fun false Tryz.prog 51 [(encL 1 D.i) vals] (fun d => d = D.i (orF vals)) :=
 Fun.at (enc := fun r => D.i r) (v := orF vals) (or_w vals  (fun r => r = orF vals) (or_ok vals _ hp0 rfl))
end Go.Proofs.YtjncggaheahjiaaGreatDoor
