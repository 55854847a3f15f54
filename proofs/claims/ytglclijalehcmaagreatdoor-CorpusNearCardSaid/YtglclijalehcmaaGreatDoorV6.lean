/-
  walks and contracts
-/
import Derived.Test.YtglclijalehcmaaGreatDoorV5
set_option linter.all false
namespace Go.Proofs.YtglclijalehcmaaGreatDoor
open Go Go.Lic Go.Sort Go.Proofs
attribute [local irreducible] addF addP badR blankF checkF cmpB cmpI codeF commonF4 countF fewC fewTs fewW findT gramsF growTF guarF hashF indexF leastF lenF mul64F mulP nameR nearC nearF newF orF partF pathB pathF postCmp postLt postsF powF printsF pushF rollF selectF sizeF splitF splitG validT



set_option maxHeartbeats 2000000 in
set_option maxRecDepth 10000 in
theorem sortiI_w (data : (List Int)) (c_data : Nat) (pre_data post_data : List D) (a : Int) (b : Int) (g_p : Nat) (fs_p cs_p : List D) (p : Int → Int → Int) (pD : Int → Int → Prop) (hp_p : Heap) (hen_p : entersB Tryz.prog g_p = true) (hg_p : ∀ x0_ x1_, pD x0_ x1_ → CallH Tryz.prog g_p (fs_p ++ [D.i x0_, D.i x1_] ++ cs_p) hp_p (fun d h' => d = D.i (p x0_ x1_) ∧ h' = hp_p)) (Q : (List Int) → Prop) (h : sortiI_vc data a b p pD Q) : CallH Tryz.prog 137 [.own c_data 1 pre_data.length data.length, D.i a, D.i b, .fn (.func g_p) fs_p cs_p] ((c_data, .cells 1 (winL D.i pre_data data post_data)) :: hp_p) (fun d h' => ∃ (r : (List Int)) (g : Unit), d = .tup [] ∧ h' = ((c_data, .cells 1 (winL D.i pre_data r post_data)) :: hp_p) ∧ Q r) := by
  unfold sortiI_vc at h
  refine CallH.of_bodyP Tryz.func137 rfl Tryz.ntmps137 rfl ?_
  refine wpA_seq ?_
  obtain ⟨q1, h⟩ := h
  refine wpA_region ?_
  refine wL (OpA.m ?_)
  refine wL (OpA.addi rfl rfl rfl q1 ?_)
  refine wL (OpA.a ?_)
  refine wpL_nil ?_
  refine wpA_block ?_
  refine wpA_lfp (S := (List Int) × Int) (G := Unit) () (fun gg ss => asg [(0, .own c_data 1 pre_data.length ss.1.length), (1, D.i a), (2, D.i b), (3, .fn (.func g_p) fs_p cs_p), (8, D.i ss.2)]) (fun gg ss => ((c_data, .cells 1 (winL D.i pre_data ss.1 post_data)) :: hp_p)) h (Cov.asg ⟨rfl, rfl, rfl, rfl, rfl, trivial⟩) (.refl _) ?_
  rintro again1 _ ⟨data1, i⟩ h
  have h : sortiI_L1 a b p pD Q again1 data1 i := h
  unfold sortiI_L1 at h
  show wpA _ _ _ _ (asg [(0, .own c_data 1 pre_data.length data1.length), (1, D.i a), (2, D.i b), (3, .fn (.func g_p) fs_p cs_p), (8, D.i i)]) ((c_data, .cells 1 (winL D.i pre_data data1 post_data)) :: hp_p)
  iterate 2 refine wpA_seq ?_
  refine wpA_region ?_
  iterate 2 refine wL (OpA.m ?_)
  refine wL (OpA.lss rfl rfl rfl ?_)
  refine wpL_nil ?_
  refine wpA_cond rfl (fun b2 => ?_) (fun b2 => ?_)
  have h := h.1 (decT b2)
  refine wpA_skip ?_
  refine wpA_seq ?_
  refine wpA_block ?_
  refine wpA_seq ?_
  refine wpA_region ?_
  refine wL (OpA.m ?_)
  refine wL (OpA.a ?_)
  refine wpL_nil ?_
  refine wpA_block ?_
  refine wpA_lfp (S := (List Int) × Int) (G := Unit) () (fun gg ss => asg [(0, .own c_data 1 pre_data.length ss.1.length), (1, D.i a), (2, D.i b), (3, .fn (.func g_p) fs_p cs_p), (8, D.i i), (9, D.i ss.2)]) (fun gg ss => ((c_data, .cells 1 (winL D.i pre_data ss.1 post_data)) :: hp_p)) h (Cov.asg ⟨rfl, rfl, rfl, rfl, rfl, rfl, trivial⟩) (.refl _) ?_
  rintro again3 _ ⟨data2, j⟩ h
  have h : sortiI_L2 a p pD i again1 again3 data2 j := h
  unfold sortiI_L2 at h
  show wpA _ _ _ _ (asg [(0, .own c_data 1 pre_data.length data2.length), (1, D.i a), (2, D.i b), (3, .fn (.func g_p) fs_p cs_p), (8, D.i i), (9, D.i j)]) ((c_data, .cells 1 (winL D.i pre_data data2 post_data)) :: hp_p)
  iterate 2 refine wpA_seq ?_
  obtain ⟨q1, h⟩ := h
  refine wpA_mid (asg [(0, .own c_data 1 pre_data.length data2.length), (1, D.i a), (2, D.i b), (3, .fn (.func g_p) fs_p cs_p), (8, D.i i), (9, D.i j), (34, D.b ((decide (j > a)) && (decide ((p (gi data2 j) (gi data2 (j - 1))) < 0))))]) ((c_data, .cells 1 (winL D.i pre_data data2 post_data)) :: hp_p) ?_ ?_
  refine wpA_draw (m := 17) mo (by kernel_rfl) rfl ?_
  iterate 2 refine dL (OpA.m ⟨rfl, rfl⟩) ?_
  refine dL (OpA.gtr rfl rfl rfl ⟨rfl, rfl⟩) ?_
  refine dL (OpA.m ⟨rfl, rfl⟩) ?_
  refine DetK_split (s := 21) rfl (fun b205 => ?_) (fun b205 => ?_)
  iterate 3 refine dG (OpA.m ⟨rfl, rfl⟩) ?_
  refine dG (OpA.ixV rfl ts67 rfl rfl (q1 (decT b205)).1 ⟨rfl, rfl⟩) ?_
  refine dG (OpA.load rfl ti3 rfl .head (getV (enc := D.i) (q1 (decT b205)).1) rfl ⟨rfl, rfl⟩) ?_
  iterate 2 refine dG (OpA.m ⟨rfl, rfl⟩) ?_
  refine dG (OpA.subi rfl rfl rfl (q1 (decT b205)).2.1 ⟨rfl, rfl⟩) ?_
  refine dG (OpA.ixV rfl ts67 rfl rfl (q1 (decT b205)).2.2.1 ⟨rfl, rfl⟩) ?_
  refine dG (OpA.load rfl ti3 rfl .head (getV (enc := D.i) (q1 (decT b205)).2.2.1) rfl ⟨rfl, rfl⟩) ?_
  refine dG (OpA.callFH rfl rfl rfl hen_p (h1 := hp_p) (h2 := [(c_data, .cells 1 (winL D.i pre_data data2 post_data))]) (perm_last _ _) (hg_p (gi data2 j) (gi data2 (j - 1)) (q1 (decT b205)).2.2.2) ⟨rfl, rfl⟩) ?_
  refine dG (OpA.lss rfl rfl rfl ⟨rfl, rfl⟩) ?_
  refine dL (OpA.p ⟨rfl, rfl⟩) ?_
  refine DetK.nil ?_
  refine wpL_nil ?_
  exact ⟨(Cov.asg ⟨rfl, rfl, rfl, rfl, rfl, rfl, (congrArg D.b (Eq.symm (andN b205 rfl))), trivial⟩), (.refl _)⟩
  iterate 12 refine dS ?_
  refine dL (OpA.p ⟨rfl, rfl⟩) ?_
  refine DetK.nil ?_
  refine wpL_nil ?_
  exact ⟨(Cov.asg ⟨rfl, rfl, rfl, rfl, rfl, rfl, (congrArg D.b (Eq.symm (andS b205))), trivial⟩), (.refl _)⟩
  show wpA _ _ _ _ (asg [(0, .own c_data 1 pre_data.length data2.length), (1, D.i a), (2, D.i b), (3, .fn (.func g_p) fs_p cs_p), (8, D.i i), (9, D.i j), (34, D.b ((decide (j > a)) && (decide ((p (gi data2 j) (gi data2 (j - 1))) < 0))))]) ((c_data, .cells 1 (winL D.i pre_data data2 post_data)) :: hp_p)
  refine wpA_cond rfl (fun b4 => ?_) (fun b4 => ?_)
  have h := h.1 ⟨(decT (and1 b4)), (decT (and2 b4))⟩
  refine wpA_skip ?_
  refine wpA_seq ?_
  refine wpA_block ?_
  obtain ⟨q4_0, q7_0, q8_0, q9_0, q12_0, q13_0, q14_0, q15_0, q16_0, q17_0, h⟩ := h
  refine wpA_states mo (fun W hW => ?_)
  refine flip_goal (a := W 0 (lv 18 262143) (asg [(0, .own c_data 1 pre_data.length data2.length), (1, D.i a), (2, D.i b), (3, .fn (.func g_p) fs_p cs_p), (8, D.i i), (9, D.i j)]) ((c_data, .cells 1 (winL D.i pre_data (si (si data2 j (gi data2 (j - 1))) (j - 1) (gi data2 j)) post_data)) :: hp_p)) (fun s0 => ?_) ?_
  have s1 : W 1 (lv 18 131071) (asg [(0, .own c_data 1 pre_data.length data2.length), (1, D.i a), (2, D.i b), (3, .fn (.func g_p) fs_p cs_p), (8, D.i i), (9, D.i j), (50, D.i (gi data2 j)), (52, .ptr c_data 1 (pre_data.length + (Int.toNat (j - 1))) 0)]) ((c_data, .cells 1 (winL D.i pre_data (si data2 j (gi data2 (j - 1))) post_data)) :: hp_p) := wpS_of hW (by refine wpS_step (rs := [17]) (by kernel_rfl) rfl ⟨?_, trivial⟩; refine wpS_eff (i := 17) (li' := (lv 18 262143)) rfl rfl rfl (by kernel_rfl) (OpA.storeV (enc := D.i) (v := (gi data2 j)) rfl ti3 rfl rfl (.of rfl) rfl (inL_si q17_0) .head ?_); exact wpS_to hW (s0) (Cov.asg ⟨(congrArg (D.own c_data 1 pre_data.length) (by simp only [si_length, gcopy_length, sortF_len postCmp_swo, isort_len] <;> rfl)), rfl, rfl, rfl, rfl, rfl, trivial⟩) (.refl _))
  have s2 : W 2 (lv 18 65535) (asg [(0, .own c_data 1 pre_data.length data2.length), (1, D.i a), (2, D.i b), (3, .fn (.func g_p) fs_p cs_p), (8, D.i i), (9, D.i j), (39, .own c_data 1 pre_data.length data2.length), (41, D.i (j - 1)), (50, D.i (gi data2 j))]) ((c_data, .cells 1 (winL D.i pre_data (si data2 j (gi data2 (j - 1))) post_data)) :: hp_p) := wpS_of hW (by refine wpS_step (rs := [16]) (by kernel_rfl) rfl ⟨?_, trivial⟩; refine wpS_op (i := 16) (li' := (lv 18 131071)) rfl rfl rfl rfl (by kernel_rfl) (OpA.ixV rfl ts67 rfl rfl q16_0 ?_); exact wpS_to hW (s1) (Cov.asg ⟨(congrArg (D.own c_data 1 pre_data.length) (by simp only [si_length, gcopy_length, sortF_len postCmp_swo, isort_len] <;> rfl)), rfl, rfl, rfl, rfl, rfl, rfl, rfl, trivial⟩) (.refl _))
  have s3 : W 3 (lv 18 32767) (asg [(0, .own c_data 1 pre_data.length data2.length), (1, D.i a), (2, D.i b), (3, .fn (.func g_p) fs_p cs_p), (8, D.i i), (9, D.i j), (39, .own c_data 1 pre_data.length data2.length), (41, D.i (j - 1)), (46, D.i (gi data2 (j - 1))), (50, D.i (gi data2 j)), (51, .ptr c_data 1 (pre_data.length + (Int.toNat j)) 0)]) ((c_data, .cells 1 (winL D.i pre_data data2 post_data)) :: hp_p) := wpS_of hW (by refine wpS_step (rs := [15]) (by kernel_rfl) rfl ⟨?_, trivial⟩; refine wpS_eff (i := 15) (li' := (lv 18 65535)) rfl rfl rfl (by kernel_rfl) (OpA.storeV (enc := D.i) (v := (gi data2 (j - 1))) rfl ti3 rfl rfl (.of rfl) rfl q15_0 .head ?_); exact wpS_to hW (s2) (Cov.asg ⟨(congrArg (D.own c_data 1 pre_data.length) (by simp only [si_length, gcopy_length, sortF_len postCmp_swo, isort_len] <;> rfl)), rfl, rfl, rfl, rfl, rfl, (congrArg (D.own c_data 1 pre_data.length) (by simp only [si_length, gcopy_length, sortF_len postCmp_swo, isort_len] <;> rfl)), rfl, rfl, trivial⟩) (.refl _))
  have s4 : W 4 (lv 18 16383) (asg [(0, .own c_data 1 pre_data.length data2.length), (1, D.i a), (2, D.i b), (3, .fn (.func g_p) fs_p cs_p), (8, D.i i), (9, D.i j), (37, .own c_data 1 pre_data.length data2.length), (38, D.i j), (39, .own c_data 1 pre_data.length data2.length), (41, D.i (j - 1)), (46, D.i (gi data2 (j - 1))), (50, D.i (gi data2 j))]) ((c_data, .cells 1 (winL D.i pre_data data2 post_data)) :: hp_p) := wpS_of hW (by refine wpS_step (rs := [14]) (by kernel_rfl) rfl ⟨?_, trivial⟩; refine wpS_op (i := 14) (li' := (lv 18 32767)) rfl rfl rfl rfl (by kernel_rfl) (OpA.ixV rfl ts67 rfl rfl q14_0 ?_); exact wpS_to hW (s3) (Cov.asg ⟨rfl, rfl, rfl, rfl, rfl, rfl, rfl, rfl, rfl, rfl, rfl, trivial⟩) (.refl _))
  have s5 : W 5 (lv 18 8191) (asg [(0, .own c_data 1 pre_data.length data2.length), (1, D.i a), (2, D.i b), (3, .fn (.func g_p) fs_p cs_p), (8, D.i i), (9, D.i j), (37, .own c_data 1 pre_data.length data2.length), (38, D.i j), (39, .own c_data 1 pre_data.length data2.length), (41, D.i (j - 1)), (46, D.i (gi data2 (j - 1))), (49, .ptr c_data 1 (pre_data.length + (Int.toNat j)) 0)]) ((c_data, .cells 1 (winL D.i pre_data data2 post_data)) :: hp_p) := wpS_of hW (by refine wpS_step (rs := [13]) (by kernel_rfl) rfl ⟨?_, trivial⟩; refine wpS_op (i := 13) (li' := (lv 18 16383)) rfl rfl rfl rfl (by kernel_rfl) (OpA.load rfl ti3 rfl .head (getV (enc := D.i) q13_0) rfl ?_); exact wpS_to hW (s4) (Cov.asg ⟨rfl, rfl, rfl, rfl, rfl, rfl, rfl, rfl, rfl, rfl, rfl, rfl, trivial⟩) (.refl _))
  have s6 : W 5 (lv 18 15871) (asg [(0, .own c_data 1 pre_data.length data2.length), (1, D.i a), (2, D.i b), (3, .fn (.func g_p) fs_p cs_p), (8, D.i i), (9, D.i j), (37, .own c_data 1 pre_data.length data2.length), (38, D.i j), (39, .own c_data 1 pre_data.length data2.length), (41, D.i (j - 1)), (45, .ptr c_data 1 (pre_data.length + (Int.toNat (j - 1))) 0), (50, D.i (gi data2 j))]) ((c_data, .cells 1 (winL D.i pre_data data2 post_data)) :: hp_p) := wpS_of hW (by refine wpS_step (rs := [9]) (by kernel_rfl) rfl ⟨?_, trivial⟩; refine wpS_op (i := 9) (li' := (lv 18 16383)) rfl rfl rfl rfl (by kernel_rfl) (OpA.load rfl ti3 rfl .head (getV (enc := D.i) q9_0) rfl ?_); exact wpS_to hW (s4) (Cov.asg ⟨rfl, rfl, rfl, rfl, rfl, rfl, rfl, rfl, rfl, rfl, rfl, rfl, trivial⟩) (.refl _))
  have s7 : W 6 (lv 18 4095) (asg [(0, .own c_data 1 pre_data.length data2.length), (1, D.i a), (2, D.i b), (3, .fn (.func g_p) fs_p cs_p), (8, D.i i), (9, D.i j), (37, .own c_data 1 pre_data.length data2.length), (38, D.i j), (39, .own c_data 1 pre_data.length data2.length), (41, D.i (j - 1)), (46, D.i (gi data2 (j - 1))), (47, .own c_data 1 pre_data.length data2.length), (48, D.i j)]) ((c_data, .cells 1 (winL D.i pre_data data2 post_data)) :: hp_p) := wpS_of hW (by refine wpS_step (rs := [12]) (by kernel_rfl) rfl ⟨?_, trivial⟩; refine wpS_op (i := 12) (li' := (lv 18 8191)) rfl rfl rfl rfl (by kernel_rfl) (OpA.ixV rfl ts67 rfl rfl q12_0 ?_); exact wpS_to hW (s5) (Cov.asg ⟨rfl, rfl, rfl, rfl, rfl, rfl, rfl, rfl, rfl, rfl, rfl, rfl, trivial⟩) (.refl _))
  have s8 : W 6 (lv 18 7679) (asg [(0, .own c_data 1 pre_data.length data2.length), (1, D.i a), (2, D.i b), (3, .fn (.func g_p) fs_p cs_p), (8, D.i i), (9, D.i j), (37, .own c_data 1 pre_data.length data2.length), (38, D.i j), (39, .own c_data 1 pre_data.length data2.length), (41, D.i (j - 1)), (45, .ptr c_data 1 (pre_data.length + (Int.toNat (j - 1))) 0), (49, .ptr c_data 1 (pre_data.length + (Int.toNat j)) 0)]) ((c_data, .cells 1 (winL D.i pre_data data2 post_data)) :: hp_p) := wpS_of hW (by refine wpS_step (rs := [9, 13]) (by kernel_rfl) rfl ⟨?_, ?_, trivial⟩; refine wpS_op (i := 9) (li' := (lv 18 8191)) rfl rfl rfl rfl (by kernel_rfl) (OpA.load rfl ti3 rfl .head (getV (enc := D.i) q9_0) rfl ?_); exact wpS_to hW (s5) (Cov.asg ⟨rfl, rfl, rfl, rfl, rfl, rfl, rfl, rfl, rfl, rfl, rfl, rfl, trivial⟩) (.refl _); refine wpS_op (i := 13) (li' := (lv 18 15871)) rfl rfl rfl rfl (by kernel_rfl) (OpA.load rfl ti3 rfl .head (getV (enc := D.i) q13_0) rfl ?_); exact wpS_to hW (s6) (Cov.asg ⟨rfl, rfl, rfl, rfl, rfl, rfl, rfl, rfl, rfl, rfl, rfl, rfl, trivial⟩) (.refl _))
  have s9 : W 6 (lv 18 15615) (asg [(0, .own c_data 1 pre_data.length data2.length), (1, D.i a), (2, D.i b), (3, .fn (.func g_p) fs_p cs_p), (8, D.i i), (9, D.i j), (37, .own c_data 1 pre_data.length data2.length), (38, D.i j), (39, .own c_data 1 pre_data.length data2.length), (41, D.i (j - 1)), (42, .own c_data 1 pre_data.length data2.length), (44, D.i (j - 1)), (50, D.i (gi data2 j))]) ((c_data, .cells 1 (winL D.i pre_data data2 post_data)) :: hp_p) := wpS_of hW (by refine wpS_step (rs := [8]) (by kernel_rfl) rfl ⟨?_, trivial⟩; refine wpS_op (i := 8) (li' := (lv 18 15871)) rfl rfl rfl rfl (by kernel_rfl) (OpA.ixV rfl ts67 rfl rfl q8_0 ?_); exact wpS_to hW (s6) (Cov.asg ⟨rfl, rfl, rfl, rfl, rfl, rfl, rfl, rfl, rfl, rfl, rfl, rfl, trivial⟩) (.refl _))
  have s10 : W 7 (lv 18 3583) (asg [(0, .own c_data 1 pre_data.length data2.length), (1, D.i a), (2, D.i b), (3, .fn (.func g_p) fs_p cs_p), (8, D.i i), (9, D.i j), (37, .own c_data 1 pre_data.length data2.length), (38, D.i j), (39, .own c_data 1 pre_data.length data2.length), (41, D.i (j - 1)), (45, .ptr c_data 1 (pre_data.length + (Int.toNat (j - 1))) 0), (47, .own c_data 1 pre_data.length data2.length), (48, D.i j)]) ((c_data, .cells 1 (winL D.i pre_data data2 post_data)) :: hp_p) := wpS_of hW (by refine wpS_step (rs := [9, 12]) (by kernel_rfl) rfl ⟨?_, ?_, trivial⟩; refine wpS_op (i := 9) (li' := (lv 18 4095)) rfl rfl rfl rfl (by kernel_rfl) (OpA.load rfl ti3 rfl .head (getV (enc := D.i) q9_0) rfl ?_); exact wpS_to hW (s7) (Cov.asg ⟨rfl, rfl, rfl, rfl, rfl, rfl, rfl, rfl, rfl, rfl, rfl, rfl, rfl, trivial⟩) (.refl _); refine wpS_op (i := 12) (li' := (lv 18 7679)) rfl rfl rfl rfl (by kernel_rfl) (OpA.ixV rfl ts67 rfl rfl q12_0 ?_); exact wpS_to hW (s8) (Cov.asg ⟨rfl, rfl, rfl, rfl, rfl, rfl, rfl, rfl, rfl, rfl, rfl, rfl, trivial⟩) (.refl _))
  have s11 : W 7 (lv 18 7423) (asg [(0, .own c_data 1 pre_data.length data2.length), (1, D.i a), (2, D.i b), (3, .fn (.func g_p) fs_p cs_p), (8, D.i i), (9, D.i j), (37, .own c_data 1 pre_data.length data2.length), (38, D.i j), (39, .own c_data 1 pre_data.length data2.length), (41, D.i (j - 1)), (42, .own c_data 1 pre_data.length data2.length), (44, D.i (j - 1)), (49, .ptr c_data 1 (pre_data.length + (Int.toNat j)) 0)]) ((c_data, .cells 1 (winL D.i pre_data data2 post_data)) :: hp_p) := wpS_of hW (by refine wpS_step (rs := [8, 13]) (by kernel_rfl) rfl ⟨?_, ?_, trivial⟩; refine wpS_op (i := 8) (li' := (lv 18 7679)) rfl rfl rfl rfl (by kernel_rfl) (OpA.ixV rfl ts67 rfl rfl q8_0 ?_); exact wpS_to hW (s8) (Cov.asg ⟨rfl, rfl, rfl, rfl, rfl, rfl, rfl, rfl, rfl, rfl, rfl, rfl, trivial⟩) (.refl _); refine wpS_op (i := 13) (li' := (lv 18 15615)) rfl rfl rfl rfl (by kernel_rfl) (OpA.load rfl ti3 rfl .head (getV (enc := D.i) q13_0) rfl ?_); exact wpS_to hW (s9) (Cov.asg ⟨rfl, rfl, rfl, rfl, rfl, rfl, rfl, rfl, rfl, rfl, rfl, rfl, rfl, trivial⟩) (.refl _))
  have s12 : W 8 (lv 18 3327) (asg [(0, .own c_data 1 pre_data.length data2.length), (1, D.i a), (2, D.i b), (3, .fn (.func g_p) fs_p cs_p), (8, D.i i), (9, D.i j), (37, .own c_data 1 pre_data.length data2.length), (38, D.i j), (39, .own c_data 1 pre_data.length data2.length), (41, D.i (j - 1)), (42, .own c_data 1 pre_data.length data2.length), (44, D.i (j - 1)), (47, .own c_data 1 pre_data.length data2.length), (48, D.i j)]) ((c_data, .cells 1 (winL D.i pre_data data2 post_data)) :: hp_p) := wpS_of hW (by refine wpS_step (rs := [8, 12]) (by kernel_rfl) rfl ⟨?_, ?_, trivial⟩; refine wpS_op (i := 8) (li' := (lv 18 3583)) rfl rfl rfl rfl (by kernel_rfl) (OpA.ixV rfl ts67 rfl rfl q8_0 ?_); exact wpS_to hW (s10) (Cov.asg ⟨rfl, rfl, rfl, rfl, rfl, rfl, rfl, rfl, rfl, rfl, rfl, rfl, rfl, trivial⟩) (.refl _); refine wpS_op (i := 12) (li' := (lv 18 7423)) rfl rfl rfl rfl (by kernel_rfl) (OpA.ixV rfl ts67 rfl rfl q12_0 ?_); exact wpS_to hW (s11) (Cov.asg ⟨rfl, rfl, rfl, rfl, rfl, rfl, rfl, rfl, rfl, rfl, rfl, rfl, rfl, trivial⟩) (.refl _))
  refine wpS_of hW ?_
  refine wpS_firstY (fuel := 17) (i := 0) (li' := (lv 18 1)) rfl rfl (.move rfl) rfl rfl (by kernel_rfl) (by kernel_rfl) (by kernel_rfl) (fun _ _ _ hx => hx) rfl rfl (by kernel_rfl) ?_
  refine wpS_firstY (fuel := 16) (i := 1) (li' := (lv 18 3)) rfl rfl (.move rfl) rfl rfl (by kernel_rfl) (by kernel_rfl) (by kernel_rfl) (fun _ _ _ hx => hx) rfl rfl (by kernel_rfl) ?_
  refine wpS_firstY (fuel := 15) (i := 2) (li' := (lv 18 7)) rfl rfl (.move rfl) rfl rfl (by kernel_rfl) (by kernel_rfl) (by kernel_rfl) (fun _ _ _ hx => hx) rfl rfl (by kernel_rfl) ?_
  refine wpS_firstY (fuel := 14) (i := 3) (li' := (lv 18 15)) rfl rfl (.move rfl) rfl rfl (by kernel_rfl) (by kernel_rfl) (by kernel_rfl) (fun _ _ _ hx => hx) rfl rfl (by kernel_rfl) ?_
  refine wpS_firstY (fuel := 13) (i := 4) (li' := (lv 18 31)) rfl rfl (.subi rfl rfl rfl q4_0) rfl rfl (by kernel_rfl) (by kernel_rfl) (by kernel_rfl) (fun _ _ _ hx => hx) rfl rfl (by kernel_rfl) ?_
  refine wpS_firstY (fuel := 12) (i := 5) (li' := (lv 18 63)) rfl rfl (.move rfl) rfl rfl (by kernel_rfl) (by kernel_rfl) (by kernel_rfl) (fun _ _ _ hx => hx) rfl rfl (by kernel_rfl) ?_
  refine wpS_firstY (fuel := 11) (i := 6) (li' := (lv 18 127)) rfl rfl (.move rfl) rfl rfl (by kernel_rfl) (by kernel_rfl) (by kernel_rfl) (fun _ _ _ hx => hx) rfl rfl (by kernel_rfl) ?_
  refine wpS_firstY (fuel := 10) (i := 7) (li' := (lv 18 255)) rfl rfl (.subi rfl rfl rfl q7_0) rfl rfl (by kernel_rfl) (by kernel_rfl) (by kernel_rfl) (fun _ _ _ hx => hx) rfl rfl (by kernel_rfl) ?_
  refine wpS_firstY (fuel := 9) (i := 10) (li' := (lv 18 1279)) rfl rfl (.move rfl) rfl rfl (by kernel_rfl) (by kernel_rfl) (by kernel_rfl) (fun _ _ _ hx => hx) rfl rfl (by kernel_rfl) ?_
  refine wpS_firstY (fuel := 8) (i := 11) (li' := (lv 18 3327)) rfl rfl (.move rfl) rfl rfl (by kernel_rfl) (by kernel_rfl) (by kernel_rfl) (fun _ _ _ hx => hx) rfl rfl (by kernel_rfl) ?_
  exact wpS_to hW s12 (Cov.asg ⟨rfl, rfl, rfl, rfl, rfl, rfl, rfl, rfl, rfl, rfl, rfl, rfl, rfl, rfl, trivial⟩) (.refl _)
  refine wpS_of hW (wpS_done (by kernel_rfl) ?_)
  obtain ⟨q1, h⟩ := h
  refine wpA_region ?_
  refine wL (OpA.m ?_)
  refine wL (OpA.subi rfl rfl rfl q1 ?_)
  refine wL (OpA.a ?_)
  refine wpL_nil ?_
  exact ⟨(), ((si (si data2 j (gi data2 (j - 1))) (j - 1) (gi data2 j)), (j - 1)), h, (Cov.asg ⟨(congrArg (D.own c_data 1 pre_data.length) (by simp only [si_length, gcopy_length, sortF_len postCmp_swo, isort_len] <;> rfl)), rfl, rfl, rfl, rfl, rfl, trivial⟩), (.refl _)⟩
  have h := h.2 ((and0 b4).imp (fun hh => (decF hh)) (fun hh => (decF hh)))
  refine wpA_exit ?_
  obtain ⟨q1, h⟩ := h
  refine wpA_region ?_
  refine wL (OpA.m ?_)
  refine wL (OpA.addi rfl rfl rfl q1 ?_)
  refine wL (OpA.a ?_)
  refine wpL_nil ?_
  exact ⟨(), (data2, (i + 1)), h, (Cov.asg ⟨rfl, rfl, rfl, rfl, rfl, trivial⟩), (.refl _)⟩
  have h := h.2 (decF b2)
  refine wpA_exit ?_
  exact ⟨_, .nil, ((c_data, .cells 1 (winL D.i pre_data data1 post_data)) :: hp_p), ((c_data, .cells 1 (winL D.i pre_data data1 post_data)) :: hp_p), (.refl _), (.refl _), data1, (), rfl, rfl, h⟩
theorem sortiI_c (data : (List Int)) (c_data : Nat) (pre_data post_data : List D) (a : Int) (b : Int) (g_p : Nat) (fs_p cs_p : List D) (p : Int → Int → Int) (pD : Int → Int → Prop) (hp_p : Heap) (hen_p : entersB Tryz.prog g_p = true) (hg_p : ∀ x0_ x1_, pD x0_ x1_ → CallH Tryz.prog g_p (fs_p ++ [D.i x0_, D.i x1_] ++ cs_p) hp_p (fun d h' => d = D.i (p x0_ x1_) ∧ h' = hp_p)) (hp0 : a = (0 : Int)) (hp1 : b = (data.length : Int)) (hp2 : data.length ≤ 100) (hp3 : ∀ y_ z_, pD y_ z_) : CallH Tryz.prog 137 [.own c_data 1 pre_data.length data.length, D.i a, D.i b, .fn (.func g_p) fs_p cs_p] ((c_data, .cells 1 (winL D.i pre_data data post_data)) :: hp_p) (fun d h' => ∃ (g : Unit), d = .tup [] ∧ h' = ((c_data, .cells 1 (winL D.i pre_data (isortF p data) post_data)) :: hp_p)) :=
  (sortiI_w data c_data pre_data post_data a b g_p fs_p cs_p p pD hp_p hen_p hg_p (fun r => r = (isortF p data)) (sortiI_ok data a b p pD _ hp0 hp1 hp2 hp3 rfl)).mono (by rintro d h' ⟨r, g, hd, hh, rfl⟩; exact ⟨g, hd, hh⟩)

set_option maxHeartbeats 2000000 in
set_option maxRecDepth 10000 in
theorem stableI_w (data : (List Int)) (c_data : Nat) (pre_data post_data : List D) (n : Int) (g_p : Nat) (fs_p cs_p : List D) (p : Int → Int → Int) (pD : Int → Int → Prop) (hp_p : Heap) (hen_p : entersB Tryz.prog g_p = true) (hg_p : ∀ x0_ x1_, pD x0_ x1_ → CallH Tryz.prog g_p (fs_p ++ [D.i x0_, D.i x1_] ++ cs_p) hp_p (fun d h' => d = D.i (p x0_ x1_) ∧ h' = hp_p)) (Q : (List Int) → Prop) (h : stableI_vc data n p pD Q) : CallH Tryz.prog 113 [.own c_data 1 pre_data.length data.length, D.i n, .fn (.func g_p) fs_p cs_p] ((c_data, .cells 1 (winL D.i pre_data data post_data)) :: hp_p) (fun d h' => ∃ (r : (List Int)) (g : Unit), d = .tup [] ∧ h' = ((c_data, .cells 1 (winL D.i pre_data r post_data)) :: hp_p) ∧ Q r) := by
  unfold stableI_vc at h
  refine CallH.of_bodyP Tryz.func113 rfl Tryz.ntmps113 rfl ?_
  refine wpA_seq ?_
  refine wpA_region ?_
  refine wL (OpA.a ?_)
  refine wpL_nil ?_
  refine wpA_seq ?_
  refine wpA_region ?_
  refine wL (OpA.m ?_)
  iterate 2 refine wL (OpA.a ?_)
  refine wpL_nil ?_
  refine wpA_seq ?_
  refine wpA_block ?_
  refine wpA_lfp (S := (List Int) × Int × Int) (G := Unit) () (fun gg ss => asg [(0, .own c_data 1 pre_data.length ss.1.length), (1, D.i n), (2, .fn (.func g_p) fs_p cs_p), (6, D.i 20), (7, D.i ss.2.1), (8, D.i ss.2.2)]) (fun gg ss => ((c_data, .cells 1 (winL D.i pre_data ss.1 post_data)) :: hp_p)) h (Cov.asg ⟨rfl, rfl, rfl, rfl, rfl, rfl, trivial⟩) (.refl _) ?_
  rintro again1 _ ⟨data1, a, b⟩ h
  have h : stableI_L1 n p pD Q again1 data1 a b := h
  unfold stableI_L1 at h
  show wpA _ _ _ _ (asg [(0, .own c_data 1 pre_data.length data1.length), (1, D.i n), (2, .fn (.func g_p) fs_p cs_p), (6, D.i 20), (7, D.i a), (8, D.i b)]) ((c_data, .cells 1 (winL D.i pre_data data1 post_data)) :: hp_p)
  iterate 2 refine wpA_seq ?_
  refine wpA_region ?_
  iterate 2 refine wL (OpA.m ?_)
  refine wL (OpA.leq rfl rfl rfl ?_)
  refine wpL_nil ?_
  refine wpA_cond rfl (fun b2 => ?_) (fun b2 => ?_)
  have h := h.1 (decT b2)
  refine wpA_skip ?_
  refine wpA_block ?_
  refine wpA_seq ?_
  obtain ⟨q1, q2, q3, q4, h⟩ := h
  refine wpA_region ?_
  iterate 4 refine wL (OpA.m ?_)
  refine wL (OpA.callH0 rfl rfl rfl en137 (h1 := ((c_data, .cells 1 (winL D.i pre_data data1 post_data)) :: hp_p)) (.refl _) (sortiI_c data1 c_data pre_data post_data a b g_p fs_p cs_p p pD hp_p hen_p hg_p q1 q2 q3 q4) ?_)
  rintro _ _ ⟨_, rfl, rfl⟩
  refine wpL_nil ?_
  refine wpA_seq ?_
  refine wpA_region ?_
  refine wL (OpA.m ?_)
  refine wL (OpA.a ?_)
  refine wpL_nil ?_
  obtain ⟨q1, h⟩ := h
  refine wpA_region ?_
  iterate 2 refine wL (OpA.m ?_)
  refine wL (OpA.addi rfl rfl rfl q1 ?_)
  refine wL (OpA.a ?_)
  refine wpL_nil ?_
  exact ⟨(), ((isortF p data1), b, (b + 20)), h, (Cov.asg ⟨(congrArg (D.own c_data 1 pre_data.length) (by simp only [si_length, gcopy_length, sortF_len postCmp_swo, isort_len] <;> rfl)), rfl, rfl, rfl, rfl, rfl, trivial⟩), (.refl _)⟩
  have h := h.2 (decF b2)
  refine wpA_exit ?_
  refine wpA_seq ?_
  obtain ⟨q1, q2, q3, q4, h⟩ := h
  refine wpA_region ?_
  iterate 4 refine wL (OpA.m ?_)
  refine wL (OpA.callH0 rfl rfl rfl en137 (h1 := ((c_data, .cells 1 (winL D.i pre_data data1 post_data)) :: hp_p)) (.refl _) (sortiI_c data1 c_data pre_data post_data a n g_p fs_p cs_p p pD hp_p hen_p hg_p q1 q2 q3 q4) ?_)
  rintro _ _ ⟨_, rfl, rfl⟩
  refine wpL_nil ?_
  refine wpA_block ?_
  refine wpA_lfp (S := Int) (G := Unit) () (fun gg ss => asg [(0, .own c_data 1 pre_data.length (isortF p data1).length), (1, D.i n), (2, .fn (.func g_p) fs_p cs_p), (6, D.i ss)]) (fun gg ss => ((c_data, .cells 1 (winL D.i pre_data (isortF p data1) post_data)) :: hp_p)) h (Cov.asg ⟨(congrArg (D.own c_data 1 pre_data.length) (by simp only [si_length, gcopy_length, sortF_len postCmp_swo, isort_len] <;> rfl)), rfl, rfl, rfl, trivial⟩) (.refl _) ?_
  rintro again3 _ blockSize h
  have h : stableI_L2 n p data1 Q again3 blockSize := h
  unfold stableI_L2 at h
  show wpA _ _ _ _ (asg [(0, .own c_data 1 pre_data.length (isortF p data1).length), (1, D.i n), (2, .fn (.func g_p) fs_p cs_p), (6, D.i blockSize)]) ((c_data, .cells 1 (winL D.i pre_data (isortF p data1) post_data)) :: hp_p)
  iterate 2 refine wpA_seq ?_
  refine wpA_region ?_
  iterate 2 refine wL (OpA.m ?_)
  refine wL (OpA.lss rfl rfl rfl ?_)
  refine wpL_nil ?_
  refine wpA_cond rfl (fun b4 => ?_) (fun b4 => ?_)
  have h := h.1 (decT b4)
  refine wpA_skip ?_
  refine wpA_block ?_
  refine wpA_seq ?_
  obtain ⟨q1, h⟩ := h
  refine wpA_region ?_
  refine wL (OpA.m ?_)
  refine wL (OpA.muli rfl rfl rfl q1 ?_)
  iterate 2 refine wL (OpA.a ?_)
  refine wpL_nil ?_
  refine wpA_seq ?_
  refine wpA_block ?_
  refine wpA_lfp (S := Unit) (G := Unit) () (fun gg ss => asg [(0, .own c_data 1 pre_data.length (isortF p data1).length), (1, D.i n), (2, .fn (.func g_p) fs_p cs_p), (6, D.i blockSize), (7, D.i 0), (8, D.i (2 * blockSize))]) (fun gg ss => ((c_data, .cells 1 (winL D.i pre_data (isortF p data1) post_data)) :: hp_p)) h (Cov.asg ⟨rfl, rfl, rfl, rfl, rfl, rfl, trivial⟩) (.refl _) ?_
  rintro again5 _ _ h
  have h : stableI_L3 n blockSize again3 again5  := h
  unfold stableI_L3 at h
  show wpA _ _ _ _ (asg [(0, .own c_data 1 pre_data.length (isortF p data1).length), (1, D.i n), (2, .fn (.func g_p) fs_p cs_p), (6, D.i blockSize), (7, D.i 0), (8, D.i (2 * blockSize))]) ((c_data, .cells 1 (winL D.i pre_data (isortF p data1) post_data)) :: hp_p)
  iterate 2 refine wpA_seq ?_
  refine wpA_region ?_
  iterate 2 refine wL (OpA.m ?_)
  refine wL (OpA.leq rfl rfl rfl ?_)
  refine wpL_nil ?_
  refine wpA_cond rfl (fun b6 => ?_) (fun b6 => ?_)
  have h := h.1 (decT b6)
  exact h.elim
  have h := h.2 (decF b6)
  refine wpA_exit ?_
  iterate 2 refine wpA_seq ?_
  obtain ⟨q1, h⟩ := h
  refine wpA_region ?_
  iterate 2 refine wL (OpA.m ?_)
  refine wL (OpA.addi rfl rfl rfl q1 ?_)
  refine wL (OpA.a ?_)
  refine wpL_nil ?_
  refine wpA_seq ?_
  refine wpA_region ?_
  iterate 2 refine wL (OpA.m ?_)
  refine wL (OpA.lss rfl rfl rfl ?_)
  refine wpL_nil ?_
  refine wpA_cond rfl (fun b7 => ?_) (fun b7 => ?_)
  have h := h.1 (decT b7)
  exact h.elim
  have h := h.2 (decF b7)
  refine wpA_skip ?_
  obtain ⟨q1, h⟩ := h
  refine wpA_region ?_
  refine wL (OpA.m ?_)
  refine wL (OpA.muli rfl rfl rfl q1 ?_)
  refine wL (OpA.a ?_)
  refine wpL_nil ?_
  exact ⟨(), (blockSize * 2), h, (Cov.asg ⟨rfl, rfl, rfl, rfl, trivial⟩), (.refl _)⟩
  have h := h.2 (decF b4)
  refine wpA_exit ?_
  exact ⟨_, .nil, ((c_data, .cells 1 (winL D.i pre_data (isortF p data1) post_data)) :: hp_p), ((c_data, .cells 1 (winL D.i pre_data (isortF p data1) post_data)) :: hp_p), (.refl _), (.refl _), (isortF p data1), (), rfl, rfl, h⟩
theorem stableI_c (data : (List Int)) (c_data : Nat) (pre_data post_data : List D) (n : Int) (g_p : Nat) (fs_p cs_p : List D) (p : Int → Int → Int) (pD : Int → Int → Prop) (hp_p : Heap) (hen_p : entersB Tryz.prog g_p = true) (hg_p : ∀ x0_ x1_, pD x0_ x1_ → CallH Tryz.prog g_p (fs_p ++ [D.i x0_, D.i x1_] ++ cs_p) hp_p (fun d h' => d = D.i (p x0_ x1_) ∧ h' = hp_p)) (hp0 : n = (data.length : Int)) (hp1 : data.length ≤ 19) (hp2 : ∀ y_ z_, pD y_ z_) : CallH Tryz.prog 113 [.own c_data 1 pre_data.length data.length, D.i n, .fn (.func g_p) fs_p cs_p] ((c_data, .cells 1 (winL D.i pre_data data post_data)) :: hp_p) (fun d h' => ∃ (g : Unit), d = .tup [] ∧ h' = ((c_data, .cells 1 (winL D.i pre_data (isortF p data) post_data)) :: hp_p)) :=
  (stableI_w data c_data pre_data post_data n g_p fs_p cs_p p pD hp_p hen_p hg_p (fun r => r = (isortF p data)) (stableI_ok data n p pD _ hp0 hp1 hp2 rfl)).mono (by rintro d h' ⟨r, g, hd, hh, rfl⟩; exact ⟨g, hd, hh⟩)

set_option maxHeartbeats 2000000 in
set_option maxRecDepth 10000 in
theorem sortStI_w (x : (List Int)) (c_x : Nat) (pre_x post_x : List D) (g_p : Nat) (fs_p cs_p : List D) (p : Int → Int → Int) (pD : Int → Int → Prop) (hp_p : Heap) (hen_p : entersB Tryz.prog g_p = true) (hg_p : ∀ x0_ x1_, pD x0_ x1_ → CallH Tryz.prog g_p (fs_p ++ [D.i x0_, D.i x1_] ++ cs_p) hp_p (fun d h' => d = D.i (p x0_ x1_) ∧ h' = hp_p)) (Q : (List Int) → Prop) (h : sortStI_vc x p pD Q) : CallH Tryz.prog 77 [.own c_x 1 pre_x.length x.length, .fn (.func g_p) fs_p cs_p] ((c_x, .cells 1 (winL D.i pre_x x post_x)) :: hp_p) (fun d h' => ∃ (r : (List Int)) (g : Unit), d = .tup [] ∧ h' = ((c_x, .cells 1 (winL D.i pre_x r post_x)) :: hp_p) ∧ Q r) := by
  unfold sortStI_vc at h
  refine CallH.of_bodyP Tryz.func77 rfl Tryz.ntmps77 rfl ?_
  obtain ⟨q1, q2, q3, h⟩ := h
  refine wpA_region ?_
  iterate 2 refine wL (OpA.m ?_)
  refine wL (OpA.len rfl rfl rfl rfl ts67.desc (.inr (.inl ⟨_, _, _, rfl⟩)) ?_)
  refine wL (OpA.m ?_)
  refine wL (OpA.callH0 rfl rfl rfl en113 (h1 := ((c_x, .cells 1 (winL D.i pre_x x post_x)) :: hp_p)) (.refl _) (stableI_c x c_x pre_x post_x (x.length : Int) g_p fs_p cs_p p pD hp_p hen_p hg_p q1 q2 q3) ?_)
  rintro _ _ ⟨_, rfl, rfl⟩
  refine wpL_nil ?_
  exact ⟨_, .nil, ((c_x, .cells 1 (winL D.i pre_x (isortF p x) post_x)) :: hp_p), ((c_x, .cells 1 (winL D.i pre_x (isortF p x) post_x)) :: hp_p), (.refl _), (.refl _), (isortF p x), (), rfl, rfl, h⟩
theorem sortStI_c (x : (List Int)) (c_x : Nat) (pre_x post_x : List D) (g_p : Nat) (fs_p cs_p : List D) (p : Int → Int → Int) (pD : Int → Int → Prop) (hp_p : Heap) (hen_p : entersB Tryz.prog g_p = true) (hg_p : ∀ x0_ x1_, pD x0_ x1_ → CallH Tryz.prog g_p (fs_p ++ [D.i x0_, D.i x1_] ++ cs_p) hp_p (fun d h' => d = D.i (p x0_ x1_) ∧ h' = hp_p)) (hp0 : x.length ≤ 19) (hp1 : ∀ y_ z_, pD y_ z_) : CallH Tryz.prog 77 [.own c_x 1 pre_x.length x.length, .fn (.func g_p) fs_p cs_p] ((c_x, .cells 1 (winL D.i pre_x x post_x)) :: hp_p) (fun d h' => ∃ (g : Unit), d = .tup [] ∧ h' = ((c_x, .cells 1 (winL D.i pre_x (isortF p x) post_x)) :: hp_p)) :=
  (sortStI_w x c_x pre_x post_x g_p fs_p cs_p p pD hp_p hen_p hg_p (fun r => r = (isortF p x)) (sortStI_ok x p pD _ hp0 hp1 rfl)).mono (by rintro d h' ⟨r, g, hd, hh, rfl⟩; exact ⟨g, hd, hh⟩)

set_option maxHeartbeats 2000000 in
set_option maxRecDepth 10000 in
theorem cnear1_w (a : Int) (b : Int) (shared : (List (Int × Int))) (c_shared d_shared : Nat)  (Q : Int → Prop) (h : cnear1_vc a b shared Q) : CallH Tryz.prog 78 [D.i a, D.i b, .ptr c_shared 1 0 0] [(c_shared, .cells 1 [.map d_shared]), (d_shared, .raw (mapO vI shared))] (fun d h' => ∃ (r : Int) (g : Unit), d = D.i r ∧ h' = [(c_shared, .cells 1 [.map d_shared]), (d_shared, .raw (mapO vI shared))] ∧ Q r) := by
  unfold cnear1_vc at h
  refine CallH.of_bodyP Tryz.func78 rfl Tryz.ntmps78 rfl ?_
  refine wpA_seq ?_
  refine wpA_region ?_
  refine wL (OpA.a ?_)
  refine wpL_nil ?_
  refine wpA_seq ?_
  refine wpA_region ?_
  refine wL (OpA.load rfl ti115 rfl .head rfl rfl ?_)
  refine wL (OpA.m ?_)
  refine wL (OpA.mapGet (vf := vI) (l := shared) 0 rfl td115 td3 tz3 rfl rfl (.tail .head) ?_)
  refine wL (OpA.load rfl ti115 rfl .head rfl rfl ?_)
  refine wL (OpA.m ?_)
  refine wL (OpA.mapGet (vf := vI) (l := shared) 0 rfl td115 td3 tz3 rfl rfl (.tail .head) ?_)
  refine wL (OpA.call rfl rfl rfl en79 (iCompare_c (mget 0 shared b) (mget 0 shared a) ) ?_)
  rintro _ rfl
  refine wL (OpA.a ?_)
  refine wpL_nil ?_
  refine wpA_ret ?_
  exact ⟨_, (.tmp (d := D.i (cmpI (mget 0 shared b) (mget 0 shared a))) rfl .nil), [(c_shared, .cells 1 [.map d_shared]), (d_shared, .raw (mapO vI shared))], [(c_shared, .cells 1 [.map d_shared]), (d_shared, .raw (mapO vI shared))], (.refl _), (.refl _), (cmpI (mget 0 shared b) (mget 0 shared a)), (), rfl, rfl, h⟩
theorem cnear1_c (a : Int) (b : Int) (shared : (List (Int × Int))) (c_shared d_shared : Nat)   : CallH Tryz.prog 78 [D.i a, D.i b, .ptr c_shared 1 0 0] [(c_shared, .cells 1 [.map d_shared]), (d_shared, .raw (mapO vI shared))] (fun d h' => ∃ (g : Unit), d = D.i (nearC a b shared) ∧ h' = [(c_shared, .cells 1 [.map d_shared]), (d_shared, .raw (mapO vI shared))]) :=
  (cnear1_w a b shared c_shared d_shared  (fun r => r = nearC a b shared) (cnear1_ok a b shared _  rfl)).mono (by rintro d h' ⟨r, g, hd, hh, rfl⟩; exact ⟨g, hd, hh⟩)

set_option maxHeartbeats 2000000 in
set_option maxRecDepth 10000 in
theorem cnear_w (c : Corpus) (t : Text)  (Q : (List Int) × Int → Prop) (h : cnear_vc c t Q) : Fun false Tryz.prog 39 [encCorpus c, encText t] (fun d => ∃ r, d = .tup [(encL 1 D.i) (r.1), D.i (r.2)] ∧ Q r) := by
  unfold cnear_vc at h
  refine Fun.of_body Tryz.func39 rfl Tryz.ntmps39 rfl ?_
  refine wpA_seq ?_
  refine wpA_region ?_
  refine wL (OpA.bx (sz := 4) rfl (by with_reducible conv => lhs; whnf) (.of rfl) (fun c1 _ => ?_))
  refine wL (OpA.bx (sz := 2) rfl (by with_reducible conv => lhs; whnf) (.of rfl) (fun c2 _ => ?_))
  iterate 2 refine wL (OpA.a ?_)
  refine wpL_nil ?_
  iterate 2 refine wpA_seq ?_
  obtain ⟨q1, q2, h⟩ := h
  refine wpA_mid (asg [(2, .ptr c1 4 0 0), (3, .ptr c2 2 0 0), (4, .v (.slice none 0 0)), (5, D.i 0), (24, D.b (((checkF c) != 0) || (!(validT t))))]) [(c2, .cells 2 [encText t]), (c1, .cells 4 [encCorpus c])] ?_ ?_
  refine wpA_region ?_
  refine wL (OpA.load_whole rfl ti25 rfl rfl (.tail .head) rfl ⟨_, rfl⟩ ?_)
  refine wL (OpA.call rfl rfl rfl en37 (ccheck_c c q1) ?_)
  rintro _ rfl
  refine wL (OpA.neq rfl rfl rfl ?_)
  refine wL (OpA.m ?_)
  refine wpL_split (s := 20) rfl (fun b23 => ?_) (fun b23 => ?_)
  iterate 3 refine wS ?_
  refine wL (OpA.p ?_)
  refine wpL_nil ?_
  exact ⟨(Cov.asg ⟨rfl, rfl, rfl, rfl, (congrArg D.b (Eq.symm (orS b23))), trivial⟩), (.refl _)⟩
  refine wG (OpA.load_whole rfl ti28 rfl rfl .head rfl ⟨_, rfl⟩ ?_)
  refine wG (OpA.call rfl rfl rfl en38 (nvalid_c t (q2 (bneF b23))) ?_)
  rintro _ rfl
  refine wG (OpA.not rfl rfl ?_)
  refine wL (OpA.p ?_)
  refine wpL_nil ?_
  exact ⟨(Cov.asg ⟨rfl, rfl, rfl, rfl, (congrArg D.b (Eq.symm (orN b23 rfl))), trivial⟩), (.refl _)⟩
  show wpA _ _ _ _ (asg [(2, .ptr c1 4 0 0), (3, .ptr c2 2 0 0), (4, .v (.slice none 0 0)), (5, D.i 0), (24, D.b (((checkF c) != 0) || (!(validT t))))]) [(c2, .cells 2 [encText t]), (c1, .cells 4 [encCorpus c])]
  refine wpA_cond rfl (fun b3 => ?_) (fun b3 => ?_)
  have h := h.1 ((or0 b3).imp (fun hh => (bneT hh)) (fun hh => (notT hh)))
  refine wpA_seq ?_
  refine wpA_region ?_
  iterate 2 refine wL (OpA.a ?_)
  refine wpL_nil ?_
  refine wpA_ret ?_
  exact ⟨_, (.tmp (d := .v (.slice none 0 0)) rfl (.tmp (d := D.i 1) rfl .nil)), _, (.tup (.nilv (sz := 1) (.same rfl .nil)) .nil), ⟨([], 1), rfl, h⟩⟩
  have h := h.2 ⟨(bneF (or1 b3)), (notF (or2 b3))⟩
  refine wpA_skip ?_
  refine wpA_seq ?_
  obtain ⟨q1, h⟩ := h
  refine wpA_region ?_
  refine wL (OpA.load_whole rfl ti28 rfl rfl .head rfl ⟨_, rfl⟩ ?_)
  refine wL (OpA.fieldAddr rfl tf25_0 rfl ?_)
  refine wL (OpA.load rfl ti3 rfl (.tail .head) rfl rfl ?_)
  refine wL (OpA.fieldAddr rfl tf25_1 rfl ?_)
  refine wL (OpA.load rfl ti3 rfl (.tail .head) rfl rfl ?_)
  refine wL (OpA.call rfl rfl rfl en41 (wprints_c t c.k c.w q1) ?_)
  rintro _ rfl
  refine wL (OpA.m ?_)
  iterate 2 refine wL (OpA.extract rfl rfl rfl ?_)
  iterate 2 refine wL (OpA.a ?_)
  refine wpL_nil ?_
  refine wpA_seq ?_
  refine wpA_region ?_
  refine wL (OpA.makeMap vB rfl (fun c4 => ?_))
  refine wL (OpA.a ?_)
  refine wpL_nil ?_
  iterate 2 refine wpA_seq ?_
  refine wpA_region ?_
  refine wL (OpA.m ?_)
  refine wL (OpA.len rfl rfl rfl rfl ts77.desc (.inl ⟨_, _, rfl, (List.length_map _).symm⟩) ?_)
  refine wL (OpA.m ?_)
  refine wpL_nil ?_
  refine wpA_block ?_
  refine wpA_lfp (S := (List (Int × Bool)) × Int) (G := Unit) () (fun gg ss => asg [(2, .ptr c1 4 0 0), (4, .v (.slice none 0 0)), (5, D.i 0), (8, .map c4), (35, (encL 2 encPrint) ((printsF t c.k c.w).1)), (36, D.i (((printsF t c.k c.w).1).length : Int)), (37, D.i ss.2)]) (fun gg ss => [(c4, .raw (mapO vB ss.1)), (c2, .cells 2 [encText t]), (c1, .cells 4 [encCorpus c])]) h (Cov.asg ⟨rfl, rfl, rfl, rfl, rfl, rfl, rfl, trivial⟩) (.refl _) ?_
  rintro again5 _ ⟨m_34, x⟩ h
  have h : cnear_L1 c t Q again5 m_34 x := h
  unfold cnear_L1 at h
  show wpA _ _ _ _ (asg [(2, .ptr c1 4 0 0), (4, .v (.slice none 0 0)), (5, D.i 0), (8, .map c4), (35, (encL 2 encPrint) ((printsF t c.k c.w).1)), (36, D.i (((printsF t c.k c.w).1).length : Int)), (37, D.i x)]) [(c4, .raw (mapO vB m_34)), (c2, .cells 2 [encText t]), (c1, .cells 4 [encCorpus c])]
  refine wpA_seq ?_
  refine wpA_region ?_
  refine wL (OpA.lss rfl rfl rfl ?_)
  refine wpL_nil ?_
  refine wpA_seq ?_
  refine wpA_cond rfl (fun b6 => ?_) (fun b6 => ?_)
  have h := h.1 (decT b6)
  refine wpA_skip ?_
  refine wpA_seq ?_
  refine wpA_block ?_
  refine wpA_seq ?_
  obtain ⟨q1, h⟩ := h
  refine wpA_region ?_
  refine wL (OpA.iixV (enc := encPrint) rfl ts77 rfl rfl rfl q1 ?_)
  refine wL (OpA.iload_whole rfl ti83 rfl ⟨_, rfl, rfl⟩ ?_)
  refine wL (OpA.alloc (sz := 2) (d := encPrint (Print.mk 0 0)) rfl tz83 (fun _ _ => .agg (.cons (.v _) (.cons (.v _) .nil))) (.of rfl) (fun c7 _ => ?_))
  refine wE (OpA.storeW rfl ti83 rfl (by with_reducible conv => lhs; whnf) (.of rfl) rfl rfl .head ?_)
  refine wpL_nil ?_
  refine wpA_region ?_
  refine wL (OpA.m ?_)
  refine wL (OpA.fieldAddr rfl tf83_0 rfl ?_)
  refine wL (OpA.load rfl ti3 rfl .head rfl rfl ?_)
  refine wE (OpA.mapSet (vf := vB) (l := m_34) (v := true) rfl td59 td3 rfl rfl rfl (.tail .head) ?_)
  refine wpL_nil ?_
  obtain ⟨q1, h⟩ := h
  refine wpA_region ?_
  refine wL (OpA.addi rfl rfl rfl q1 ?_)
  refine wL (OpA.m ?_)
  refine wpL_nil ?_
  exact ⟨(), ((mset m_34 ((gi ((printsF t c.k c.w).1) x).hash) true), (x + 1)), h, (Cov.asg ⟨rfl, rfl, rfl, rfl, rfl, rfl, rfl, trivial⟩), (.cons _ (.refl _))⟩
  have h := h.2 (decF b6)
  refine wpA_exit ?_
  refine wpA_seq ?_
  refine wpA_region ?_
  refine wL (OpA.makeMap vI rfl (fun c8 => ?_))
  refine wL (OpA.alloc (sz := 1) (d := .v (.map none)) rfl tz115 (fun _ _ => .v _) (.of rfl) (fun c9 _ => ?_))
  refine wE (OpA.storeW rfl ti115 rfl (by with_reducible conv => lhs; whnf) (.of rfl) rfl rfl .head ?_)
  refine wpL_nil ?_
  iterate 2 refine wpA_seq ?_
  refine wpA_region ?_
  refine wL (OpA.fieldAddr rfl tf25_3 rfl ?_)
  refine wL (OpA.load rfl ti23 rfl (.tail (.tail (.tail (.tail .head)))) rfl rfl ?_)
  refine wL (OpA.len rfl rfl rfl rfl ts23.desc (.inl ⟨_, _, rfl, (List.length_map _).symm⟩) ?_)
  refine wL (OpA.m ?_)
  refine wpL_nil ?_
  refine wpA_block ?_
  refine wpA_lfp (S := (List (Int × Int)) × Int) (G := Unit) () (fun gg ss => asg [(2, .ptr c1 4 0 0), (4, .v (.slice none 0 0)), (5, D.i 0), (8, .map c4), (11, .ptr c9 1 0 0), (47, (encL 3 encPst) c.posts), (48, D.i (c.posts.length : Int)), (49, D.i ss.2)]) (fun gg ss => [(c9, .cells 1 [.map c8]), (c8, .raw (mapO vI ss.1)), (c4, .raw (mapO vB m_34)), (c2, .cells 2 [encText t]), (c1, .cells 4 [encCorpus c])]) h (Cov.asg ⟨rfl, rfl, rfl, rfl, rfl, rfl, rfl, rfl, trivial⟩) (.refl _) ?_
  rintro again10 _ ⟨m_45, x1⟩ h
  have h : cnear_L2 c m_34 Q again10 m_45 x1 := h
  unfold cnear_L2 at h
  show wpA _ _ _ _ (asg [(2, .ptr c1 4 0 0), (4, .v (.slice none 0 0)), (5, D.i 0), (8, .map c4), (11, .ptr c9 1 0 0), (47, (encL 3 encPst) c.posts), (48, D.i (c.posts.length : Int)), (49, D.i x1)]) [(c9, .cells 1 [.map c8]), (c8, .raw (mapO vI m_45)), (c4, .raw (mapO vB m_34)), (c2, .cells 2 [encText t]), (c1, .cells 4 [encCorpus c])]
  refine wpA_seq ?_
  refine wpA_region ?_
  refine wL (OpA.lss rfl rfl rfl ?_)
  refine wpL_nil ?_
  refine wpA_seq ?_
  refine wpA_cond rfl (fun b11 => ?_) (fun b11 => ?_)
  have h := h.1 (decT b11)
  refine wpA_skip ?_
  refine wpA_seq ?_
  refine wpA_block ?_
  refine wpA_seq ?_
  obtain ⟨q1, h⟩ := h
  refine wpA_region ?_
  refine wL (OpA.m ?_)
  refine wL (OpA.iixV (enc := encPst) rfl ts23 rfl rfl rfl q1 ?_)
  refine wL (OpA.iload_whole rfl ti107 rfl ⟨_, rfl, rfl⟩ ?_)
  refine wL (OpA.alloc (sz := 3) (d := encPst (Pst.mk 0 0 0)) rfl tz107 (fun _ _ => .agg (.cons (.v _) (.cons (.v _) (.cons (.v _) .nil)))) (.of rfl) (fun c12 _ => ?_))
  refine wL (OpA.a ?_)
  refine wE (OpA.storeW rfl ti107 rfl (by with_reducible conv => lhs; whnf) (.of rfl) rfl rfl .head ?_)
  refine wpL_nil ?_
  refine wpA_seq ?_
  obtain ⟨q1, q2, h⟩ := h
  refine wpA_mid (asg [(2, .ptr c1 4 0 0), (4, .v (.slice none 0 0)), (5, D.i 0), (8, .map c4), (11, .ptr c9 1 0 0), (13, .ptr c12 3 0 0), (14, D.b (((x1 == 0) || (((gi c.posts (x1 - 1)).hash) != ((gi c.posts x1).hash))) || (((gi c.posts (x1 - 1)).text) != ((gi c.posts x1).text)))), (47, (encL 3 encPst) c.posts), (48, D.i (c.posts.length : Int)), (49, D.i x1)]) [(c12, .cells 3 [encPst (gi c.posts x1)]), (c9, .cells 1 [.map c8]), (c8, .raw (mapO vI m_45)), (c4, .raw (mapO vB m_34)), (c2, .cells 2 [encText t]), (c1, .cells 4 [encCorpus c])] ?_ ?_
  refine wpA_draw (m := 27) mo (by kernel_rfl) rfl ?_
  refine dL (OpA.m ⟨rfl, rfl⟩) ?_
  refine dL (OpA.eql rfl rfl rfl ⟨rfl, rfl⟩) ?_
  refine dL (OpA.m ⟨rfl, rfl⟩) ?_
  refine DetK_split (s := 56) rfl (fun b15 => ?_) (fun b15 => ?_)
  iterate 10 refine dS ?_
  refine dL (OpA.p ⟨rfl, rfl⟩) ?_
  refine dL (OpA.m ⟨rfl, rfl⟩) ?_
  iterate 10 refine dS ?_
  refine dL (OpA.p ⟨rfl, rfl⟩) ?_
  refine dL (OpA.a ⟨rfl, rfl⟩) ?_
  refine DetK.nil ?_
  refine wpL_nil ?_
  exact ⟨(Cov.asg ⟨rfl, rfl, rfl, rfl, rfl, rfl, (congrArg D.b (Eq.symm (orS (orS b15)))), rfl, rfl, rfl, trivial⟩), (.refl _)⟩
  refine dG (OpA.fieldAddr rfl tf25_3 rfl ⟨rfl, rfl⟩) ?_
  refine dG (OpA.load rfl ti23 rfl (.tail (.tail (.tail (.tail (.tail .head))))) rfl rfl ⟨rfl, rfl⟩) ?_
  refine dG (OpA.m ⟨rfl, rfl⟩) ?_
  refine dG (OpA.subi rfl rfl rfl (q1 (beqF b15)).1 ⟨rfl, rfl⟩) ?_
  refine dG (OpA.iixV (enc := encPst) rfl ts23 rfl rfl rfl (q1 (beqF b15)).2 ⟨rfl, rfl⟩) ?_
  refine dG (OpA.ifieldAddr rfl tf107_0 rfl ⟨rfl, rfl⟩) ?_
  refine dG (OpA.iload rfl ti3 rfl rfl ⟨rfl, rfl⟩) ?_
  refine dG (OpA.fieldAddr rfl tf107_0 rfl ⟨rfl, rfl⟩) ?_
  refine dG (OpA.load rfl ti3 rfl .head rfl rfl ⟨rfl, rfl⟩) ?_
  refine dG (OpA.neq rfl rfl rfl ⟨rfl, rfl⟩) ?_
  refine dL (OpA.p ⟨rfl, rfl⟩) ?_
  refine dL (OpA.m ⟨rfl, rfl⟩) ?_
  refine DetK_split (s := 68) rfl (fun b16 => ?_) (fun b16 => ?_)
  iterate 10 refine dS ?_
  refine dL (OpA.p ⟨rfl, rfl⟩) ?_
  refine dL (OpA.a ⟨rfl, rfl⟩) ?_
  refine DetK.nil ?_
  refine wpL_nil ?_
  exact ⟨(Cov.asg ⟨rfl, rfl, rfl, rfl, rfl, rfl, (congrArg D.b (Eq.symm (orS (orN b15 b16)))), rfl, rfl, rfl, trivial⟩), (.refl _)⟩
  refine dG (OpA.fieldAddr rfl tf25_3 rfl ⟨rfl, rfl⟩) ?_
  refine dG (OpA.load rfl ti23 rfl (.tail (.tail (.tail (.tail (.tail .head))))) rfl rfl ⟨rfl, rfl⟩) ?_
  refine dG (OpA.m ⟨rfl, rfl⟩) ?_
  refine dG (OpA.subi rfl rfl rfl (q2 ⟨(beqF b15), (bneF b16)⟩).1 ⟨rfl, rfl⟩) ?_
  refine dG (OpA.iixV (enc := encPst) rfl ts23 rfl rfl rfl (q2 ⟨(beqF b15), (bneF b16)⟩).2 ⟨rfl, rfl⟩) ?_
  refine dG (OpA.ifieldAddr rfl tf107_1 rfl ⟨rfl, rfl⟩) ?_
  refine dG (OpA.iload rfl ti3 rfl rfl ⟨rfl, rfl⟩) ?_
  refine dG (OpA.fieldAddr rfl tf107_1 rfl ⟨rfl, rfl⟩) ?_
  refine dG (OpA.load rfl ti3 rfl .head rfl rfl ⟨rfl, rfl⟩) ?_
  refine dG (OpA.neq rfl rfl rfl ⟨rfl, rfl⟩) ?_
  refine dL (OpA.p ⟨rfl, rfl⟩) ?_
  refine dL (OpA.a ⟨rfl, rfl⟩) ?_
  refine DetK.nil ?_
  refine wpL_nil ?_
  exact ⟨(Cov.asg ⟨rfl, rfl, rfl, rfl, rfl, rfl, (congrArg D.b (Eq.symm (orN (orN b15 b16) rfl))), rfl, rfl, rfl, trivial⟩), (.refl _)⟩
  show wpA _ _ _ _ (asg [(2, .ptr c1 4 0 0), (4, .v (.slice none 0 0)), (5, D.i 0), (8, .map c4), (11, .ptr c9 1 0 0), (13, .ptr c12 3 0 0), (14, D.b (((x1 == 0) || (((gi c.posts (x1 - 1)).hash) != ((gi c.posts x1).hash))) || (((gi c.posts (x1 - 1)).text) != ((gi c.posts x1).text)))), (47, (encL 3 encPst) c.posts), (48, D.i (c.posts.length : Int)), (49, D.i x1)]) [(c12, .cells 3 [encPst (gi c.posts x1)]), (c9, .cells 1 [.map c8]), (c8, .raw (mapO vI m_45)), (c4, .raw (mapO vB m_34)), (c2, .cells 2 [encText t]), (c1, .cells 4 [encCorpus c])]
  refine wpA_seq ?_
  refine wpA_mid (asg [(2, .ptr c1 4 0 0), (4, .v (.slice none 0 0)), (5, D.i 0), (8, .map c4), (11, .ptr c9 1 0 0), (13, .ptr c12 3 0 0), (47, (encL 3 encPst) c.posts), (48, D.i (c.posts.length : Int)), (49, D.i x1), (86, D.b ((((x1 == 0) || (((gi c.posts (x1 - 1)).hash) != ((gi c.posts x1).hash))) || (((gi c.posts (x1 - 1)).text) != ((gi c.posts x1).text))) && (mget false m_34 ((gi c.posts x1).hash))))]) [(c12, .cells 3 [encPst (gi c.posts x1)]), (c9, .cells 1 [.map c8]), (c8, .raw (mapO vI m_45)), (c4, .raw (mapO vB m_34)), (c2, .cells 2 [encText t]), (c1, .cells 4 [encCorpus c])] ?_ ?_
  refine wpA_region ?_
  iterate 2 refine wL (OpA.m ?_)
  refine wpL_split (s := 81) rfl (fun b14 => ?_) (fun b14 => ?_)
  refine wG (OpA.m ?_)
  refine wG (OpA.fieldAddr rfl tf107_0 rfl ?_)
  refine wG (OpA.load rfl ti3 rfl .head rfl rfl ?_)
  refine wG (OpA.mapGet (vf := vB) (l := m_34) false rfl td59 td3 tz4 rfl rfl (.tail (.tail (.tail .head))) ?_)
  refine wL (OpA.p ?_)
  refine wpL_nil ?_
  exact ⟨(Cov.asg ⟨rfl, rfl, rfl, rfl, rfl, rfl, rfl, rfl, rfl, (congrArg D.b (Eq.symm (andN b14 rfl))), trivial⟩), (.refl _)⟩
  iterate 4 refine wS ?_
  refine wL (OpA.p ?_)
  refine wpL_nil ?_
  exact ⟨(Cov.asg ⟨rfl, rfl, rfl, rfl, rfl, rfl, rfl, rfl, rfl, (congrArg D.b (Eq.symm (andS b14))), trivial⟩), (.refl _)⟩
  show wpA _ _ _ _ (asg [(2, .ptr c1 4 0 0), (4, .v (.slice none 0 0)), (5, D.i 0), (8, .map c4), (11, .ptr c9 1 0 0), (13, .ptr c12 3 0 0), (47, (encL 3 encPst) c.posts), (48, D.i (c.posts.length : Int)), (49, D.i x1), (86, D.b ((((x1 == 0) || (((gi c.posts (x1 - 1)).hash) != ((gi c.posts x1).hash))) || (((gi c.posts (x1 - 1)).text) != ((gi c.posts x1).text))) && (mget false m_34 ((gi c.posts x1).hash))))]) [(c12, .cells 3 [encPst (gi c.posts x1)]), (c9, .cells 1 [.map c8]), (c8, .raw (mapO vI m_45)), (c4, .raw (mapO vB m_34)), (c2, .cells 2 [encText t]), (c1, .cells 4 [encCorpus c])]
  refine wpA_cond rfl (fun b13 => ?_) (fun b13 => ?_)
  have h := h.1 ⟨((or0 (and1 b13)).imp (fun hh => ((or0 hh).imp (fun hh => (beqT hh)) (fun hh => (bneT hh)))) (fun hh => (bneT hh))), (and2 b13)⟩
  obtain ⟨q1, h⟩ := h
  refine wpA_region ?_
  refine wL (OpA.load rfl ti115 rfl (.tail .head) rfl rfl ?_)
  refine wL (OpA.fieldAddr rfl tf107_1 rfl ?_)
  refine wL (OpA.load rfl ti3 rfl .head rfl rfl ?_)
  refine wL (OpA.mapGet (vf := vI) (l := m_45) 0 rfl td115 td3 tz3 rfl rfl (.tail (.tail .head)) ?_)
  refine wL (OpA.addi rfl rfl rfl q1 ?_)
  refine wE (OpA.mapSet (vf := vI) (l := m_45) (v := ((mget 0 m_45 ((gi c.posts x1).text)) + 1)) rfl td115 td3 rfl rfl rfl (.tail (.tail .head)) ?_)
  refine wpL_nil ?_
  obtain ⟨q1, h⟩ := h
  refine wpA_region ?_
  refine wL (OpA.addi rfl rfl rfl q1 ?_)
  refine wL (OpA.m ?_)
  refine wpL_nil ?_
  exact ⟨(), ((mset m_45 ((gi c.posts x1).text) ((mget 0 m_45 ((gi c.posts x1).text)) + 1)), (x1 + 1)), h, (Cov.asg ⟨rfl, rfl, rfl, rfl, rfl, rfl, rfl, rfl, trivial⟩), (.cons _ (.refl _))⟩
  have h := h.2 ((and0 b13).imp (fun hh => ⟨⟨(beqF (or1 (or1 hh))), (bneF (or2 (or1 hh)))⟩, (bneF (or2 hh))⟩) (fun hh => hh))
  refine wpA_skip ?_
  obtain ⟨q1, h⟩ := h
  refine wpA_region ?_
  refine wL (OpA.addi rfl rfl rfl q1 ?_)
  refine wL (OpA.m ?_)
  refine wpL_nil ?_
  exact ⟨(), (m_45, (x1 + 1)), h, (Cov.asg ⟨rfl, rfl, rfl, rfl, rfl, rfl, rfl, rfl, trivial⟩), (.cons _ (.refl _))⟩
  have h := h.2 (decF b11)
  refine wpA_exit ?_
  refine wpA_seq ?_
  refine wpA_region ?_
  refine wL (OpA.asnG (T := Int) (enc := D.i) (sz := 1) rfl rfl (fun c15_g17 => ?_))
  refine wpL_nil ?_
  iterate 2 refine wpA_seq ?_
  refine wpA_region ?_
  refine wL (OpA.fieldAddr rfl tf25_2 rfl ?_)
  refine wL (OpA.load rfl ti22 rfl (.tail (.tail (.tail (.tail (.tail .head))))) rfl rfl ?_)
  refine wL (OpA.len rfl rfl rfl rfl ts22.desc (.inl ⟨_, _, rfl, (List.length_map _).symm⟩) ?_)
  refine wL (OpA.m ?_)
  refine wpL_nil ?_
  refine wpA_block ?_
  refine wpA_lfp (S := (List Int) × Int) (G := Nat × List D × List D) (c15_g17, ([] : List D), ([] : List D)) (fun gg ss => asg [(4, .v (.slice none 0 0)), (5, D.i 0), (11, .ptr c9 1 0 0), (15, .own gg.1 1 gg.2.1.length ss.1.length), (95, D.i (c.texts.length : Int)), (96, D.i ss.2)]) (fun gg ss => [(gg.1, .cells 1 (winL D.i gg.2.1 ss.1 gg.2.2)), (c9, .cells 1 [.map c8]), (c8, .raw (mapO vI m_45)), (c4, .raw (mapO vB m_34)), (c2, .cells 2 [encText t]), (c1, .cells 4 [encCorpus c])]) h (Cov.asg ⟨rfl, rfl, rfl, rfl, rfl, rfl, trivial⟩) (.refl _) ?_
  rintro again18 ⟨cb15, pre15, post15⟩ ⟨out, x2⟩ h
  have h : cnear_L3 c m_45 Q again18 out x2 := h
  unfold cnear_L3 at h
  show wpA _ _ _ _ (asg [(4, .v (.slice none 0 0)), (5, D.i 0), (11, .ptr c9 1 0 0), (15, .own cb15 1 pre15.length out.length), (95, D.i (c.texts.length : Int)), (96, D.i x2)]) [(cb15, .cells 1 (winL D.i pre15 out post15)), (c9, .cells 1 [.map c8]), (c8, .raw (mapO vI m_45)), (c4, .raw (mapO vB m_34)), (c2, .cells 2 [encText t]), (c1, .cells 4 [encCorpus c])]
  refine wpA_seq ?_
  refine wpA_region ?_
  refine wL (OpA.lss rfl rfl rfl ?_)
  refine wpL_nil ?_
  refine wpA_seq ?_
  refine wpA_cond rfl (fun b19 => ?_) (fun b19 => ?_)
  have h := h.1 (decT b19)
  refine wpA_skip ?_
  refine wpA_seq ?_
  refine wpA_block ?_
  refine wpA_seq ?_
  refine wpA_region ?_
  refine wL (OpA.m ?_)
  refine wL (OpA.a ?_)
  refine wpL_nil ?_
  refine wpA_seq ?_
  refine wpA_region ?_
  refine wL (OpA.load rfl ti115 rfl (.tail .head) rfl rfl ?_)
  refine wL (OpA.m ?_)
  refine wL (OpA.mapGet (vf := vI) (l := m_45) 0 rfl td115 td3 tz3 rfl rfl (.tail (.tail .head)) ?_)
  refine wL (OpA.gtr rfl rfl rfl ?_)
  refine wpL_nil ?_
  refine wpA_cond rfl (fun b20 => ?_) (fun b20 => ?_)
  have h := h.1 (decT b20)
  obtain ⟨q1, h⟩ := h
  refine wpA_region ?_
  iterate 2 refine wL (OpA.m ?_)
  refine wL (OpA.ibuildSliceO rfl ts67 rfl (.cons (.of (sz := 1) rfl) .nil) (by decide) ?_)
  refine wL (OpA.appendW (enc := D.i) rfl rfl rfl rfl ts67 rfl (fun _ _ => .head) (.list (ys := ([x2] : List Int))) q1 (fun c21 pre22 => ?_))
  refine wL (OpA.a ?_)
  refine wpL_nil ?_
  obtain ⟨q1, h⟩ := h
  refine wpA_region ?_
  refine wL (OpA.addi rfl rfl rfl q1 ?_)
  refine wL (OpA.m ?_)
  refine wpL_nil ?_
  exact ⟨(c21, pre22, ([] : List D)), ((out ++ ([x2] : List Int)), (x2 + 1)), h, (Cov.asg ⟨rfl, rfl, rfl, rfl, rfl, rfl, trivial⟩), (.refl _)⟩
  have h := h.2 (decF b20)
  refine wpA_skip ?_
  obtain ⟨q1, h⟩ := h
  refine wpA_region ?_
  refine wL (OpA.addi rfl rfl rfl q1 ?_)
  refine wL (OpA.m ?_)
  refine wpL_nil ?_
  exact ⟨(cb15, pre15, post15), (out, (x2 + 1)), h, (Cov.asg ⟨rfl, rfl, rfl, rfl, rfl, rfl, trivial⟩), (.refl _)⟩
  have h := h.2 (decF b19)
  refine wpA_exit ?_
  refine wpA_seq ?_
  obtain ⟨q1, q2, h⟩ := h
  refine wpA_region ?_
  refine wL (OpA.m ?_)
  refine wL (OpA.makeFunc rfl ?_)
  refine wL (OpA.callH rfl rfl rfl en77 (h1 := [(cb15, .cells 1 (winL D.i pre15 out post15)), (c9, .cells 1 [.map c8]), (c8, .raw (mapO vI m_45))]) (h2 := [(c4, .raw (mapO vB m_34)), (c2, .cells 2 [encText t]), (c1, .cells 4 [encCorpus c])]) (.refl _) (sortStI_c out cb15 pre15 post15 78 [] [.ptr c9 1 0 0] (fun (x0_ : Int) (x1_ : Int) => nearC x0_ x1_ m_45) (fun (x0_ : Int) (x1_ : Int) => True) [(c9, .cells 1 [.map c8]), (c8, .raw (mapO vI m_45))] en78 (fun x0_ x1_ _ => (cnear1_c x0_ x1_ m_45 c9 c8).mono (by rintro d h' ⟨_, h1, h2⟩; exact ⟨h1, h2⟩)) q1 q2) ?_)
  rintro _ _ ⟨_, rfl, rfl⟩
  refine wpL_nil ?_
  refine wpA_seq ?_
  refine wpA_region ?_
  refine wL (OpA.m ?_)
  iterate 2 refine wL (OpA.a ?_)
  refine wpL_nil ?_
  refine wpA_cov (fr0 := asg [(4, .own cb15 1 pre15.length (isortF (fun (x0_ : Int) (x1_ : Int) => nearC x0_ x1_ m_45) out).length), (5, D.i 0), (11, .ptr c9 1 0 0), (15, .own cb15 1 pre15.length (isortF (fun (x0_ : Int) (x1_ : Int) => nearC x0_ x1_ m_45) out).length), (95, D.i (c.texts.length : Int)), (96, D.i x2), (97, D.b (decide (x2 < (c.texts.length : Int)))), (108, .own cb15 1 pre15.length (isortF (fun (x0_ : Int) (x1_ : Int) => nearC x0_ x1_ m_45) out).length), (109, .fn (.func 78) [] [.ptr c9 1 0 0]), (110, .tup []), (111, .own cb15 1 pre15.length (isortF (fun (x0_ : Int) (x1_ : Int) => nearC x0_ x1_ m_45) out).length)]) (Cov.asg ⟨(congrArg (D.own cb15 1 pre15.length) (by simp only [si_length, gcopy_length, sortF_len postCmp_swo, isort_len] <;> rfl)), rfl, rfl, (congrArg (D.own cb15 1 pre15.length) (by simp only [si_length, gcopy_length, sortF_len postCmp_swo, isort_len] <;> rfl)), rfl, rfl, rfl, (congrArg (D.own cb15 1 pre15.length) (by simp only [si_length, gcopy_length, sortF_len postCmp_swo, isort_len] <;> rfl)), rfl, rfl, (congrArg (D.own cb15 1 pre15.length) (by simp only [si_length, gcopy_length, sortF_len postCmp_swo, isort_len] <;> rfl)), trivial⟩) ?_
  refine wpA_ret ?_
  exact ⟨_, (.tmp (d := .own cb15 1 pre15.length (isortF (fun (x0_ : Int) (x1_ : Int) => nearC x0_ x1_ m_45) out).length) rfl (.tmp (d := D.i 0) rfl .nil)), _, (.tup (.win .head (by intro hf; cases hf) (.same rfl .nil)) .nil), ⟨((isortF (fun (x0_ : Int) (x1_ : Int) => nearC x0_ x1_ m_45) out), 0), rfl, h⟩⟩
theorem cnear_c (c : Corpus) (t : Text)  (hp0 : okC c) (hp1 : okT t) (hp2 : c.texts.length ≤ 19) : Fun false Tryz.prog 39 [encCorpus c, encText t] (fun d => d = .tup [(encL 1 D.i) ((nearF c t).1), D.i ((nearF c t).2)]) :=
  Fun.at (enc := fun r => .tup [(encL 1 D.i) (r.1), D.i (r.2)]) (v := nearF c t) (cnear_w c t  (fun r => r = nearF c t) (cnear_ok c t _ hp0 hp1 hp2 rfl))

set_option maxHeartbeats 2000000 in
set_option maxRecDepth 10000 in
theorem eqInts_w (s1 : (List Int)) (s2 : (List Int))  (Q : Bool → Prop) (h : eqInts_vc s1 s2 Q) : Fun false Tryz.prog 71 [(encL 1 D.i) s1, (encL 1 D.i) s2] (fun d => ∃ r, d = D.b r ∧ Q r) := by
  unfold eqInts_vc at h
  refine Fun.of_body Tryz.func71 rfl Tryz.ntmps71 rfl ?_
  refine wpA_seq ?_
  refine wpA_region ?_
  refine wL (OpA.a ?_)
  refine wpL_nil ?_
  iterate 2 refine wpA_seq ?_
  refine wpA_region ?_
  refine wL (OpA.m ?_)
  refine wL (OpA.len rfl rfl rfl rfl ts67.desc (.inl ⟨_, _, rfl, (List.length_map _).symm⟩) ?_)
  refine wL (OpA.m ?_)
  refine wL (OpA.len rfl rfl rfl rfl ts67.desc (.inl ⟨_, _, rfl, (List.length_map _).symm⟩) ?_)
  refine wL (OpA.neq rfl rfl rfl ?_)
  refine wpL_nil ?_
  refine wpA_cond rfl (fun b1 => ?_) (fun b1 => ?_)
  have h := h.1 (bneT b1)
  refine wpA_seq ?_
  refine wpA_region ?_
  refine wL (OpA.a ?_)
  refine wpL_nil ?_
  refine wpA_ret ?_
  exact ⟨_, (.tmp (d := D.b false) rfl .nil), _, (.same rfl .nil), ⟨false, rfl, h⟩⟩
  have h := h.2 (bneF b1)
  refine wpA_skip ?_
  iterate 2 refine wpA_seq ?_
  refine wpA_region ?_
  refine wL (OpA.m ?_)
  refine wL (OpA.len rfl rfl rfl rfl ts67.desc (.inl ⟨_, _, rfl, (List.length_map _).symm⟩) ?_)
  refine wL (OpA.m ?_)
  refine wpL_nil ?_
  refine wpA_block ?_
  refine wpA_lfp (S := Int) (G := Unit) () (fun gg ss => asg [(0, (encL 1 D.i) s1), (1, (encL 1 D.i) s2), (4, D.b false), (12, D.i (s1.length : Int)), (13, D.i ss)]) (fun gg ss => []) h (Cov.asg ⟨rfl, rfl, rfl, rfl, rfl, trivial⟩) (.refl _) ?_
  rintro again2 _ x h
  have h : eqInts_L1 s1 s2 Q again2 x := h
  unfold eqInts_L1 at h
  show wpA _ _ _ _ (asg [(0, (encL 1 D.i) s1), (1, (encL 1 D.i) s2), (4, D.b false), (12, D.i (s1.length : Int)), (13, D.i x)]) []
  refine wpA_seq ?_
  refine wpA_region ?_
  refine wL (OpA.lss rfl rfl rfl ?_)
  refine wpL_nil ?_
  refine wpA_seq ?_
  refine wpA_cond rfl (fun b3 => ?_) (fun b3 => ?_)
  have h := h.1 (decT b3)
  refine wpA_skip ?_
  refine wpA_seq ?_
  refine wpA_block ?_
  refine wpA_seq ?_
  refine wpA_region ?_
  refine wL (OpA.m ?_)
  refine wL (OpA.a ?_)
  refine wpL_nil ?_
  refine wpA_seq ?_
  obtain ⟨q1, q2, h⟩ := h
  refine wpA_draw (m := 9) mo (by kernel_rfl) rfl ?_
  iterate 2 refine dL (OpA.m ⟨rfl, rfl⟩) ?_
  refine dL (OpA.iixV (enc := D.i) rfl ts67 rfl rfl rfl q1 ⟨rfl, rfl⟩) ?_
  refine dL (OpA.iload rfl ti3 rfl rfl ⟨rfl, rfl⟩) ?_
  iterate 2 refine dL (OpA.m ⟨rfl, rfl⟩) ?_
  refine dL (OpA.iixV (enc := D.i) rfl ts67 rfl rfl rfl q2 ⟨rfl, rfl⟩) ?_
  refine dL (OpA.iload rfl ti3 rfl rfl ⟨rfl, rfl⟩) ?_
  refine dL (OpA.neq rfl rfl rfl ⟨rfl, rfl⟩) ?_
  refine DetK.nil ?_
  refine wpL_nil ?_
  refine wpA_cond rfl (fun b4 => ?_) (fun b4 => ?_)
  have h := h.1 (bneT b4)
  refine wpA_seq ?_
  refine wpA_region ?_
  refine wL (OpA.a ?_)
  refine wpL_nil ?_
  refine wpA_ret ?_
  exact ⟨_, (.tmp (d := D.b false) rfl .nil), _, (.same rfl .nil), ⟨false, rfl, h⟩⟩
  have h := h.2 (bneF b4)
  refine wpA_skip ?_
  obtain ⟨q1, h⟩ := h
  refine wpA_region ?_
  refine wL (OpA.addi rfl rfl rfl q1 ?_)
  refine wL (OpA.m ?_)
  refine wpL_nil ?_
  exact ⟨(), (x + 1), h, (Cov.asg ⟨rfl, rfl, rfl, rfl, rfl, trivial⟩), (.refl _)⟩
  have h := h.2 (decF b3)
  refine wpA_exit ?_
  refine wpA_seq ?_
  refine wpA_region ?_
  refine wL (OpA.a ?_)
  refine wpL_nil ?_
  refine wpA_ret ?_
  exact ⟨_, (.tmp (d := D.b true) rfl .nil), _, (.same rfl .nil), ⟨true, rfl, h⟩⟩
theorem eqInts_c (s1 : (List Int)) (s2 : (List Int))  (hp0 : s1.length ≤ 9223372036854775807) : Fun false Tryz.prog 71 [(encL 1 D.i) s1, (encL 1 D.i) s2] (fun d => d = D.b ((decide (s1 = s2)))) :=
  Fun.at (enc := fun r => D.b r) (v := (decide (s1 = s2))) (eqInts_w s1 s2  (fun r => r = (decide (s1 = s2))) (eqInts_ok s1 s2 _ hp0 rfl))

set_option maxHeartbeats 2000000 in
set_option maxRecDepth 10000 in
theorem ixInt_w (s_ : (List Int)) (v : Int)  (Q : Int → Prop) (h : ixInt_vc s_ v Q) : Fun false Tryz.prog 67 [(encL 1 D.i) s_, D.i v] (fun d => ∃ r, d = D.i r ∧ Q r) := by
  unfold ixInt_vc at h
  refine Fun.of_body Tryz.func67 rfl Tryz.ntmps67 rfl ?_
  refine wpA_seq ?_
  refine wpA_region ?_
  refine wL (OpA.a ?_)
  refine wpL_nil ?_
  iterate 2 refine wpA_seq ?_
  refine wpA_region ?_
  refine wL (OpA.m ?_)
  refine wL (OpA.len rfl rfl rfl rfl ts67.desc (.inl ⟨_, _, rfl, (List.length_map _).symm⟩) ?_)
  refine wL (OpA.m ?_)
  refine wpL_nil ?_
  refine wpA_block ?_
  refine wpA_lfp (S := Int) (G := Unit) () (fun gg ss => asg [(0, (encL 1 D.i) s_), (1, D.i v), (4, D.i 0), (7, D.i (s_.length : Int)), (8, D.i ss)]) (fun gg ss => []) h (Cov.asg ⟨rfl, rfl, rfl, rfl, rfl, trivial⟩) (.refl _) ?_
  rintro again1 _ x h
  have h : ixInt_L1 s_ v Q again1 x := h
  unfold ixInt_L1 at h
  show wpA _ _ _ _ (asg [(0, (encL 1 D.i) s_), (1, D.i v), (4, D.i 0), (7, D.i (s_.length : Int)), (8, D.i x)]) []
  refine wpA_seq ?_
  refine wpA_region ?_
  refine wL (OpA.lss rfl rfl rfl ?_)
  refine wpL_nil ?_
  refine wpA_seq ?_
  refine wpA_cond rfl (fun b2 => ?_) (fun b2 => ?_)
  have h := h.1 (decT b2)
  refine wpA_skip ?_
  refine wpA_seq ?_
  refine wpA_block ?_
  refine wpA_seq ?_
  refine wpA_region ?_
  refine wL (OpA.m ?_)
  refine wL (OpA.a ?_)
  refine wpL_nil ?_
  refine wpA_seq ?_
  obtain ⟨q1, h⟩ := h
  refine wpA_region ?_
  iterate 3 refine wL (OpA.m ?_)
  refine wL (OpA.iixV (enc := D.i) rfl ts67 rfl rfl rfl q1 ?_)
  refine wL (OpA.iload rfl ti3 rfl rfl ?_)
  refine wL (OpA.eql rfl rfl rfl ?_)
  refine wpL_nil ?_
  refine wpA_cond rfl (fun b3 => ?_) (fun b3 => ?_)
  have h := h.1 (beqT b3)
  refine wpA_seq ?_
  refine wpA_region ?_
  refine wL (OpA.m ?_)
  refine wL (OpA.a ?_)
  refine wpL_nil ?_
  refine wpA_ret ?_
  exact ⟨_, (.tmp (d := D.i x) rfl .nil), _, (.same rfl .nil), ⟨x, rfl, h⟩⟩
  have h := h.2 (beqF b3)
  refine wpA_skip ?_
  obtain ⟨q1, h⟩ := h
  refine wpA_region ?_
  refine wL (OpA.addi rfl rfl rfl q1 ?_)
  refine wL (OpA.m ?_)
  refine wpL_nil ?_
  exact ⟨(), (x + 1), h, (Cov.asg ⟨rfl, rfl, rfl, rfl, rfl, trivial⟩), (.refl _)⟩
  have h := h.2 (decF b2)
  refine wpA_exit ?_
  refine wpA_seq ?_
  refine wpA_region ?_
  refine wL (OpA.a ?_)
  refine wpL_nil ?_
  refine wpA_ret ?_
  exact ⟨_, (.tmp (d := D.i (-1)) rfl .nil), _, (.same rfl .nil), ⟨(-1), rfl, h⟩⟩
theorem ixInt_c (s_ : (List Int)) (v : Int)  (hp0 : s_.length ≤ 9223372036854775807) : Fun false Tryz.prog 67 [(encL 1 D.i) s_, D.i v] (fun d => d = D.i ((idxOf (fun z_ => decide (z_ = v)) s_))) :=
  Fun.at (enc := fun r => D.i r) (v := (idxOf (fun z_ => decide (z_ = v)) s_)) (ixInt_w s_ v  (fun r => r = (idxOf (fun z_ => decide (z_ = v)) s_)) (ixInt_ok s_ v _ hp0 rfl))

set_option maxHeartbeats 2000000 in
set_option maxRecDepth 10000 in
theorem ctInt_w (s_ : (List Int)) (v : Int)  (Q : Bool → Prop) (h : ctInt_vc s_ v Q) : Fun false Tryz.prog 32 [(encL 1 D.i) s_, D.i v] (fun d => ∃ r, d = D.b r ∧ Q r) := by
  unfold ctInt_vc at h
  refine Fun.of_body Tryz.func32 rfl Tryz.ntmps32 rfl ?_
  refine wpA_seq ?_
  refine wpA_region ?_
  refine wL (OpA.a ?_)
  refine wpL_nil ?_
  refine wpA_seq ?_
  obtain ⟨q1, h⟩ := h
  refine wpA_region ?_
  iterate 2 refine wL (OpA.m ?_)
  refine wL (OpA.call rfl rfl rfl en67 (ixInt_c s_ v q1) ?_)
  rintro _ rfl
  refine wL (OpA.geq rfl rfl rfl ?_)
  refine wL (OpA.a ?_)
  refine wpL_nil ?_
  refine wpA_ret ?_
  exact ⟨_, (.tmp (d := D.b (decide ((idxOf (fun z_ => decide (z_ = v)) s_) ≥ 0))) rfl .nil), _, (.same rfl .nil), ⟨(decide ((idxOf (fun z_ => decide (z_ = v)) s_) ≥ 0)), rfl, h⟩⟩
theorem ctInt_c (s_ : (List Int)) (v : Int)  (hp0 : s_.length ≤ 9223372036854775807) : Fun false Tryz.prog 32 [(encL 1 D.i) s_, D.i v] (fun d => d = D.b ((s_.any (fun z_ => decide (z_ = v))))) :=
  Fun.at (enc := fun r => D.b r) (v := (s_.any (fun z_ => decide (z_ = v)))) (ctInt_w s_ v  (fun r => r = (s_.any (fun z_ => decide (z_ = v)))) (ctInt_ok s_ v _ hp0 rfl))
end Go.Proofs.YtglclijalehcmaaGreatDoor
