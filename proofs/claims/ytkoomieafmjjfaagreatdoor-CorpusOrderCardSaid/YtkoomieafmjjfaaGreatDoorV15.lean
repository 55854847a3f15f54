/-
  walks and contracts
-/
import Derived.Test.YtkoomieafmjjfaaGreatDoorV14
import Derived.Test.YtkoomieafmjjfaaGreatDoorCwO
set_option linter.all false
namespace Go.Proofs.YtkoomieafmjjfaaGreatDoor
open Go Go.Lic Go.Sort Go.Proofs
attribute [local irreducible] addF addP badR blankF checkF cmpB cmpI codeF commonF4 corpusOf countF dropF fewC fewTs fewW findP findT gramsF growTF guarF hashF indexF itoaF leastF lenF mul64F mulP nameR nearC nearF newF orF partF pathB pathF postCmp postLt postsF powF printsF pushF rollF selectF sizeF splitF splitG validT

attribute [local irreducible] sumF


set_option maxHeartbeats 2000000 in
set_option maxRecDepth 10000 in
theorem ixTx_w (s_ : (List Text)) (g_p : Nat) (fs_p cs_p : List D) (p : Text → Bool) (pD : Text → Prop) (hen_p : entersB Tryz.prog g_p = true) (hg_p : ∀ x0_, pD x0_ → Fun false Tryz.prog g_p (fs_p ++ [encText x0_] ++ cs_p) (fun d => d = D.b (p x0_))) (Q : Int → Prop) (h : ixTx_vc s_ p pD Q) : Fun false Tryz.prog 77 [(encL 2 encText) s_, .fn (.func g_p) fs_p cs_p] (fun d => ∃ r, d = D.i r ∧ Q r) := by
  unfold ixTx_vc at h
  refine Fun.of_body Tryz.func77 rfl Tryz.ntmps77 rfl ?_
  refine wpA_seq ?_
  refine wpA_region ?_
  refine wL (OpA.a ?_)
  refine wpL_nil ?_
  iterate 2 refine wpA_seq ?_
  refine wpA_region ?_
  refine wL (OpA.m ?_)
  refine wL (OpA.len rfl rfl rfl rfl ts22.desc (.inl ⟨_, _, rfl, (List.length_map _).symm⟩) ?_)
  refine wL (OpA.m ?_)
  refine wpL_nil ?_
  refine wpA_block ?_
  refine wpA_lfp (S := Int) (G := Unit) () (fun gg ss => asg [(0, (encL 2 encText) s_), (1, .fn (.func g_p) fs_p cs_p), (4, D.i 0), (7, D.i (s_.length : Int)), (8, D.i ss)]) (fun gg ss => []) h (Cov.asg ⟨rfl, rfl, rfl, rfl, rfl, trivial⟩) (.refl _) ?_
  rintro again1 _ x h
  have h : ixTx_L1 s_ p pD Q again1 x := h
  unfold ixTx_L1 at h
  show wpA _ _ _ _ (asg [(0, (encL 2 encText) s_), (1, .fn (.func g_p) fs_p cs_p), (4, D.i 0), (7, D.i (s_.length : Int)), (8, D.i x)]) []
  refine wpA_seq ?_
  refine wpA_region ?_
  refine wL (OpA.lss rfl rfl rfl ?_)
  refine wpL_nil ?_
  refine wpA_seq ?_
  refine wpA_cond rfl (fun b2 => ?_) (fun b2 => ?_)
  have h := h.1 (decT b2)
  refine wpA_skip ?_
  refine wpA_seq ?_
  refine wpA_block ?_
  refine wpA_seq ?_
  refine wpA_region ?_
  refine wL (OpA.m ?_)
  refine wL (OpA.a ?_)
  refine wpL_nil ?_
  refine wpA_seq ?_
  obtain ⟨q1, q2, h⟩ := h
  refine wpA_region ?_
  iterate 3 refine wL (OpA.m ?_)
  refine wL (OpA.iixV (enc := encText) rfl ts22 rfl rfl rfl q1 ?_)
  refine wL (OpA.iload_whole rfl ti36 rfl ⟨_, rfl, rfl⟩ ?_)
  refine wL (OpA.call rfl rfl rfl hen_p (hg_p (gi s_ x) q2) ?_)
  rintro _ rfl
  refine wpL_nil ?_
  refine wpA_cond rfl (fun b3 => ?_) (fun b3 => ?_)
  have h := h.1 b3
  refine wpA_seq ?_
  refine wpA_region ?_
  refine wL (OpA.m ?_)
  refine wL (OpA.a ?_)
  refine wpL_nil ?_
  refine wpA_ret ?_
  exact ⟨_, (.tmp (d := D.i x) rfl .nil), _, (.same rfl .nil), ⟨x, rfl, h⟩⟩
  have h := h.2 b3
  refine wpA_skip ?_
  obtain ⟨q1, h⟩ := h
  refine wpA_region ?_
  refine wL (OpA.addi rfl rfl rfl q1 ?_)
  refine wL (OpA.m ?_)
  refine wpL_nil ?_
  exact ⟨(), (x + 1), h, (Cov.asg ⟨rfl, rfl, rfl, rfl, rfl, trivial⟩), (.refl _)⟩
  have h := h.2 (decF b2)
  refine wpA_exit ?_
  refine wpA_seq ?_
  refine wpA_region ?_
  refine wL (OpA.a ?_)
  refine wpL_nil ?_
  refine wpA_ret ?_
  exact ⟨_, (.tmp (d := D.i (-1)) rfl .nil), _, (.same rfl .nil), ⟨(-1), rfl, h⟩⟩
theorem ixTx_c (s_ : (List Text)) (g_p : Nat) (fs_p cs_p : List D) (p : Text → Bool) (pD : Text → Prop) (hen_p : entersB Tryz.prog g_p = true) (hg_p : ∀ x0_, pD x0_ → Fun false Tryz.prog g_p (fs_p ++ [encText x0_] ++ cs_p) (fun d => d = D.b (p x0_))) (hp0 : s_.length ≤ 9223372036854775807) (hp1 : ∀ z_ ∈ s_, pD z_) : Fun false Tryz.prog 77 [(encL 2 encText) s_, .fn (.func g_p) fs_p cs_p] (fun d => d = D.i ((idxOf p s_))) :=
  Fun.at (enc := fun r => D.i r) (v := (idxOf p s_)) (ixTx_w s_ g_p fs_p cs_p p pD hen_p hg_p (fun r => r = (idxOf p s_)) (ixTx_ok s_ p pD _ hp0 hp1 rfl))

set_option maxHeartbeats 2000000 in
set_option maxRecDepth 10000 in
theorem cfTx_w (s_ : (List Text)) (g_p : Nat) (fs_p cs_p : List D) (p : Text → Bool) (pD : Text → Prop) (hen_p : entersB Tryz.prog g_p = true) (hg_p : ∀ x0_, pD x0_ → Fun false Tryz.prog g_p (fs_p ++ [encText x0_] ++ cs_p) (fun d => d = D.b (p x0_))) (Q : Bool → Prop) (h : cfTx_vc s_ p pD Q) : Fun false Tryz.prog 37 [(encL 2 encText) s_, .fn (.func g_p) fs_p cs_p] (fun d => ∃ r, d = D.b r ∧ Q r) := by
  unfold cfTx_vc at h
  refine Fun.of_body Tryz.func37 rfl Tryz.ntmps37 rfl ?_
  refine wpA_seq ?_
  refine wpA_region ?_
  refine wL (OpA.a ?_)
  refine wpL_nil ?_
  refine wpA_seq ?_
  obtain ⟨q1, q2, h⟩ := h
  refine wpA_region ?_
  iterate 2 refine wL (OpA.m ?_)
  refine wL (OpA.call rfl rfl rfl en77 (ixTx_c s_ g_p fs_p cs_p p pD hen_p hg_p q1 q2) ?_)
  rintro _ rfl
  refine wL (OpA.geq rfl rfl rfl ?_)
  refine wL (OpA.a ?_)
  refine wpL_nil ?_
  refine wpA_ret ?_
  exact ⟨_, (.tmp (d := D.b (decide ((idxOf p s_) ≥ 0))) rfl .nil), _, (.same rfl .nil), ⟨(decide ((idxOf p s_) ≥ 0)), rfl, h⟩⟩
theorem cfTx_c (s_ : (List Text)) (g_p : Nat) (fs_p cs_p : List D) (p : Text → Bool) (pD : Text → Prop) (hen_p : entersB Tryz.prog g_p = true) (hg_p : ∀ x0_, pD x0_ → Fun false Tryz.prog g_p (fs_p ++ [encText x0_] ++ cs_p) (fun d => d = D.b (p x0_))) (hp0 : s_.length ≤ 9223372036854775807) (hp1 : ∀ z_ ∈ s_, pD z_) : Fun false Tryz.prog 37 [(encL 2 encText) s_, .fn (.func g_p) fs_p cs_p] (fun d => d = D.b ((s_.any p))) :=
  Fun.at (enc := fun r => D.b r) (v := (s_.any p)) (cfTx_w s_ g_p fs_p cs_p p pD hen_p hg_p (fun r => r = (s_.any p)) (cfTx_ok s_ p pD _ hp0 hp1 rfl))

set_option maxHeartbeats 2000000 in
set_option maxRecDepth 10000 in
theorem rev_w (s_ : (List Text)) (c_s_ : Nat) (pre_s_ post_s_ : List D)  (Q : (List Text) → Prop) (h : rev_vc s_ Q) : CallH Tryz.prog 41 [.own c_s_ 2 pre_s_.length s_.length] [(c_s_, .cells 2 (winL encText pre_s_ s_ post_s_))] (fun d h' => ∃ (r : (List Text)) (g : Unit), d = .tup [] ∧ h' = [(c_s_, .cells 2 (winL encText pre_s_ r post_s_))] ∧ Q r) := by
  unfold rev_vc at h
  refine CallH.of_bodyP Tryz.func41 rfl Tryz.ntmps41 rfl ?_
  refine wpA_seq ?_
  obtain ⟨q1, h⟩ := h
  refine wpA_region ?_
  refine wL (OpA.m ?_)
  refine wL (OpA.len rfl rfl rfl rfl ts22.desc (.inr (.inl ⟨_, _, _, rfl⟩)) ?_)
  refine wL (OpA.subi rfl rfl rfl q1 ?_)
  iterate 2 refine wL (OpA.a ?_)
  refine wpL_nil ?_
  refine wpA_block ?_
  refine wpA_lfp (S := (List Text) × Int × Int) (G := Unit) () (fun gg ss => asg [(0, .own c_s_ 2 pre_s_.length ss.1.length), (2, D.i ss.2.1), (3, D.i ss.2.2)]) (fun gg ss => [(c_s_, .cells 2 (winL encText pre_s_ ss.1 post_s_))]) h (Cov.asg ⟨rfl, rfl, rfl, trivial⟩) (.refl _) ?_
  rintro again1 _ ⟨s_1, i, j⟩ h
  have h : rev_L1 Q again1 s_1 i j := h
  unfold rev_L1 at h
  show wpA _ _ _ _ (asg [(0, .own c_s_ 2 pre_s_.length s_1.length), (2, D.i i), (3, D.i j)]) [(c_s_, .cells 2 (winL encText pre_s_ s_1 post_s_))]
  iterate 2 refine wpA_seq ?_
  refine wpA_region ?_
  iterate 2 refine wL (OpA.m ?_)
  refine wL (OpA.lss rfl rfl rfl ?_)
  refine wpL_nil ?_
  refine wpA_cond rfl (fun b2 => ?_) (fun b2 => ?_)
  have h := h.1 (decT b2)
  refine wpA_skip ?_
  refine wpA_seq ?_
  refine wpA_block ?_
  obtain ⟨q1, q2, q3, h⟩ := h
  refine wpA_drawF [2, 3] (m := 13) mo (by kernel_rfl) (fun _ _ _ hx => hx) rfl ?_
  iterate 6 refine dL (OpA.m ⟨rfl, rfl⟩) ?_
  refine dL (OpA.ixV rfl ts22 rfl rfl q1 ⟨rfl, rfl⟩) ?_
  refine dL (OpA.load_whole rfl ti36 rfl rfl .head (getV (enc := encText) q1) ⟨_, rfl⟩ ⟨rfl, rfl⟩) ?_
  iterate 2 refine dL (OpA.m ⟨rfl, rfl⟩) ?_
  refine dL (OpA.ixV rfl ts22 rfl rfl q2 ⟨rfl, rfl⟩) ?_
  refine dL (OpA.load_whole rfl ti36 rfl rfl .head (getV (enc := encText) q2) ⟨_, rfl⟩ ⟨rfl, rfl⟩) ?_
  refine dL (OpA.ixV rfl ts22 rfl rfl q2 ⟨rfl, rfl⟩) ?_
  refine DetK.nil ?_
  refine wE (OpA.storeV (enc := encText) (v := (gi s_1 j)) rfl ti36 rfl rfl (.of rfl) rfl q2 .head ?_)
  refine wL (OpA.ixV rfl ts22 rfl rfl q1 ?_)
  refine wE (OpA.storeV (enc := encText) (v := (gi s_1 i)) rfl ti36 rfl rfl (.of rfl) rfl q3 .head ?_)
  refine wpL_nil ?_
  obtain ⟨q1, q2, h⟩ := h
  refine wpA_region ?_
  refine wL (OpA.m ?_)
  refine wL (OpA.addi rfl rfl rfl q1 ?_)
  refine wL (OpA.m ?_)
  refine wL (OpA.subi rfl rfl rfl q2 ?_)
  iterate 2 refine wL (OpA.a ?_)
  refine wpL_nil ?_
  exact ⟨(), ((si (si s_1 i (gi s_1 j)) j (gi s_1 i)), (i + 1), (j - 1)), h, (Cov.asg ⟨(congrArg (D.own c_s_ 2 pre_s_.length) (by simp only [si_length, gcopy_length, sortF_len postCmp_swo, isort_len])), rfl, rfl, trivial⟩), (.refl _)⟩
  have h := h.2 (decF b2)
  refine wpA_exit ?_
  exact ⟨_, .nil, [(c_s_, .cells 2 (winL encText pre_s_ s_1 post_s_))], [(c_s_, .cells 2 (winL encText pre_s_ s_1 post_s_))], (.refl _), (.refl _), s_1, (), rfl, rfl, h⟩
theorem rev_c (s_ : (List Text)) (c_s_ : Nat) (pre_s_ post_s_ : List D)  (hp0 : s_.length ≤ 1000000) : CallH Tryz.prog 41 [.own c_s_ 2 pre_s_.length s_.length] [(c_s_, .cells 2 (winL encText pre_s_ s_ post_s_))] (fun d h' => ∃ (g : Unit), d = .tup [] ∧ h' = [(c_s_, .cells 2 (winL encText pre_s_ (List.reverse s_) post_s_))]) :=
  (rev_w s_ c_s_ pre_s_ post_s_  (fun r => r = (List.reverse s_)) (rev_ok s_ _ hp0 rfl)).mono (by rintro d h' ⟨r, g, hd, hh, rfl⟩; exact ⟨g, hd, hh⟩)

set_option maxHeartbeats 2000000 in
set_option maxRecDepth 10000 in
theorem concatO_w (slices : (List (List Text)))  (Q : (List Text) → Prop) (h : concatO_vc slices Q) : CallH Tryz.prog 40 [(encL 1 (encL 2 encText)) slices] [] (fun d h' => ∃ (r : (List Text)) (g : Nat × List D × List D), d = .own g.1 2 g.2.1.length r.length ∧ h' = [(g.1, .cells 2 (winL encText g.2.1 r g.2.2))] ∧ Q r) := by
  unfold concatO_vc at h
  refine CallH.of_bodyP Tryz.func40 rfl Tryz.ntmps40 rfl ?_
  refine wpA_seq ?_
  refine wpA_region ?_
  refine wL (OpA.a ?_)
  refine wpL_nil ?_
  refine wpA_seq ?_
  refine wpA_region ?_
  refine wL (OpA.a ?_)
  refine wpL_nil ?_
  iterate 2 refine wpA_seq ?_
  refine wpA_region ?_
  refine wL (OpA.m ?_)
  refine wL (OpA.len rfl rfl rfl rfl ts108.desc (.inl ⟨_, _, rfl, (List.length_map _).symm⟩) ?_)
  refine wL (OpA.m ?_)
  refine wpL_nil ?_
  refine wpA_block ?_
  refine wpA_lfp (S := Int × Int) (G := Unit) () (fun gg ss => asg [(0, (encL 1 (encL 2 encText)) slices), (2, .v (.slice none 0 0)), (3, D.i ss.1), (9, (encL 1 (encL 2 encText)) slices), (10, D.i (slices.length : Int)), (11, D.i ss.2)]) (fun gg ss => []) h (Cov.asg ⟨rfl, rfl, rfl, rfl, rfl, rfl, trivial⟩) (.refl _) ?_
  rintro again1 _ ⟨size, x⟩ h
  have h : concatO_L1 slices Q again1 size x := h
  unfold concatO_L1 at h
  show wpA _ _ _ _ (asg [(0, (encL 1 (encL 2 encText)) slices), (2, .v (.slice none 0 0)), (3, D.i size), (9, (encL 1 (encL 2 encText)) slices), (10, D.i (slices.length : Int)), (11, D.i x)]) []
  refine wpA_seq ?_
  refine wpA_region ?_
  refine wL (OpA.lss rfl rfl rfl ?_)
  refine wpL_nil ?_
  refine wpA_seq ?_
  refine wpA_cond rfl (fun b2 => ?_) (fun b2 => ?_)
  have h := h.1 (decT b2)
  refine wpA_skip ?_
  refine wpA_seq ?_
  refine wpA_block ?_
  refine wpA_seq ?_
  obtain ⟨q1, h⟩ := h
  refine wpA_region ?_
  refine wL (OpA.iixV (enc := (encL 2 encText)) rfl ts108 rfl rfl rfl q1 ?_)
  refine wL (OpA.iload rfl ti22 rfl rfl ?_)
  refine wL (OpA.a ?_)
  refine wpL_nil ?_
  refine wpA_seq ?_
  obtain ⟨q1, h⟩ := h
  refine wpA_region ?_
  iterate 2 refine wL (OpA.m ?_)
  refine wL (OpA.len rfl rfl rfl rfl ts22.desc (.inl ⟨_, _, rfl, (List.length_map _).symm⟩) ?_)
  refine wL (OpA.addi rfl rfl rfl q1 ?_)
  refine wL (OpA.a ?_)
  refine wpL_nil ?_
  refine wpA_seq ?_
  refine wpA_region ?_
  refine wL (OpA.m ?_)
  refine wL (OpA.lss rfl rfl rfl ?_)
  refine wpL_nil ?_
  refine wpA_cond rfl (fun b3 => ?_) (fun b3 => ?_)
  have h := h.1 (decT b3)
  exact h.elim
  have h := h.2 (decF b3)
  refine wpA_skip ?_
  obtain ⟨q1, h⟩ := h
  refine wpA_region ?_
  refine wL (OpA.addi rfl rfl rfl q1 ?_)
  refine wL (OpA.m ?_)
  refine wpL_nil ?_
  exact ⟨(), ((size + ((gi slices x).length : Int)), (x + 1)), h, (Cov.asg ⟨rfl, rfl, rfl, rfl, rfl, rfl, trivial⟩), (.refl _)⟩
  have h := h.2 (decF b2)
  refine wpA_exit ?_
  refine wpA_seq ?_
  obtain ⟨q1, q2, h⟩ := h
  refine wpA_region ?_
  refine wL (OpA.m ?_)
  refine wL (OpA.callH rfl rfl rfl en78 (h1 := []) (h2 := []) (.refl _) (growT_c size q1 q2) ?_)
  rintro _ _ ⟨⟨c4, pre5, post6⟩, rfl, rfl⟩
  refine wL (OpA.a ?_)
  refine wpL_nil ?_
  iterate 2 refine wpA_seq ?_
  refine wpA_region ?_
  refine wL (OpA.m ?_)
  refine wL (OpA.len rfl rfl rfl rfl ts108.desc (.inl ⟨_, _, rfl, (List.length_map _).symm⟩) ?_)
  refine wL (OpA.m ?_)
  refine wpL_nil ?_
  refine wpA_block ?_
  refine wpA_lfp (S := (List Text) × Int) (G := Nat × List D × List D) (c4, pre5, post6) (fun gg ss => asg [(2, .v (.slice none 0 0)), (6, .own gg.1 2 gg.2.1.length ss.1.length), (25, (encL 1 (encL 2 encText)) slices), (26, D.i (slices.length : Int)), (27, D.i ss.2)]) (fun gg ss => [(gg.1, .cells 2 (winL encText gg.2.1 ss.1 gg.2.2))]) h (Cov.asg ⟨rfl, rfl, rfl, rfl, rfl, trivial⟩) (.refl _) ?_
  rintro again7 ⟨cb24, pre24, post24⟩ ⟨newslice, x1⟩ h
  have h : concatO_L2 slices Q again7 newslice x1 := h
  unfold concatO_L2 at h
  show wpA _ _ _ _ (asg [(2, .v (.slice none 0 0)), (6, .own cb24 2 pre24.length newslice.length), (25, (encL 1 (encL 2 encText)) slices), (26, D.i (slices.length : Int)), (27, D.i x1)]) [(cb24, .cells 2 (winL encText pre24 newslice post24))]
  refine wpA_seq ?_
  refine wpA_region ?_
  refine wL (OpA.lss rfl rfl rfl ?_)
  refine wpL_nil ?_
  refine wpA_seq ?_
  refine wpA_cond rfl (fun b8 => ?_) (fun b8 => ?_)
  have h := h.1 (decT b8)
  refine wpA_skip ?_
  refine wpA_seq ?_
  refine wpA_block ?_
  refine wpA_seq ?_
  obtain ⟨q1, h⟩ := h
  refine wpA_region ?_
  refine wL (OpA.iixV (enc := (encL 2 encText)) rfl ts108 rfl rfl rfl q1 ?_)
  refine wL (OpA.iload rfl ti22 rfl rfl ?_)
  refine wL (OpA.a ?_)
  refine wpL_nil ?_
  obtain ⟨q1, h⟩ := h
  refine wpA_region ?_
  iterate 2 refine wL (OpA.m ?_)
  refine wL (OpA.appendW (enc := encText) rfl rfl rfl rfl ts22 rfl (fun _ _ => .head) (.list (ys := (gi slices x1))) q1 (fun c9 pre10 => ?_))
  refine wL (OpA.a ?_)
  refine wpL_nil ?_
  obtain ⟨q1, h⟩ := h
  refine wpA_region ?_
  refine wL (OpA.addi rfl rfl rfl q1 ?_)
  refine wL (OpA.m ?_)
  refine wpL_nil ?_
  exact ⟨(c9, pre10, ([] : List D)), ((newslice ++ (gi slices x1)), (x1 + 1)), h, (Cov.asg ⟨rfl, rfl, rfl, rfl, rfl, trivial⟩), (.refl _)⟩
  have h := h.2 (decF b8)
  refine wpA_exit ?_
  refine wpA_seq ?_
  refine wpA_region ?_
  refine wL (OpA.m ?_)
  refine wL (OpA.a ?_)
  refine wpL_nil ?_
  refine wpA_ret ?_
  exact ⟨_, (.tmp (d := .own cb24 2 pre24.length newslice.length) rfl .nil), [(cb24, .cells 2 (winL encText pre24 newslice post24))], [(cb24, .cells 2 (winL encText pre24 newslice post24))], (.refl _), (.refl _), newslice, (cb24, pre24, post24), rfl, rfl, h⟩
theorem concatO_c (slices : (List (List Text)))  (hp0 : slices.length ≤ 10) (hp1 : (List.flatten slices).length ≤ 1000000) : CallH Tryz.prog 40 [(encL 1 (encL 2 encText)) slices] [] (fun d h' => ∃ (g : Nat × List D × List D), d = .own g.1 2 g.2.1.length (List.flatten slices).length ∧ h' = [(g.1, .cells 2 (winL encText g.2.1 (List.flatten slices) g.2.2))]) :=
  (concatO_w slices  (fun r => r = (List.flatten slices)) (concatO_ok slices _ hp0 hp1 rfl)).mono (by rintro d h' ⟨r, g, hd, hh, rfl⟩; exact ⟨g, hd, hh⟩)

set_option maxHeartbeats 2000000 in
set_option maxRecDepth 10000 in
theorem order1_w (x : Text)  (Q : Bool → Prop) (h : order1_vc x Q) : Fun false Tryz.prog 38 [encText x] (fun d => ∃ r, d = D.b r ∧ Q r) := by
  unfold order1_vc at h
  refine Fun.of_body Tryz.func38 rfl Tryz.ntmps38 rfl ?_
  refine wpA_seq ?_
  refine wpA_region ?_
  refine wL (OpA.bx (sz := 2) rfl (by with_reducible conv => lhs; whnf) (.of rfl) (fun c1 _ => ?_))
  refine wL (OpA.a ?_)
  refine wpL_nil ?_
  refine wpA_seq ?_
  obtain ⟨q1, h⟩ := h
  refine wpA_region ?_
  refine wL (OpA.load_whole rfl ti36 rfl rfl .head rfl ⟨_, rfl⟩ ?_)
  refine wL (OpA.call rfl rfl rfl en27 (nvalid_c x q1) ?_)
  rintro _ rfl
  refine wL (OpA.not rfl rfl ?_)
  refine wL (OpA.a ?_)
  refine wpL_nil ?_
  refine wpA_ret ?_
  exact ⟨_, (.tmp (d := D.b (!(validT x))) rfl .nil), _, (.same rfl .nil), ⟨(!(validT x)), rfl, h⟩⟩
theorem order1_c (x : Text)  (hp0 : okT x) : Fun false Tryz.prog 38 [encText x] (fun d => d = D.b ((!validT x))) :=
  Fun.at (enc := fun r => D.b r) (v := (!validT x)) (order1_w x  (fun r => r = (!validT x)) (order1_ok x _ hp0 rfl))

set_option maxHeartbeats 2000000 in
set_option maxRecDepth 10000 in
theorem order2_w (l : (List Text)) (grams : Int) (width : Int)  (Q : Corpus × Bool → Prop) (h : order2_vc l grams width Q) : Fun false Tryz.prog 39 [(encL 2 encText) l, .iptr ((D.k .u8) grams) 0, .iptr ((D.k .u8) width) 0] (fun d => ∃ r, d = .tup [encCorpus (r.1), D.b (r.2)] ∧ Q r) := by
  unfold order2_vc at h
  refine Fun.of_body Tryz.func39 rfl Tryz.ntmps39 rfl ?_
  refine wpA_seq ?_
  refine wpA_region ?_
  refine wL (OpA.alloc (sz := 4) (d := .agg ([D.i 0, D.i 0, .v (.slice none 0 0), .v (.slice none 0 0)])) rfl tz25 (fun _ _ => .agg (.cons (.v _) (.cons (.v _) (.cons (.v _) (.cons (.v _) .nil))))) (.of rfl) (fun c1 _ => ?_))
  refine wL (OpA.a ?_)
  refine wpL_nil ?_
  refine wpA_seq ?_
  obtain ⟨q1, q2, q3, q4, h⟩ := h
  refine wpA_region ?_
  refine wL (OpA.iload rfl ti5 rfl rfl ?_)
  refine wL (OpA.conv rfl td5 td3 rfl ?_)
  refine wL (OpA.remN rfl rfl rfl q1 ?_)
  refine wL (OpA.addi rfl rfl rfl q2 ?_)
  refine wL (OpA.iload rfl ti5 rfl rfl ?_)
  refine wL (OpA.conv rfl td5 td3 rfl ?_)
  refine wL (OpA.remN rfl rfl rfl q3 ?_)
  refine wL (OpA.addi rfl rfl rfl q4 ?_)
  refine wL (OpA.call rfl rfl rfl en11 (cnew_c (1 + ((IntKind.i64.wrap grams) % 4)) (1 + ((IntKind.i64.wrap width) % 4)) ) ?_)
  rintro _ rfl
  refine wL (OpA.m ?_)
  iterate 2 refine wL (OpA.extract rfl rfl rfl ?_)
  refine wL (OpA.alloc (sz := 4) (d := .agg ([D.i 0, D.i 0, .v (.slice none 0 0), .v (.slice none 0 0)])) rfl tz25 (fun _ _ => .agg (.cons (.v _) (.cons (.v _) (.cons (.v _) (.cons (.v _) .nil))))) (.of rfl) (fun c2 _ => ?_))
  refine wE (OpA.storeW rfl ti25 rfl (by with_reducible conv => lhs; whnf) (.of rfl) rfl rfl .head ?_)
  refine wL (OpA.a ?_)
  refine wpL_nil ?_
  iterate 2 refine wpA_seq ?_
  refine wpA_region ?_
  refine wL (OpA.m ?_)
  refine wL (OpA.len rfl rfl rfl rfl ts22.desc (.inl ⟨_, _, rfl, (List.length_map _).symm⟩) ?_)
  refine wL (OpA.m ?_)
  refine wpL_nil ?_
  refine wpA_block ?_
  refine wpA_lfp (S := Corpus × Int) (G := Unit) () (fun gg ss => asg [(4, .ptr c1 4 0 0), (5, D.b false), (6, .ptr c2 4 0 0), (7, D.i ((newF (1 + ((IntKind.i64.wrap grams) % 4)) (1 + ((IntKind.i64.wrap width) % 4))).2)), (23, (encL 2 encText) l), (24, D.i (l.length : Int)), (25, D.i ss.2)]) (fun gg ss => [(c2, .cells 4 [encCorpus ss.1]), (c1, .cells 4 [.agg ([D.i 0, D.i 0, .v (.slice none 0 0), .v (.slice none 0 0)])])]) h (Cov.asg ⟨rfl, rfl, rfl, rfl, rfl, rfl, rfl, trivial⟩) (.refl _) ?_
  rintro again3 _ ⟨c, x⟩ h
  have h : order2_L1 l grams width Q again3 c x := h
  unfold order2_L1 at h
  show wpA _ _ _ _ (asg [(4, .ptr c1 4 0 0), (5, D.b false), (6, .ptr c2 4 0 0), (7, D.i ((newF (1 + ((IntKind.i64.wrap grams) % 4)) (1 + ((IntKind.i64.wrap width) % 4))).2)), (23, (encL 2 encText) l), (24, D.i (l.length : Int)), (25, D.i x)]) [(c2, .cells 4 [encCorpus c]), (c1, .cells 4 [.agg ([D.i 0, D.i 0, .v (.slice none 0 0), .v (.slice none 0 0)])])]
  refine wpA_seq ?_
  refine wpA_region ?_
  refine wL (OpA.lss rfl rfl rfl ?_)
  refine wpL_nil ?_
  refine wpA_seq ?_
  refine wpA_cond rfl (fun b4 => ?_) (fun b4 => ?_)
  have h := h.1 (decT b4)
  refine wpA_skip ?_
  refine wpA_seq ?_
  refine wpA_block ?_
  refine wpA_seq ?_
  obtain ⟨q1, h⟩ := h
  refine wpA_region ?_
  refine wL (OpA.iixV (enc := encText) rfl ts22 rfl rfl rfl q1 ?_)
  refine wL (OpA.iload_whole rfl ti36 rfl ⟨_, rfl, rfl⟩ ?_)
  refine wL (OpA.alloc (sz := 2) (d := .agg ([D.s ByteArray.empty, .v (.slice none 0 0)])) rfl tz36 (fun _ _ => .agg (.cons (.v _) (.cons (.v _) .nil))) (.of rfl) (fun c5 _ => ?_))
  refine wE (OpA.storeW rfl ti36 rfl (by with_reducible conv => lhs; whnf) (.of rfl) rfl rfl .head ?_)
  refine wpL_nil ?_
  refine wpA_seq ?_
  refine wpA_region ?_
  refine wL (OpA.a ?_)
  refine wpL_nil ?_
  refine wpA_seq ?_
  obtain ⟨q1, q2, h⟩ := h
  refine wpA_region ?_
  refine wL (OpA.load_whole rfl ti25 rfl rfl (.tail .head) rfl ⟨_, rfl⟩ ?_)
  refine wL (OpA.load_whole rfl ti36 rfl rfl .head rfl ⟨_, rfl⟩ ?_)
  refine wL (OpA.call rfl rfl rfl en17 (cadd_c c (gi l x) q1 q2) ?_)
  rintro _ rfl
  refine wL (OpA.m ?_)
  iterate 2 refine wL (OpA.extract rfl rfl rfl ?_)
  refine wE (OpA.storeW rfl ti25 rfl (by with_reducible conv => lhs; whnf) (.of rfl) rfl rfl (.tail .head) ?_)
  refine wL (OpA.a ?_)
  refine wpL_nil ?_
  refine wpA_seq ?_
  refine wpA_region ?_
  refine wL (OpA.m ?_)
  refine wL (OpA.neq rfl rfl rfl ?_)
  refine wpL_nil ?_
  refine wpA_cond rfl (fun b6 => ?_) (fun b6 => ?_)
  have h := h.1 (bneT b6)
  refine wpA_seq ?_
  refine wpA_region ?_
  refine wL (OpA.load_whole rfl ti25 rfl rfl (.tail .head) rfl ⟨_, rfl⟩ ?_)
  refine wE (OpA.storeW rfl ti25 rfl (by with_reducible conv => lhs; whnf) (.of rfl) rfl rfl (.tail (.tail .head)) ?_)
  refine wL (OpA.a ?_)
  refine wpL_nil ?_
  refine wpA_ret ?_
  exact ⟨_, (.cell (.whole ti25 rfl rfl (.tail (.tail .head)) rfl ⟨_, rfl⟩) (.tmp (d := D.b false) rfl .nil)), _, (.tup (.same rfl (.same rfl .nil)) .nil), ⟨((addF c (gi l x)).1, false), rfl, h⟩⟩
  have h := h.2 (bneF b6)
  refine wpA_skip ?_
  obtain ⟨q1, h⟩ := h
  refine wpA_region ?_
  refine wL (OpA.addi rfl rfl rfl q1 ?_)
  refine wL (OpA.m ?_)
  refine wpL_nil ?_
  exact ⟨(), ((addF c (gi l x)).1, (x + 1)), h, (Cov.asg ⟨rfl, rfl, rfl, rfl, rfl, rfl, rfl, trivial⟩), (.cons _ (.refl _))⟩
  have h := h.2 (decF b4)
  refine wpA_exit ?_
  refine wpA_seq ?_
  refine wpA_region ?_
  refine wL (OpA.load_whole rfl ti25 rfl rfl .head rfl ⟨_, rfl⟩ ?_)
  refine wL (OpA.m ?_)
  refine wL (OpA.eql rfl rfl rfl ?_)
  refine wE (OpA.storeW rfl ti25 rfl (by with_reducible conv => lhs; whnf) (.of rfl) rfl rfl (.tail .head) ?_)
  refine wL (OpA.a ?_)
  refine wpL_nil ?_
  refine wpA_ret ?_
  exact ⟨_, (.cell (.whole ti25 rfl rfl (.tail .head) rfl ⟨_, rfl⟩) (.tmp (d := D.b (((newF (1 + ((IntKind.i64.wrap grams) % 4)) (1 + ((IntKind.i64.wrap width) % 4))).2) == 0)) rfl .nil)), _, (.tup (.same rfl (.same rfl .nil)) .nil), ⟨(c, (((newF (1 + ((IntKind.i64.wrap grams) % 4)) (1 + ((IntKind.i64.wrap width) % 4))).2) == 0)), rfl, h⟩⟩
theorem order2_c (l : (List Text)) (grams : Int) (width : Int)  (hp0 : ∀ z_ ∈ l, okT z_) (hp1 : l.length ≤ 1000) (hp2 : inL grams 256) (hp3 : inL width 256) : Fun false Tryz.prog 39 [(encL 2 encText) l, .iptr ((D.k .u8) grams) 0, .iptr ((D.k .u8) width) 0] (fun d => d = .tup [encCorpus ((makeF l grams width).1), D.b ((makeF l grams width).2)]) :=
  Fun.at (enc := fun r => .tup [encCorpus (r.1), D.b (r.2)]) (v := makeF l grams width) (order2_w l grams width  (fun r => r = makeF l grams width) (order2_ok l grams width _ hp0 hp1 hp2 hp3 rfl))

set_option maxHeartbeats 2000000 in
set_option maxRecDepth 10000 in
theorem order3_w (x : Text) (t : Text)  (Q : Bool → Prop) (h : order3_vc x t Q) : Fun false Tryz.prog 42 [encText x, .iptr (encText t) 0] (fun d => ∃ r, d = D.b r ∧ Q r) := by
  unfold order3_vc at h
  refine Fun.of_body Tryz.func42 rfl Tryz.ntmps42 rfl ?_
  refine wpA_seq ?_
  refine wpA_region ?_
  refine wL (OpA.bx (sz := 2) rfl (by with_reducible conv => lhs; whnf) (.of rfl) (fun c1 _ => ?_))
  refine wL (OpA.a ?_)
  refine wpL_nil ?_
  refine wpA_seq ?_
  refine wpA_region ?_
  refine wL (OpA.fieldAddr rfl tf36_0 rfl ?_)
  refine wL (OpA.load rfl ti9 rfl .head rfl rfl ?_)
  refine wL (OpA.ifieldAddr rfl tf36_0 rfl ?_)
  refine wL (OpA.iload rfl ti9 rfl rfl ?_)
  refine wL (OpA.seql rfl rfl rfl ?_)
  refine wL (OpA.a ?_)
  refine wpL_nil ?_
  refine wpA_ret ?_
  exact ⟨_, (.tmp (d := D.b (decide (x.path = t.path))) rfl .nil), _, (.same rfl .nil), ⟨(decide (x.path = t.path)), rfl, h⟩⟩
theorem order3_c (x : Text) (t : Text)   : Fun false Tryz.prog 42 [encText x, .iptr (encText t) 0] (fun d => d = D.b ((decide (x.path = t.path)))) :=
  Fun.at (enc := fun r => D.b r) (v := (decide (x.path = t.path))) (order3_w x t  (fun r => r = (decide (x.path = t.path))) (order3_ok x t _  rfl))

abbrev lawOrder_e0 (l : (List Text)) (turn : Int) := (List.reverse (List.flatten ([(lsub l ((IntKind.i64.wrap turn) % ((l.length : Int) + 1)) (l.length : Int)), (lsub l 0 ((IntKind.i64.wrap turn) % ((l.length : Int) + 1)))] : List (List Text))))
abbrev lawOrder_e1 (l : (List Text)) (grams : Int) (width : Int) (t : Text) := (((((dropF ((addF ((makeF l grams width).1) t).1) t.path).2) == 0) && (decide (((dropF ((addF ((makeF l grams width).1) t).1) t.path).1) = ((makeF l grams width).1)))) && (((((addF ((makeF l grams width).1) t).1).texts).length : Int) == ((l.length : Int) + 1)))
set_option maxHeartbeats 2000000 in
set_option maxRecDepth 10000 in
theorem lawOrder_w (l : (List Text)) (t : Text) (grams : Int) (width : Int) (turn : Int)  (Q : Bool → Prop) (h : lawOrder_vc l t grams width turn Q) : Fun false Tryz.prog 8 [(encL 2 encText) l, encText t, (D.k .u8) grams, (D.k .u8) width, (D.k .u8) turn] (fun d => ∃ r, d = D.b r ∧ Q r) := by
  unfold lawOrder_vc at h
  refine Fun.of_body Tryz.func8 rfl Tryz.ntmps8 rfl ?_
  refine wpA_seq ?_
  refine wpA_region ?_
  refine wL (OpA.bx (sz := 2) rfl (by with_reducible conv => lhs; whnf) (.of rfl) (fun c1 _ => ?_))
  refine wL (OpA.bx (sz := 1) rfl (by with_reducible conv => lhs; whnf) (.of rfl) (fun c2 _ => ?_))
  refine wL (OpA.bx (sz := 1) rfl (by with_reducible conv => lhs; whnf) (.of rfl) (fun c3 _ => ?_))
  refine wL (OpA.a ?_)
  refine wpL_nil ?_
  iterate 2 refine wpA_seq ?_
  refine wpA_freeze (s := 7) (d := .ptr c2 1 0 0) (d' := .iptr ((D.k .u8) grams) 0) (.swap _ _ _) rfl (.ptrp rfl .head rfl .nil) ?_
  refine wpA_freeze (s := 8) (d := .ptr c3 1 0 0) (d' := .iptr ((D.k .u8) width) 0) (.refl _) rfl (.ptrp rfl .head rfl .nil) ?_
  refine wpA_region ?_
  refine wL (OpA.call rfl rfl rfl en9 (awake_c  ) ?_)
  rintro _ rfl
  refine wL (OpA.not rfl rfl ?_)
  refine wpL_nil ?_
  refine wpA_cond rfl (fun b4 => ?_) (fun b4 => ?_)
  have h := h.1 (notT b4)
  refine wpA_seq ?_
  refine wpA_region ?_
  refine wL (OpA.a ?_)
  refine wpL_nil ?_
  refine wpA_ret ?_
  exact ⟨_, (.tmp (d := D.b false) rfl .nil), _, (.same rfl .nil), ⟨false, rfl, h⟩⟩
  have h := h.2 (notF b4)
  refine wpA_skip ?_
  iterate 2 refine wpA_seq ?_
  obtain ⟨q1, h⟩ := h
  refine wpA_mid (asg [(0, (encL 2 encText) l), (4, (D.k .u8) turn), (6, .ptr c1 2 0 0), (7, .iptr ((D.k .u8) grams) 0), (8, .iptr ((D.k .u8) width) 0), (10, D.b false), (40, D.b (((!(fewTs l)) || (!(fewTs ([t] : List Text)))) || (l.any (fun (x0_ : Text) => (!validT x0_)))))]) [(c1, .cells 2 [encText t])] ?_ ?_
  refine wpA_region ?_
  refine wL (OpA.m ?_)
  refine wL (OpA.call rfl rfl rfl en16 (c26fewt_c l ) ?_)
  rintro _ rfl
  refine wL (OpA.not rfl rfl ?_)
  refine wL (OpA.m ?_)
  refine wpL_split (s := 31) rfl (fun b28 => ?_) (fun b28 => ?_)
  iterate 4 refine wS ?_
  refine wL (OpA.p ?_)
  refine wL (OpA.m ?_)
  iterate 2 refine wS ?_
  refine wL (OpA.p ?_)
  refine wpL_nil ?_
  exact ⟨(Cov.asg ⟨rfl, rfl, rfl, rfl, rfl, rfl, (congrArg D.b (Eq.symm (orS (orS b28)))), trivial⟩), (.refl _)⟩
  refine wG (OpA.load_whole rfl ti36 rfl rfl .head rfl ⟨_, rfl⟩ ?_)
  refine wG (OpA.ibuildSliceO rfl ts22 rfl (.cons (.of (sz := 2) rfl) .nil) (by decide) ?_)
  refine wG (OpA.call rfl rfl rfl en16 (c26fewt_c ([t] : List Text) ) ?_)
  rintro _ rfl
  refine wG (OpA.not rfl rfl ?_)
  refine wL (OpA.p ?_)
  refine wL (OpA.m ?_)
  refine wpL_split (s := 37) rfl (fun b29 => ?_) (fun b29 => ?_)
  iterate 2 refine wS ?_
  refine wL (OpA.p ?_)
  refine wpL_nil ?_
  exact ⟨(Cov.asg ⟨rfl, rfl, rfl, rfl, rfl, rfl, (congrArg D.b (Eq.symm (orS (orN b28 b29)))), trivial⟩), (.refl _)⟩
  refine wG (OpA.m ?_)
  refine wG (OpA.call rfl rfl rfl en37 (cfTx_c l 38 [] [] (fun (x0_ : Text) => (!validT x0_)) (fun (x0_ : Text) => okT x0_) en38 (fun x0_ hh => order1_c x0_ hh) (q1 ⟨(notF b28), (notF b29)⟩).1 (q1 ⟨(notF b28), (notF b29)⟩).2) ?_)
  rintro _ rfl
  refine wL (OpA.p ?_)
  refine wpL_nil ?_
  exact ⟨(Cov.asg ⟨rfl, rfl, rfl, rfl, rfl, rfl, (congrArg D.b (Eq.symm (orN (orN b28 b29) rfl))), trivial⟩), (.refl _)⟩
  show wpA _ _ _ _ (asg [(0, (encL 2 encText) l), (4, (D.k .u8) turn), (6, .ptr c1 2 0 0), (7, .iptr ((D.k .u8) grams) 0), (8, .iptr ((D.k .u8) width) 0), (10, D.b false), (40, D.b (((!(fewTs l)) || (!(fewTs ([t] : List Text)))) || (l.any (fun (x0_ : Text) => (!validT x0_)))))]) [(c1, .cells 2 [encText t])]
  refine wpA_cond rfl (fun b5 => ?_) (fun b5 => ?_)
  have h := h.1 ((or0 b5).imp (fun hh => ((or0 hh).imp (fun hh => (notT hh)) (fun hh => (notT hh)))) (fun hh => hh))
  refine wpA_seq ?_
  refine wpA_region ?_
  refine wL (OpA.a ?_)
  refine wpL_nil ?_
  refine wpA_ret ?_
  exact ⟨_, (.tmp (d := D.b true) rfl .nil), _, (.same rfl .nil), ⟨true, rfl, h⟩⟩
  have h := h.2 ⟨⟨(notF (or1 (or1 b5))), (notF (or2 (or1 b5)))⟩, (or2 b5)⟩
  refine wpA_skip ?_
  refine wpA_seq ?_
  refine wpA_region ?_
  refine wL (OpA.makeFunc rfl ?_)
  refine wL (OpA.a ?_)
  refine wpL_nil ?_
  refine wpA_seq ?_
  obtain ⟨q1, q2, h⟩ := h
  refine wpA_region ?_
  refine wL (OpA.m ?_)
  refine wL (OpA.conv rfl td5 td3 rfl ?_)
  refine wL (OpA.m ?_)
  refine wL (OpA.len rfl rfl rfl rfl ts22.desc (.inl ⟨_, _, rfl, (List.length_map _).symm⟩) ?_)
  refine wL (OpA.addi rfl rfl rfl q1 ?_)
  refine wL (OpA.remN rfl rfl rfl q2 ?_)
  refine wL (OpA.a ?_)
  refine wpL_nil ?_
  refine wpA_seq ?_
  obtain ⟨q1, q2, q3, q4, h⟩ := h
  refine wpA_draw (m := 7) mo (by kernel_rfl) rfl ?_
  iterate 2 refine dL (OpA.m ⟨rfl, rfl⟩) ?_
  refine dL (OpA.isliceV (enc := encText) rfl ts22 rfl (.some rfl) (.none _) q1 ⟨rfl, rfl⟩) ?_
  iterate 2 refine dL (OpA.m ⟨rfl, rfl⟩) ?_
  refine dL (OpA.isliceV (enc := encText) rfl ts22 rfl (.none _) (.some rfl) q2 ⟨rfl, rfl⟩) ?_
  refine dL (OpA.ibuildSliceO rfl ts108 rfl (.cons (.of (sz := 1) rfl) (.cons (.of (sz := 1) rfl) .nil)) (by decide) ⟨rfl, rfl⟩) ?_
  refine DetK.nil ?_
  refine wL (OpA.callH rfl rfl rfl en40 (h1 := []) (h2 := [(c1, .cells 2 [encText t])]) (.refl _) (concatO_c ([(lsub l ((IntKind.i64.wrap turn) % ((l.length : Int) + 1)) (l.length : Int)), (lsub l 0 ((IntKind.i64.wrap turn) % ((l.length : Int) + 1)))] : List (List Text)) q3 q4) ?_)
  rintro _ _ ⟨⟨c6, pre7, post8⟩, rfl, rfl⟩
  refine wL (OpA.a ?_)
  refine wpL_nil ?_
  refine wpA_seq ?_
  obtain ⟨q1, h⟩ := h
  refine wpA_region ?_
  refine wL (OpA.m ?_)
  refine wL (OpA.callH rfl rfl rfl en41 (h1 := [(c6, .cells 2 (winL encText pre7 (List.flatten ([(lsub l ((IntKind.i64.wrap turn) % ((l.length : Int) + 1)) (l.length : Int)), (lsub l 0 ((IntKind.i64.wrap turn) % ((l.length : Int) + 1)))] : List (List Text))) post8))]) (h2 := [(c1, .cells 2 [encText t])]) (.refl _) (rev_c (List.flatten ([(lsub l ((IntKind.i64.wrap turn) % ((l.length : Int) + 1)) (l.length : Int)), (lsub l 0 ((IntKind.i64.wrap turn) % ((l.length : Int) + 1)))] : List (List Text))) c6 pre7 post8 q1) ?_)
  rintro _ _ ⟨_, rfl, rfl⟩
  refine wpL_nil ?_
  refine wpA_seq ?_
  refine wpA_cov (fr0 := asg [(0, (encL 2 encText) l), (4, (D.k .u8) turn), (6, .ptr c1 2 0 0), (7, .iptr ((D.k .u8) grams) 0), (8, .iptr ((D.k .u8) width) 0), (10, D.b false), (11, .fn (.func 39) [] [.iptr ((D.k .u8) grams) 0, .iptr ((D.k .u8) width) 0]), (12, D.i ((IntKind.i64.wrap turn) % ((l.length : Int) + 1))), (13, .own c6 2 pre7.length (lawOrder_e0 l turn).length), (40, D.b (((!(fewTs l)) || (!(fewTs ([t] : List Text)))) || (l.any (fun (x0_ : Text) => (!validT x0_))))), (41, .fn (.func 39) [] [.iptr ((D.k .u8) grams) 0, .iptr ((D.k .u8) width) 0]), (42, (D.k .u8) turn), (43, D.i (IntKind.i64.wrap turn)), (44, (encL 2 encText) l), (45, D.i (l.length : Int)), (46, D.i ((l.length : Int) + 1)), (47, D.i ((IntKind.i64.wrap turn) % ((l.length : Int) + 1))), (48, (encL 2 encText) l), (49, D.i ((IntKind.i64.wrap turn) % ((l.length : Int) + 1))), (50, (encL 2 encText) (lsub l ((IntKind.i64.wrap turn) % ((l.length : Int) + 1)) (l.length : Int))), (51, (encL 2 encText) l), (52, D.i ((IntKind.i64.wrap turn) % ((l.length : Int) + 1))), (53, (encL 2 encText) (lsub l 0 ((IntKind.i64.wrap turn) % ((l.length : Int) + 1)))), (54, (encL 1 (encL 2 encText)) ([(lsub l ((IntKind.i64.wrap turn) % ((l.length : Int) + 1)) (l.length : Int)), (lsub l 0 ((IntKind.i64.wrap turn) % ((l.length : Int) + 1)))] : List (List Text))), (55, .own c6 2 pre7.length (lawOrder_e0 l turn).length), (56, .own c6 2 pre7.length (lawOrder_e0 l turn).length), (57, .tup [])]) (Cov.asg ⟨rfl, rfl, rfl, rfl, rfl, rfl, rfl, rfl, (congrArg (D.own c6 2 pre7.length) (by simp only [si_length, gcopy_length, List.length_reverse])), rfl, rfl, rfl, rfl, rfl, rfl, rfl, rfl, rfl, rfl, rfl, rfl, rfl, rfl, rfl, (congrArg (D.own c6 2 pre7.length) (by simp only [si_length, gcopy_length, List.length_reverse])), (congrArg (D.own c6 2 pre7.length) (by simp only [si_length, gcopy_length, List.length_reverse])), rfl, trivial⟩) ?_
  obtain ⟨q1, q2, q3, q4, h⟩ := h
  refine wpA_region ?_
  iterate 2 refine wL (OpA.m ?_)
  refine wL (OpA.call rfl rfl rfl en39 (order2_c l grams width q1 q2 q3 q4) ?_)
  rintro _ rfl
  refine wL (OpA.m ?_)
  iterate 2 refine wL (OpA.extract rfl rfl rfl ?_)
  refine wL (OpA.alloc (sz := 4) (d := .agg ([D.i 0, D.i 0, .v (.slice none 0 0), .v (.slice none 0 0)])) rfl tz25 (fun _ _ => .agg (.cons (.v _) (.cons (.v _) (.cons (.v _) (.cons (.v _) .nil))))) (.of rfl) (fun c9 _ => ?_))
  refine wE (OpA.storeW rfl ti25 rfl (by with_reducible conv => lhs; whnf) (.of rfl) rfl rfl .head ?_)
  refine wL (OpA.a ?_)
  refine wpL_nil ?_
  refine wpA_seq ?_
  obtain ⟨q1, q2, q3, q4, h⟩ := h
  refine wpA_region ?_
  iterate 2 refine wL (OpA.m ?_)
  refine wL (OpA.frz (s := 66) (d := .own c6 2 pre7.length (lawOrder_e0 l turn).length) (d' := (encL 2 encText) (lawOrder_e0 l turn)) (.swap _ _ _) rfl (.win (enc := encText) .head (by intro hf; cases hf) .nil) (OpA.call rfl rfl rfl en39 (order2_c (lawOrder_e0 l turn) grams width q1 q2 q3 q4) ?_))
  rintro _ rfl
  refine wL (OpA.m ?_)
  iterate 2 refine wL (OpA.extract rfl rfl rfl ?_)
  refine wL (OpA.alloc (sz := 4) (d := .agg ([D.i 0, D.i 0, .v (.slice none 0 0), .v (.slice none 0 0)])) rfl tz25 (fun _ _ => .agg (.cons (.v _) (.cons (.v _) (.cons (.v _) (.cons (.v _) .nil))))) (.of rfl) (fun c10 _ => ?_))
  refine wE (OpA.storeW rfl ti25 rfl (by with_reducible conv => lhs; whnf) (.of rfl) rfl rfl .head ?_)
  refine wL (OpA.a ?_)
  refine wpL_nil ?_
  iterate 2 refine wpA_seq ?_
  refine wpA_mid (asg [(0, (encL 2 encText) l), (6, .ptr c1 2 0 0), (10, D.b false), (14, .ptr c9 4 0 0), (15, D.b ((makeF l grams width).2)), (16, .ptr c10 4 0 0), (17, D.b ((makeF (lawOrder_e0 l turn) grams width).2)), (75, D.b ((!(makeF l grams width).2) || (!(makeF (lawOrder_e0 l turn) grams width).2)))]) [(c10, .cells 4 [encCorpus ((makeF (lawOrder_e0 l turn) grams width).1)]), (c9, .cells 4 [encCorpus ((makeF l grams width).1)]), (c1, .cells 2 [encText t])] ?_ ?_
  refine wpA_region ?_
  refine wL (OpA.m ?_)
  refine wL (OpA.not rfl rfl ?_)
  refine wL (OpA.m ?_)
  refine wpL_split (s := 72) rfl (fun b27 => ?_) (fun b27 => ?_)
  iterate 2 refine wS ?_
  refine wL (OpA.p ?_)
  refine wpL_nil ?_
  exact ⟨(Cov.asg ⟨rfl, rfl, rfl, rfl, rfl, rfl, rfl, (congrArg D.b (Eq.symm (orS b27))), trivial⟩), (.refl _)⟩
  refine wG (OpA.m ?_)
  refine wG (OpA.not rfl rfl ?_)
  refine wL (OpA.p ?_)
  refine wpL_nil ?_
  exact ⟨(Cov.asg ⟨rfl, rfl, rfl, rfl, rfl, rfl, rfl, (congrArg D.b (Eq.symm (orN b27 rfl))), trivial⟩), (.refl _)⟩
  show wpA _ _ _ _ (asg [(0, (encL 2 encText) l), (6, .ptr c1 2 0 0), (10, D.b false), (14, .ptr c9 4 0 0), (15, D.b ((makeF l grams width).2)), (16, .ptr c10 4 0 0), (17, D.b ((makeF (lawOrder_e0 l turn) grams width).2)), (75, D.b ((!(makeF l grams width).2) || (!(makeF (lawOrder_e0 l turn) grams width).2)))]) [(c10, .cells 4 [encCorpus ((makeF (lawOrder_e0 l turn) grams width).1)]), (c9, .cells 4 [encCorpus ((makeF l grams width).1)]), (c1, .cells 2 [encText t])]
  refine wpA_cond rfl (fun b11 => ?_) (fun b11 => ?_)
  have h := h.1 ((or0 b11).imp (fun hh => (notT hh)) (fun hh => (notT hh)))
  refine wpA_seq ?_
  refine wpA_region ?_
  iterate 2 refine wL (OpA.m ?_)
  refine wL (OpA.bcmp rfl td4 rfl rfl (.inl ⟨rfl, rfl⟩) ?_)
  refine wL (OpA.a ?_)
  refine wpL_nil ?_
  refine wpA_ret ?_
  exact ⟨_, (.tmp (d := D.b ((makeF l grams width).2 == (makeF (lawOrder_e0 l turn) grams width).2)) rfl .nil), _, (.same rfl .nil), ⟨((makeF l grams width).2 == (makeF (lawOrder_e0 l turn) grams width).2), rfl, h⟩⟩
  have h := h.2 ⟨(notF (or1 b11)), (notF (or2 b11))⟩
  refine wpA_skip ?_
  refine wpA_seq ?_
  obtain ⟨q1, q2, h⟩ := h
  refine wpA_region ?_
  refine wL (OpA.load_whole rfl ti25 rfl rfl (.tail .head) rfl ⟨_, rfl⟩ ?_)
  refine wL (OpA.call rfl rfl rfl en35 (cid_c ((makeF l grams width).1) q1 q2) ?_)
  rintro _ rfl
  refine wL (OpA.m ?_)
  iterate 2 refine wL (OpA.extract rfl rfl rfl ?_)
  iterate 2 refine wL (OpA.a ?_)
  refine wpL_nil ?_
  refine wpA_seq ?_
  obtain ⟨q1, q2, h⟩ := h
  refine wpA_region ?_
  refine wL (OpA.load_whole rfl ti25 rfl rfl .head rfl ⟨_, rfl⟩ ?_)
  refine wL (OpA.call rfl rfl rfl en35 (cid_c ((makeF (lawOrder_e0 l turn) grams width).1) q1 q2) ?_)
  rintro _ rfl
  refine wL (OpA.m ?_)
  iterate 2 refine wL (OpA.extract rfl rfl rfl ?_)
  iterate 2 refine wL (OpA.a ?_)
  refine wpL_nil ?_
  iterate 2 refine wpA_seq ?_
  obtain ⟨q1, q2, h⟩ := h
  refine wpA_mid (asg [(0, (encL 2 encText) l), (6, .ptr c1 2 0 0), (10, D.b false), (14, .ptr c9 4 0 0), (118, D.b ((((((((idF ((makeF l grams width).1)).2) != 0) || (((idF ((makeF (lawOrder_e0 l turn) grams width).1)).2) != 0)) || (!decide ((idF ((makeF l grams width).1)).1 = (idF ((makeF (lawOrder_e0 l turn) grams width).1)).1))) || ((checkF ((makeF l grams width).1)) != 0)) || (!(decide (((makeF l grams width).1) = ((makeF (lawOrder_e0 l turn) grams width).1))))) || (((((makeF l grams width).1).texts).length : Int) != (l.length : Int))))]) [(c10, .cells 4 [encCorpus ((makeF (lawOrder_e0 l turn) grams width).1)]), (c9, .cells 4 [encCorpus ((makeF l grams width).1)]), (c1, .cells 2 [encText t])] ?_ ?_
  refine wpA_region ?_
  refine wL (OpA.m ?_)
  refine wL (OpA.neq rfl rfl rfl ?_)
  refine wL (OpA.m ?_)
  refine wpL_split (s := 91) rfl (fun b22 => ?_) (fun b22 => ?_)
  iterate 2 refine wS ?_
  refine wL (OpA.p ?_)
  refine wL (OpA.m ?_)
  iterate 3 refine wS ?_
  refine wL (OpA.p ?_)
  refine wL (OpA.m ?_)
  iterate 3 refine wS ?_
  refine wL (OpA.p ?_)
  refine wL (OpA.m ?_)
  iterate 4 refine wS ?_
  refine wL (OpA.p ?_)
  refine wL (OpA.m ?_)
  iterate 6 refine wS ?_
  refine wL (OpA.p ?_)
  refine wpL_nil ?_
  exact ⟨(Cov.asg ⟨rfl, rfl, rfl, rfl, (congrArg D.b (Eq.symm (orS (orS (orS (orS (orS b22))))))), trivial⟩), (.refl _)⟩
  refine wG (OpA.m ?_)
  refine wG (OpA.neq rfl rfl rfl ?_)
  refine wL (OpA.p ?_)
  refine wL (OpA.m ?_)
  refine wpL_split (s := 95) rfl (fun b23 => ?_) (fun b23 => ?_)
  iterate 3 refine wS ?_
  refine wL (OpA.p ?_)
  refine wL (OpA.m ?_)
  iterate 3 refine wS ?_
  refine wL (OpA.p ?_)
  refine wL (OpA.m ?_)
  iterate 4 refine wS ?_
  refine wL (OpA.p ?_)
  refine wL (OpA.m ?_)
  iterate 6 refine wS ?_
  refine wL (OpA.p ?_)
  refine wpL_nil ?_
  exact ⟨(Cov.asg ⟨rfl, rfl, rfl, rfl, (congrArg D.b (Eq.symm (orS (orS (orS (orS (orN b22 b23))))))), trivial⟩), (.refl _)⟩
  iterate 2 refine wG (OpA.m ?_)
  refine wG (OpA.sneq rfl rfl rfl ?_)
  refine wL (OpA.p ?_)
  refine wL (OpA.m ?_)
  refine wpL_split (s := 100) rfl (fun b24 => ?_) (fun b24 => ?_)
  iterate 3 refine wS ?_
  refine wL (OpA.p ?_)
  refine wL (OpA.m ?_)
  iterate 4 refine wS ?_
  refine wL (OpA.p ?_)
  refine wL (OpA.m ?_)
  iterate 6 refine wS ?_
  refine wL (OpA.p ?_)
  refine wpL_nil ?_
  exact ⟨(Cov.asg ⟨rfl, rfl, rfl, rfl, (congrArg D.b (Eq.symm (orS (orS (orS (orN (orN b22 b23) b24)))))), trivial⟩), (.refl _)⟩
  refine wG (OpA.load_whole rfl ti25 rfl rfl (.tail .head) rfl ⟨_, rfl⟩ ?_)
  refine wG (OpA.call rfl rfl rfl en13 (ccheck_c ((makeF l grams width).1) (q1 ⟨⟨(bneF b22), (bneF b23)⟩, (ndecF b24)⟩)) ?_)
  rintro _ rfl
  refine wG (OpA.neq rfl rfl rfl ?_)
  refine wL (OpA.p ?_)
  refine wL (OpA.m ?_)
  refine wpL_split (s := 105) rfl (fun b25 => ?_) (fun b25 => ?_)
  iterate 4 refine wS ?_
  refine wL (OpA.p ?_)
  refine wL (OpA.m ?_)
  iterate 6 refine wS ?_
  refine wL (OpA.p ?_)
  refine wpL_nil ?_
  exact ⟨(Cov.asg ⟨rfl, rfl, rfl, rfl, (congrArg D.b (Eq.symm (orS (orS (orN (orN (orN b22 b23) b24) b25))))), trivial⟩), (.refl _)⟩
  refine wG (OpA.load_whole rfl ti25 rfl rfl (.tail .head) rfl ⟨_, rfl⟩ ?_)
  refine wG (OpA.load_whole rfl ti25 rfl rfl .head rfl ⟨_, rfl⟩ ?_)
  refine wG (OpA.call rfl rfl rfl en15 (c26samec_c ((makeF l grams width).1) ((makeF (lawOrder_e0 l turn) grams width).1) (q2 ⟨⟨⟨(bneF b22), (bneF b23)⟩, (ndecF b24)⟩, (bneF b25)⟩)) ?_)
  rintro _ rfl
  refine wG (OpA.not rfl rfl ?_)
  refine wL (OpA.p ?_)
  refine wL (OpA.m ?_)
  refine wpL_split (s := 111) rfl (fun b26 => ?_) (fun b26 => ?_)
  iterate 6 refine wS ?_
  refine wL (OpA.p ?_)
  refine wpL_nil ?_
  exact ⟨(Cov.asg ⟨rfl, rfl, rfl, rfl, (congrArg D.b (Eq.symm (orS (orN (orN (orN (orN b22 b23) b24) b25) b26)))), trivial⟩), (.refl _)⟩
  refine wG (OpA.fieldAddr rfl tf25_2 rfl ?_)
  refine wG (OpA.load rfl ti22 rfl (.tail .head) rfl rfl ?_)
  refine wG (OpA.len rfl rfl rfl rfl ts22.desc (.inl ⟨_, _, rfl, (List.length_map _).symm⟩) ?_)
  refine wG (OpA.m ?_)
  refine wG (OpA.len rfl rfl rfl rfl ts22.desc (.inl ⟨_, _, rfl, (List.length_map _).symm⟩) ?_)
  refine wG (OpA.neq rfl rfl rfl ?_)
  refine wL (OpA.p ?_)
  refine wpL_nil ?_
  exact ⟨(Cov.asg ⟨rfl, rfl, rfl, rfl, (congrArg D.b (Eq.symm (orN (orN (orN (orN (orN b22 b23) b24) b25) b26) rfl))), trivial⟩), (.refl _)⟩
  show wpA _ _ _ _ (asg [(0, (encL 2 encText) l), (6, .ptr c1 2 0 0), (10, D.b false), (14, .ptr c9 4 0 0), (118, D.b ((((((((idF ((makeF l grams width).1)).2) != 0) || (((idF ((makeF (lawOrder_e0 l turn) grams width).1)).2) != 0)) || (!decide ((idF ((makeF l grams width).1)).1 = (idF ((makeF (lawOrder_e0 l turn) grams width).1)).1))) || ((checkF ((makeF l grams width).1)) != 0)) || (!(decide (((makeF l grams width).1) = ((makeF (lawOrder_e0 l turn) grams width).1))))) || (((((makeF l grams width).1).texts).length : Int) != (l.length : Int))))]) [(c10, .cells 4 [encCorpus ((makeF (lawOrder_e0 l turn) grams width).1)]), (c9, .cells 4 [encCorpus ((makeF l grams width).1)]), (c1, .cells 2 [encText t])]
  refine wpA_cond rfl (fun b12 => ?_) (fun b12 => ?_)
  have h := h.1 ((or0 b12).imp (fun hh => ((or0 hh).imp (fun hh => ((or0 hh).imp (fun hh => ((or0 hh).imp (fun hh => ((or0 hh).imp (fun hh => (bneT hh)) (fun hh => (bneT hh)))) (fun hh => (ndecT hh)))) (fun hh => (bneT hh)))) (fun hh => (notT hh)))) (fun hh => (bneT hh)))
  refine wpA_seq ?_
  refine wpA_region ?_
  refine wL (OpA.a ?_)
  refine wpL_nil ?_
  refine wpA_ret ?_
  exact ⟨_, (.tmp (d := D.b false) rfl .nil), _, (.same rfl .nil), ⟨false, rfl, h⟩⟩
  have h := h.2 ⟨⟨⟨⟨⟨(bneF (or1 (or1 (or1 (or1 (or1 b12)))))), (bneF (or2 (or1 (or1 (or1 (or1 b12))))))⟩, (ndecF (or2 (or1 (or1 (or1 b12)))))⟩, (bneF (or2 (or1 (or1 b12))))⟩, (notF (or2 (or1 b12)))⟩, (bneF (or2 b12))⟩
  refine wpA_skip ?_
  refine wpA_seq ?_
  obtain ⟨q1, q2, h⟩ := h
  refine wpA_region ?_
  refine wL (OpA.load_whole rfl ti25 rfl rfl (.tail .head) rfl ⟨_, rfl⟩ ?_)
  refine wL (OpA.load_whole rfl ti36 rfl rfl (.tail (.tail .head)) rfl ⟨_, rfl⟩ ?_)
  refine wL (OpA.call rfl rfl rfl en17 (cadd_c ((makeF l grams width).1) t q1 q2) ?_)
  rintro _ rfl
  refine wL (OpA.m ?_)
  iterate 2 refine wL (OpA.extract rfl rfl rfl ?_)
  refine wL (OpA.alloc (sz := 4) (d := .agg ([D.i 0, D.i 0, .v (.slice none 0 0), .v (.slice none 0 0)])) rfl tz25 (fun _ _ => .agg (.cons (.v _) (.cons (.v _) (.cons (.v _) (.cons (.v _) .nil))))) (.of rfl) (fun c13 _ => ?_))
  refine wE (OpA.storeW rfl ti25 rfl (by with_reducible conv => lhs; whnf) (.of rfl) rfl rfl .head ?_)
  refine wL (OpA.a ?_)
  refine wpL_nil ?_
  iterate 2 refine wpA_seq ?_
  refine wpA_region ?_
  refine wL (OpA.m ?_)
  refine wL (OpA.neq rfl rfl rfl ?_)
  refine wpL_nil ?_
  refine wpA_cond rfl (fun b14 => ?_) (fun b14 => ?_)
  have h := h.1 (bneT b14)
  refine wpA_seq ?_
  obtain ⟨q1, q2, h⟩ := h
  refine wpA_mid (asg [(0, (encL 2 encText) l), (6, .ptr c1 2 0 0), (10, D.b (((((addF ((makeF l grams width).1) t).2) == 1) && (!(validT t))) || ((((addF ((makeF l grams width).1) t).2) == 6) && (l.any (fun (x0_ : Text) => (decide (x0_.path = t.path))))))), (14, .ptr c9 4 0 0), (22, .ptr c13 4 0 0)]) [(c13, .cells 4 [encCorpus ((addF ((makeF l grams width).1) t).1)]), (c10, .cells 4 [encCorpus ((makeF (lawOrder_e0 l turn) grams width).1)]), (c9, .cells 4 [encCorpus ((makeF l grams width).1)]), (c1, .cells 2 [encText t])] ?_ ?_
  refine wpA_region ?_
  refine wL (OpA.m ?_)
  refine wL (OpA.eql rfl rfl rfl ?_)
  refine wL (OpA.m ?_)
  refine wpL_split (s := 129) rfl (fun b15 => ?_) (fun b15 => ?_)
  refine wG (OpA.load_whole rfl ti36 rfl rfl (.tail (.tail (.tail .head))) rfl ⟨_, rfl⟩ ?_)
  refine wG (OpA.call rfl rfl rfl en27 (nvalid_c t (q1 (beqT b15))) ?_)
  rintro _ rfl
  refine wG (OpA.not rfl rfl ?_)
  refine wL (OpA.p ?_)
  refine wL (OpA.m ?_)
  refine wpL_split (s := 134) rfl (fun b16 => ?_) (fun b16 => ?_)
  iterate 3 refine wS ?_
  iterate 3 refine wpL_skipU rfl rfl rfl rfl rfl ?_
  refine wS ?_
  refine wL (OpA.p ?_)
  refine wL (OpA.a ?_)
  refine wpL_nil ?_
  exact ⟨(Cov.asg ⟨rfl, rfl, (congrArg D.b (Eq.symm (orS (andN b15 b16)))), rfl, rfl, trivial⟩), (.refl _)⟩
  refine wG (OpA.m ?_)
  refine wG (OpA.eql rfl rfl rfl ?_)
  refine wG (OpA.m ?_)
  refine wpL_split (s := 137) rfl (fun b17 => ?_) (fun b17 => ?_)
  refine wG (OpA.m ?_)
  refine wG (OpA.makeFunc rfl ?_)
  refine wG (OpA.call_snap rfl rfl rfl en37 (.same rfl (.fn .nil (.ptrp rfl (.tail (.tail (.tail .head))) rfl .nil) .nil)) (cfTx_c l 42 [] [.iptr (encText t) 0] (fun (x0_ : Text) => (decide (x0_.path = t.path))) (fun (x0_ : Text) => True) en42 (fun x0_ _ => order3_c x0_ t ) ((q2 (.inr (notF b16))) (beqT b17)).1 ((q2 (.inr (notF b16))) (beqT b17)).2) (by rintro _ rfl; exact .inr (.v _)) ?_)
  rintro _ rfl
  refine wG (OpA.p ?_)
  refine wL (OpA.p ?_)
  refine wL (OpA.a ?_)
  refine wpL_nil ?_
  exact ⟨(Cov.asg ⟨rfl, rfl, (congrArg D.b (Eq.symm (orN (andN b15 b16) (andN b17 rfl)))), rfl, rfl, trivial⟩), (.refl _)⟩
  iterate 3 refine wS ?_
  refine wG (OpA.p ?_)
  refine wL (OpA.p ?_)
  refine wL (OpA.a ?_)
  refine wpL_nil ?_
  exact ⟨(Cov.asg ⟨rfl, rfl, (congrArg D.b (Eq.symm (orN (andN b15 b16) (andS b17)))), rfl, rfl, trivial⟩), (.refl _)⟩
  iterate 3 refine wS ?_
  refine wL (OpA.p ?_)
  refine wL (OpA.m ?_)
  refine wG (OpA.m ?_)
  refine wG (OpA.eql rfl rfl rfl ?_)
  refine wG (OpA.m ?_)
  refine wpL_split (s := 137) rfl (fun b18 => ?_) (fun b18 => ?_)
  refine wG (OpA.m ?_)
  refine wG (OpA.makeFunc rfl ?_)
  refine wG (OpA.call_snap rfl rfl rfl en37 (.same rfl (.fn .nil (.ptrp rfl (.tail (.tail (.tail .head))) rfl .nil) .nil)) (cfTx_c l 42 [] [.iptr (encText t) 0] (fun (x0_ : Text) => (decide (x0_.path = t.path))) (fun (x0_ : Text) => True) en42 (fun x0_ _ => order3_c x0_ t ) ((q2 (.inl (beqF b15))) (beqT b18)).1 ((q2 (.inl (beqF b15))) (beqT b18)).2) (by rintro _ rfl; exact .inr (.v _)) ?_)
  rintro _ rfl
  refine wG (OpA.p ?_)
  refine wL (OpA.p ?_)
  refine wL (OpA.a ?_)
  refine wpL_nil ?_
  exact ⟨(Cov.asg ⟨rfl, rfl, (congrArg D.b (Eq.symm (orN (andS b15) (andN b18 rfl)))), rfl, rfl, trivial⟩), (.refl _)⟩
  iterate 3 refine wS ?_
  refine wG (OpA.p ?_)
  refine wL (OpA.p ?_)
  refine wL (OpA.a ?_)
  refine wpL_nil ?_
  exact ⟨(Cov.asg ⟨rfl, rfl, (congrArg D.b (Eq.symm (orN (andS b15) (andS b18)))), rfl, rfl, trivial⟩), (.refl _)⟩
  show wpA _ _ _ _ (asg [(0, (encL 2 encText) l), (6, .ptr c1 2 0 0), (10, D.b (((((addF ((makeF l grams width).1) t).2) == 1) && (!(validT t))) || ((((addF ((makeF l grams width).1) t).2) == 6) && (l.any (fun (x0_ : Text) => (decide (x0_.path = t.path))))))), (14, .ptr c9 4 0 0), (22, .ptr c13 4 0 0)]) [(c13, .cells 4 [encCorpus ((addF ((makeF l grams width).1) t).1)]), (c10, .cells 4 [encCorpus ((makeF (lawOrder_e0 l turn) grams width).1)]), (c9, .cells 4 [encCorpus ((makeF l grams width).1)]), (c1, .cells 2 [encText t])]
  refine wpA_ret ?_
  exact ⟨_, (.tmp (d := D.b (((((addF ((makeF l grams width).1) t).2) == 1) && (!(validT t))) || ((((addF ((makeF l grams width).1) t).2) == 6) && (l.any (fun (x0_ : Text) => (decide (x0_.path = t.path))))))) rfl .nil), _, (.same rfl .nil), ⟨(((((addF ((makeF l grams width).1) t).2) == 1) && (!(validT t))) || ((((addF ((makeF l grams width).1) t).2) == 6) && (l.any (fun (x0_ : Text) => (decide (x0_.path = t.path)))))), rfl, h⟩⟩
  have h := h.2 (bneF b14)
  refine wpA_skip ?_
  refine wpA_seq ?_
  obtain ⟨q1, q2, h⟩ := h
  refine wpA_region ?_
  refine wL (OpA.load_whole rfl ti25 rfl rfl .head rfl ⟨_, rfl⟩ ?_)
  refine wL (OpA.fieldAddr rfl tf36_0 rfl ?_)
  refine wL (OpA.load rfl ti9 rfl (.tail (.tail (.tail .head))) rfl rfl ?_)
  refine wL (OpA.call rfl rfl rfl en19 (cdrop_c ((addF ((makeF l grams width).1) t).1) t.path q1 q2) ?_)
  rintro _ rfl
  refine wL (OpA.m ?_)
  iterate 2 refine wL (OpA.extract rfl rfl rfl ?_)
  refine wL (OpA.alloc (sz := 4) (d := .agg ([D.i 0, D.i 0, .v (.slice none 0 0), .v (.slice none 0 0)])) rfl tz25 (fun _ _ => .agg (.cons (.v _) (.cons (.v _) (.cons (.v _) (.cons (.v _) .nil))))) (.of rfl) (fun c19 _ => ?_))
  refine wE (OpA.storeW rfl ti25 rfl (by with_reducible conv => lhs; whnf) (.of rfl) rfl rfl .head ?_)
  refine wL (OpA.a ?_)
  refine wpL_nil ?_
  refine wpA_seq ?_
  obtain ⟨q1, q2, h⟩ := h
  refine wpA_mid (asg [(10, D.b (lawOrder_e1 l grams width t))]) [(c19, .cells 4 [encCorpus ((dropF ((addF ((makeF l grams width).1) t).1) t.path).1)]), (c13, .cells 4 [encCorpus ((addF ((makeF l grams width).1) t).1)]), (c10, .cells 4 [encCorpus ((makeF (lawOrder_e0 l turn) grams width).1)]), (c9, .cells 4 [encCorpus ((makeF l grams width).1)]), (c1, .cells 2 [encText t])] ?_ ?_
  refine wpA_region ?_
  refine wL (OpA.m ?_)
  refine wL (OpA.eql rfl rfl rfl ?_)
  refine wL (OpA.m ?_)
  refine wpL_split (s := 152) rfl (fun b20 => ?_) (fun b20 => ?_)
  refine wG (OpA.load_whole rfl ti25 rfl rfl .head rfl ⟨_, rfl⟩ ?_)
  refine wG (OpA.load_whole rfl ti25 rfl rfl (.tail (.tail (.tail .head))) rfl ⟨_, rfl⟩ ?_)
  refine wG (OpA.call rfl rfl rfl en15 (c26samec_c ((dropF ((addF ((makeF l grams width).1) t).1) t.path).1) ((makeF l grams width).1) (q1 (beqT b20))) ?_)
  rintro _ rfl
  refine wL (OpA.p ?_)
  refine wL (OpA.m ?_)
  refine wpL_split (s := 157) rfl (fun b21 => ?_) (fun b21 => ?_)
  refine wG (OpA.fieldAddr rfl tf25_2 rfl ?_)
  refine wG (OpA.load rfl ti22 rfl (.tail .head) rfl rfl ?_)
  refine wG (OpA.len rfl rfl rfl rfl ts22.desc (.inl ⟨_, _, rfl, (List.length_map _).symm⟩) ?_)
  refine wG (OpA.m ?_)
  refine wG (OpA.len rfl rfl rfl rfl ts22.desc (.inl ⟨_, _, rfl, (List.length_map _).symm⟩) ?_)
  refine wG (OpA.addi rfl rfl rfl (q2 ⟨(beqT b20), b21⟩) ?_)
  refine wG (OpA.eql rfl rfl rfl ?_)
  refine wL (OpA.p ?_)
  refine wL (OpA.a ?_)
  refine wpL_nil ?_
  exact ⟨(Cov.asg ⟨(congrArg D.b (Eq.symm (andN (andN b20 b21) rfl))), trivial⟩), (.refl _)⟩
  iterate 7 refine wS ?_
  refine wL (OpA.p ?_)
  refine wL (OpA.a ?_)
  refine wpL_nil ?_
  exact ⟨(Cov.asg ⟨(congrArg D.b (Eq.symm (andS (andN b20 b21)))), trivial⟩), (.refl _)⟩
  iterate 3 refine wS ?_
  refine wL (OpA.p ?_)
  refine wL (OpA.m ?_)
  iterate 7 refine wS ?_
  refine wL (OpA.p ?_)
  refine wL (OpA.a ?_)
  refine wpL_nil ?_
  exact ⟨(Cov.asg ⟨(congrArg D.b (Eq.symm (andS (andS b20)))), trivial⟩), (.refl _)⟩
  show wpA _ _ _ _ (asg [(10, D.b (lawOrder_e1 l grams width t))]) [(c19, .cells 4 [encCorpus ((dropF ((addF ((makeF l grams width).1) t).1) t.path).1)]), (c13, .cells 4 [encCorpus ((addF ((makeF l grams width).1) t).1)]), (c10, .cells 4 [encCorpus ((makeF (lawOrder_e0 l turn) grams width).1)]), (c9, .cells 4 [encCorpus ((makeF l grams width).1)]), (c1, .cells 2 [encText t])]
  refine wpA_ret ?_
  exact ⟨_, (.tmp (d := D.b (lawOrder_e1 l grams width t)) rfl .nil), _, (.same rfl .nil), ⟨(lawOrder_e1 l grams width t), rfl, h⟩⟩
theorem lawOrder_c (l : (List Text)) (t : Text) (grams : Int) (width : Int) (turn : Int)  (hp0 : inL grams 256) (hp1 : inL width 256) (hp2 : inL turn 256) : Fun false Tryz.prog 8 [(encL 2 encText) l, encText t, (D.k .u8) grams, (D.k .u8) width, (D.k .u8) turn] (fun d => d = D.b (true)) :=
  Fun.at (enc := fun r => D.b r) (v := true) (lawOrder_w l t grams width turn  (fun r => r = true) (lawOrder_ok l t grams width turn _ hp0 hp1 hp2 rfl))
end Go.Proofs.YtkoomieafmjjfaaGreatDoor
