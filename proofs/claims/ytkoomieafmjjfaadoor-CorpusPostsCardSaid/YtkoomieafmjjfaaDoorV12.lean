/-
  walks and contracts
-/
import Derived.Test.YtkoomieafmjjfaaDoorV8
import Derived.Test.YtkoomieafmjjfaaDoorCwP
set_option linter.all false
namespace Go.Proofs.YtkoomieafmjjfaaDoor
open Go Go.Lic Go.Sort Go.Proofs
attribute [local irreducible] addF addP badR blankF checkF cmpB cmpI codeF countF fewC fewTs fewW findP findT gramsF growTF hashF indexF lenF mul64F mulP nearC nearF newF orF partF pathF postCmp postsF powF printsF pushF rollF selectF sizeF splitF splitG validT



set_option maxHeartbeats 2000000 in
set_option maxRecDepth 10000 in
theorem ixPo_w (s_ : (List Pst)) (g_p : Nat) (fs_p cs_p : List D) (p : Pst → Bool) (pD : Pst → Prop) (hen_p : entersB Tryd.prog g_p = true) (hg_p : ∀ x0_, pD x0_ → Fun false Tryd.prog g_p (fs_p ++ [encPst x0_] ++ cs_p) (fun d => d = D.b (p x0_))) (Q : Int → Prop) (h : ixPo_vc s_ p pD Q) : Fun false Tryd.prog 25 [(encL 3 encPst) s_, .fn (.func g_p) fs_p cs_p] (fun d => ∃ r, d = D.i r ∧ Q r) := by
  unfold ixPo_vc at h
  refine Fun.of_body Tryd.func25 rfl Tryd.ntmps25 rfl ?_
  refine wpA_seq ?_
  refine wpA_region ?_
  refine wL (OpA.a ?_)
  refine wpL_nil ?_
  iterate 2 refine wpA_seq ?_
  refine wpA_region ?_
  refine wL (OpA.m ?_)
  refine wL (OpA.len rfl rfl rfl rfl ts23.desc (.inl ⟨_, _, rfl, (List.length_map _).symm⟩) ?_)
  refine wL (OpA.m ?_)
  refine wpL_nil ?_
  refine wpA_block ?_
  refine wpA_lfp (S := Int) (G := Unit) () (fun gg ss => asg [(0, (encL 3 encPst) s_), (1, .fn (.func g_p) fs_p cs_p), (4, D.i 0), (7, D.i (s_.length : Int)), (8, D.i ss)]) (fun gg ss => []) h (Cov.asg ⟨rfl, rfl, rfl, rfl, rfl, trivial⟩) (.refl _) ?_
  rintro again1 _ x h
  have h : ixPo_L1 s_ p pD Q again1 x := h
  unfold ixPo_L1 at h
  show wpA _ _ _ _ (asg [(0, (encL 3 encPst) s_), (1, .fn (.func g_p) fs_p cs_p), (4, D.i 0), (7, D.i (s_.length : Int)), (8, D.i x)]) []
  refine wpA_seq ?_
  refine wpA_region ?_
  refine wL (OpA.lss rfl rfl rfl ?_)
  refine wpL_nil ?_
  refine wpA_seq ?_
  refine wpA_cond rfl (fun b2 => ?_) (fun b2 => ?_)
  have h := h.1 (decT b2)
  refine wpA_skip ?_
  refine wpA_seq ?_
  refine wpA_block ?_
  refine wpA_seq ?_
  refine wpA_region ?_
  refine wL (OpA.m ?_)
  refine wL (OpA.a ?_)
  refine wpL_nil ?_
  refine wpA_seq ?_
  obtain ⟨q1, q2, h⟩ := h
  refine wpA_region ?_
  iterate 3 refine wL (OpA.m ?_)
  refine wL (OpA.iixV (enc := encPst) rfl ts23 rfl rfl rfl q1 ?_)
  refine wL (OpA.iload_whole rfl ti40 rfl ⟨_, rfl, rfl⟩ ?_)
  refine wL (OpA.call rfl rfl rfl hen_p (hg_p (gi s_ x) q2) ?_)
  rintro _ rfl
  refine wpL_nil ?_
  refine wpA_cond rfl (fun b3 => ?_) (fun b3 => ?_)
  have h := h.1 b3
  refine wpA_seq ?_
  refine wpA_region ?_
  refine wL (OpA.m ?_)
  refine wL (OpA.a ?_)
  refine wpL_nil ?_
  refine wpA_ret ?_
  exact ⟨_, (.tmp (d := D.i x) rfl .nil), _, (.same rfl .nil), ⟨x, rfl, h⟩⟩
  have h := h.2 b3
  refine wpA_skip ?_
  obtain ⟨q1, h⟩ := h
  refine wpA_region ?_
  refine wL (OpA.addi rfl rfl rfl q1 ?_)
  refine wL (OpA.m ?_)
  refine wpL_nil ?_
  exact ⟨(), (x + 1), h, (Cov.asg ⟨rfl, rfl, rfl, rfl, rfl, trivial⟩), (.refl _)⟩
  have h := h.2 (decF b2)
  refine wpA_exit ?_
  refine wpA_seq ?_
  refine wpA_region ?_
  refine wL (OpA.a ?_)
  refine wpL_nil ?_
  refine wpA_ret ?_
  exact ⟨_, (.tmp (d := D.i (-1)) rfl .nil), _, (.same rfl .nil), ⟨(-1), rfl, h⟩⟩
theorem ixPo_c (s_ : (List Pst)) (g_p : Nat) (fs_p cs_p : List D) (p : Pst → Bool) (pD : Pst → Prop) (hen_p : entersB Tryd.prog g_p = true) (hg_p : ∀ x0_, pD x0_ → Fun false Tryd.prog g_p (fs_p ++ [encPst x0_] ++ cs_p) (fun d => d = D.b (p x0_))) (hp0 : s_.length ≤ 9223372036854775807) (hp1 : ∀ z_ ∈ s_, pD z_) : Fun false Tryd.prog 25 [(encL 3 encPst) s_, .fn (.func g_p) fs_p cs_p] (fun d => d = D.i ((idxOf p s_))) :=
  Fun.at (enc := fun r => D.i r) (v := (idxOf p s_)) (ixPo_w s_ g_p fs_p cs_p p pD hen_p hg_p (fun r => r = (idxOf p s_)) (ixPo_ok s_ p pD _ hp0 hp1 rfl))

set_option maxHeartbeats 2000000 in
set_option maxRecDepth 10000 in
theorem cfPo_w (s_ : (List Pst)) (g_p : Nat) (fs_p cs_p : List D) (p : Pst → Bool) (pD : Pst → Prop) (hen_p : entersB Tryd.prog g_p = true) (hg_p : ∀ x0_, pD x0_ → Fun false Tryd.prog g_p (fs_p ++ [encPst x0_] ++ cs_p) (fun d => d = D.b (p x0_))) (Q : Bool → Prop) (h : cfPo_vc s_ p pD Q) : Fun false Tryd.prog 10 [(encL 3 encPst) s_, .fn (.func g_p) fs_p cs_p] (fun d => ∃ r, d = D.b r ∧ Q r) := by
  unfold cfPo_vc at h
  refine Fun.of_body Tryd.func10 rfl Tryd.ntmps10 rfl ?_
  refine wpA_seq ?_
  refine wpA_region ?_
  refine wL (OpA.a ?_)
  refine wpL_nil ?_
  refine wpA_seq ?_
  obtain ⟨q1, q2, h⟩ := h
  refine wpA_region ?_
  iterate 2 refine wL (OpA.m ?_)
  refine wL (OpA.call rfl rfl rfl en25 (ixPo_c s_ g_p fs_p cs_p p pD hen_p hg_p q1 q2) ?_)
  rintro _ rfl
  refine wL (OpA.geq rfl rfl rfl ?_)
  refine wL (OpA.a ?_)
  refine wpL_nil ?_
  refine wpA_ret ?_
  exact ⟨_, (.tmp (d := D.b (decide ((idxOf p s_) ≥ 0))) rfl .nil), _, (.same rfl .nil), ⟨(decide ((idxOf p s_) ≥ 0)), rfl, h⟩⟩
theorem cfPo_c (s_ : (List Pst)) (g_p : Nat) (fs_p cs_p : List D) (p : Pst → Bool) (pD : Pst → Prop) (hen_p : entersB Tryd.prog g_p = true) (hg_p : ∀ x0_, pD x0_ → Fun false Tryd.prog g_p (fs_p ++ [encPst x0_] ++ cs_p) (fun d => d = D.b (p x0_))) (hp0 : s_.length ≤ 9223372036854775807) (hp1 : ∀ z_ ∈ s_, pD z_) : Fun false Tryd.prog 10 [(encL 3 encPst) s_, .fn (.func g_p) fs_p cs_p] (fun d => d = D.b ((s_.any p))) :=
  Fun.at (enc := fun r => D.b r) (v := (s_.any p)) (cfPo_w s_ g_p fs_p cs_p p pD hen_p hg_p (fun r => r = (s_.any p)) (cfPo_ok s_ p pD _ hp0 hp1 rfl))

set_option maxHeartbeats 2000000 in
set_option maxRecDepth 10000 in
theorem ixPoI_w (s_ : (List Pst)) (v : Pst)  (Q : Int → Prop) (h : ixPoI_vc s_ v Q) : Fun false Tryd.prog 24 [(encL 3 encPst) s_, encPst v] (fun d => ∃ r, d = D.i r ∧ Q r) := by
  unfold ixPoI_vc at h
  refine Fun.of_body Tryd.func24 rfl Tryd.ntmps24 rfl ?_
  refine wpA_seq ?_
  refine wpA_region ?_
  refine wL (OpA.bx (sz := 3) rfl (by with_reducible conv => lhs; whnf) (.of rfl) (fun c1 _ => ?_))
  refine wL (OpA.a ?_)
  refine wpL_nil ?_
  iterate 2 refine wpA_seq ?_
  refine wpA_region ?_
  refine wL (OpA.m ?_)
  refine wL (OpA.len rfl rfl rfl rfl ts23.desc (.inl ⟨_, _, rfl, (List.length_map _).symm⟩) ?_)
  refine wL (OpA.m ?_)
  refine wpL_nil ?_
  refine wpA_block ?_
  refine wpA_lfp (S := Int) (G := Unit) () (fun gg ss => asg [(0, (encL 3 encPst) s_), (3, .ptr c1 3 0 0), (4, D.i 0), (7, D.i (s_.length : Int)), (8, D.i ss)]) (fun gg ss => [(c1, .cells 3 [encPst v])]) h (Cov.asg ⟨rfl, rfl, rfl, rfl, rfl, trivial⟩) (.refl _) ?_
  rintro again2 _ x h
  have h : ixPoI_L1 s_ v Q again2 x := h
  unfold ixPoI_L1 at h
  show wpA _ _ _ _ (asg [(0, (encL 3 encPst) s_), (3, .ptr c1 3 0 0), (4, D.i 0), (7, D.i (s_.length : Int)), (8, D.i x)]) [(c1, .cells 3 [encPst v])]
  refine wpA_seq ?_
  refine wpA_region ?_
  refine wL (OpA.lss rfl rfl rfl ?_)
  refine wpL_nil ?_
  refine wpA_seq ?_
  refine wpA_cond rfl (fun b3 => ?_) (fun b3 => ?_)
  have h := h.1 (decT b3)
  refine wpA_skip ?_
  refine wpA_seq ?_
  refine wpA_block ?_
  refine wpA_seq ?_
  refine wpA_region ?_
  refine wL (OpA.m ?_)
  refine wL (OpA.a ?_)
  refine wpL_nil ?_
  refine wpA_seq ?_
  obtain ⟨q1, h⟩ := h
  refine wpA_draw (m := 6) mo (by kernel_rfl) rfl ?_
  refine dL (OpA.load_whole rfl ti40 rfl rfl .head rfl ⟨_, rfl⟩ ⟨rfl, rfl⟩) ?_
  iterate 2 refine dL (OpA.m ⟨rfl, rfl⟩) ?_
  refine dL (OpA.iixV (enc := encPst) rfl ts23 rfl rfl rfl q1 ⟨rfl, rfl⟩) ?_
  refine dL (OpA.iload_whole rfl ti40 rfl ⟨_, rfl, rfl⟩ ⟨rfl, rfl⟩) ?_
  refine dL (OpA.structcmp (xs := [.int .i64 v.hash, .int .i64 v.text, .int .i64 v.at_]) (ys := [.int .i64 ((gi s_ x).hash), .int .i64 ((gi s_ x).text), .int .i64 ((gi s_ x).at_)]) (r := (eqPst v (gi s_ x))) rfl eg40 su40.1 su40.2.1 su40.2.2 rfl rfl (.int td3 ti3 rfl rfl (.int td3 ti3 rfl rfl (.int td3 ti3 rfl rfl .nil))) (.inl ⟨rfl, rfl⟩) ⟨rfl, rfl⟩) ?_
  refine DetK.nil ?_
  refine wpL_nil ?_
  refine wpA_cond rfl (fun b4 => ?_) (fun b4 => ?_)
  have h := h.1 b4
  refine wpA_seq ?_
  refine wpA_region ?_
  refine wL (OpA.m ?_)
  refine wL (OpA.a ?_)
  refine wpL_nil ?_
  refine wpA_ret ?_
  exact ⟨_, (.tmp (d := D.i x) rfl .nil), _, (.same rfl .nil), ⟨x, rfl, h⟩⟩
  have h := h.2 b4
  refine wpA_skip ?_
  obtain ⟨q1, h⟩ := h
  refine wpA_region ?_
  refine wL (OpA.addi rfl rfl rfl q1 ?_)
  refine wL (OpA.m ?_)
  refine wpL_nil ?_
  exact ⟨(), (x + 1), h, (Cov.asg ⟨rfl, rfl, rfl, rfl, rfl, trivial⟩), (.refl _)⟩
  have h := h.2 (decF b3)
  refine wpA_exit ?_
  refine wpA_seq ?_
  refine wpA_region ?_
  refine wL (OpA.a ?_)
  refine wpL_nil ?_
  refine wpA_ret ?_
  exact ⟨_, (.tmp (d := D.i (-1)) rfl .nil), _, (.same rfl .nil), ⟨(-1), rfl, h⟩⟩
theorem ixPoI_c (s_ : (List Pst)) (v : Pst)  (hp0 : s_.length ≤ 9223372036854775807) : Fun false Tryd.prog 24 [(encL 3 encPst) s_, encPst v] (fun d => d = D.i ((idxOf (fun z_ => decide (z_ = v)) s_))) :=
  Fun.at (enc := fun r => D.i r) (v := (idxOf (fun z_ => decide (z_ = v)) s_)) (ixPoI_w s_ v  (fun r => r = (idxOf (fun z_ => decide (z_ = v)) s_)) (ixPoI_ok s_ v _ hp0 rfl))

set_option maxHeartbeats 2000000 in
set_option maxRecDepth 10000 in
theorem ctPo_w (s_ : (List Pst)) (v : Pst)  (Q : Bool → Prop) (h : ctPo_vc s_ v Q) : Fun false Tryd.prog 8 [(encL 3 encPst) s_, encPst v] (fun d => ∃ r, d = D.b r ∧ Q r) := by
  unfold ctPo_vc at h
  refine Fun.of_body Tryd.func8 rfl Tryd.ntmps8 rfl ?_
  refine wpA_seq ?_
  refine wpA_region ?_
  refine wL (OpA.bx (sz := 3) rfl (by with_reducible conv => lhs; whnf) (.of rfl) (fun c1 _ => ?_))
  refine wL (OpA.a ?_)
  refine wpL_nil ?_
  refine wpA_seq ?_
  obtain ⟨q1, h⟩ := h
  refine wpA_region ?_
  refine wL (OpA.m ?_)
  refine wL (OpA.load_whole rfl ti40 rfl rfl .head rfl ⟨_, rfl⟩ ?_)
  refine wL (OpA.call rfl rfl rfl en24 (ixPoI_c s_ v q1) ?_)
  rintro _ rfl
  refine wL (OpA.geq rfl rfl rfl ?_)
  refine wL (OpA.a ?_)
  refine wpL_nil ?_
  refine wpA_ret ?_
  exact ⟨_, (.tmp (d := D.b (decide ((idxOf (fun z_ => decide (z_ = v)) s_) ≥ 0))) rfl .nil), _, (.same rfl .nil), ⟨(decide ((idxOf (fun z_ => decide (z_ = v)) s_) ≥ 0)), rfl, h⟩⟩
theorem ctPo_c (s_ : (List Pst)) (v : Pst)  (hp0 : s_.length ≤ 9223372036854775807) : Fun false Tryd.prog 8 [(encL 3 encPst) s_, encPst v] (fun d => d = D.b ((s_.any (fun z_ => decide (z_ = v))))) :=
  Fun.at (enc := fun r => D.b r) (v := (s_.any (fun z_ => decide (z_ = v)))) (ctPo_w s_ v  (fun r => r = (s_.any (fun z_ => decide (z_ = v)))) (ctPo_ok s_ v _ hp0 rfl))

set_option maxHeartbeats 2000000 in
set_option maxRecDepth 10000 in
theorem posts1_w (x : Pst) (p : Pst) (c : Corpus)  (Q : Bool → Prop) (h : posts1_vc x p c Q) : Fun false Tryd.prog 11 [encPst x, .iptr (encPst p) 0, .iptr (encCorpus c) 0] (fun d => ∃ r, d = D.b r ∧ Q r) := by
  unfold posts1_vc at h
  refine Fun.of_body Tryd.func11 rfl Tryd.ntmps11 rfl ?_
  refine wpA_seq ?_
  refine wpA_region ?_
  refine wL (OpA.bx (sz := 3) rfl (by with_reducible conv => lhs; whnf) (.of rfl) (fun c1 _ => ?_))
  refine wL (OpA.a ?_)
  refine wpL_nil ?_
  refine wpA_seq ?_
  obtain ⟨q1, h⟩ := h
  refine wpA_mid (asg [(4, D.b ((x.hash != p.hash) || (!(c.posts.any (fun z_ => decide (z_ = x))))))]) [(c1, .cells 3 [encPst x])] ?_ ?_
  refine wpA_region ?_
  refine wL (OpA.fieldAddr rfl tf40_0 rfl ?_)
  refine wL (OpA.load rfl ti3 rfl .head rfl rfl ?_)
  refine wL (OpA.ifieldAddr rfl tf40_0 rfl ?_)
  refine wL (OpA.iload rfl ti3 rfl rfl ?_)
  refine wL (OpA.neq rfl rfl rfl ?_)
  refine wL (OpA.m ?_)
  refine wpL_split (s := 10) rfl (fun b2 => ?_) (fun b2 => ?_)
  iterate 5 refine wS ?_
  refine wL (OpA.p ?_)
  refine wL (OpA.a ?_)
  refine wpL_nil ?_
  exact ⟨(Cov.asg ⟨(congrArg D.b (Eq.symm (orS b2))), trivial⟩), (.refl _)⟩
  refine wG (OpA.ifieldAddr rfl tf25_3 rfl ?_)
  refine wG (OpA.iload rfl ti23 rfl rfl ?_)
  refine wG (OpA.load_whole rfl ti40 rfl rfl .head rfl ⟨_, rfl⟩ ?_)
  refine wG (OpA.call rfl rfl rfl en8 (ctPo_c c.posts x (q1 (bneF b2))) ?_)
  rintro _ rfl
  refine wG (OpA.not rfl rfl ?_)
  refine wL (OpA.p ?_)
  refine wL (OpA.a ?_)
  refine wpL_nil ?_
  exact ⟨(Cov.asg ⟨(congrArg D.b (Eq.symm (orN b2 rfl))), trivial⟩), (.refl _)⟩
  show wpA _ _ _ _ (asg [(4, D.b ((x.hash != p.hash) || (!(c.posts.any (fun z_ => decide (z_ = x))))))]) [(c1, .cells 3 [encPst x])]
  refine wpA_ret ?_
  exact ⟨_, (.tmp (d := D.b ((x.hash != p.hash) || (!(c.posts.any (fun z_ => decide (z_ = x)))))) rfl .nil), _, (.same rfl .nil), ⟨((x.hash != p.hash) || (!(c.posts.any (fun z_ => decide (z_ = x))))), rfl, h⟩⟩
theorem posts1_c (x : Pst) (p : Pst) (c : Corpus)  (hp0 : c.posts.length ≤ 9223372036854775807) : Fun false Tryd.prog 11 [encPst x, .iptr (encPst p) 0, .iptr (encCorpus c) 0] (fun d => d = D.b ((decide (x.hash ≠ p.hash) || !(c.posts.any fun z_ => decide (z_ = x))))) :=
  Fun.at (enc := fun r => D.b r) (v := (decide (x.hash ≠ p.hash) || !(c.posts.any fun z_ => decide (z_ = x)))) (posts1_w x p c  (fun r => r = (decide (x.hash ≠ p.hash) || !(c.posts.any fun z_ => decide (z_ = x)))) (posts1_ok x p c _ hp0 rfl))

set_option maxHeartbeats 2000000 in
set_option maxRecDepth 10000 in
theorem lawPosts_w (c : Corpus)  (Q : Bool → Prop) (h : lawPosts_vc c Q) : Fun false Tryd.prog 3 [encCorpus c] (fun d => ∃ r, d = D.b r ∧ Q r) := by
  unfold lawPosts_vc at h
  refine Fun.of_body Tryd.func3 rfl Tryd.ntmps3 rfl ?_
  refine wpA_seq ?_
  refine wpA_region ?_
  refine wL (OpA.bx (sz := 4) rfl (by with_reducible conv => lhs; whnf) (.of rfl) (fun c1 _ => ?_))
  refine wL (OpA.a ?_)
  refine wpL_nil ?_
  iterate 2 refine wpA_seq ?_
  refine wpA_region ?_
  refine wL (OpA.call rfl rfl rfl en4 (awake_c  ) ?_)
  rintro _ rfl
  refine wL (OpA.not rfl rfl ?_)
  refine wpL_nil ?_
  refine wpA_cond rfl (fun b2 => ?_) (fun b2 => ?_)
  have h := h.1 (notT b2)
  refine wpA_seq ?_
  refine wpA_region ?_
  refine wL (OpA.a ?_)
  refine wpL_nil ?_
  refine wpA_ret ?_
  exact ⟨_, (.tmp (d := D.b false) rfl .nil), _, (.same rfl .nil), ⟨false, rfl, h⟩⟩
  have h := h.2 (notF b2)
  refine wpA_skip ?_
  iterate 2 refine wpA_seq ?_
  obtain ⟨q1, h⟩ := h
  refine wpA_mid (asg [(1, .ptr c1 4 0 0), (2, D.b false), (22, D.b ((!(fewC c)) || ((checkF c) != 0)))]) [(c1, .cells 4 [encCorpus c])] ?_ ?_
  refine wpA_region ?_
  refine wL (OpA.load_whole rfl ti25 rfl rfl .head rfl ⟨_, rfl⟩ ?_)
  refine wL (OpA.call rfl rfl rfl en5 (c26few_c c ) ?_)
  rintro _ rfl
  refine wL (OpA.not rfl rfl ?_)
  refine wL (OpA.m ?_)
  refine wpL_split (s := 18) rfl (fun b20 => ?_) (fun b20 => ?_)
  iterate 3 refine wS ?_
  refine wL (OpA.p ?_)
  refine wpL_nil ?_
  exact ⟨(Cov.asg ⟨rfl, rfl, (congrArg D.b (Eq.symm (orS b20))), trivial⟩), (.refl _)⟩
  refine wG (OpA.load_whole rfl ti25 rfl rfl .head rfl ⟨_, rfl⟩ ?_)
  refine wG (OpA.call rfl rfl rfl en6 (ccheck_c c (q1 (notF b20))) ?_)
  rintro _ rfl
  refine wG (OpA.neq rfl rfl rfl ?_)
  refine wL (OpA.p ?_)
  refine wpL_nil ?_
  exact ⟨(Cov.asg ⟨rfl, rfl, (congrArg D.b (Eq.symm (orN b20 rfl))), trivial⟩), (.refl _)⟩
  show wpA _ _ _ _ (asg [(1, .ptr c1 4 0 0), (2, D.b false), (22, D.b ((!(fewC c)) || ((checkF c) != 0)))]) [(c1, .cells 4 [encCorpus c])]
  refine wpA_cond rfl (fun b3 => ?_) (fun b3 => ?_)
  have h := h.1 ((or0 b3).imp (fun hh => (notT hh)) (fun hh => (bneT hh)))
  refine wpA_seq ?_
  refine wpA_region ?_
  refine wL (OpA.a ?_)
  refine wpL_nil ?_
  refine wpA_ret ?_
  exact ⟨_, (.tmp (d := D.b true) rfl .nil), _, (.same rfl .nil), ⟨true, rfl, h⟩⟩
  have h := h.2 ⟨(notF (or1 b3)), (bneF (or2 b3))⟩
  refine wpA_skip ?_
  refine wpA_seq ?_
  refine wpA_region ?_
  refine wL (OpA.a ?_)
  refine wpL_nil ?_
  iterate 2 refine wpA_seq ?_
  refine wpA_region ?_
  refine wL (OpA.fieldAddr rfl tf25_2 rfl ?_)
  refine wL (OpA.load rfl ti22 rfl .head rfl rfl ?_)
  refine wL (OpA.len rfl rfl rfl rfl ts22.desc (.inl ⟨_, _, rfl, (List.length_map _).symm⟩) ?_)
  refine wL (OpA.m ?_)
  refine wpL_nil ?_
  refine wpA_block ?_
  refine wpA_lfp (S := Int × Int) (G := Unit) () (fun gg ss => asg [(1, .ptr c1 4 0 0), (2, D.b false), (3, D.i ss.1), (24, (encL 2 encText) c.texts), (25, D.i (c.texts.length : Int)), (26, D.i ss.2)]) (fun gg ss => [(c1, .cells 4 [encCorpus c])]) h (Cov.asg ⟨rfl, rfl, rfl, rfl, rfl, rfl, trivial⟩) (.refl _) ?_
  rintro again4 _ ⟨many, x⟩ h
  have h : lawPosts_L1 c Q again4 many x := h
  unfold lawPosts_L1 at h
  show wpA _ _ _ _ (asg [(1, .ptr c1 4 0 0), (2, D.b false), (3, D.i many), (24, (encL 2 encText) c.texts), (25, D.i (c.texts.length : Int)), (26, D.i x)]) [(c1, .cells 4 [encCorpus c])]
  refine wpA_seq ?_
  refine wpA_region ?_
  refine wL (OpA.lss rfl rfl rfl ?_)
  refine wpL_nil ?_
  refine wpA_seq ?_
  refine wpA_cond rfl (fun b5 => ?_) (fun b5 => ?_)
  have h := h.1 (decT b5)
  refine wpA_skip ?_
  refine wpA_seq ?_
  refine wpA_block ?_
  refine wpA_seq ?_
  obtain ⟨q1, h⟩ := h
  refine wpA_region ?_
  refine wL (OpA.m ?_)
  refine wL (OpA.iixV (enc := encText) rfl ts22 rfl rfl rfl q1 ?_)
  refine wL (OpA.iload_whole rfl ti32 rfl ⟨_, rfl, rfl⟩ ?_)
  refine wL (OpA.alloc (sz := 2) (d := .agg ([D.s ByteArray.empty, .v (.slice none 0 0)])) rfl tz32 (fun _ _ => .agg (.cons (.v _) (.cons (.v _) .nil))) (.of rfl) (fun c6 _ => ?_))
  refine wL (OpA.a ?_)
  refine wE (OpA.storeW rfl ti32 rfl (by with_reducible conv => lhs; whnf) (.of rfl) rfl rfl .head ?_)
  refine wpL_nil ?_
  refine wpA_seq ?_
  obtain ⟨q1, h⟩ := h
  refine wpA_region ?_
  refine wL (OpA.load_whole rfl ti32 rfl rfl .head rfl ⟨_, rfl⟩ ?_)
  refine wL (OpA.fieldAddr rfl tf25_0 rfl ?_)
  refine wL (OpA.load rfl ti3 rfl (.tail .head) rfl rfl ?_)
  refine wL (OpA.fieldAddr rfl tf25_1 rfl ?_)
  refine wL (OpA.load rfl ti3 rfl (.tail .head) rfl rfl ?_)
  refine wL (OpA.call rfl rfl rfl en7 (wprints_c (gi c.texts x) c.k c.w q1) ?_)
  rintro _ rfl
  refine wL (OpA.m ?_)
  iterate 2 refine wL (OpA.extract rfl rfl rfl ?_)
  iterate 2 refine wL (OpA.a ?_)
  refine wpL_nil ?_
  iterate 2 refine wpA_seq ?_
  refine wpA_region ?_
  refine wL (OpA.m ?_)
  refine wL (OpA.neq rfl rfl rfl ?_)
  refine wpL_nil ?_
  refine wpA_cond rfl (fun b7 => ?_) (fun b7 => ?_)
  have h := h.1 (bneT b7)
  refine wpA_seq ?_
  refine wpA_region ?_
  refine wL (OpA.a ?_)
  refine wpL_nil ?_
  refine wpA_ret ?_
  exact ⟨_, (.tmp (d := D.b false) rfl .nil), _, (.same rfl .nil), ⟨false, rfl, h⟩⟩
  have h := h.2 (bneF b7)
  refine wpA_skip ?_
  refine wpA_seq ?_
  obtain ⟨q1, h⟩ := h
  refine wpA_region ?_
  iterate 2 refine wL (OpA.m ?_)
  refine wL (OpA.len rfl rfl rfl rfl ts33.desc (.inl ⟨_, _, rfl, (List.length_map _).symm⟩) ?_)
  refine wL (OpA.addi rfl rfl rfl q1 ?_)
  refine wL (OpA.a ?_)
  refine wpL_nil ?_
  refine wpA_seq ?_
  refine wpA_region ?_
  refine wL (OpA.m ?_)
  refine wL (OpA.len rfl rfl rfl rfl ts33.desc (.inl ⟨_, _, rfl, (List.length_map _).symm⟩) ?_)
  refine wL (OpA.m ?_)
  refine wpL_nil ?_
  refine wpA_block ?_
  refine wpA_lfp (S := Int) (G := Unit) () (fun gg ss => asg [(1, .ptr c1 4 0 0), (2, D.b false), (3, D.i (many + (((printsF (gi c.texts x) c.k c.w).1).length : Int))), (4, D.i x), (24, (encL 2 encText) c.texts), (25, D.i (c.texts.length : Int)), (26, D.i x), (46, (encL 2 encPrint) ((printsF (gi c.texts x) c.k c.w).1)), (47, D.i (((printsF (gi c.texts x) c.k c.w).1).length : Int)), (48, D.i ss)]) (fun gg ss => [(c6, .cells 2 [encText (gi c.texts x)]), (c1, .cells 4 [encCorpus c])]) h (Cov.asg ⟨rfl, rfl, rfl, rfl, rfl, rfl, rfl, rfl, rfl, rfl, trivial⟩) (.refl _) ?_
  rintro again8 _ x1 h
  have h : lawPosts_L2 c many x Q again4 again8 x1 := h
  unfold lawPosts_L2 at h
  show wpA _ _ _ _ (asg [(1, .ptr c1 4 0 0), (2, D.b false), (3, D.i (many + (((printsF (gi c.texts x) c.k c.w).1).length : Int))), (4, D.i x), (24, (encL 2 encText) c.texts), (25, D.i (c.texts.length : Int)), (26, D.i x), (46, (encL 2 encPrint) ((printsF (gi c.texts x) c.k c.w).1)), (47, D.i (((printsF (gi c.texts x) c.k c.w).1).length : Int)), (48, D.i x1)]) [(c6, .cells 2 [encText (gi c.texts x)]), (c1, .cells 4 [encCorpus c])]
  refine wpA_seq ?_
  refine wpA_region ?_
  refine wL (OpA.lss rfl rfl rfl ?_)
  refine wpL_nil ?_
  refine wpA_seq ?_
  refine wpA_cond rfl (fun b9 => ?_) (fun b9 => ?_)
  have h := h.1 (decT b9)
  refine wpA_skip ?_
  refine wpA_seq ?_
  refine wpA_block ?_
  refine wpA_seq ?_
  obtain ⟨q1, h⟩ := h
  refine wpA_region ?_
  refine wL (OpA.iixV (enc := encPrint) rfl ts33 rfl rfl rfl q1 ?_)
  refine wL (OpA.iload_whole rfl ti37 rfl ⟨_, rfl, rfl⟩ ?_)
  refine wL (OpA.alloc (sz := 2) (d := encPrint (Print.mk 0 0)) rfl tz37 (fun _ _ => .agg (.cons (.v _) (.cons (.v _) .nil))) (.of rfl) (fun c10 _ => ?_))
  refine wE (OpA.storeW rfl ti37 rfl (by with_reducible conv => lhs; whnf) (.of rfl) rfl rfl .head ?_)
  refine wpL_nil ?_
  refine wpA_seq ?_
  obtain ⟨q1, q2, h⟩ := h
  refine wpA_draw (m := 12) mo (by kernel_rfl) rfl ?_
  refine dL (OpA.load_whole rfl ti25 rfl rfl (.tail (.tail .head)) rfl ⟨_, rfl⟩ ⟨rfl, rfl⟩) ?_
  refine dL (OpA.fieldAddr rfl tf37_0 rfl ⟨rfl, rfl⟩) ?_
  refine dL (OpA.load rfl ti3 rfl .head rfl rfl ⟨rfl, rfl⟩) ?_
  refine dL (OpA.call rfl rfl rfl en9 (cfindp_c c ((gi ((printsF (gi c.texts x) c.k c.w).1) x1).hash) q1) (by rintro _ rfl; exact ⟨rfl, rfl⟩)) ?_
  refine dL (OpA.fieldAddr rfl tf37_0 rfl ⟨rfl, rfl⟩) ?_
  refine dL (OpA.load rfl ti3 rfl .head rfl rfl ⟨rfl, rfl⟩) ?_
  refine dL (OpA.m ⟨rfl, rfl⟩) ?_
  refine dL (OpA.fieldAddr rfl tf37_1 rfl ⟨rfl, rfl⟩) ?_
  refine dL (OpA.load rfl ti3 rfl .head rfl rfl ⟨rfl, rfl⟩) ?_
  refine dL (OpA.buildO (zs := [.v (.int .i64 0), .v (.int .i64 0), .v (.int .i64 0)]) rfl tp40 tz40 (fun _ _ => (.cons (.v _) (.cons (.v _) (.cons (.v _) .nil)))) (.cons (.of (sz := 1) rfl) (.cons (.of (sz := 1) rfl) (.cons (.of (sz := 1) rfl) .nil))) rfl ⟨rfl, rfl⟩) ?_
  refine dL (OpA.call rfl rfl rfl en8 (ctPo_c (findP c ((gi ((printsF (gi c.texts x) c.k c.w).1) x1).hash)) (Pst.mk ((gi ((printsF (gi c.texts x) c.k c.w).1) x1).hash) x ((gi ((printsF (gi c.texts x) c.k c.w).1) x1).at_)) q2) (by rintro _ rfl; exact ⟨rfl, rfl⟩)) ?_
  refine dL (OpA.not rfl rfl ⟨rfl, rfl⟩) ?_
  refine DetK.nil ?_
  refine wpL_nil ?_
  refine wpA_cond rfl (fun b11 => ?_) (fun b11 => ?_)
  have h := h.1 (notT b11)
  refine wpA_seq ?_
  refine wpA_region ?_
  refine wL (OpA.a ?_)
  refine wpL_nil ?_
  refine wpA_ret ?_
  exact ⟨_, (.tmp (d := D.b false) rfl .nil), _, (.same rfl .nil), ⟨false, rfl, h⟩⟩
  have h := h.2 (notF b11)
  refine wpA_skip ?_
  obtain ⟨q1, h⟩ := h
  refine wpA_region ?_
  refine wL (OpA.addi rfl rfl rfl q1 ?_)
  refine wL (OpA.m ?_)
  refine wpL_nil ?_
  exact ⟨(), (x1 + 1), h, (Cov.asg ⟨rfl, rfl, rfl, rfl, rfl, rfl, rfl, rfl, rfl, rfl, trivial⟩), (.cons _ (.refl _))⟩
  have h := h.2 (decF b9)
  refine wpA_exit ?_
  obtain ⟨q1, h⟩ := h
  refine wpA_region ?_
  refine wL (OpA.addi rfl rfl rfl q1 ?_)
  refine wL (OpA.m ?_)
  refine wpL_nil ?_
  exact ⟨(), ((many + (((printsF (gi c.texts x) c.k c.w).1).length : Int)), (x + 1)), h, (Cov.asg ⟨rfl, rfl, rfl, rfl, rfl, rfl, trivial⟩), (.cons _ (.refl _))⟩
  have h := h.2 (decF b5)
  refine wpA_exit ?_
  iterate 2 refine wpA_seq ?_
  refine wpA_region ?_
  refine wL (OpA.m ?_)
  refine wL (OpA.fieldAddr rfl tf25_3 rfl ?_)
  refine wL (OpA.load rfl ti23 rfl .head rfl rfl ?_)
  refine wL (OpA.len rfl rfl rfl rfl ts23.desc (.inl ⟨_, _, rfl, (List.length_map _).symm⟩) ?_)
  refine wL (OpA.neq rfl rfl rfl ?_)
  refine wpL_nil ?_
  refine wpA_cond rfl (fun b12 => ?_) (fun b12 => ?_)
  have h := h.1 (bneT b12)
  refine wpA_seq ?_
  refine wpA_region ?_
  refine wL (OpA.a ?_)
  refine wpL_nil ?_
  refine wpA_ret ?_
  exact ⟨_, (.tmp (d := D.b false) rfl .nil), _, (.same rfl .nil), ⟨false, rfl, h⟩⟩
  have h := h.2 (bneF b12)
  refine wpA_skip ?_
  iterate 2 refine wpA_seq ?_
  refine wpA_region ?_
  refine wL (OpA.fieldAddr rfl tf25_3 rfl ?_)
  refine wL (OpA.load rfl ti23 rfl .head rfl rfl ?_)
  refine wL (OpA.len rfl rfl rfl rfl ts23.desc (.inl ⟨_, _, rfl, (List.length_map _).symm⟩) ?_)
  refine wL (OpA.m ?_)
  refine wpL_nil ?_
  refine wpA_block ?_
  refine wpA_lfp (S := Int) (G := Unit) () (fun gg ss => asg [(1, .ptr c1 4 0 0), (2, D.b false), (72, (encL 3 encPst) c.posts), (73, D.i (c.posts.length : Int)), (74, D.i ss)]) (fun gg ss => [(c1, .cells 4 [encCorpus c])]) h (Cov.asg ⟨rfl, rfl, rfl, rfl, rfl, trivial⟩) (.refl _) ?_
  rintro again13 _ x2 h
  have h : lawPosts_L3 c Q again13 x2 := h
  unfold lawPosts_L3 at h
  show wpA _ _ _ _ (asg [(1, .ptr c1 4 0 0), (2, D.b false), (72, (encL 3 encPst) c.posts), (73, D.i (c.posts.length : Int)), (74, D.i x2)]) [(c1, .cells 4 [encCorpus c])]
  refine wpA_seq ?_
  refine wpA_region ?_
  refine wL (OpA.lss rfl rfl rfl ?_)
  refine wpL_nil ?_
  refine wpA_seq ?_
  refine wpA_cond rfl (fun b14 => ?_) (fun b14 => ?_)
  have h := h.1 (decT b14)
  refine wpA_skip ?_
  refine wpA_seq ?_
  refine wpA_block ?_
  refine wpA_seq ?_
  obtain ⟨q1, h⟩ := h
  refine wpA_region ?_
  refine wL (OpA.m ?_)
  refine wL (OpA.iixV (enc := encPst) rfl ts23 rfl rfl rfl q1 ?_)
  refine wL (OpA.iload_whole rfl ti40 rfl ⟨_, rfl, rfl⟩ ?_)
  refine wL (OpA.alloc (sz := 3) (d := encPst (Pst.mk 0 0 0)) rfl tz40 (fun _ _ => .agg (.cons (.v _) (.cons (.v _) (.cons (.v _) .nil)))) (.of rfl) (fun c15 _ => ?_))
  refine wL (OpA.a ?_)
  refine wE (OpA.storeW rfl ti40 rfl (by with_reducible conv => lhs; whnf) (.of rfl) rfl rfl .head ?_)
  refine wpL_nil ?_
  refine wpA_seq ?_
  obtain ⟨q1, h⟩ := h
  refine wpA_region ?_
  refine wL (OpA.load_whole rfl ti25 rfl rfl (.tail .head) rfl ⟨_, rfl⟩ ?_)
  refine wL (OpA.fieldAddr rfl tf40_0 rfl ?_)
  refine wL (OpA.load rfl ti3 rfl .head rfl rfl ?_)
  refine wL (OpA.call rfl rfl rfl en9 (cfindp_c c ((gi c.posts x2).hash) q1) ?_)
  rintro _ rfl
  refine wL (OpA.a ?_)
  refine wpL_nil ?_
  iterate 2 refine wpA_seq ?_
  obtain ⟨q1, h⟩ := h
  refine wpA_mid (asg [(1, .ptr c1 4 0 0), (2, D.b false), (10, D.i x2), (11, .ptr c15 3 0 0), (72, (encL 3 encPst) c.posts), (73, D.i (c.posts.length : Int)), (74, D.i x2), (90, D.b ((((findP c ((gi c.posts x2).hash)).length : Int) == 0) || ((findP c ((gi c.posts x2).hash)).any (fun (x0_ : Pst) => (decide (x0_.hash ≠ (gi c.posts x2).hash) || !(c.posts.any fun z_ => decide (z_ = x0_)))))))]) [(c15, .cells 3 [encPst (gi c.posts x2)]), (c1, .cells 4 [encCorpus c])] ?_ ?_
  refine wpA_region ?_
  refine wL (OpA.m ?_)
  refine wL (OpA.len rfl rfl rfl rfl ts23.desc (.inl ⟨_, _, rfl, (List.length_map _).symm⟩) ?_)
  refine wL (OpA.eql rfl rfl rfl ?_)
  refine wL (OpA.m ?_)
  refine wpL_split (s := 86) rfl (fun b19 => ?_) (fun b19 => ?_)
  iterate 3 refine wS ?_
  refine wL (OpA.p ?_)
  refine wpL_nil ?_
  exact ⟨(Cov.asg ⟨rfl, rfl, rfl, rfl, rfl, rfl, rfl, (congrArg D.b (Eq.symm (orS b19))), trivial⟩), (.refl _)⟩
  refine wG (OpA.m ?_)
  refine wG (OpA.makeFunc rfl ?_)
  refine wG (OpA.call_snap rfl rfl rfl en10 (.same rfl (.fn .nil (.ptrp rfl .head rfl (.ptrp rfl (.tail .head) rfl .nil)) .nil)) (cfPo_c (findP c ((gi c.posts x2).hash)) 11 [] [.iptr (encPst (gi c.posts x2)) 0, .iptr (encCorpus c) 0] (fun (x0_ : Pst) => (decide (x0_.hash ≠ (gi c.posts x2).hash) || !(c.posts.any fun z_ => decide (z_ = x0_)))) (fun (x0_ : Pst) => c.posts.length ≤ 9223372036854775807) en11 (fun x0_ hh => posts1_c x0_ (gi c.posts x2) c hh) (q1 (beqF b19)).1 (q1 (beqF b19)).2) (by rintro _ rfl; exact .inr (.v _)) ?_)
  rintro _ rfl
  refine wL (OpA.p ?_)
  refine wpL_nil ?_
  exact ⟨(Cov.asg ⟨rfl, rfl, rfl, rfl, rfl, rfl, rfl, (congrArg D.b (Eq.symm (orN b19 rfl))), trivial⟩), (.refl _)⟩
  show wpA _ _ _ _ (asg [(1, .ptr c1 4 0 0), (2, D.b false), (10, D.i x2), (11, .ptr c15 3 0 0), (72, (encL 3 encPst) c.posts), (73, D.i (c.posts.length : Int)), (74, D.i x2), (90, D.b ((((findP c ((gi c.posts x2).hash)).length : Int) == 0) || ((findP c ((gi c.posts x2).hash)).any (fun (x0_ : Pst) => (decide (x0_.hash ≠ (gi c.posts x2).hash) || !(c.posts.any fun z_ => decide (z_ = x0_)))))))]) [(c15, .cells 3 [encPst (gi c.posts x2)]), (c1, .cells 4 [encCorpus c])]
  refine wpA_cond rfl (fun b16 => ?_) (fun b16 => ?_)
  have h := h.1 ((or0 b16).imp (fun hh => (beqT hh)) (fun hh => hh))
  refine wpA_seq ?_
  refine wpA_region ?_
  refine wL (OpA.a ?_)
  refine wpL_nil ?_
  refine wpA_ret ?_
  exact ⟨_, (.tmp (d := D.b false) rfl .nil), _, (.same rfl .nil), ⟨false, rfl, h⟩⟩
  have h := h.2 ⟨(beqF (or1 b16)), (or2 b16)⟩
  refine wpA_skip ?_
  refine wpA_seq ?_
  obtain ⟨q1, h⟩ := h
  refine wpA_mid (asg [(1, .ptr c1 4 0 0), (2, D.b false), (72, (encL 3 encPst) c.posts), (73, D.i (c.posts.length : Int)), (74, D.i x2), (104, D.b ((decide (x2 > 0)) && (decide ((gi c.posts (x2 - 1)).hash > (gi c.posts x2).hash))))]) [(c15, .cells 3 [encPst (gi c.posts x2)]), (c1, .cells 4 [encCorpus c])] ?_ ?_
  refine wpA_draw (m := 14) mo (by kernel_rfl) rfl ?_
  refine dL (OpA.m ⟨rfl, rfl⟩) ?_
  refine dL (OpA.gtr rfl rfl rfl ⟨rfl, rfl⟩) ?_
  refine dL (OpA.m ⟨rfl, rfl⟩) ?_
  refine DetK_split (s := 93) rfl (fun b18 => ?_) (fun b18 => ?_)
  refine dG (OpA.fieldAddr rfl tf25_3 rfl ⟨rfl, rfl⟩) ?_
  refine dG (OpA.load rfl ti23 rfl (.tail .head) rfl rfl ⟨rfl, rfl⟩) ?_
  refine dG (OpA.m ⟨rfl, rfl⟩) ?_
  refine dG (OpA.subi rfl rfl rfl (q1 (decT b18)).1 ⟨rfl, rfl⟩) ?_
  refine dG (OpA.iixV (enc := encPst) rfl ts23 rfl rfl rfl (q1 (decT b18)).2 ⟨rfl, rfl⟩) ?_
  refine dG (OpA.ifieldAddr rfl tf40_0 rfl ⟨rfl, rfl⟩) ?_
  refine dG (OpA.iload rfl ti3 rfl rfl ⟨rfl, rfl⟩) ?_
  refine dG (OpA.fieldAddr rfl tf40_0 rfl ⟨rfl, rfl⟩) ?_
  refine dG (OpA.load rfl ti3 rfl .head rfl rfl ⟨rfl, rfl⟩) ?_
  refine dG (OpA.gtr rfl rfl rfl ⟨rfl, rfl⟩) ?_
  refine dL (OpA.p ⟨rfl, rfl⟩) ?_
  refine DetK.nil ?_
  refine wpL_nil ?_
  exact ⟨(Cov.asg ⟨rfl, rfl, rfl, rfl, rfl, (congrArg D.b (Eq.symm (andN b18 rfl))), trivial⟩), (.refl _)⟩
  iterate 10 refine dS ?_
  refine dL (OpA.p ⟨rfl, rfl⟩) ?_
  refine DetK.nil ?_
  refine wpL_nil ?_
  exact ⟨(Cov.asg ⟨rfl, rfl, rfl, rfl, rfl, (congrArg D.b (Eq.symm (andS b18))), trivial⟩), (.refl _)⟩
  show wpA _ _ _ _ (asg [(1, .ptr c1 4 0 0), (2, D.b false), (72, (encL 3 encPst) c.posts), (73, D.i (c.posts.length : Int)), (74, D.i x2), (104, D.b ((decide (x2 > 0)) && (decide ((gi c.posts (x2 - 1)).hash > (gi c.posts x2).hash))))]) [(c15, .cells 3 [encPst (gi c.posts x2)]), (c1, .cells 4 [encCorpus c])]
  refine wpA_cond rfl (fun b17 => ?_) (fun b17 => ?_)
  have h := h.1 ⟨(decT (and1 b17)), (decT (and2 b17))⟩
  refine wpA_seq ?_
  refine wpA_region ?_
  refine wL (OpA.a ?_)
  refine wpL_nil ?_
  refine wpA_ret ?_
  exact ⟨_, (.tmp (d := D.b false) rfl .nil), _, (.same rfl .nil), ⟨false, rfl, h⟩⟩
  have h := h.2 ((and0 b17).imp (fun hh => (decF hh)) (fun hh => (decF hh)))
  refine wpA_skip ?_
  obtain ⟨q1, h⟩ := h
  refine wpA_region ?_
  refine wL (OpA.addi rfl rfl rfl q1 ?_)
  refine wL (OpA.m ?_)
  refine wpL_nil ?_
  exact ⟨(), (x2 + 1), h, (Cov.asg ⟨rfl, rfl, rfl, rfl, rfl, trivial⟩), (.cons _ (.refl _))⟩
  have h := h.2 (decF b14)
  refine wpA_exit ?_
  refine wpA_seq ?_
  refine wpA_region ?_
  refine wL (OpA.a ?_)
  refine wpL_nil ?_
  refine wpA_ret ?_
  exact ⟨_, (.tmp (d := D.b true) rfl .nil), _, (.same rfl .nil), ⟨true, rfl, h⟩⟩
theorem lawPosts_c (c : Corpus)   : Fun false Tryd.prog 3 [encCorpus c] (fun d => d = D.b (true)) :=
  Fun.at (enc := fun r => D.b r) (v := true) (lawPosts_w c  (fun r => r = true) (lawPosts_ok c _  rfl))
end Go.Proofs.YtkoomieafmjjfaaDoor
