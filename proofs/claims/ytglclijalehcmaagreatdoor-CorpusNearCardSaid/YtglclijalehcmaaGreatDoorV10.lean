/-
  walks and contracts
-/
import Derived.Test.YtglclijalehcmaaGreatDoorV8
import Derived.Test.YtglclijalehcmaaGreatDoorCwN
set_option linter.all false
namespace Go.Proofs.YtglclijalehcmaaGreatDoor
open Go Go.Lic Go.Sort Go.Proofs
attribute [local irreducible] addF addP badR blankF checkF cmpB cmpI codeF commonF4 countF fewC fewTs fewW findT gramsF growTF guarF hashF indexF leastF lenF mul64F mulP nameR nearC nearF newF orF partF pathB pathF postCmp postLt postsF powF printsF pushF rollF selectF sizeF splitF splitG validT



set_option maxHeartbeats 2000000 in
set_option maxRecDepth 10000 in
theorem ixPr_w (s_ : (List Print)) (g_p : Nat) (fs_p cs_p : List D) (p : Print → Bool) (pD : Print → Prop) (hen_p : entersB Tryz.prog g_p = true) (hg_p : ∀ x0_, pD x0_ → Fun false Tryz.prog g_p (fs_p ++ [encPrint x0_] ++ cs_p) (fun d => d = D.b (p x0_))) (Q : Int → Prop) (h : ixPr_vc s_ p pD Q) : Fun false Tryz.prog 83 [(encL 2 encPrint) s_, .fn (.func g_p) fs_p cs_p] (fun d => ∃ r, d = D.i r ∧ Q r) := by
  unfold ixPr_vc at h
  refine Fun.of_body Tryz.func83 rfl Tryz.ntmps83 rfl ?_
  refine wpA_seq ?_
  refine wpA_region ?_
  refine wL (OpA.a ?_)
  refine wpL_nil ?_
  iterate 2 refine wpA_seq ?_
  refine wpA_region ?_
  refine wL (OpA.m ?_)
  refine wL (OpA.len rfl rfl rfl rfl ts77.desc (.inl ⟨_, _, rfl, (List.length_map _).symm⟩) ?_)
  refine wL (OpA.m ?_)
  refine wpL_nil ?_
  refine wpA_block ?_
  refine wpA_lfp (S := Int) (G := Unit) () (fun gg ss => asg [(0, (encL 2 encPrint) s_), (1, .fn (.func g_p) fs_p cs_p), (4, D.i 0), (7, D.i (s_.length : Int)), (8, D.i ss)]) (fun gg ss => []) h (Cov.asg ⟨rfl, rfl, rfl, rfl, rfl, trivial⟩) (.refl _) ?_
  rintro again1 _ x h
  have h : ixPr_L1 s_ p pD Q again1 x := h
  unfold ixPr_L1 at h
  show wpA _ _ _ _ (asg [(0, (encL 2 encPrint) s_), (1, .fn (.func g_p) fs_p cs_p), (4, D.i 0), (7, D.i (s_.length : Int)), (8, D.i x)]) []
  refine wpA_seq ?_
  refine wpA_region ?_
  refine wL (OpA.lss rfl rfl rfl ?_)
  refine wpL_nil ?_
  refine wpA_seq ?_
  refine wpA_cond rfl (fun b2 => ?_) (fun b2 => ?_)
  have h := h.1 (decT b2)
  refine wpA_skip ?_
  refine wpA_seq ?_
  refine wpA_block ?_
  refine wpA_seq ?_
  refine wpA_region ?_
  refine wL (OpA.m ?_)
  refine wL (OpA.a ?_)
  refine wpL_nil ?_
  refine wpA_seq ?_
  obtain ⟨q1, q2, h⟩ := h
  refine wpA_region ?_
  iterate 3 refine wL (OpA.m ?_)
  refine wL (OpA.iixV (enc := encPrint) rfl ts77 rfl rfl rfl q1 ?_)
  refine wL (OpA.iload_whole rfl ti83 rfl ⟨_, rfl, rfl⟩ ?_)
  refine wL (OpA.call rfl rfl rfl hen_p (hg_p (gi s_ x) q2) ?_)
  rintro _ rfl
  refine wpL_nil ?_
  refine wpA_cond rfl (fun b3 => ?_) (fun b3 => ?_)
  have h := h.1 b3
  refine wpA_seq ?_
  refine wpA_region ?_
  refine wL (OpA.m ?_)
  refine wL (OpA.a ?_)
  refine wpL_nil ?_
  refine wpA_ret ?_
  exact ⟨_, (.tmp (d := D.i x) rfl .nil), _, (.same rfl .nil), ⟨x, rfl, h⟩⟩
  have h := h.2 b3
  refine wpA_skip ?_
  obtain ⟨q1, h⟩ := h
  refine wpA_region ?_
  refine wL (OpA.addi rfl rfl rfl q1 ?_)
  refine wL (OpA.m ?_)
  refine wpL_nil ?_
  exact ⟨(), (x + 1), h, (Cov.asg ⟨rfl, rfl, rfl, rfl, rfl, trivial⟩), (.refl _)⟩
  have h := h.2 (decF b2)
  refine wpA_exit ?_
  refine wpA_seq ?_
  refine wpA_region ?_
  refine wL (OpA.a ?_)
  refine wpL_nil ?_
  refine wpA_ret ?_
  exact ⟨_, (.tmp (d := D.i (-1)) rfl .nil), _, (.same rfl .nil), ⟨(-1), rfl, h⟩⟩
theorem ixPr_c (s_ : (List Print)) (g_p : Nat) (fs_p cs_p : List D) (p : Print → Bool) (pD : Print → Prop) (hen_p : entersB Tryz.prog g_p = true) (hg_p : ∀ x0_, pD x0_ → Fun false Tryz.prog g_p (fs_p ++ [encPrint x0_] ++ cs_p) (fun d => d = D.b (p x0_))) (hp0 : s_.length ≤ 9223372036854775807) (hp1 : ∀ z_ ∈ s_, pD z_) : Fun false Tryz.prog 83 [(encL 2 encPrint) s_, .fn (.func g_p) fs_p cs_p] (fun d => d = D.i ((idxOf p s_))) :=
  Fun.at (enc := fun r => D.i r) (v := (idxOf p s_)) (ixPr_w s_ g_p fs_p cs_p p pD hen_p hg_p (fun r => r = (idxOf p s_)) (ixPr_ok s_ p pD _ hp0 hp1 rfl))

set_option maxHeartbeats 2000000 in
set_option maxRecDepth 10000 in
theorem cfPr_w (s_ : (List Print)) (g_p : Nat) (fs_p cs_p : List D) (p : Print → Bool) (pD : Print → Prop) (hen_p : entersB Tryz.prog g_p = true) (hg_p : ∀ x0_, pD x0_ → Fun false Tryz.prog g_p (fs_p ++ [encPrint x0_] ++ cs_p) (fun d => d = D.b (p x0_))) (Q : Bool → Prop) (h : cfPr_vc s_ p pD Q) : Fun false Tryz.prog 43 [(encL 2 encPrint) s_, .fn (.func g_p) fs_p cs_p] (fun d => ∃ r, d = D.b r ∧ Q r) := by
  unfold cfPr_vc at h
  refine Fun.of_body Tryz.func43 rfl Tryz.ntmps43 rfl ?_
  refine wpA_seq ?_
  refine wpA_region ?_
  refine wL (OpA.a ?_)
  refine wpL_nil ?_
  refine wpA_seq ?_
  obtain ⟨q1, q2, h⟩ := h
  refine wpA_region ?_
  iterate 2 refine wL (OpA.m ?_)
  refine wL (OpA.call rfl rfl rfl en83 (ixPr_c s_ g_p fs_p cs_p p pD hen_p hg_p q1 q2) ?_)
  rintro _ rfl
  refine wL (OpA.geq rfl rfl rfl ?_)
  refine wL (OpA.a ?_)
  refine wpL_nil ?_
  refine wpA_ret ?_
  exact ⟨_, (.tmp (d := D.b (decide ((idxOf p s_) ≥ 0))) rfl .nil), _, (.same rfl .nil), ⟨(decide ((idxOf p s_) ≥ 0)), rfl, h⟩⟩
theorem cfPr_c (s_ : (List Print)) (g_p : Nat) (fs_p cs_p : List D) (p : Print → Bool) (pD : Print → Prop) (hen_p : entersB Tryz.prog g_p = true) (hg_p : ∀ x0_, pD x0_ → Fun false Tryz.prog g_p (fs_p ++ [encPrint x0_] ++ cs_p) (fun d => d = D.b (p x0_))) (hp0 : s_.length ≤ 9223372036854775807) (hp1 : ∀ z_ ∈ s_, pD z_) : Fun false Tryz.prog 43 [(encL 2 encPrint) s_, .fn (.func g_p) fs_p cs_p] (fun d => d = D.b ((s_.any p))) :=
  Fun.at (enc := fun r => D.b r) (v := (s_.any p)) (cfPr_w s_ g_p fs_p cs_p p pD hen_p hg_p (fun r => r = (s_.any p)) (cfPr_ok s_ p pD _ hp0 hp1 rfl))

set_option maxHeartbeats 2000000 in
set_option maxRecDepth 10000 in
theorem near11_w (y : Print) (x : Print)  (Q : Bool → Prop) (h : near11_vc y x Q) : Fun false Tryz.prog 45 [encPrint y, .iptr (encPrint x) 0] (fun d => ∃ r, d = D.b r ∧ Q r) := by
  unfold near11_vc at h
  refine Fun.of_body Tryz.func45 rfl Tryz.ntmps45 rfl ?_
  refine wpA_seq ?_
  refine wpA_region ?_
  refine wL (OpA.bx (sz := 2) rfl (by with_reducible conv => lhs; whnf) (.of rfl) (fun c1 _ => ?_))
  refine wL (OpA.a ?_)
  refine wpL_nil ?_
  refine wpA_seq ?_
  refine wpA_region ?_
  refine wL (OpA.ifieldAddr rfl tf83_0 rfl ?_)
  refine wL (OpA.iload rfl ti3 rfl rfl ?_)
  refine wL (OpA.fieldAddr rfl tf83_0 rfl ?_)
  refine wL (OpA.load rfl ti3 rfl .head rfl rfl ?_)
  refine wL (OpA.eql rfl rfl rfl ?_)
  refine wL (OpA.a ?_)
  refine wpL_nil ?_
  refine wpA_ret ?_
  exact ⟨_, (.tmp (d := D.b (x.hash == y.hash)) rfl .nil), _, (.same rfl .nil), ⟨(x.hash == y.hash), rfl, h⟩⟩
theorem near11_c (y : Print) (x : Print)   : Fun false Tryz.prog 45 [encPrint y, .iptr (encPrint x) 0] (fun d => d = D.b ((decide (x.hash = y.hash)))) :=
  Fun.at (enc := fun r => D.b r) (v := (decide (x.hash = y.hash))) (near11_w y x  (fun r => r = (decide (x.hash = y.hash))) (near11_ok y x _  rfl))

set_option maxHeartbeats 2000000 in
set_option maxRecDepth 10000 in
theorem near1_w (x : Print) (theirs : (List Print))  (Q : Bool → Prop) (h : near1_vc x theirs Q) : Fun false Tryz.prog 44 [encPrint x, .iptr ((encL 2 encPrint) theirs) 0] (fun d => ∃ r, d = D.b r ∧ Q r) := by
  unfold near1_vc at h
  refine Fun.of_body Tryz.func44 rfl Tryz.ntmps44 rfl ?_
  refine wpA_seq ?_
  refine wpA_region ?_
  refine wL (OpA.bx (sz := 2) rfl (by with_reducible conv => lhs; whnf) (.of rfl) (fun c1 _ => ?_))
  refine wL (OpA.a ?_)
  refine wpL_nil ?_
  refine wpA_seq ?_
  obtain ⟨q1, q2, h⟩ := h
  refine wpA_region ?_
  refine wL (OpA.iload rfl ti77 rfl rfl ?_)
  refine wL (OpA.makeFunc rfl ?_)
  refine wL (OpA.call_snap rfl rfl rfl en43 (.same rfl (.fn .nil (.ptrp rfl .head rfl .nil) .nil)) (cfPr_c theirs 45 [] [.iptr (encPrint x) 0] (fun (x0_ : Print) => (decide (x.hash = x0_.hash))) (fun (x0_ : Print) => True) en45 (fun x0_ _ => near11_c x0_ x ) q1 q2) (by rintro _ rfl; exact .inr (.v _)) ?_)
  rintro _ rfl
  refine wL (OpA.a ?_)
  refine wpL_nil ?_
  refine wpA_ret ?_
  exact ⟨_, (.tmp (d := D.b (theirs.any (fun (x0_ : Print) => (decide (x.hash = x0_.hash))))) rfl .nil), _, (.same rfl .nil), ⟨(theirs.any (fun (x0_ : Print) => (decide (x.hash = x0_.hash)))), rfl, h⟩⟩
theorem near1_c (x : Print) (theirs : (List Print))  (hp0 : theirs.length ≤ 9223372036854775807) : Fun false Tryz.prog 44 [encPrint x, .iptr ((encL 2 encPrint) theirs) 0] (fun d => d = D.b ((theirs.any fun y_ => decide (x.hash = y_.hash)))) :=
  Fun.at (enc := fun r => D.b r) (v := (theirs.any fun y_ => decide (x.hash = y_.hash))) (near1_w x theirs  (fun r => r = (theirs.any fun y_ => decide (x.hash = y_.hash))) (near1_ok x theirs _ hp0 rfl))

abbrev lawNear_e0 (c : Corpus) (t : Text) (x3 : Int) := (printsF (gi c.texts (gi ((nearF c t).1) x3)) c.k c.w)
set_option maxHeartbeats 2000000 in
set_option maxRecDepth 10000 in
theorem lawNear_w (c : Corpus) (t : Text)  (Q : Bool → Prop) (h : lawNear_vc c t Q) : Fun false Tryz.prog 7 [encCorpus c, encText t] (fun d => ∃ r, d = D.b r ∧ Q r) := by
  unfold lawNear_vc at h
  refine Fun.of_body Tryz.func7 rfl Tryz.ntmps7 rfl ?_
  refine wpA_seq ?_
  refine wpA_region ?_
  refine wL (OpA.bx (sz := 4) rfl (by with_reducible conv => lhs; whnf) (.of rfl) (fun c1 _ => ?_))
  refine wL (OpA.bx (sz := 2) rfl (by with_reducible conv => lhs; whnf) (.of rfl) (fun c2 _ => ?_))
  refine wL (OpA.a ?_)
  refine wpL_nil ?_
  iterate 2 refine wpA_seq ?_
  refine wpA_region ?_
  refine wL (OpA.call rfl rfl rfl en36 (awake_c  ) ?_)
  rintro _ rfl
  refine wL (OpA.not rfl rfl ?_)
  refine wpL_nil ?_
  refine wpA_cond rfl (fun b3 => ?_) (fun b3 => ?_)
  have h := h.1 (notT b3)
  refine wpA_seq ?_
  refine wpA_region ?_
  refine wL (OpA.a ?_)
  refine wpL_nil ?_
  refine wpA_ret ?_
  exact ⟨_, (.tmp (d := D.b false) rfl .nil), _, (.same rfl .nil), ⟨false, rfl, h⟩⟩
  have h := h.2 (notF b3)
  refine wpA_skip ?_
  iterate 2 refine wpA_seq ?_
  obtain ⟨q1, q2, h⟩ := h
  refine wpA_mid (asg [(2, .ptr c1 4 0 0), (3, .ptr c2 2 0 0), (4, D.b false), (40, D.b ((((!(fewC c)) || (!(fewTs ([t] : List Text)))) || ((checkF c) != 0)) || (!(validT t))))]) [(c2, .cells 2 [encText t]), (c1, .cells 4 [encCorpus c])] ?_ ?_
  refine wpA_region ?_
  refine wL (OpA.load_whole rfl ti25 rfl rfl (.tail .head) rfl ⟨_, rfl⟩ ?_)
  refine wL (OpA.call rfl rfl rfl en9 (c26few_c c ) ?_)
  rintro _ rfl
  refine wL (OpA.not rfl rfl ?_)
  refine wL (OpA.m ?_)
  refine wpL_split (s := 25) rfl (fun b204 => ?_) (fun b204 => ?_)
  iterate 4 refine wS ?_
  refine wL (OpA.p ?_)
  refine wL (OpA.m ?_)
  iterate 3 refine wS ?_
  refine wL (OpA.p ?_)
  refine wL (OpA.m ?_)
  iterate 3 refine wS ?_
  refine wL (OpA.p ?_)
  refine wpL_nil ?_
  exact ⟨(Cov.asg ⟨rfl, rfl, rfl, (congrArg D.b (Eq.symm (orS (orS (orS b204))))), trivial⟩), (.refl _)⟩
  refine wG (OpA.load_whole rfl ti28 rfl rfl .head rfl ⟨_, rfl⟩ ?_)
  refine wG (OpA.ibuildSliceO rfl ts22 rfl (.cons (.of (sz := 2) rfl) .nil) (by decide) ?_)
  refine wG (OpA.call rfl rfl rfl en10 (c26fewt_c ([t] : List Text) ) ?_)
  rintro _ rfl
  refine wG (OpA.not rfl rfl ?_)
  refine wL (OpA.p ?_)
  refine wL (OpA.m ?_)
  refine wpL_split (s := 31) rfl (fun b205 => ?_) (fun b205 => ?_)
  iterate 3 refine wS ?_
  refine wL (OpA.p ?_)
  refine wL (OpA.m ?_)
  iterate 3 refine wS ?_
  refine wL (OpA.p ?_)
  refine wpL_nil ?_
  exact ⟨(Cov.asg ⟨rfl, rfl, rfl, (congrArg D.b (Eq.symm (orS (orS (orN b204 b205))))), trivial⟩), (.refl _)⟩
  refine wG (OpA.load_whole rfl ti25 rfl rfl (.tail .head) rfl ⟨_, rfl⟩ ?_)
  refine wG (OpA.call rfl rfl rfl en37 (ccheck_c c (q1 ⟨(notF b204), (notF b205)⟩)) ?_)
  rintro _ rfl
  refine wG (OpA.neq rfl rfl rfl ?_)
  refine wL (OpA.p ?_)
  refine wL (OpA.m ?_)
  refine wpL_split (s := 36) rfl (fun b206 => ?_) (fun b206 => ?_)
  iterate 3 refine wS ?_
  refine wL (OpA.p ?_)
  refine wpL_nil ?_
  exact ⟨(Cov.asg ⟨rfl, rfl, rfl, (congrArg D.b (Eq.symm (orS (orN (orN b204 b205) b206)))), trivial⟩), (.refl _)⟩
  refine wG (OpA.load_whole rfl ti28 rfl rfl .head rfl ⟨_, rfl⟩ ?_)
  refine wG (OpA.call rfl rfl rfl en38 (nvalid_c t (q2 ⟨⟨(notF b204), (notF b205)⟩, (bneF b206)⟩)) ?_)
  rintro _ rfl
  refine wG (OpA.not rfl rfl ?_)
  refine wL (OpA.p ?_)
  refine wpL_nil ?_
  exact ⟨(Cov.asg ⟨rfl, rfl, rfl, (congrArg D.b (Eq.symm (orN (orN (orN b204 b205) b206) rfl))), trivial⟩), (.refl _)⟩
  show wpA _ _ _ _ (asg [(2, .ptr c1 4 0 0), (3, .ptr c2 2 0 0), (4, D.b false), (40, D.b ((((!(fewC c)) || (!(fewTs ([t] : List Text)))) || ((checkF c) != 0)) || (!(validT t))))]) [(c2, .cells 2 [encText t]), (c1, .cells 4 [encCorpus c])]
  refine wpA_cond rfl (fun b4 => ?_) (fun b4 => ?_)
  have h := h.1 ((or0 b4).imp (fun hh => ((or0 hh).imp (fun hh => ((or0 hh).imp (fun hh => (notT hh)) (fun hh => (notT hh)))) (fun hh => (bneT hh)))) (fun hh => (notT hh)))
  refine wpA_seq ?_
  refine wpA_region ?_
  refine wL (OpA.a ?_)
  refine wpL_nil ?_
  refine wpA_ret ?_
  exact ⟨_, (.tmp (d := D.b true) rfl .nil), _, (.same rfl .nil), ⟨true, rfl, h⟩⟩
  have h := h.2 ⟨⟨⟨(notF (or1 (or1 (or1 b4)))), (notF (or2 (or1 (or1 b4))))⟩, (bneF (or2 (or1 b4)))⟩, (notF (or2 b4))⟩
  refine wpA_skip ?_
  refine wpA_seq ?_
  obtain ⟨q1, q2, q3, h⟩ := h
  refine wpA_region ?_
  refine wL (OpA.load_whole rfl ti25 rfl rfl (.tail .head) rfl ⟨_, rfl⟩ ?_)
  refine wL (OpA.load_whole rfl ti28 rfl rfl .head rfl ⟨_, rfl⟩ ?_)
  refine wL (OpA.call rfl rfl rfl en39 (cnear_c c t q1 q2 q3) ?_)
  rintro _ rfl
  refine wL (OpA.m ?_)
  iterate 2 refine wL (OpA.extract rfl rfl rfl ?_)
  iterate 2 refine wL (OpA.a ?_)
  refine wpL_nil ?_
  refine wpA_seq ?_
  refine wpA_region ?_
  refine wL (OpA.fieldAddr rfl tf25_0 rfl ?_)
  refine wL (OpA.load rfl ti3 rfl (.tail .head) rfl rfl ?_)
  refine wL (OpA.fieldAddr rfl tf25_1 rfl ?_)
  refine wL (OpA.load rfl ti3 rfl (.tail .head) rfl rfl ?_)
  refine wL (OpA.call rfl rfl rfl en40 (wguar_c c.k c.w ) ?_)
  rintro _ rfl
  refine wL (OpA.m ?_)
  iterate 2 refine wL (OpA.extract rfl rfl rfl ?_)
  iterate 2 refine wL (OpA.a ?_)
  refine wpL_nil ?_
  refine wpA_seq ?_
  obtain ⟨q1, h⟩ := h
  refine wpA_region ?_
  refine wL (OpA.load_whole rfl ti28 rfl rfl .head rfl ⟨_, rfl⟩ ?_)
  refine wL (OpA.fieldAddr rfl tf25_0 rfl ?_)
  refine wL (OpA.load rfl ti3 rfl (.tail .head) rfl rfl ?_)
  refine wL (OpA.fieldAddr rfl tf25_1 rfl ?_)
  refine wL (OpA.load rfl ti3 rfl (.tail .head) rfl rfl ?_)
  refine wL (OpA.call rfl rfl rfl en41 (wprints_c t c.k c.w q1) ?_)
  rintro _ rfl
  refine wL (OpA.m ?_)
  iterate 2 refine wL (OpA.extract rfl rfl rfl ?_)
  iterate 2 refine wL (OpA.a ?_)
  refine wpL_nil ?_
  iterate 2 refine wpA_seq ?_
  refine wpA_mid (asg [(2, .ptr c1 4 0 0), (3, .ptr c2 2 0 0), (4, D.b false), (5, (encL 1 D.i) ((nearF c t).1)), (7, D.i ((guarF c.k c.w).1)), (9, (encL 2 encPrint) ((printsF t c.k c.w).1)), (73, D.b (((((nearF c t).2) != 0) || (((guarF c.k c.w).2) != 0)) || (((printsF t c.k c.w).2) != 0)))]) [(c2, .cells 2 [encText t]), (c1, .cells 4 [encCorpus c])] ?_ ?_
  refine wpA_region ?_
  refine wL (OpA.m ?_)
  refine wL (OpA.neq rfl rfl rfl ?_)
  refine wL (OpA.m ?_)
  refine wpL_split (s := 66) rfl (fun b202 => ?_) (fun b202 => ?_)
  iterate 2 refine wS ?_
  refine wL (OpA.p ?_)
  refine wL (OpA.m ?_)
  iterate 2 refine wS ?_
  refine wL (OpA.p ?_)
  refine wpL_nil ?_
  exact ⟨(Cov.asg ⟨rfl, rfl, rfl, rfl, rfl, rfl, (congrArg D.b (Eq.symm (orS (orS b202)))), trivial⟩), (.refl _)⟩
  refine wG (OpA.m ?_)
  refine wG (OpA.neq rfl rfl rfl ?_)
  refine wL (OpA.p ?_)
  refine wL (OpA.m ?_)
  refine wpL_split (s := 70) rfl (fun b203 => ?_) (fun b203 => ?_)
  iterate 2 refine wS ?_
  refine wL (OpA.p ?_)
  refine wpL_nil ?_
  exact ⟨(Cov.asg ⟨rfl, rfl, rfl, rfl, rfl, rfl, (congrArg D.b (Eq.symm (orS (orN b202 b203)))), trivial⟩), (.refl _)⟩
  refine wG (OpA.m ?_)
  refine wG (OpA.neq rfl rfl rfl ?_)
  refine wL (OpA.p ?_)
  refine wpL_nil ?_
  exact ⟨(Cov.asg ⟨rfl, rfl, rfl, rfl, rfl, rfl, (congrArg D.b (Eq.symm (orN (orN b202 b203) rfl))), trivial⟩), (.refl _)⟩
  show wpA _ _ _ _ (asg [(2, .ptr c1 4 0 0), (3, .ptr c2 2 0 0), (4, D.b false), (5, (encL 1 D.i) ((nearF c t).1)), (7, D.i ((guarF c.k c.w).1)), (9, (encL 2 encPrint) ((printsF t c.k c.w).1)), (73, D.b (((((nearF c t).2) != 0) || (((guarF c.k c.w).2) != 0)) || (((printsF t c.k c.w).2) != 0)))]) [(c2, .cells 2 [encText t]), (c1, .cells 4 [encCorpus c])]
  refine wpA_cond rfl (fun b5 => ?_) (fun b5 => ?_)
  have h := h.1 ((or0 b5).imp (fun hh => ((or0 hh).imp (fun hh => (bneT hh)) (fun hh => (bneT hh)))) (fun hh => (bneT hh)))
  refine wpA_seq ?_
  refine wpA_region ?_
  refine wL (OpA.a ?_)
  refine wpL_nil ?_
  refine wpA_ret ?_
  exact ⟨_, (.tmp (d := D.b false) rfl .nil), _, (.same rfl .nil), ⟨false, rfl, h⟩⟩
  have h := h.2 ⟨⟨(bneF (or1 (or1 b5))), (bneF (or2 (or1 b5)))⟩, (bneF (or2 b5))⟩
  refine wpA_skip ?_
  iterate 2 refine wpA_seq ?_
  refine wpA_region ?_
  refine wL (OpA.fieldAddr rfl tf25_2 rfl ?_)
  refine wL (OpA.load rfl ti22 rfl (.tail .head) rfl rfl ?_)
  refine wL (OpA.len rfl rfl rfl rfl ts22.desc (.inl ⟨_, _, rfl, (List.length_map _).symm⟩) ?_)
  refine wL (OpA.m ?_)
  refine wpL_nil ?_
  refine wpA_block ?_
  refine wpA_lfp (S := Int) (G := Unit) () (fun gg ss => asg [(2, .ptr c1 4 0 0), (3, .ptr c2 2 0 0), (4, D.b false), (5, (encL 1 D.i) ((nearF c t).1)), (7, D.i ((guarF c.k c.w).1)), (9, (encL 2 encPrint) ((printsF t c.k c.w).1)), (75, (encL 2 encText) c.texts), (76, D.i (c.texts.length : Int)), (77, D.i ss)]) (fun gg ss => [(c2, .cells 2 [encText t]), (c1, .cells 4 [encCorpus c])]) h (Cov.asg ⟨rfl, rfl, rfl, rfl, rfl, rfl, rfl, rfl, rfl, trivial⟩) (.refl _) ?_
  rintro again6 _ x h
  have h : lawNear_L1 c t Q again6 x := h
  unfold lawNear_L1 at h
  show wpA _ _ _ _ (asg [(2, .ptr c1 4 0 0), (3, .ptr c2 2 0 0), (4, D.b false), (5, (encL 1 D.i) ((nearF c t).1)), (7, D.i ((guarF c.k c.w).1)), (9, (encL 2 encPrint) ((printsF t c.k c.w).1)), (75, (encL 2 encText) c.texts), (76, D.i (c.texts.length : Int)), (77, D.i x)]) [(c2, .cells 2 [encText t]), (c1, .cells 4 [encCorpus c])]
  refine wpA_seq ?_
  refine wpA_region ?_
  refine wL (OpA.lss rfl rfl rfl ?_)
  refine wpL_nil ?_
  refine wpA_seq ?_
  refine wpA_cond rfl (fun b7 => ?_) (fun b7 => ?_)
  have h := h.1 (decT b7)
  refine wpA_skip ?_
  refine wpA_seq ?_
  refine wpA_block ?_
  refine wpA_seq ?_
  obtain ⟨q1, h⟩ := h
  refine wpA_region ?_
  refine wL (OpA.m ?_)
  refine wL (OpA.iixV (enc := encText) rfl ts22 rfl rfl rfl q1 ?_)
  refine wL (OpA.iload_whole rfl ti28 rfl ⟨_, rfl, rfl⟩ ?_)
  refine wL (OpA.alloc (sz := 2) (d := .agg ([D.s ByteArray.empty, .v (.slice none 0 0)])) rfl tz28 (fun _ _ => .agg (.cons (.v _) (.cons (.v _) .nil))) (.of rfl) (fun c8 _ => ?_))
  refine wL (OpA.a ?_)
  refine wE (OpA.storeW rfl ti28 rfl (by with_reducible conv => lhs; whnf) (.of rfl) rfl rfl .head ?_)
  refine wpL_nil ?_
  refine wpA_seq ?_
  refine wpA_region ?_
  refine wL (OpA.a ?_)
  refine wpL_nil ?_
  iterate 2 refine wpA_seq ?_
  refine wpA_region ?_
  refine wL (OpA.fieldAddr rfl tf28_1 rfl ?_)
  refine wL (OpA.load rfl ti26 rfl .head rfl rfl ?_)
  refine wL (OpA.len rfl rfl rfl rfl ts26.desc (.inl ⟨_, _, rfl, (List.length_map _).symm⟩) ?_)
  refine wL (OpA.m ?_)
  refine wpL_nil ?_
  refine wpA_block ?_
  refine wpA_lfp (S := Int × Int) (G := Unit) () (fun gg ss => asg [(2, .ptr c1 4 0 0), (3, .ptr c2 2 0 0), (4, D.b false), (5, (encL 1 D.i) ((nearF c t).1)), (7, D.i ((guarF c.k c.w).1)), (9, (encL 2 encPrint) ((printsF t c.k c.w).1)), (11, D.i x), (12, .ptr c8 2 0 0), (13, D.i ss.1), (75, (encL 2 encText) c.texts), (76, D.i (c.texts.length : Int)), (77, D.i x), (84, D.i (((gi c.texts x).words).length : Int)), (85, D.i ss.2)]) (fun gg ss => [(c8, .cells 2 [encText (gi c.texts x)]), (c2, .cells 2 [encText t]), (c1, .cells 4 [encCorpus c])]) h (Cov.asg ⟨rfl, rfl, rfl, rfl, rfl, rfl, rfl, rfl, rfl, rfl, rfl, rfl, rfl, rfl, trivial⟩) (.refl _) ?_
  rintro again9 _ ⟨longest, x1⟩ h
  have h : lawNear_L2 c t x Q again6 again9 longest x1 := h
  unfold lawNear_L2 at h
  show wpA _ _ _ _ (asg [(2, .ptr c1 4 0 0), (3, .ptr c2 2 0 0), (4, D.b false), (5, (encL 1 D.i) ((nearF c t).1)), (7, D.i ((guarF c.k c.w).1)), (9, (encL 2 encPrint) ((printsF t c.k c.w).1)), (11, D.i x), (12, .ptr c8 2 0 0), (13, D.i longest), (75, (encL 2 encText) c.texts), (76, D.i (c.texts.length : Int)), (77, D.i x), (84, D.i (((gi c.texts x).words).length : Int)), (85, D.i x1)]) [(c8, .cells 2 [encText (gi c.texts x)]), (c2, .cells 2 [encText t]), (c1, .cells 4 [encCorpus c])]
  refine wpA_seq ?_
  refine wpA_region ?_
  refine wL (OpA.lss rfl rfl rfl ?_)
  refine wpL_nil ?_
  refine wpA_seq ?_
  refine wpA_cond rfl (fun b10 => ?_) (fun b10 => ?_)
  have h := h.1 (decT b10)
  refine wpA_skip ?_
  refine wpA_seq ?_
  refine wpA_block ?_
  refine wpA_seq ?_
  refine wpA_region ?_
  refine wL (OpA.m ?_)
  refine wL (OpA.a ?_)
  refine wpL_nil ?_
  refine wpA_seq ?_
  refine wpA_region ?_
  refine wL (OpA.fieldAddr rfl tf28_1 rfl ?_)
  refine wL (OpA.load rfl ti26 rfl (.tail .head) rfl rfl ?_)
  refine wL (OpA.len rfl rfl rfl rfl ts26.desc (.inl ⟨_, _, rfl, (List.length_map _).symm⟩) ?_)
  refine wL (OpA.m ?_)
  refine wpL_nil ?_
  refine wpA_block ?_
  refine wpA_lfp (S := Int × Int) (G := Unit) () (fun gg ss => asg [(2, .ptr c1 4 0 0), (3, .ptr c2 2 0 0), (4, D.b false), (5, (encL 1 D.i) ((nearF c t).1)), (7, D.i ((guarF c.k c.w).1)), (9, (encL 2 encPrint) ((printsF t c.k c.w).1)), (11, D.i x), (12, .ptr c8 2 0 0), (13, D.i ss.1), (14, D.i x1), (75, (encL 2 encText) c.texts), (76, D.i (c.texts.length : Int)), (77, D.i x), (84, D.i (((gi c.texts x).words).length : Int)), (85, D.i x1), (90, D.i (t.words.length : Int)), (91, D.i ss.2)]) (fun gg ss => [(c8, .cells 2 [encText (gi c.texts x)]), (c2, .cells 2 [encText t]), (c1, .cells 4 [encCorpus c])]) h (Cov.asg ⟨rfl, rfl, rfl, rfl, rfl, rfl, rfl, rfl, rfl, rfl, rfl, rfl, rfl, rfl, rfl, rfl, rfl, trivial⟩) (.refl _) ?_
  rintro again11 _ ⟨longest1, x2⟩ h
  have h : lawNear_L3 c t x x1 again9 again11 longest1 x2 := h
  unfold lawNear_L3 at h
  show wpA _ _ _ _ (asg [(2, .ptr c1 4 0 0), (3, .ptr c2 2 0 0), (4, D.b false), (5, (encL 1 D.i) ((nearF c t).1)), (7, D.i ((guarF c.k c.w).1)), (9, (encL 2 encPrint) ((printsF t c.k c.w).1)), (11, D.i x), (12, .ptr c8 2 0 0), (13, D.i longest1), (14, D.i x1), (75, (encL 2 encText) c.texts), (76, D.i (c.texts.length : Int)), (77, D.i x), (84, D.i (((gi c.texts x).words).length : Int)), (85, D.i x1), (90, D.i (t.words.length : Int)), (91, D.i x2)]) [(c8, .cells 2 [encText (gi c.texts x)]), (c2, .cells 2 [encText t]), (c1, .cells 4 [encCorpus c])]
  refine wpA_seq ?_
  refine wpA_region ?_
  refine wL (OpA.lss rfl rfl rfl ?_)
  refine wpL_nil ?_
  refine wpA_seq ?_
  refine wpA_cond rfl (fun b12 => ?_) (fun b12 => ?_)
  have h := h.1 (decT b12)
  refine wpA_skip ?_
  refine wpA_seq ?_
  refine wpA_block ?_
  refine wpA_seq ?_
  refine wpA_region ?_
  refine wL (OpA.m ?_)
  refine wL (OpA.a ?_)
  refine wpL_nil ?_
  obtain ⟨q1, q2, h⟩ := h
  refine wpA_region ?_
  refine wL (OpA.m ?_)
  refine wL (OpA.load_whole rfl ti28 rfl rfl .head rfl ⟨_, rfl⟩ ?_)
  refine wL (OpA.m ?_)
  refine wL (OpA.load_whole rfl ti28 rfl rfl (.tail .head) rfl ⟨_, rfl⟩ ?_)
  refine wL (OpA.m ?_)
  refine wL (OpA.call rfl rfl rfl en42 (ncommon_c (gi c.texts x) x1 t x2 q1 q2) ?_)
  rintro _ rfl
  refine wL (OpA.max (l := [_]) rfl rfl rfl rfl ?_)
  refine wL (OpA.a ?_)
  refine wpL_nil ?_
  obtain ⟨q1, h⟩ := h
  refine wpA_region ?_
  refine wL (OpA.addi rfl rfl rfl q1 ?_)
  refine wL (OpA.m ?_)
  refine wpL_nil ?_
  exact ⟨(), ((gmax longest1 [(commonF4 (gi c.texts x) x1 t x2)]), (x2 + 1)), h, (Cov.asg ⟨rfl, rfl, rfl, rfl, rfl, rfl, rfl, rfl, rfl, rfl, rfl, rfl, rfl, rfl, rfl, rfl, rfl, trivial⟩), (.refl _)⟩
  have h := h.2 (decF b12)
  refine wpA_exit ?_
  obtain ⟨q1, h⟩ := h
  refine wpA_region ?_
  refine wL (OpA.addi rfl rfl rfl q1 ?_)
  refine wL (OpA.m ?_)
  refine wpL_nil ?_
  exact ⟨(), (longest1, (x1 + 1)), h, (Cov.asg ⟨rfl, rfl, rfl, rfl, rfl, rfl, rfl, rfl, rfl, rfl, rfl, rfl, rfl, rfl, trivial⟩), (.refl _)⟩
  have h := h.2 (decF b10)
  refine wpA_exit ?_
  refine wpA_seq ?_
  obtain ⟨q1, h⟩ := h
  refine wpA_mid (asg [(2, .ptr c1 4 0 0), (3, .ptr c2 2 0 0), (4, D.b false), (5, (encL 1 D.i) ((nearF c t).1)), (7, D.i ((guarF c.k c.w).1)), (9, (encL 2 encPrint) ((printsF t c.k c.w).1)), (75, (encL 2 encText) c.texts), (76, D.i (c.texts.length : Int)), (77, D.i x), (111, D.b ((decide (longest ≥ (guarF c.k c.w).1)) && (!(((nearF c t).1).any (fun z_ => decide (z_ = x))))))]) [(c8, .cells 2 [encText (gi c.texts x)]), (c2, .cells 2 [encText t]), (c1, .cells 4 [encCorpus c])] ?_ ?_
  refine wpA_region ?_
  iterate 2 refine wL (OpA.m ?_)
  refine wL (OpA.geq rfl rfl rfl ?_)
  refine wL (OpA.m ?_)
  refine wpL_split (s := 106) rfl (fun b14 => ?_) (fun b14 => ?_)
  iterate 2 refine wG (OpA.m ?_)
  refine wG (OpA.call rfl rfl rfl en32 (ctInt_c ((nearF c t).1) x (q1 (decT b14))) ?_)
  rintro _ rfl
  refine wG (OpA.not rfl rfl ?_)
  refine wL (OpA.p ?_)
  refine wpL_nil ?_
  exact ⟨(Cov.asg ⟨rfl, rfl, rfl, rfl, rfl, rfl, rfl, rfl, rfl, (congrArg D.b (Eq.symm (andN b14 rfl))), trivial⟩), (.refl _)⟩
  iterate 4 refine wS ?_
  refine wL (OpA.p ?_)
  refine wpL_nil ?_
  exact ⟨(Cov.asg ⟨rfl, rfl, rfl, rfl, rfl, rfl, rfl, rfl, rfl, (congrArg D.b (Eq.symm (andS b14))), trivial⟩), (.refl _)⟩
  show wpA _ _ _ _ (asg [(2, .ptr c1 4 0 0), (3, .ptr c2 2 0 0), (4, D.b false), (5, (encL 1 D.i) ((nearF c t).1)), (7, D.i ((guarF c.k c.w).1)), (9, (encL 2 encPrint) ((printsF t c.k c.w).1)), (75, (encL 2 encText) c.texts), (76, D.i (c.texts.length : Int)), (77, D.i x), (111, D.b ((decide (longest ≥ (guarF c.k c.w).1)) && (!(((nearF c t).1).any (fun z_ => decide (z_ = x))))))]) [(c8, .cells 2 [encText (gi c.texts x)]), (c2, .cells 2 [encText t]), (c1, .cells 4 [encCorpus c])]
  refine wpA_cond rfl (fun b13 => ?_) (fun b13 => ?_)
  have h := h.1 ⟨(decT (and1 b13)), (notT (and2 b13))⟩
  refine wpA_seq ?_
  refine wpA_region ?_
  refine wL (OpA.a ?_)
  refine wpL_nil ?_
  refine wpA_ret ?_
  exact ⟨_, (.tmp (d := D.b false) rfl .nil), _, (.same rfl .nil), ⟨false, rfl, h⟩⟩
  have h := h.2 ((and0 b13).imp (fun hh => (decF hh)) (fun hh => (notF hh)))
  refine wpA_skip ?_
  obtain ⟨q1, h⟩ := h
  refine wpA_region ?_
  refine wL (OpA.addi rfl rfl rfl q1 ?_)
  refine wL (OpA.m ?_)
  refine wpL_nil ?_
  exact ⟨(), (x + 1), h, (Cov.asg ⟨rfl, rfl, rfl, rfl, rfl, rfl, rfl, rfl, rfl, trivial⟩), (.cons _ (.refl _))⟩
  have h := h.2 (decF b7)
  refine wpA_exit ?_
  iterate 2 refine wpA_seq ?_
  refine wpA_region ?_
  refine wL (OpA.m ?_)
  refine wL (OpA.len rfl rfl rfl rfl ts67.desc (.inl ⟨_, _, rfl, (List.length_map _).symm⟩) ?_)
  refine wL (OpA.m ?_)
  refine wpL_nil ?_
  refine wpA_block ?_
  refine wpA_lfp (S := Int) (G := Unit) () (fun gg ss => asg [(2, .ptr c1 4 0 0), (4, D.b false), (5, (encL 1 D.i) ((nearF c t).1)), (9, (encL 2 encPrint) ((printsF t c.k c.w).1)), (113, (encL 1 D.i) ((nearF c t).1)), (114, D.i (((nearF c t).1).length : Int)), (115, D.i ss)]) (fun gg ss => [(c2, .cells 2 [encText t]), (c1, .cells 4 [encCorpus c])]) h (Cov.asg ⟨rfl, rfl, rfl, rfl, rfl, rfl, rfl, trivial⟩) (.refl _) ?_
  rintro again15 _ x3 h
  have h : lawNear_L4 c t Q again15 x3 := h
  unfold lawNear_L4 at h
  show wpA _ _ _ _ (asg [(2, .ptr c1 4 0 0), (4, D.b false), (5, (encL 1 D.i) ((nearF c t).1)), (9, (encL 2 encPrint) ((printsF t c.k c.w).1)), (113, (encL 1 D.i) ((nearF c t).1)), (114, D.i (((nearF c t).1).length : Int)), (115, D.i x3)]) [(c2, .cells 2 [encText t]), (c1, .cells 4 [encCorpus c])]
  refine wpA_seq ?_
  refine wpA_region ?_
  refine wL (OpA.lss rfl rfl rfl ?_)
  refine wpL_nil ?_
  refine wpA_seq ?_
  refine wpA_cond rfl (fun b16 => ?_) (fun b16 => ?_)
  have h := h.1 (decT b16)
  refine wpA_skip ?_
  refine wpA_seq ?_
  refine wpA_block ?_
  refine wpA_seq ?_
  obtain ⟨q1, h⟩ := h
  refine wpA_region ?_
  refine wL (OpA.m ?_)
  refine wL (OpA.iixV (enc := D.i) rfl ts67 rfl rfl rfl q1 ?_)
  refine wL (OpA.iload rfl ti3 rfl rfl ?_)
  iterate 2 refine wL (OpA.a ?_)
  refine wpL_nil ?_
  iterate 2 refine wpA_seq ?_
  obtain ⟨q1, h⟩ := h
  refine wpA_mid (asg [(2, .ptr c1 4 0 0), (4, D.b false), (5, (encL 1 D.i) ((nearF c t).1)), (9, (encL 2 encPrint) ((printsF t c.k c.w).1)), (17, D.i (gi ((nearF c t).1) x3)), (113, (encL 1 D.i) ((nearF c t).1)), (114, D.i (((nearF c t).1).length : Int)), (115, D.i x3), (135, D.b (((decide ((gi ((nearF c t).1) x3) < 0)) || (decide ((gi ((nearF c t).1) x3) ≥ (c.texts.length : Int)))) || ((lsub ((nearF c t).1) 0 x3).any (fun z_ => decide (z_ = (gi ((nearF c t).1) x3))))))]) [(c2, .cells 2 [encText t]), (c1, .cells 4 [encCorpus c])] ?_ ?_
  refine wpA_region ?_
  refine wL (OpA.m ?_)
  refine wL (OpA.lss rfl rfl rfl ?_)
  refine wL (OpA.m ?_)
  refine wpL_split (s := 122) rfl (fun b200 => ?_) (fun b200 => ?_)
  iterate 5 refine wS ?_
  refine wL (OpA.p ?_)
  refine wL (OpA.m ?_)
  iterate 5 refine wS ?_
  refine wL (OpA.p ?_)
  refine wpL_nil ?_
  exact ⟨(Cov.asg ⟨rfl, rfl, rfl, rfl, rfl, rfl, rfl, rfl, (congrArg D.b (Eq.symm (orS (orS b200)))), trivial⟩), (.refl _)⟩
  refine wG (OpA.m ?_)
  refine wG (OpA.fieldAddr rfl tf25_2 rfl ?_)
  refine wG (OpA.load rfl ti22 rfl (.tail .head) rfl rfl ?_)
  refine wG (OpA.len rfl rfl rfl rfl ts22.desc (.inl ⟨_, _, rfl, (List.length_map _).symm⟩) ?_)
  refine wG (OpA.geq rfl rfl rfl ?_)
  refine wL (OpA.p ?_)
  refine wL (OpA.m ?_)
  refine wpL_split (s := 129) rfl (fun b201 => ?_) (fun b201 => ?_)
  iterate 5 refine wS ?_
  refine wL (OpA.p ?_)
  refine wpL_nil ?_
  exact ⟨(Cov.asg ⟨rfl, rfl, rfl, rfl, rfl, rfl, rfl, rfl, (congrArg D.b (Eq.symm (orS (orN b200 b201)))), trivial⟩), (.refl _)⟩
  iterate 2 refine wG (OpA.m ?_)
  refine wG (OpA.isliceV (enc := D.i) rfl ts67 rfl (.none _) (.some rfl) (q1 ⟨(decF b200), (decF b201)⟩).1 ?_)
  refine wG (OpA.m ?_)
  refine wG (OpA.call rfl rfl rfl en32 (ctInt_c (lsub ((nearF c t).1) 0 x3) (gi ((nearF c t).1) x3) (q1 ⟨(decF b200), (decF b201)⟩).2) ?_)
  rintro _ rfl
  refine wL (OpA.p ?_)
  refine wpL_nil ?_
  exact ⟨(Cov.asg ⟨rfl, rfl, rfl, rfl, rfl, rfl, rfl, rfl, (congrArg D.b (Eq.symm (orN (orN b200 b201) rfl))), trivial⟩), (.refl _)⟩
  show wpA _ _ _ _ (asg [(2, .ptr c1 4 0 0), (4, D.b false), (5, (encL 1 D.i) ((nearF c t).1)), (9, (encL 2 encPrint) ((printsF t c.k c.w).1)), (17, D.i (gi ((nearF c t).1) x3)), (113, (encL 1 D.i) ((nearF c t).1)), (114, D.i (((nearF c t).1).length : Int)), (115, D.i x3), (135, D.b (((decide ((gi ((nearF c t).1) x3) < 0)) || (decide ((gi ((nearF c t).1) x3) ≥ (c.texts.length : Int)))) || ((lsub ((nearF c t).1) 0 x3).any (fun z_ => decide (z_ = (gi ((nearF c t).1) x3))))))]) [(c2, .cells 2 [encText t]), (c1, .cells 4 [encCorpus c])]
  refine wpA_cond rfl (fun b17 => ?_) (fun b17 => ?_)
  have h := h.1 ((or0 b17).imp (fun hh => ((or0 hh).imp (fun hh => (decT hh)) (fun hh => (decT hh)))) (fun hh => hh))
  refine wpA_seq ?_
  refine wpA_region ?_
  refine wL (OpA.a ?_)
  refine wpL_nil ?_
  refine wpA_ret ?_
  exact ⟨_, (.tmp (d := D.b false) rfl .nil), _, (.same rfl .nil), ⟨false, rfl, h⟩⟩
  have h := h.2 ⟨⟨(decF (or1 (or1 b17))), (decF (or2 (or1 b17)))⟩, (or2 b17)⟩
  refine wpA_skip ?_
  refine wpA_seq ?_
  obtain ⟨q3_0, q9_0, h⟩ := h
  refine wpA_states mo (fun W hW => ?_)
  refine flip_goal (a := ∀ (c158 : Nat), W 0 (lv 16 65535) (asg [(2, .ptr c1 4 0 0), (4, D.b false), (5, (encL 1 D.i) ((nearF c t).1)), (9, (encL 2 encPrint) ((printsF t c.k c.w).1)), (18, .ptr c158 1 0 0), (19, D.i ((lawNear_e0 c t x3).2)), (113, (encL 1 D.i) ((nearF c t).1)), (114, D.i (((nearF c t).1).length : Int)), (115, D.i x3)]) [(c158, .cells 1 [(encL 2 encPrint) ((lawNear_e0 c t x3).1)]), (c2, .cells 2 [encText t]), (c1, .cells 4 [encCorpus c])]) (fun s0 => ?_) ?_
  have s1 : ∀ (c158 : Nat), W 1 (lv 16 32767) (asg [(2, .ptr c1 4 0 0), (4, D.b false), (5, (encL 1 D.i) ((nearF c t).1)), (9, (encL 2 encPrint) ((printsF t c.k c.w).1)), (18, .ptr c158 1 0 0), (113, (encL 1 D.i) ((nearF c t).1)), (114, D.i (((nearF c t).1).length : Int)), (115, D.i x3), (148, D.i ((lawNear_e0 c t x3).2))]) [(c158, .cells 1 [(encL 2 encPrint) ((lawNear_e0 c t x3).1)]), (c2, .cells 2 [encText t]), (c1, .cells 4 [encCorpus c])] := fun c158 => wpS_of hW (by refine wpS_step (rs := [15]) (by kernel_rfl) rfl ⟨?_, trivial⟩; refine wpS_op (i := 15) (li' := (lv 16 65535)) rfl rfl rfl rfl (by kernel_rfl) (OpA.a ?_); exact wpS_to hW (s0 c158) (Cov.asg ⟨rfl, rfl, rfl, rfl, rfl, rfl, rfl, rfl, rfl, trivial⟩) (.refl _))
  have s2 : ∀ (c158 : Nat), W 2 (lv 16 16383) (asg [(2, .ptr c1 4 0 0), (4, D.b false), (5, (encL 1 D.i) ((nearF c t).1)), (9, (encL 2 encPrint) ((printsF t c.k c.w).1)), (18, .ptr c158 1 0 0), (113, (encL 1 D.i) ((nearF c t).1)), (114, D.i (((nearF c t).1).length : Int)), (115, D.i x3), (147, (encL 2 encPrint) ((lawNear_e0 c t x3).1)), (148, D.i ((lawNear_e0 c t x3).2))]) [(c158, .cells 1 [.v (.slice none 0 0)]), (c2, .cells 2 [encText t]), (c1, .cells 4 [encCorpus c])] := fun c158 => wpS_of hW (by refine wpS_step (rs := [14]) (by kernel_rfl) rfl ⟨?_, trivial⟩; refine wpS_eff (i := 14) (li' := (lv 16 32767)) rfl rfl rfl (by kernel_rfl) (OpA.storeW rfl ti77 rfl (by with_reducible conv => lhs; whnf) (.of rfl) rfl rfl .head ?_); exact wpS_to hW (s1 c158) (Cov.asg ⟨rfl, rfl, rfl, rfl, rfl, rfl, rfl, rfl, rfl, trivial⟩) (.refl _))
  have s3 : ∀ (c158 : Nat), W 2 (lv 16 28671) (asg [(2, .ptr c1 4 0 0), (4, D.b false), (5, (encL 1 D.i) ((nearF c t).1)), (9, (encL 2 encPrint) ((printsF t c.k c.w).1)), (18, .ptr c158 1 0 0), (113, (encL 1 D.i) ((nearF c t).1)), (114, D.i (((nearF c t).1).length : Int)), (115, D.i x3), (136, .tup [(encL 2 encPrint) ((lawNear_e0 c t x3).1), D.i ((lawNear_e0 c t x3).2)])]) [(c158, .cells 1 [(encL 2 encPrint) ((lawNear_e0 c t x3).1)]), (c2, .cells 2 [encText t]), (c1, .cells 4 [encCorpus c])] := fun c158 => wpS_of hW (by refine wpS_step (rs := [12]) (by kernel_rfl) rfl ⟨?_, trivial⟩; refine wpS_op (i := 12) (li' := (lv 16 32767)) rfl rfl rfl rfl (by kernel_rfl) (OpA.extract rfl rfl rfl ?_); exact wpS_to hW (s1 c158) (Cov.asg ⟨rfl, rfl, rfl, rfl, rfl, rfl, rfl, rfl, rfl, trivial⟩) (.refl _))
  have s4 : W 3 (lv 16 8191) (asg [(2, .ptr c1 4 0 0), (4, D.b false), (5, (encL 1 D.i) ((nearF c t).1)), (9, (encL 2 encPrint) ((printsF t c.k c.w).1)), (113, (encL 1 D.i) ((nearF c t).1)), (114, D.i (((nearF c t).1).length : Int)), (115, D.i x3), (147, (encL 2 encPrint) ((lawNear_e0 c t x3).1)), (148, D.i ((lawNear_e0 c t x3).2))]) [(c2, .cells 2 [encText t]), (c1, .cells 4 [encCorpus c])] := wpS_of hW (by refine wpS_step (rs := [13]) (by kernel_rfl) rfl ⟨?_, trivial⟩; refine wpS_op (i := 13) (li' := (lv 16 16383)) rfl rfl rfl rfl (by kernel_rfl) (OpA.alloc (sz := 1) (d := .v (.slice none 0 0)) rfl tz77 (fun _ _ => .v _) (.of rfl) (fun c158 _ => ?_)); exact wpS_to hW (s2 c158) (Cov.asg ⟨rfl, rfl, rfl, rfl, rfl, rfl, rfl, rfl, rfl, rfl, trivial⟩) (.refl _))
  have s5 : ∀ (c158 : Nat), W 3 (lv 16 12287) (asg [(2, .ptr c1 4 0 0), (4, D.b false), (5, (encL 1 D.i) ((nearF c t).1)), (9, (encL 2 encPrint) ((printsF t c.k c.w).1)), (18, .ptr c158 1 0 0), (113, (encL 1 D.i) ((nearF c t).1)), (114, D.i (((nearF c t).1).length : Int)), (115, D.i x3), (136, .tup [(encL 2 encPrint) ((lawNear_e0 c t x3).1), D.i ((lawNear_e0 c t x3).2)]), (147, (encL 2 encPrint) ((lawNear_e0 c t x3).1))]) [(c158, .cells 1 [.v (.slice none 0 0)]), (c2, .cells 2 [encText t]), (c1, .cells 4 [encCorpus c])] := fun c158 => wpS_of hW (by refine wpS_step (rs := [12, 14]) (by kernel_rfl) rfl ⟨?_, ?_, trivial⟩; refine wpS_op (i := 12) (li' := (lv 16 16383)) rfl rfl rfl rfl (by kernel_rfl) (OpA.extract rfl rfl rfl ?_); exact wpS_to hW (s2 c158) (Cov.asg ⟨rfl, rfl, rfl, rfl, rfl, rfl, rfl, rfl, rfl, rfl, trivial⟩) (.refl _); refine wpS_eff (i := 14) (li' := (lv 16 28671)) rfl rfl rfl (by kernel_rfl) (OpA.storeW rfl ti77 rfl (by with_reducible conv => lhs; whnf) (.of rfl) rfl rfl .head ?_); exact wpS_to hW (s3 c158) (Cov.asg ⟨rfl, rfl, rfl, rfl, rfl, rfl, rfl, rfl, rfl, trivial⟩) (.refl _))
  have s6 : ∀ (c158 : Nat), W 3 (lv 16 14335) (asg [(2, .ptr c1 4 0 0), (4, D.b false), (5, (encL 1 D.i) ((nearF c t).1)), (9, (encL 2 encPrint) ((printsF t c.k c.w).1)), (18, .ptr c158 1 0 0), (113, (encL 1 D.i) ((nearF c t).1)), (114, D.i (((nearF c t).1).length : Int)), (115, D.i x3), (136, .tup [(encL 2 encPrint) ((lawNear_e0 c t x3).1), D.i ((lawNear_e0 c t x3).2)]), (148, D.i ((lawNear_e0 c t x3).2))]) [(c158, .cells 1 [.v (.slice none 0 0)]), (c2, .cells 2 [encText t]), (c1, .cells 4 [encCorpus c])] := fun c158 => wpS_of hW (by refine wpS_step (rs := [11]) (by kernel_rfl) rfl ⟨?_, trivial⟩; refine wpS_op (i := 11) (li' := (lv 16 16383)) rfl rfl rfl rfl (by kernel_rfl) (OpA.extract rfl rfl rfl ?_); exact wpS_to hW (s2 c158) (Cov.asg ⟨rfl, rfl, rfl, rfl, rfl, rfl, rfl, rfl, rfl, rfl, trivial⟩) (.refl _))
  have s7 : W 4 (lv 16 4095) (asg [(2, .ptr c1 4 0 0), (4, D.b false), (5, (encL 1 D.i) ((nearF c t).1)), (9, (encL 2 encPrint) ((printsF t c.k c.w).1)), (113, (encL 1 D.i) ((nearF c t).1)), (114, D.i (((nearF c t).1).length : Int)), (115, D.i x3), (136, .tup [(encL 2 encPrint) ((lawNear_e0 c t x3).1), D.i ((lawNear_e0 c t x3).2)]), (147, (encL 2 encPrint) ((lawNear_e0 c t x3).1))]) [(c2, .cells 2 [encText t]), (c1, .cells 4 [encCorpus c])] := wpS_of hW (by refine wpS_step (rs := [12, 13]) (by kernel_rfl) rfl ⟨?_, ?_, trivial⟩; refine wpS_op (i := 12) (li' := (lv 16 8191)) rfl rfl rfl rfl (by kernel_rfl) (OpA.extract rfl rfl rfl ?_); exact wpS_to hW (s4) (Cov.asg ⟨rfl, rfl, rfl, rfl, rfl, rfl, rfl, rfl, rfl, trivial⟩) (.refl _); refine wpS_op (i := 13) (li' := (lv 16 12287)) rfl rfl rfl rfl (by kernel_rfl) (OpA.alloc (sz := 1) (d := .v (.slice none 0 0)) rfl tz77 (fun _ _ => .v _) (.of rfl) (fun c158 _ => ?_)); exact wpS_to hW (s5 c158) (Cov.asg ⟨rfl, rfl, rfl, rfl, rfl, rfl, rfl, rfl, rfl, rfl, trivial⟩) (.refl _))
  have s8 : W 4 (lv 16 6143) (asg [(2, .ptr c1 4 0 0), (4, D.b false), (5, (encL 1 D.i) ((nearF c t).1)), (9, (encL 2 encPrint) ((printsF t c.k c.w).1)), (113, (encL 1 D.i) ((nearF c t).1)), (114, D.i (((nearF c t).1).length : Int)), (115, D.i x3), (136, .tup [(encL 2 encPrint) ((lawNear_e0 c t x3).1), D.i ((lawNear_e0 c t x3).2)]), (148, D.i ((lawNear_e0 c t x3).2))]) [(c2, .cells 2 [encText t]), (c1, .cells 4 [encCorpus c])] := wpS_of hW (by refine wpS_step (rs := [11, 13]) (by kernel_rfl) rfl ⟨?_, ?_, trivial⟩; refine wpS_op (i := 11) (li' := (lv 16 8191)) rfl rfl rfl rfl (by kernel_rfl) (OpA.extract rfl rfl rfl ?_); exact wpS_to hW (s4) (Cov.asg ⟨rfl, rfl, rfl, rfl, rfl, rfl, rfl, rfl, rfl, trivial⟩) (.refl _); refine wpS_op (i := 13) (li' := (lv 16 14335)) rfl rfl rfl rfl (by kernel_rfl) (OpA.alloc (sz := 1) (d := .v (.slice none 0 0)) rfl tz77 (fun _ _ => .v _) (.of rfl) (fun c158 _ => ?_)); exact wpS_to hW (s6 c158) (Cov.asg ⟨rfl, rfl, rfl, rfl, rfl, rfl, rfl, rfl, rfl, rfl, trivial⟩) (.refl _))
  have s9 : ∀ (c158 : Nat), W 4 (lv 16 10239) (asg [(2, .ptr c1 4 0 0), (4, D.b false), (5, (encL 1 D.i) ((nearF c t).1)), (9, (encL 2 encPrint) ((printsF t c.k c.w).1)), (18, .ptr c158 1 0 0), (113, (encL 1 D.i) ((nearF c t).1)), (114, D.i (((nearF c t).1).length : Int)), (115, D.i x3), (136, .tup [(encL 2 encPrint) ((lawNear_e0 c t x3).1), D.i ((lawNear_e0 c t x3).2)])]) [(c158, .cells 1 [.v (.slice none 0 0)]), (c2, .cells 2 [encText t]), (c1, .cells 4 [encCorpus c])] := fun c158 => wpS_of hW (by refine wpS_step (rs := [11, 12]) (by kernel_rfl) rfl ⟨?_, ?_, trivial⟩; refine wpS_op (i := 11) (li' := (lv 16 12287)) rfl rfl rfl rfl (by kernel_rfl) (OpA.extract rfl rfl rfl ?_); exact wpS_to hW (s5 c158) (Cov.asg ⟨rfl, rfl, rfl, rfl, rfl, rfl, rfl, rfl, rfl, rfl, trivial⟩) (.refl _); refine wpS_op (i := 12) (li' := (lv 16 14335)) rfl rfl rfl rfl (by kernel_rfl) (OpA.extract rfl rfl rfl ?_); exact wpS_to hW (s6 c158) (Cov.asg ⟨rfl, rfl, rfl, rfl, rfl, rfl, rfl, rfl, rfl, rfl, trivial⟩) (.refl _))
  have s10 : W 5 (lv 16 2047) (asg [(2, .ptr c1 4 0 0), (4, D.b false), (5, (encL 1 D.i) ((nearF c t).1)), (9, (encL 2 encPrint) ((printsF t c.k c.w).1)), (113, (encL 1 D.i) ((nearF c t).1)), (114, D.i (((nearF c t).1).length : Int)), (115, D.i x3), (136, .tup [(encL 2 encPrint) ((lawNear_e0 c t x3).1), D.i ((lawNear_e0 c t x3).2)])]) [(c2, .cells 2 [encText t]), (c1, .cells 4 [encCorpus c])] := wpS_of hW (by refine wpS_step (rs := [11, 12, 13]) (by kernel_rfl) rfl ⟨?_, ?_, ?_, trivial⟩; refine wpS_op (i := 11) (li' := (lv 16 4095)) rfl rfl rfl rfl (by kernel_rfl) (OpA.extract rfl rfl rfl ?_); exact wpS_to hW (s7) (Cov.asg ⟨rfl, rfl, rfl, rfl, rfl, rfl, rfl, rfl, rfl, trivial⟩) (.refl _); refine wpS_op (i := 12) (li' := (lv 16 6143)) rfl rfl rfl rfl (by kernel_rfl) (OpA.extract rfl rfl rfl ?_); exact wpS_to hW (s8) (Cov.asg ⟨rfl, rfl, rfl, rfl, rfl, rfl, rfl, rfl, rfl, trivial⟩) (.refl _); refine wpS_op (i := 13) (li' := (lv 16 10239)) rfl rfl rfl rfl (by kernel_rfl) (OpA.alloc (sz := 1) (d := .v (.slice none 0 0)) rfl tz77 (fun _ _ => .v _) (.of rfl) (fun c158 _ => ?_)); exact wpS_to hW (s9 c158) (Cov.asg ⟨rfl, rfl, rfl, rfl, rfl, rfl, rfl, rfl, rfl, trivial⟩) (.refl _))
  have s11 : ∀ (c158 : Nat), W 5 (lv 16 9215) (asg [(2, .ptr c1 4 0 0), (4, D.b false), (5, (encL 1 D.i) ((nearF c t).1)), (9, (encL 2 encPrint) ((printsF t c.k c.w).1)), (18, .ptr c158 1 0 0), (113, (encL 1 D.i) ((nearF c t).1)), (114, D.i (((nearF c t).1).length : Int)), (115, D.i x3), (146, .tup [(encL 2 encPrint) ((lawNear_e0 c t x3).1), D.i ((lawNear_e0 c t x3).2)])]) [(c158, .cells 1 [.v (.slice none 0 0)]), (c2, .cells 2 [encText t]), (c1, .cells 4 [encCorpus c])] := fun c158 => wpS_of hW (by refine wpS_step (rs := [10]) (by kernel_rfl) rfl ⟨?_, trivial⟩; refine wpS_op (i := 10) (li' := (lv 16 10239)) rfl rfl rfl rfl (by kernel_rfl) (OpA.m ?_); exact wpS_to hW (s9 c158) (Cov.asg ⟨rfl, rfl, rfl, rfl, rfl, rfl, rfl, rfl, rfl, trivial⟩) (.refl _))
  have s12 : W 6 (lv 16 1023) (asg [(2, .ptr c1 4 0 0), (4, D.b false), (5, (encL 1 D.i) ((nearF c t).1)), (9, (encL 2 encPrint) ((printsF t c.k c.w).1)), (113, (encL 1 D.i) ((nearF c t).1)), (114, D.i (((nearF c t).1).length : Int)), (115, D.i x3), (146, .tup [(encL 2 encPrint) ((lawNear_e0 c t x3).1), D.i ((lawNear_e0 c t x3).2)])]) [(c2, .cells 2 [encText t]), (c1, .cells 4 [encCorpus c])] := wpS_of hW (by refine wpS_step (rs := [10, 13]) (by kernel_rfl) rfl ⟨?_, ?_, trivial⟩; refine wpS_op (i := 10) (li' := (lv 16 2047)) rfl rfl rfl rfl (by kernel_rfl) (OpA.m ?_); exact wpS_to hW (s10) (Cov.asg ⟨rfl, rfl, rfl, rfl, rfl, rfl, rfl, rfl, trivial⟩) (.refl _); refine wpS_op (i := 13) (li' := (lv 16 9215)) rfl rfl rfl rfl (by kernel_rfl) (OpA.alloc (sz := 1) (d := .v (.slice none 0 0)) rfl tz77 (fun _ _ => .v _) (.of rfl) (fun c158 _ => ?_)); exact wpS_to hW (s11 c158) (Cov.asg ⟨rfl, rfl, rfl, rfl, rfl, rfl, rfl, rfl, rfl, trivial⟩) (.refl _))
  have s13 : ∀ (c158 : Nat), W 6 (lv 16 8703) (asg [(2, .ptr c1 4 0 0), (4, D.b false), (5, (encL 1 D.i) ((nearF c t).1)), (9, (encL 2 encPrint) ((printsF t c.k c.w).1)), (18, .ptr c158 1 0 0), (113, (encL 1 D.i) ((nearF c t).1)), (114, D.i (((nearF c t).1).length : Int)), (115, D.i x3), (141, encText (gi c.texts (gi ((nearF c t).1) x3))), (143, D.i c.k), (145, D.i c.w)]) [(c158, .cells 1 [.v (.slice none 0 0)]), (c2, .cells 2 [encText t]), (c1, .cells 4 [encCorpus c])] := fun c158 => wpS_of hW (by refine wpS_step (rs := [9]) (by kernel_rfl) rfl ⟨?_, trivial⟩; refine wpS_op (i := 9) (li' := (lv 16 9215)) rfl rfl rfl rfl (by kernel_rfl) (OpA.call rfl rfl rfl en41 (wprints_c (gi c.texts (gi ((nearF c t).1) x3)) c.k c.w q9_0) ?_); rintro _ rfl; exact wpS_to hW (s11 c158) (Cov.asg ⟨rfl, rfl, rfl, rfl, rfl, rfl, rfl, rfl, rfl, trivial⟩) (.refl _))
  have s14 : W 7 (lv 16 511) (asg [(2, .ptr c1 4 0 0), (4, D.b false), (5, (encL 1 D.i) ((nearF c t).1)), (9, (encL 2 encPrint) ((printsF t c.k c.w).1)), (113, (encL 1 D.i) ((nearF c t).1)), (114, D.i (((nearF c t).1).length : Int)), (115, D.i x3), (141, encText (gi c.texts (gi ((nearF c t).1) x3))), (143, D.i c.k), (145, D.i c.w)]) [(c2, .cells 2 [encText t]), (c1, .cells 4 [encCorpus c])] := wpS_of hW (by refine wpS_step (rs := [9, 13]) (by kernel_rfl) rfl ⟨?_, ?_, trivial⟩; refine wpS_op (i := 9) (li' := (lv 16 1023)) rfl rfl rfl rfl (by kernel_rfl) (OpA.call rfl rfl rfl en41 (wprints_c (gi c.texts (gi ((nearF c t).1) x3)) c.k c.w q9_0) ?_); rintro _ rfl; exact wpS_to hW (s12) (Cov.asg ⟨rfl, rfl, rfl, rfl, rfl, rfl, rfl, rfl, trivial⟩) (.refl _); refine wpS_op (i := 13) (li' := (lv 16 8703)) rfl rfl rfl rfl (by kernel_rfl) (OpA.alloc (sz := 1) (d := .v (.slice none 0 0)) rfl tz77 (fun _ _ => .v _) (.of rfl) (fun c158 _ => ?_)); exact wpS_to hW (s13 c158) (Cov.asg ⟨rfl, rfl, rfl, rfl, rfl, rfl, rfl, rfl, rfl, rfl, rfl, trivial⟩) (.refl _))
  have s15 : ∀ (c158 : Nat), W 7 (lv 16 8447) (asg [(2, .ptr c1 4 0 0), (4, D.b false), (5, (encL 1 D.i) ((nearF c t).1)), (9, (encL 2 encPrint) ((printsF t c.k c.w).1)), (18, .ptr c158 1 0 0), (113, (encL 1 D.i) ((nearF c t).1)), (114, D.i (((nearF c t).1).length : Int)), (115, D.i x3), (141, encText (gi c.texts (gi ((nearF c t).1) x3))), (143, D.i c.k), (144, .ptr c1 4 0 1)]) [(c158, .cells 1 [.v (.slice none 0 0)]), (c2, .cells 2 [encText t]), (c1, .cells 4 [encCorpus c])] := fun c158 => wpS_of hW (by refine wpS_step (rs := [8]) (by kernel_rfl) rfl ⟨?_, trivial⟩; refine wpS_op (i := 8) (li' := (lv 16 8703)) rfl rfl rfl rfl (by kernel_rfl) (OpA.load rfl ti3 rfl (.tail (.tail .head)) rfl rfl ?_); exact wpS_to hW (s13 c158) (Cov.asg ⟨rfl, rfl, rfl, rfl, rfl, rfl, rfl, rfl, rfl, rfl, rfl, trivial⟩) (.refl _))
  have s16 : ∀ (c158 : Nat), W 7 (lv 16 8639) (asg [(2, .ptr c1 4 0 0), (4, D.b false), (5, (encL 1 D.i) ((nearF c t).1)), (9, (encL 2 encPrint) ((printsF t c.k c.w).1)), (18, .ptr c158 1 0 0), (113, (encL 1 D.i) ((nearF c t).1)), (114, D.i (((nearF c t).1).length : Int)), (115, D.i x3), (141, encText (gi c.texts (gi ((nearF c t).1) x3))), (142, .ptr c1 4 0 0), (145, D.i c.w)]) [(c158, .cells 1 [.v (.slice none 0 0)]), (c2, .cells 2 [encText t]), (c1, .cells 4 [encCorpus c])] := fun c158 => wpS_of hW (by refine wpS_step (rs := [6]) (by kernel_rfl) rfl ⟨?_, trivial⟩; refine wpS_op (i := 6) (li' := (lv 16 8703)) rfl rfl rfl rfl (by kernel_rfl) (OpA.load rfl ti3 rfl (.tail (.tail .head)) rfl rfl ?_); exact wpS_to hW (s13 c158) (Cov.asg ⟨rfl, rfl, rfl, rfl, rfl, rfl, rfl, rfl, rfl, rfl, rfl, trivial⟩) (.refl _))
  have s17 : ∀ (c158 : Nat), W 7 (lv 16 8687) (asg [(2, .ptr c1 4 0 0), (4, D.b false), (5, (encL 1 D.i) ((nearF c t).1)), (9, (encL 2 encPrint) ((printsF t c.k c.w).1)), (18, .ptr c158 1 0 0), (113, (encL 1 D.i) ((nearF c t).1)), (114, D.i (((nearF c t).1).length : Int)), (115, D.i x3), (140, .iptr (encText (gi c.texts (gi ((nearF c t).1) x3))) 0), (143, D.i c.k), (145, D.i c.w)]) [(c158, .cells 1 [.v (.slice none 0 0)]), (c2, .cells 2 [encText t]), (c1, .cells 4 [encCorpus c])] := fun c158 => wpS_of hW (by refine wpS_step (rs := [4]) (by kernel_rfl) rfl ⟨?_, trivial⟩; refine wpS_op (i := 4) (li' := (lv 16 8703)) rfl rfl rfl rfl (by kernel_rfl) (OpA.iload_whole rfl ti28 rfl ⟨_, rfl, rfl⟩ ?_); exact wpS_to hW (s13 c158) (Cov.asg ⟨rfl, rfl, rfl, rfl, rfl, rfl, rfl, rfl, rfl, rfl, rfl, trivial⟩) (.refl _))
  have s18 : W 8 (lv 16 255) (asg [(2, .ptr c1 4 0 0), (4, D.b false), (5, (encL 1 D.i) ((nearF c t).1)), (9, (encL 2 encPrint) ((printsF t c.k c.w).1)), (113, (encL 1 D.i) ((nearF c t).1)), (114, D.i (((nearF c t).1).length : Int)), (115, D.i x3), (141, encText (gi c.texts (gi ((nearF c t).1) x3))), (143, D.i c.k), (144, .ptr c1 4 0 1)]) [(c2, .cells 2 [encText t]), (c1, .cells 4 [encCorpus c])] := wpS_of hW (by refine wpS_step (rs := [8, 13]) (by kernel_rfl) rfl ⟨?_, ?_, trivial⟩; refine wpS_op (i := 8) (li' := (lv 16 511)) rfl rfl rfl rfl (by kernel_rfl) (OpA.load rfl ti3 rfl (.tail .head) rfl rfl ?_); exact wpS_to hW (s14) (Cov.asg ⟨rfl, rfl, rfl, rfl, rfl, rfl, rfl, rfl, rfl, rfl, trivial⟩) (.refl _); refine wpS_op (i := 13) (li' := (lv 16 8447)) rfl rfl rfl rfl (by kernel_rfl) (OpA.alloc (sz := 1) (d := .v (.slice none 0 0)) rfl tz77 (fun _ _ => .v _) (.of rfl) (fun c158 _ => ?_)); exact wpS_to hW (s15 c158) (Cov.asg ⟨rfl, rfl, rfl, rfl, rfl, rfl, rfl, rfl, rfl, rfl, rfl, trivial⟩) (.refl _))
  have s19 : W 8 (lv 16 447) (asg [(2, .ptr c1 4 0 0), (4, D.b false), (5, (encL 1 D.i) ((nearF c t).1)), (9, (encL 2 encPrint) ((printsF t c.k c.w).1)), (113, (encL 1 D.i) ((nearF c t).1)), (114, D.i (((nearF c t).1).length : Int)), (115, D.i x3), (141, encText (gi c.texts (gi ((nearF c t).1) x3))), (142, .ptr c1 4 0 0), (145, D.i c.w)]) [(c2, .cells 2 [encText t]), (c1, .cells 4 [encCorpus c])] := wpS_of hW (by refine wpS_step (rs := [6, 13]) (by kernel_rfl) rfl ⟨?_, ?_, trivial⟩; refine wpS_op (i := 6) (li' := (lv 16 511)) rfl rfl rfl rfl (by kernel_rfl) (OpA.load rfl ti3 rfl (.tail .head) rfl rfl ?_); exact wpS_to hW (s14) (Cov.asg ⟨rfl, rfl, rfl, rfl, rfl, rfl, rfl, rfl, rfl, rfl, trivial⟩) (.refl _); refine wpS_op (i := 13) (li' := (lv 16 8639)) rfl rfl rfl rfl (by kernel_rfl) (OpA.alloc (sz := 1) (d := .v (.slice none 0 0)) rfl tz77 (fun _ _ => .v _) (.of rfl) (fun c158 _ => ?_)); exact wpS_to hW (s16 c158) (Cov.asg ⟨rfl, rfl, rfl, rfl, rfl, rfl, rfl, rfl, rfl, rfl, rfl, trivial⟩) (.refl _))
  have s20 : ∀ (c158 : Nat), W 8 (lv 16 8383) (asg [(2, .ptr c1 4 0 0), (4, D.b false), (5, (encL 1 D.i) ((nearF c t).1)), (9, (encL 2 encPrint) ((printsF t c.k c.w).1)), (18, .ptr c158 1 0 0), (113, (encL 1 D.i) ((nearF c t).1)), (114, D.i (((nearF c t).1).length : Int)), (115, D.i x3), (141, encText (gi c.texts (gi ((nearF c t).1) x3))), (142, .ptr c1 4 0 0), (144, .ptr c1 4 0 1)]) [(c158, .cells 1 [.v (.slice none 0 0)]), (c2, .cells 2 [encText t]), (c1, .cells 4 [encCorpus c])] := fun c158 => wpS_of hW (by refine wpS_step (rs := [6, 8]) (by kernel_rfl) rfl ⟨?_, ?_, trivial⟩; refine wpS_op (i := 6) (li' := (lv 16 8447)) rfl rfl rfl rfl (by kernel_rfl) (OpA.load rfl ti3 rfl (.tail (.tail .head)) rfl rfl ?_); exact wpS_to hW (s15 c158) (Cov.asg ⟨rfl, rfl, rfl, rfl, rfl, rfl, rfl, rfl, rfl, rfl, rfl, trivial⟩) (.refl _); refine wpS_op (i := 8) (li' := (lv 16 8639)) rfl rfl rfl rfl (by kernel_rfl) (OpA.load rfl ti3 rfl (.tail (.tail .head)) rfl rfl ?_); exact wpS_to hW (s16 c158) (Cov.asg ⟨rfl, rfl, rfl, rfl, rfl, rfl, rfl, rfl, rfl, rfl, rfl, trivial⟩) (.refl _))
  have s21 : W 8 (lv 16 495) (asg [(2, .ptr c1 4 0 0), (4, D.b false), (5, (encL 1 D.i) ((nearF c t).1)), (9, (encL 2 encPrint) ((printsF t c.k c.w).1)), (113, (encL 1 D.i) ((nearF c t).1)), (114, D.i (((nearF c t).1).length : Int)), (115, D.i x3), (140, .iptr (encText (gi c.texts (gi ((nearF c t).1) x3))) 0), (143, D.i c.k), (145, D.i c.w)]) [(c2, .cells 2 [encText t]), (c1, .cells 4 [encCorpus c])] := wpS_of hW (by refine wpS_step (rs := [4, 13]) (by kernel_rfl) rfl ⟨?_, ?_, trivial⟩; refine wpS_op (i := 4) (li' := (lv 16 511)) rfl rfl rfl rfl (by kernel_rfl) (OpA.iload_whole rfl ti28 rfl ⟨_, rfl, rfl⟩ ?_); exact wpS_to hW (s14) (Cov.asg ⟨rfl, rfl, rfl, rfl, rfl, rfl, rfl, rfl, rfl, rfl, trivial⟩) (.refl _); refine wpS_op (i := 13) (li' := (lv 16 8687)) rfl rfl rfl rfl (by kernel_rfl) (OpA.alloc (sz := 1) (d := .v (.slice none 0 0)) rfl tz77 (fun _ _ => .v _) (.of rfl) (fun c158 _ => ?_)); exact wpS_to hW (s17 c158) (Cov.asg ⟨rfl, rfl, rfl, rfl, rfl, rfl, rfl, rfl, rfl, rfl, rfl, trivial⟩) (.refl _))
  have s22 : ∀ (c158 : Nat), W 8 (lv 16 8431) (asg [(2, .ptr c1 4 0 0), (4, D.b false), (5, (encL 1 D.i) ((nearF c t).1)), (9, (encL 2 encPrint) ((printsF t c.k c.w).1)), (18, .ptr c158 1 0 0), (113, (encL 1 D.i) ((nearF c t).1)), (114, D.i (((nearF c t).1).length : Int)), (115, D.i x3), (140, .iptr (encText (gi c.texts (gi ((nearF c t).1) x3))) 0), (143, D.i c.k), (144, .ptr c1 4 0 1)]) [(c158, .cells 1 [.v (.slice none 0 0)]), (c2, .cells 2 [encText t]), (c1, .cells 4 [encCorpus c])] := fun c158 => wpS_of hW (by refine wpS_step (rs := [4, 8]) (by kernel_rfl) rfl ⟨?_, ?_, trivial⟩; refine wpS_op (i := 4) (li' := (lv 16 8447)) rfl rfl rfl rfl (by kernel_rfl) (OpA.iload_whole rfl ti28 rfl ⟨_, rfl, rfl⟩ ?_); exact wpS_to hW (s15 c158) (Cov.asg ⟨rfl, rfl, rfl, rfl, rfl, rfl, rfl, rfl, rfl, rfl, rfl, trivial⟩) (.refl _); refine wpS_op (i := 8) (li' := (lv 16 8687)) rfl rfl rfl rfl (by kernel_rfl) (OpA.load rfl ti3 rfl (.tail (.tail .head)) rfl rfl ?_); exact wpS_to hW (s17 c158) (Cov.asg ⟨rfl, rfl, rfl, rfl, rfl, rfl, rfl, rfl, rfl, rfl, rfl, trivial⟩) (.refl _))
  have s23 : ∀ (c158 : Nat), W 8 (lv 16 8623) (asg [(2, .ptr c1 4 0 0), (4, D.b false), (5, (encL 1 D.i) ((nearF c t).1)), (9, (encL 2 encPrint) ((printsF t c.k c.w).1)), (18, .ptr c158 1 0 0), (113, (encL 1 D.i) ((nearF c t).1)), (114, D.i (((nearF c t).1).length : Int)), (115, D.i x3), (140, .iptr (encText (gi c.texts (gi ((nearF c t).1) x3))) 0), (142, .ptr c1 4 0 0), (145, D.i c.w)]) [(c158, .cells 1 [.v (.slice none 0 0)]), (c2, .cells 2 [encText t]), (c1, .cells 4 [encCorpus c])] := fun c158 => wpS_of hW (by refine wpS_step (rs := [4, 6]) (by kernel_rfl) rfl ⟨?_, ?_, trivial⟩; refine wpS_op (i := 4) (li' := (lv 16 8639)) rfl rfl rfl rfl (by kernel_rfl) (OpA.iload_whole rfl ti28 rfl ⟨_, rfl, rfl⟩ ?_); exact wpS_to hW (s16 c158) (Cov.asg ⟨rfl, rfl, rfl, rfl, rfl, rfl, rfl, rfl, rfl, rfl, rfl, trivial⟩) (.refl _); refine wpS_op (i := 6) (li' := (lv 16 8687)) rfl rfl rfl rfl (by kernel_rfl) (OpA.load rfl ti3 rfl (.tail (.tail .head)) rfl rfl ?_); exact wpS_to hW (s17 c158) (Cov.asg ⟨rfl, rfl, rfl, rfl, rfl, rfl, rfl, rfl, rfl, rfl, rfl, trivial⟩) (.refl _))
  have s24 : ∀ (c158 : Nat), W 8 (lv 16 8679) (asg [(2, .ptr c1 4 0 0), (4, D.b false), (5, (encL 1 D.i) ((nearF c t).1)), (9, (encL 2 encPrint) ((printsF t c.k c.w).1)), (18, .ptr c158 1 0 0), (113, (encL 1 D.i) ((nearF c t).1)), (114, D.i (((nearF c t).1).length : Int)), (115, D.i x3), (138, (encL 2 encText) c.texts), (139, D.i (gi ((nearF c t).1) x3)), (143, D.i c.k), (145, D.i c.w)]) [(c158, .cells 1 [.v (.slice none 0 0)]), (c2, .cells 2 [encText t]), (c1, .cells 4 [encCorpus c])] := fun c158 => wpS_of hW (by refine wpS_step (rs := [3]) (by kernel_rfl) rfl ⟨?_, trivial⟩; refine wpS_op (i := 3) (li' := (lv 16 8687)) rfl rfl rfl rfl (by kernel_rfl) (OpA.iixV (enc := encText) rfl ts22 rfl rfl rfl q3_0 ?_); exact wpS_to hW (s17 c158) (Cov.asg ⟨rfl, rfl, rfl, rfl, rfl, rfl, rfl, rfl, rfl, rfl, rfl, trivial⟩) (.refl _))
  have s25 : W 9 (lv 16 191) (asg [(2, .ptr c1 4 0 0), (4, D.b false), (5, (encL 1 D.i) ((nearF c t).1)), (9, (encL 2 encPrint) ((printsF t c.k c.w).1)), (113, (encL 1 D.i) ((nearF c t).1)), (114, D.i (((nearF c t).1).length : Int)), (115, D.i x3), (141, encText (gi c.texts (gi ((nearF c t).1) x3))), (142, .ptr c1 4 0 0), (144, .ptr c1 4 0 1)]) [(c2, .cells 2 [encText t]), (c1, .cells 4 [encCorpus c])] := wpS_of hW (by refine wpS_step (rs := [6, 8, 13]) (by kernel_rfl) rfl ⟨?_, ?_, ?_, trivial⟩; refine wpS_op (i := 6) (li' := (lv 16 255)) rfl rfl rfl rfl (by kernel_rfl) (OpA.load rfl ti3 rfl (.tail .head) rfl rfl ?_); exact wpS_to hW (s18) (Cov.asg ⟨rfl, rfl, rfl, rfl, rfl, rfl, rfl, rfl, rfl, rfl, trivial⟩) (.refl _); refine wpS_op (i := 8) (li' := (lv 16 447)) rfl rfl rfl rfl (by kernel_rfl) (OpA.load rfl ti3 rfl (.tail .head) rfl rfl ?_); exact wpS_to hW (s19) (Cov.asg ⟨rfl, rfl, rfl, rfl, rfl, rfl, rfl, rfl, rfl, rfl, trivial⟩) (.refl _); refine wpS_op (i := 13) (li' := (lv 16 8383)) rfl rfl rfl rfl (by kernel_rfl) (OpA.alloc (sz := 1) (d := .v (.slice none 0 0)) rfl tz77 (fun _ _ => .v _) (.of rfl) (fun c158 _ => ?_)); exact wpS_to hW (s20 c158) (Cov.asg ⟨rfl, rfl, rfl, rfl, rfl, rfl, rfl, rfl, rfl, rfl, rfl, trivial⟩) (.refl _))
  have s26 : W 9 (lv 16 239) (asg [(2, .ptr c1 4 0 0), (4, D.b false), (5, (encL 1 D.i) ((nearF c t).1)), (9, (encL 2 encPrint) ((printsF t c.k c.w).1)), (113, (encL 1 D.i) ((nearF c t).1)), (114, D.i (((nearF c t).1).length : Int)), (115, D.i x3), (140, .iptr (encText (gi c.texts (gi ((nearF c t).1) x3))) 0), (143, D.i c.k), (144, .ptr c1 4 0 1)]) [(c2, .cells 2 [encText t]), (c1, .cells 4 [encCorpus c])] := wpS_of hW (by refine wpS_step (rs := [4, 8, 13]) (by kernel_rfl) rfl ⟨?_, ?_, ?_, trivial⟩; refine wpS_op (i := 4) (li' := (lv 16 255)) rfl rfl rfl rfl (by kernel_rfl) (OpA.iload_whole rfl ti28 rfl ⟨_, rfl, rfl⟩ ?_); exact wpS_to hW (s18) (Cov.asg ⟨rfl, rfl, rfl, rfl, rfl, rfl, rfl, rfl, rfl, rfl, trivial⟩) (.refl _); refine wpS_op (i := 8) (li' := (lv 16 495)) rfl rfl rfl rfl (by kernel_rfl) (OpA.load rfl ti3 rfl (.tail .head) rfl rfl ?_); exact wpS_to hW (s21) (Cov.asg ⟨rfl, rfl, rfl, rfl, rfl, rfl, rfl, rfl, rfl, rfl, trivial⟩) (.refl _); refine wpS_op (i := 13) (li' := (lv 16 8431)) rfl rfl rfl rfl (by kernel_rfl) (OpA.alloc (sz := 1) (d := .v (.slice none 0 0)) rfl tz77 (fun _ _ => .v _) (.of rfl) (fun c158 _ => ?_)); exact wpS_to hW (s22 c158) (Cov.asg ⟨rfl, rfl, rfl, rfl, rfl, rfl, rfl, rfl, rfl, rfl, rfl, trivial⟩) (.refl _))
  have s27 : W 9 (lv 16 431) (asg [(2, .ptr c1 4 0 0), (4, D.b false), (5, (encL 1 D.i) ((nearF c t).1)), (9, (encL 2 encPrint) ((printsF t c.k c.w).1)), (113, (encL 1 D.i) ((nearF c t).1)), (114, D.i (((nearF c t).1).length : Int)), (115, D.i x3), (140, .iptr (encText (gi c.texts (gi ((nearF c t).1) x3))) 0), (142, .ptr c1 4 0 0), (145, D.i c.w)]) [(c2, .cells 2 [encText t]), (c1, .cells 4 [encCorpus c])] := wpS_of hW (by refine wpS_step (rs := [4, 6, 13]) (by kernel_rfl) rfl ⟨?_, ?_, ?_, trivial⟩; refine wpS_op (i := 4) (li' := (lv 16 447)) rfl rfl rfl rfl (by kernel_rfl) (OpA.iload_whole rfl ti28 rfl ⟨_, rfl, rfl⟩ ?_); exact wpS_to hW (s19) (Cov.asg ⟨rfl, rfl, rfl, rfl, rfl, rfl, rfl, rfl, rfl, rfl, trivial⟩) (.refl _); refine wpS_op (i := 6) (li' := (lv 16 495)) rfl rfl rfl rfl (by kernel_rfl) (OpA.load rfl ti3 rfl (.tail .head) rfl rfl ?_); exact wpS_to hW (s21) (Cov.asg ⟨rfl, rfl, rfl, rfl, rfl, rfl, rfl, rfl, rfl, rfl, trivial⟩) (.refl _); refine wpS_op (i := 13) (li' := (lv 16 8623)) rfl rfl rfl rfl (by kernel_rfl) (OpA.alloc (sz := 1) (d := .v (.slice none 0 0)) rfl tz77 (fun _ _ => .v _) (.of rfl) (fun c158 _ => ?_)); exact wpS_to hW (s23 c158) (Cov.asg ⟨rfl, rfl, rfl, rfl, rfl, rfl, rfl, rfl, rfl, rfl, rfl, trivial⟩) (.refl _))
  have s28 : ∀ (c158 : Nat), W 9 (lv 16 8367) (asg [(2, .ptr c1 4 0 0), (4, D.b false), (5, (encL 1 D.i) ((nearF c t).1)), (9, (encL 2 encPrint) ((printsF t c.k c.w).1)), (18, .ptr c158 1 0 0), (113, (encL 1 D.i) ((nearF c t).1)), (114, D.i (((nearF c t).1).length : Int)), (115, D.i x3), (140, .iptr (encText (gi c.texts (gi ((nearF c t).1) x3))) 0), (142, .ptr c1 4 0 0), (144, .ptr c1 4 0 1)]) [(c158, .cells 1 [.v (.slice none 0 0)]), (c2, .cells 2 [encText t]), (c1, .cells 4 [encCorpus c])] := fun c158 => wpS_of hW (by refine wpS_step (rs := [4, 6, 8]) (by kernel_rfl) rfl ⟨?_, ?_, ?_, trivial⟩; refine wpS_op (i := 4) (li' := (lv 16 8383)) rfl rfl rfl rfl (by kernel_rfl) (OpA.iload_whole rfl ti28 rfl ⟨_, rfl, rfl⟩ ?_); exact wpS_to hW (s20 c158) (Cov.asg ⟨rfl, rfl, rfl, rfl, rfl, rfl, rfl, rfl, rfl, rfl, rfl, trivial⟩) (.refl _); refine wpS_op (i := 6) (li' := (lv 16 8431)) rfl rfl rfl rfl (by kernel_rfl) (OpA.load rfl ti3 rfl (.tail (.tail .head)) rfl rfl ?_); exact wpS_to hW (s22 c158) (Cov.asg ⟨rfl, rfl, rfl, rfl, rfl, rfl, rfl, rfl, rfl, rfl, rfl, trivial⟩) (.refl _); refine wpS_op (i := 8) (li' := (lv 16 8623)) rfl rfl rfl rfl (by kernel_rfl) (OpA.load rfl ti3 rfl (.tail (.tail .head)) rfl rfl ?_); exact wpS_to hW (s23 c158) (Cov.asg ⟨rfl, rfl, rfl, rfl, rfl, rfl, rfl, rfl, rfl, rfl, rfl, trivial⟩) (.refl _))
  have s29 : W 9 (lv 16 487) (asg [(2, .ptr c1 4 0 0), (4, D.b false), (5, (encL 1 D.i) ((nearF c t).1)), (9, (encL 2 encPrint) ((printsF t c.k c.w).1)), (113, (encL 1 D.i) ((nearF c t).1)), (114, D.i (((nearF c t).1).length : Int)), (115, D.i x3), (138, (encL 2 encText) c.texts), (139, D.i (gi ((nearF c t).1) x3)), (143, D.i c.k), (145, D.i c.w)]) [(c2, .cells 2 [encText t]), (c1, .cells 4 [encCorpus c])] := wpS_of hW (by refine wpS_step (rs := [3, 13]) (by kernel_rfl) rfl ⟨?_, ?_, trivial⟩; refine wpS_op (i := 3) (li' := (lv 16 495)) rfl rfl rfl rfl (by kernel_rfl) (OpA.iixV (enc := encText) rfl ts22 rfl rfl rfl q3_0 ?_); exact wpS_to hW (s21) (Cov.asg ⟨rfl, rfl, rfl, rfl, rfl, rfl, rfl, rfl, rfl, rfl, trivial⟩) (.refl _); refine wpS_op (i := 13) (li' := (lv 16 8679)) rfl rfl rfl rfl (by kernel_rfl) (OpA.alloc (sz := 1) (d := .v (.slice none 0 0)) rfl tz77 (fun _ _ => .v _) (.of rfl) (fun c158 _ => ?_)); exact wpS_to hW (s24 c158) (Cov.asg ⟨rfl, rfl, rfl, rfl, rfl, rfl, rfl, rfl, rfl, rfl, rfl, rfl, trivial⟩) (.refl _))
  have s30 : ∀ (c158 : Nat), W 9 (lv 16 8423) (asg [(2, .ptr c1 4 0 0), (4, D.b false), (5, (encL 1 D.i) ((nearF c t).1)), (9, (encL 2 encPrint) ((printsF t c.k c.w).1)), (18, .ptr c158 1 0 0), (113, (encL 1 D.i) ((nearF c t).1)), (114, D.i (((nearF c t).1).length : Int)), (115, D.i x3), (138, (encL 2 encText) c.texts), (139, D.i (gi ((nearF c t).1) x3)), (143, D.i c.k), (144, .ptr c1 4 0 1)]) [(c158, .cells 1 [.v (.slice none 0 0)]), (c2, .cells 2 [encText t]), (c1, .cells 4 [encCorpus c])] := fun c158 => wpS_of hW (by refine wpS_step (rs := [3, 8]) (by kernel_rfl) rfl ⟨?_, ?_, trivial⟩; refine wpS_op (i := 3) (li' := (lv 16 8431)) rfl rfl rfl rfl (by kernel_rfl) (OpA.iixV (enc := encText) rfl ts22 rfl rfl rfl q3_0 ?_); exact wpS_to hW (s22 c158) (Cov.asg ⟨rfl, rfl, rfl, rfl, rfl, rfl, rfl, rfl, rfl, rfl, rfl, trivial⟩) (.refl _); refine wpS_op (i := 8) (li' := (lv 16 8679)) rfl rfl rfl rfl (by kernel_rfl) (OpA.load rfl ti3 rfl (.tail (.tail .head)) rfl rfl ?_); exact wpS_to hW (s24 c158) (Cov.asg ⟨rfl, rfl, rfl, rfl, rfl, rfl, rfl, rfl, rfl, rfl, rfl, rfl, trivial⟩) (.refl _))
  have s31 : ∀ (c158 : Nat), W 9 (lv 16 8615) (asg [(2, .ptr c1 4 0 0), (4, D.b false), (5, (encL 1 D.i) ((nearF c t).1)), (9, (encL 2 encPrint) ((printsF t c.k c.w).1)), (18, .ptr c158 1 0 0), (113, (encL 1 D.i) ((nearF c t).1)), (114, D.i (((nearF c t).1).length : Int)), (115, D.i x3), (138, (encL 2 encText) c.texts), (139, D.i (gi ((nearF c t).1) x3)), (142, .ptr c1 4 0 0), (145, D.i c.w)]) [(c158, .cells 1 [.v (.slice none 0 0)]), (c2, .cells 2 [encText t]), (c1, .cells 4 [encCorpus c])] := fun c158 => wpS_of hW (by refine wpS_step (rs := [3, 6]) (by kernel_rfl) rfl ⟨?_, ?_, trivial⟩; refine wpS_op (i := 3) (li' := (lv 16 8623)) rfl rfl rfl rfl (by kernel_rfl) (OpA.iixV (enc := encText) rfl ts22 rfl rfl rfl q3_0 ?_); exact wpS_to hW (s23 c158) (Cov.asg ⟨rfl, rfl, rfl, rfl, rfl, rfl, rfl, rfl, rfl, rfl, rfl, trivial⟩) (.refl _); refine wpS_op (i := 6) (li' := (lv 16 8679)) rfl rfl rfl rfl (by kernel_rfl) (OpA.load rfl ti3 rfl (.tail (.tail .head)) rfl rfl ?_); exact wpS_to hW (s24 c158) (Cov.asg ⟨rfl, rfl, rfl, rfl, rfl, rfl, rfl, rfl, rfl, rfl, rfl, rfl, trivial⟩) (.refl _))
  have s32 : ∀ (c158 : Nat), W 9 (lv 16 8677) (asg [(2, .ptr c1 4 0 0), (4, D.b false), (5, (encL 1 D.i) ((nearF c t).1)), (9, (encL 2 encPrint) ((printsF t c.k c.w).1)), (18, .ptr c158 1 0 0), (113, (encL 1 D.i) ((nearF c t).1)), (114, D.i (((nearF c t).1).length : Int)), (115, D.i x3), (137, .ptr c1 4 0 2), (139, D.i (gi ((nearF c t).1) x3)), (143, D.i c.k), (145, D.i c.w)]) [(c158, .cells 1 [.v (.slice none 0 0)]), (c2, .cells 2 [encText t]), (c1, .cells 4 [encCorpus c])] := fun c158 => wpS_of hW (by refine wpS_step (rs := [1]) (by kernel_rfl) rfl ⟨?_, trivial⟩; refine wpS_op (i := 1) (li' := (lv 16 8679)) rfl rfl rfl rfl (by kernel_rfl) (OpA.load rfl ti22 rfl (.tail (.tail .head)) rfl rfl ?_); exact wpS_to hW (s24 c158) (Cov.asg ⟨rfl, rfl, rfl, rfl, rfl, rfl, rfl, rfl, rfl, rfl, rfl, rfl, trivial⟩) (.refl _))
  have s33 : W 10 (lv 16 175) (asg [(2, .ptr c1 4 0 0), (4, D.b false), (5, (encL 1 D.i) ((nearF c t).1)), (9, (encL 2 encPrint) ((printsF t c.k c.w).1)), (113, (encL 1 D.i) ((nearF c t).1)), (114, D.i (((nearF c t).1).length : Int)), (115, D.i x3), (140, .iptr (encText (gi c.texts (gi ((nearF c t).1) x3))) 0), (142, .ptr c1 4 0 0), (144, .ptr c1 4 0 1)]) [(c2, .cells 2 [encText t]), (c1, .cells 4 [encCorpus c])] := wpS_of hW (by refine wpS_step (rs := [4, 6, 8, 13]) (by kernel_rfl) rfl ⟨?_, ?_, ?_, ?_, trivial⟩; refine wpS_op (i := 4) (li' := (lv 16 191)) rfl rfl rfl rfl (by kernel_rfl) (OpA.iload_whole rfl ti28 rfl ⟨_, rfl, rfl⟩ ?_); exact wpS_to hW (s25) (Cov.asg ⟨rfl, rfl, rfl, rfl, rfl, rfl, rfl, rfl, rfl, rfl, trivial⟩) (.refl _); refine wpS_op (i := 6) (li' := (lv 16 239)) rfl rfl rfl rfl (by kernel_rfl) (OpA.load rfl ti3 rfl (.tail .head) rfl rfl ?_); exact wpS_to hW (s26) (Cov.asg ⟨rfl, rfl, rfl, rfl, rfl, rfl, rfl, rfl, rfl, rfl, trivial⟩) (.refl _); refine wpS_op (i := 8) (li' := (lv 16 431)) rfl rfl rfl rfl (by kernel_rfl) (OpA.load rfl ti3 rfl (.tail .head) rfl rfl ?_); exact wpS_to hW (s27) (Cov.asg ⟨rfl, rfl, rfl, rfl, rfl, rfl, rfl, rfl, rfl, rfl, trivial⟩) (.refl _); refine wpS_op (i := 13) (li' := (lv 16 8367)) rfl rfl rfl rfl (by kernel_rfl) (OpA.alloc (sz := 1) (d := .v (.slice none 0 0)) rfl tz77 (fun _ _ => .v _) (.of rfl) (fun c158 _ => ?_)); exact wpS_to hW (s28 c158) (Cov.asg ⟨rfl, rfl, rfl, rfl, rfl, rfl, rfl, rfl, rfl, rfl, rfl, trivial⟩) (.refl _))
  have s34 : W 10 (lv 16 231) (asg [(2, .ptr c1 4 0 0), (4, D.b false), (5, (encL 1 D.i) ((nearF c t).1)), (9, (encL 2 encPrint) ((printsF t c.k c.w).1)), (113, (encL 1 D.i) ((nearF c t).1)), (114, D.i (((nearF c t).1).length : Int)), (115, D.i x3), (138, (encL 2 encText) c.texts), (139, D.i (gi ((nearF c t).1) x3)), (143, D.i c.k), (144, .ptr c1 4 0 1)]) [(c2, .cells 2 [encText t]), (c1, .cells 4 [encCorpus c])] := wpS_of hW (by refine wpS_step (rs := [3, 8, 13]) (by kernel_rfl) rfl ⟨?_, ?_, ?_, trivial⟩; refine wpS_op (i := 3) (li' := (lv 16 239)) rfl rfl rfl rfl (by kernel_rfl) (OpA.iixV (enc := encText) rfl ts22 rfl rfl rfl q3_0 ?_); exact wpS_to hW (s26) (Cov.asg ⟨rfl, rfl, rfl, rfl, rfl, rfl, rfl, rfl, rfl, rfl, trivial⟩) (.refl _); refine wpS_op (i := 8) (li' := (lv 16 487)) rfl rfl rfl rfl (by kernel_rfl) (OpA.load rfl ti3 rfl (.tail .head) rfl rfl ?_); exact wpS_to hW (s29) (Cov.asg ⟨rfl, rfl, rfl, rfl, rfl, rfl, rfl, rfl, rfl, rfl, rfl, trivial⟩) (.refl _); refine wpS_op (i := 13) (li' := (lv 16 8423)) rfl rfl rfl rfl (by kernel_rfl) (OpA.alloc (sz := 1) (d := .v (.slice none 0 0)) rfl tz77 (fun _ _ => .v _) (.of rfl) (fun c158 _ => ?_)); exact wpS_to hW (s30 c158) (Cov.asg ⟨rfl, rfl, rfl, rfl, rfl, rfl, rfl, rfl, rfl, rfl, rfl, rfl, trivial⟩) (.refl _))
  have s35 : W 10 (lv 16 423) (asg [(2, .ptr c1 4 0 0), (4, D.b false), (5, (encL 1 D.i) ((nearF c t).1)), (9, (encL 2 encPrint) ((printsF t c.k c.w).1)), (113, (encL 1 D.i) ((nearF c t).1)), (114, D.i (((nearF c t).1).length : Int)), (115, D.i x3), (138, (encL 2 encText) c.texts), (139, D.i (gi ((nearF c t).1) x3)), (142, .ptr c1 4 0 0), (145, D.i c.w)]) [(c2, .cells 2 [encText t]), (c1, .cells 4 [encCorpus c])] := wpS_of hW (by refine wpS_step (rs := [3, 6, 13]) (by kernel_rfl) rfl ⟨?_, ?_, ?_, trivial⟩; refine wpS_op (i := 3) (li' := (lv 16 431)) rfl rfl rfl rfl (by kernel_rfl) (OpA.iixV (enc := encText) rfl ts22 rfl rfl rfl q3_0 ?_); exact wpS_to hW (s27) (Cov.asg ⟨rfl, rfl, rfl, rfl, rfl, rfl, rfl, rfl, rfl, rfl, trivial⟩) (.refl _); refine wpS_op (i := 6) (li' := (lv 16 487)) rfl rfl rfl rfl (by kernel_rfl) (OpA.load rfl ti3 rfl (.tail .head) rfl rfl ?_); exact wpS_to hW (s29) (Cov.asg ⟨rfl, rfl, rfl, rfl, rfl, rfl, rfl, rfl, rfl, rfl, rfl, trivial⟩) (.refl _); refine wpS_op (i := 13) (li' := (lv 16 8615)) rfl rfl rfl rfl (by kernel_rfl) (OpA.alloc (sz := 1) (d := .v (.slice none 0 0)) rfl tz77 (fun _ _ => .v _) (.of rfl) (fun c158 _ => ?_)); exact wpS_to hW (s31 c158) (Cov.asg ⟨rfl, rfl, rfl, rfl, rfl, rfl, rfl, rfl, rfl, rfl, rfl, rfl, trivial⟩) (.refl _))
  have s36 : ∀ (c158 : Nat), W 10 (lv 16 8359) (asg [(2, .ptr c1 4 0 0), (4, D.b false), (5, (encL 1 D.i) ((nearF c t).1)), (9, (encL 2 encPrint) ((printsF t c.k c.w).1)), (18, .ptr c158 1 0 0), (113, (encL 1 D.i) ((nearF c t).1)), (114, D.i (((nearF c t).1).length : Int)), (115, D.i x3), (138, (encL 2 encText) c.texts), (139, D.i (gi ((nearF c t).1) x3)), (142, .ptr c1 4 0 0), (144, .ptr c1 4 0 1)]) [(c158, .cells 1 [.v (.slice none 0 0)]), (c2, .cells 2 [encText t]), (c1, .cells 4 [encCorpus c])] := fun c158 => wpS_of hW (by refine wpS_step (rs := [3, 6, 8]) (by kernel_rfl) rfl ⟨?_, ?_, ?_, trivial⟩; refine wpS_op (i := 3) (li' := (lv 16 8367)) rfl rfl rfl rfl (by kernel_rfl) (OpA.iixV (enc := encText) rfl ts22 rfl rfl rfl q3_0 ?_); exact wpS_to hW (s28 c158) (Cov.asg ⟨rfl, rfl, rfl, rfl, rfl, rfl, rfl, rfl, rfl, rfl, rfl, trivial⟩) (.refl _); refine wpS_op (i := 6) (li' := (lv 16 8423)) rfl rfl rfl rfl (by kernel_rfl) (OpA.load rfl ti3 rfl (.tail (.tail .head)) rfl rfl ?_); exact wpS_to hW (s30 c158) (Cov.asg ⟨rfl, rfl, rfl, rfl, rfl, rfl, rfl, rfl, rfl, rfl, rfl, rfl, trivial⟩) (.refl _); refine wpS_op (i := 8) (li' := (lv 16 8615)) rfl rfl rfl rfl (by kernel_rfl) (OpA.load rfl ti3 rfl (.tail (.tail .head)) rfl rfl ?_); exact wpS_to hW (s31 c158) (Cov.asg ⟨rfl, rfl, rfl, rfl, rfl, rfl, rfl, rfl, rfl, rfl, rfl, rfl, trivial⟩) (.refl _))
  have s37 : W 10 (lv 16 485) (asg [(2, .ptr c1 4 0 0), (4, D.b false), (5, (encL 1 D.i) ((nearF c t).1)), (9, (encL 2 encPrint) ((printsF t c.k c.w).1)), (113, (encL 1 D.i) ((nearF c t).1)), (114, D.i (((nearF c t).1).length : Int)), (115, D.i x3), (137, .ptr c1 4 0 2), (139, D.i (gi ((nearF c t).1) x3)), (143, D.i c.k), (145, D.i c.w)]) [(c2, .cells 2 [encText t]), (c1, .cells 4 [encCorpus c])] := wpS_of hW (by refine wpS_step (rs := [1, 13]) (by kernel_rfl) rfl ⟨?_, ?_, trivial⟩; refine wpS_op (i := 1) (li' := (lv 16 487)) rfl rfl rfl rfl (by kernel_rfl) (OpA.load rfl ti22 rfl (.tail .head) rfl rfl ?_); exact wpS_to hW (s29) (Cov.asg ⟨rfl, rfl, rfl, rfl, rfl, rfl, rfl, rfl, rfl, rfl, rfl, trivial⟩) (.refl _); refine wpS_op (i := 13) (li' := (lv 16 8677)) rfl rfl rfl rfl (by kernel_rfl) (OpA.alloc (sz := 1) (d := .v (.slice none 0 0)) rfl tz77 (fun _ _ => .v _) (.of rfl) (fun c158 _ => ?_)); exact wpS_to hW (s32 c158) (Cov.asg ⟨rfl, rfl, rfl, rfl, rfl, rfl, rfl, rfl, rfl, rfl, rfl, rfl, trivial⟩) (.refl _))
  have s38 : ∀ (c158 : Nat), W 10 (lv 16 8421) (asg [(2, .ptr c1 4 0 0), (4, D.b false), (5, (encL 1 D.i) ((nearF c t).1)), (9, (encL 2 encPrint) ((printsF t c.k c.w).1)), (18, .ptr c158 1 0 0), (113, (encL 1 D.i) ((nearF c t).1)), (114, D.i (((nearF c t).1).length : Int)), (115, D.i x3), (137, .ptr c1 4 0 2), (139, D.i (gi ((nearF c t).1) x3)), (143, D.i c.k), (144, .ptr c1 4 0 1)]) [(c158, .cells 1 [.v (.slice none 0 0)]), (c2, .cells 2 [encText t]), (c1, .cells 4 [encCorpus c])] := fun c158 => wpS_of hW (by refine wpS_step (rs := [1, 8]) (by kernel_rfl) rfl ⟨?_, ?_, trivial⟩; refine wpS_op (i := 1) (li' := (lv 16 8423)) rfl rfl rfl rfl (by kernel_rfl) (OpA.load rfl ti22 rfl (.tail (.tail .head)) rfl rfl ?_); exact wpS_to hW (s30 c158) (Cov.asg ⟨rfl, rfl, rfl, rfl, rfl, rfl, rfl, rfl, rfl, rfl, rfl, rfl, trivial⟩) (.refl _); refine wpS_op (i := 8) (li' := (lv 16 8677)) rfl rfl rfl rfl (by kernel_rfl) (OpA.load rfl ti3 rfl (.tail (.tail .head)) rfl rfl ?_); exact wpS_to hW (s32 c158) (Cov.asg ⟨rfl, rfl, rfl, rfl, rfl, rfl, rfl, rfl, rfl, rfl, rfl, rfl, trivial⟩) (.refl _))
  have s39 : ∀ (c158 : Nat), W 10 (lv 16 8613) (asg [(2, .ptr c1 4 0 0), (4, D.b false), (5, (encL 1 D.i) ((nearF c t).1)), (9, (encL 2 encPrint) ((printsF t c.k c.w).1)), (18, .ptr c158 1 0 0), (113, (encL 1 D.i) ((nearF c t).1)), (114, D.i (((nearF c t).1).length : Int)), (115, D.i x3), (137, .ptr c1 4 0 2), (139, D.i (gi ((nearF c t).1) x3)), (142, .ptr c1 4 0 0), (145, D.i c.w)]) [(c158, .cells 1 [.v (.slice none 0 0)]), (c2, .cells 2 [encText t]), (c1, .cells 4 [encCorpus c])] := fun c158 => wpS_of hW (by refine wpS_step (rs := [1, 6]) (by kernel_rfl) rfl ⟨?_, ?_, trivial⟩; refine wpS_op (i := 1) (li' := (lv 16 8615)) rfl rfl rfl rfl (by kernel_rfl) (OpA.load rfl ti22 rfl (.tail (.tail .head)) rfl rfl ?_); exact wpS_to hW (s31 c158) (Cov.asg ⟨rfl, rfl, rfl, rfl, rfl, rfl, rfl, rfl, rfl, rfl, rfl, rfl, trivial⟩) (.refl _); refine wpS_op (i := 6) (li' := (lv 16 8677)) rfl rfl rfl rfl (by kernel_rfl) (OpA.load rfl ti3 rfl (.tail (.tail .head)) rfl rfl ?_); exact wpS_to hW (s32 c158) (Cov.asg ⟨rfl, rfl, rfl, rfl, rfl, rfl, rfl, rfl, rfl, rfl, rfl, rfl, trivial⟩) (.refl _))
  have s40 : W 11 (lv 16 167) (asg [(2, .ptr c1 4 0 0), (4, D.b false), (5, (encL 1 D.i) ((nearF c t).1)), (9, (encL 2 encPrint) ((printsF t c.k c.w).1)), (113, (encL 1 D.i) ((nearF c t).1)), (114, D.i (((nearF c t).1).length : Int)), (115, D.i x3), (138, (encL 2 encText) c.texts), (139, D.i (gi ((nearF c t).1) x3)), (142, .ptr c1 4 0 0), (144, .ptr c1 4 0 1)]) [(c2, .cells 2 [encText t]), (c1, .cells 4 [encCorpus c])] := wpS_of hW (by refine wpS_step (rs := [3, 6, 8, 13]) (by kernel_rfl) rfl ⟨?_, ?_, ?_, ?_, trivial⟩; refine wpS_op (i := 3) (li' := (lv 16 175)) rfl rfl rfl rfl (by kernel_rfl) (OpA.iixV (enc := encText) rfl ts22 rfl rfl rfl q3_0 ?_); exact wpS_to hW (s33) (Cov.asg ⟨rfl, rfl, rfl, rfl, rfl, rfl, rfl, rfl, rfl, rfl, trivial⟩) (.refl _); refine wpS_op (i := 6) (li' := (lv 16 231)) rfl rfl rfl rfl (by kernel_rfl) (OpA.load rfl ti3 rfl (.tail .head) rfl rfl ?_); exact wpS_to hW (s34) (Cov.asg ⟨rfl, rfl, rfl, rfl, rfl, rfl, rfl, rfl, rfl, rfl, rfl, trivial⟩) (.refl _); refine wpS_op (i := 8) (li' := (lv 16 423)) rfl rfl rfl rfl (by kernel_rfl) (OpA.load rfl ti3 rfl (.tail .head) rfl rfl ?_); exact wpS_to hW (s35) (Cov.asg ⟨rfl, rfl, rfl, rfl, rfl, rfl, rfl, rfl, rfl, rfl, rfl, trivial⟩) (.refl _); refine wpS_op (i := 13) (li' := (lv 16 8359)) rfl rfl rfl rfl (by kernel_rfl) (OpA.alloc (sz := 1) (d := .v (.slice none 0 0)) rfl tz77 (fun _ _ => .v _) (.of rfl) (fun c158 _ => ?_)); exact wpS_to hW (s36 c158) (Cov.asg ⟨rfl, rfl, rfl, rfl, rfl, rfl, rfl, rfl, rfl, rfl, rfl, rfl, trivial⟩) (.refl _))
  have s41 : W 11 (lv 16 229) (asg [(2, .ptr c1 4 0 0), (4, D.b false), (5, (encL 1 D.i) ((nearF c t).1)), (9, (encL 2 encPrint) ((printsF t c.k c.w).1)), (113, (encL 1 D.i) ((nearF c t).1)), (114, D.i (((nearF c t).1).length : Int)), (115, D.i x3), (137, .ptr c1 4 0 2), (139, D.i (gi ((nearF c t).1) x3)), (143, D.i c.k), (144, .ptr c1 4 0 1)]) [(c2, .cells 2 [encText t]), (c1, .cells 4 [encCorpus c])] := wpS_of hW (by refine wpS_step (rs := [1, 8, 13]) (by kernel_rfl) rfl ⟨?_, ?_, ?_, trivial⟩; refine wpS_op (i := 1) (li' := (lv 16 231)) rfl rfl rfl rfl (by kernel_rfl) (OpA.load rfl ti22 rfl (.tail .head) rfl rfl ?_); exact wpS_to hW (s34) (Cov.asg ⟨rfl, rfl, rfl, rfl, rfl, rfl, rfl, rfl, rfl, rfl, rfl, trivial⟩) (.refl _); refine wpS_op (i := 8) (li' := (lv 16 485)) rfl rfl rfl rfl (by kernel_rfl) (OpA.load rfl ti3 rfl (.tail .head) rfl rfl ?_); exact wpS_to hW (s37) (Cov.asg ⟨rfl, rfl, rfl, rfl, rfl, rfl, rfl, rfl, rfl, rfl, rfl, trivial⟩) (.refl _); refine wpS_op (i := 13) (li' := (lv 16 8421)) rfl rfl rfl rfl (by kernel_rfl) (OpA.alloc (sz := 1) (d := .v (.slice none 0 0)) rfl tz77 (fun _ _ => .v _) (.of rfl) (fun c158 _ => ?_)); exact wpS_to hW (s38 c158) (Cov.asg ⟨rfl, rfl, rfl, rfl, rfl, rfl, rfl, rfl, rfl, rfl, rfl, rfl, trivial⟩) (.refl _))
  have s42 : W 11 (lv 16 421) (asg [(2, .ptr c1 4 0 0), (4, D.b false), (5, (encL 1 D.i) ((nearF c t).1)), (9, (encL 2 encPrint) ((printsF t c.k c.w).1)), (113, (encL 1 D.i) ((nearF c t).1)), (114, D.i (((nearF c t).1).length : Int)), (115, D.i x3), (137, .ptr c1 4 0 2), (139, D.i (gi ((nearF c t).1) x3)), (142, .ptr c1 4 0 0), (145, D.i c.w)]) [(c2, .cells 2 [encText t]), (c1, .cells 4 [encCorpus c])] := wpS_of hW (by refine wpS_step (rs := [1, 6, 13]) (by kernel_rfl) rfl ⟨?_, ?_, ?_, trivial⟩; refine wpS_op (i := 1) (li' := (lv 16 423)) rfl rfl rfl rfl (by kernel_rfl) (OpA.load rfl ti22 rfl (.tail .head) rfl rfl ?_); exact wpS_to hW (s35) (Cov.asg ⟨rfl, rfl, rfl, rfl, rfl, rfl, rfl, rfl, rfl, rfl, rfl, trivial⟩) (.refl _); refine wpS_op (i := 6) (li' := (lv 16 485)) rfl rfl rfl rfl (by kernel_rfl) (OpA.load rfl ti3 rfl (.tail .head) rfl rfl ?_); exact wpS_to hW (s37) (Cov.asg ⟨rfl, rfl, rfl, rfl, rfl, rfl, rfl, rfl, rfl, rfl, rfl, trivial⟩) (.refl _); refine wpS_op (i := 13) (li' := (lv 16 8613)) rfl rfl rfl rfl (by kernel_rfl) (OpA.alloc (sz := 1) (d := .v (.slice none 0 0)) rfl tz77 (fun _ _ => .v _) (.of rfl) (fun c158 _ => ?_)); exact wpS_to hW (s39 c158) (Cov.asg ⟨rfl, rfl, rfl, rfl, rfl, rfl, rfl, rfl, rfl, rfl, rfl, rfl, trivial⟩) (.refl _))
  have s43 : ∀ (c158 : Nat), W 11 (lv 16 8357) (asg [(2, .ptr c1 4 0 0), (4, D.b false), (5, (encL 1 D.i) ((nearF c t).1)), (9, (encL 2 encPrint) ((printsF t c.k c.w).1)), (18, .ptr c158 1 0 0), (113, (encL 1 D.i) ((nearF c t).1)), (114, D.i (((nearF c t).1).length : Int)), (115, D.i x3), (137, .ptr c1 4 0 2), (139, D.i (gi ((nearF c t).1) x3)), (142, .ptr c1 4 0 0), (144, .ptr c1 4 0 1)]) [(c158, .cells 1 [.v (.slice none 0 0)]), (c2, .cells 2 [encText t]), (c1, .cells 4 [encCorpus c])] := fun c158 => wpS_of hW (by refine wpS_step (rs := [1, 6, 8]) (by kernel_rfl) rfl ⟨?_, ?_, ?_, trivial⟩; refine wpS_op (i := 1) (li' := (lv 16 8359)) rfl rfl rfl rfl (by kernel_rfl) (OpA.load rfl ti22 rfl (.tail (.tail .head)) rfl rfl ?_); exact wpS_to hW (s36 c158) (Cov.asg ⟨rfl, rfl, rfl, rfl, rfl, rfl, rfl, rfl, rfl, rfl, rfl, rfl, trivial⟩) (.refl _); refine wpS_op (i := 6) (li' := (lv 16 8421)) rfl rfl rfl rfl (by kernel_rfl) (OpA.load rfl ti3 rfl (.tail (.tail .head)) rfl rfl ?_); exact wpS_to hW (s38 c158) (Cov.asg ⟨rfl, rfl, rfl, rfl, rfl, rfl, rfl, rfl, rfl, rfl, rfl, rfl, trivial⟩) (.refl _); refine wpS_op (i := 8) (li' := (lv 16 8613)) rfl rfl rfl rfl (by kernel_rfl) (OpA.load rfl ti3 rfl (.tail (.tail .head)) rfl rfl ?_); exact wpS_to hW (s39 c158) (Cov.asg ⟨rfl, rfl, rfl, rfl, rfl, rfl, rfl, rfl, rfl, rfl, rfl, rfl, trivial⟩) (.refl _))
  have s44 : W 12 (lv 16 165) (asg [(2, .ptr c1 4 0 0), (4, D.b false), (5, (encL 1 D.i) ((nearF c t).1)), (9, (encL 2 encPrint) ((printsF t c.k c.w).1)), (113, (encL 1 D.i) ((nearF c t).1)), (114, D.i (((nearF c t).1).length : Int)), (115, D.i x3), (137, .ptr c1 4 0 2), (139, D.i (gi ((nearF c t).1) x3)), (142, .ptr c1 4 0 0), (144, .ptr c1 4 0 1)]) [(c2, .cells 2 [encText t]), (c1, .cells 4 [encCorpus c])] := wpS_of hW (by refine wpS_step (rs := [1, 6, 8, 13]) (by kernel_rfl) rfl ⟨?_, ?_, ?_, ?_, trivial⟩; refine wpS_op (i := 1) (li' := (lv 16 167)) rfl rfl rfl rfl (by kernel_rfl) (OpA.load rfl ti22 rfl (.tail .head) rfl rfl ?_); exact wpS_to hW (s40) (Cov.asg ⟨rfl, rfl, rfl, rfl, rfl, rfl, rfl, rfl, rfl, rfl, rfl, trivial⟩) (.refl _); refine wpS_op (i := 6) (li' := (lv 16 229)) rfl rfl rfl rfl (by kernel_rfl) (OpA.load rfl ti3 rfl (.tail .head) rfl rfl ?_); exact wpS_to hW (s41) (Cov.asg ⟨rfl, rfl, rfl, rfl, rfl, rfl, rfl, rfl, rfl, rfl, rfl, trivial⟩) (.refl _); refine wpS_op (i := 8) (li' := (lv 16 421)) rfl rfl rfl rfl (by kernel_rfl) (OpA.load rfl ti3 rfl (.tail .head) rfl rfl ?_); exact wpS_to hW (s42) (Cov.asg ⟨rfl, rfl, rfl, rfl, rfl, rfl, rfl, rfl, rfl, rfl, rfl, trivial⟩) (.refl _); refine wpS_op (i := 13) (li' := (lv 16 8357)) rfl rfl rfl rfl (by kernel_rfl) (OpA.alloc (sz := 1) (d := .v (.slice none 0 0)) rfl tz77 (fun _ _ => .v _) (.of rfl) (fun c158 _ => ?_)); exact wpS_to hW (s43 c158) (Cov.asg ⟨rfl, rfl, rfl, rfl, rfl, rfl, rfl, rfl, rfl, rfl, rfl, rfl, trivial⟩) (.refl _))
  refine wpS_of hW ?_
  refine wpS_firstY (fuel := 15) (i := 0) (li' := (lv 16 1)) rfl rfl (.fieldAddr rfl tf25_2 rfl) rfl rfl (by kernel_rfl) (by kernel_rfl) (by kernel_rfl) (fun _ _ _ hx => hx) rfl rfl (by kernel_rfl) ?_
  refine wpS_firstY (fuel := 14) (i := 2) (li' := (lv 16 5)) rfl rfl (.move rfl) rfl rfl (by kernel_rfl) (by kernel_rfl) (by kernel_rfl) (fun _ _ _ hx => hx) rfl rfl (by kernel_rfl) ?_
  refine wpS_firstY (fuel := 13) (i := 5) (li' := (lv 16 37)) rfl rfl (.fieldAddr rfl tf25_0 rfl) rfl rfl (by kernel_rfl) (by kernel_rfl) (by kernel_rfl) (fun _ _ _ hx => hx) rfl rfl (by kernel_rfl) ?_
  refine wpS_firstY (fuel := 12) (i := 7) (li' := (lv 16 165)) rfl rfl (.fieldAddr rfl tf25_1 rfl) rfl rfl (by kernel_rfl) (by kernel_rfl) (by kernel_rfl) (fun _ _ _ hx => hx) rfl rfl (by kernel_rfl) ?_
  exact wpS_to hW s44 (Cov.asg ⟨rfl, rfl, rfl, rfl, rfl, rfl, rfl, rfl, rfl, rfl, rfl, trivial⟩) (.refl _)
  intro c158
  refine wpS_of hW (wpS_done (by kernel_rfl) ?_)
  refine wpA_seq ?_
  obtain ⟨q1, h⟩ := h
  refine wpA_mid (asg [(2, .ptr c1 4 0 0), (4, D.b false), (5, (encL 1 D.i) ((nearF c t).1)), (9, (encL 2 encPrint) ((printsF t c.k c.w).1)), (113, (encL 1 D.i) ((nearF c t).1)), (114, D.i (((nearF c t).1).length : Int)), (115, D.i x3), (156, D.b ((((lawNear_e0 c t x3).2) != 0) || (!(((printsF t c.k c.w).1).any (fun (x0_ : Print) => (((lawNear_e0 c t x3).1).any fun y_ => decide (x0_.hash = y_.hash)))))))]) [(c158, .cells 1 [(encL 2 encPrint) ((lawNear_e0 c t x3).1)]), (c2, .cells 2 [encText t]), (c1, .cells 4 [encCorpus c])] ?_ ?_
  refine wpA_region ?_
  refine wL (OpA.m ?_)
  refine wL (OpA.neq rfl rfl rfl ?_)
  refine wL (OpA.m ?_)
  refine wpL_split (s := 151) rfl (fun b199 => ?_) (fun b199 => ?_)
  iterate 4 refine wS ?_
  refine wL (OpA.p ?_)
  refine wpL_nil ?_
  exact ⟨(Cov.asg ⟨rfl, rfl, rfl, rfl, rfl, rfl, rfl, (congrArg D.b (Eq.symm (orS b199))), trivial⟩), (.refl _)⟩
  refine wG (OpA.m ?_)
  refine wG (OpA.makeFunc rfl ?_)
  refine wG (OpA.call_snap rfl rfl rfl en43 (.same rfl (.fn .nil (.ptrp rfl .head rfl .nil) .nil)) (cfPr_c ((printsF t c.k c.w).1) 44 [] [.iptr ((encL 2 encPrint) ((lawNear_e0 c t x3).1)) 0] (fun (x0_ : Print) => (((lawNear_e0 c t x3).1).any fun y_ => decide (x0_.hash = y_.hash))) (fun (x0_ : Print) => ((lawNear_e0 c t x3).1).length ≤ 9223372036854775807) en44 (fun x0_ hh => near1_c x0_ ((lawNear_e0 c t x3).1) hh) (q1 (bneF b199)).1 (q1 (bneF b199)).2) (by rintro _ rfl; exact .inr (.v _)) ?_)
  rintro _ rfl
  refine wG (OpA.not rfl rfl ?_)
  refine wL (OpA.p ?_)
  refine wpL_nil ?_
  exact ⟨(Cov.asg ⟨rfl, rfl, rfl, rfl, rfl, rfl, rfl, (congrArg D.b (Eq.symm (orN b199 rfl))), trivial⟩), (.refl _)⟩
  show wpA _ _ _ _ (asg [(2, .ptr c1 4 0 0), (4, D.b false), (5, (encL 1 D.i) ((nearF c t).1)), (9, (encL 2 encPrint) ((printsF t c.k c.w).1)), (113, (encL 1 D.i) ((nearF c t).1)), (114, D.i (((nearF c t).1).length : Int)), (115, D.i x3), (156, D.b ((((lawNear_e0 c t x3).2) != 0) || (!(((printsF t c.k c.w).1).any (fun (x0_ : Print) => (((lawNear_e0 c t x3).1).any fun y_ => decide (x0_.hash = y_.hash)))))))]) [(c158, .cells 1 [(encL 2 encPrint) ((lawNear_e0 c t x3).1)]), (c2, .cells 2 [encText t]), (c1, .cells 4 [encCorpus c])]
  refine wpA_cond rfl (fun b198 => ?_) (fun b198 => ?_)
  have h := h.1 ((or0 b198).imp (fun hh => (bneT hh)) (fun hh => (notT hh)))
  refine wpA_seq ?_
  refine wpA_region ?_
  refine wL (OpA.a ?_)
  refine wpL_nil ?_
  refine wpA_ret ?_
  exact ⟨_, (.tmp (d := D.b false) rfl .nil), _, (.same rfl .nil), ⟨false, rfl, h⟩⟩
  have h := h.2 ⟨(bneF (or1 b198)), (notF (or2 b198))⟩
  refine wpA_skip ?_
  obtain ⟨q1, h⟩ := h
  refine wpA_region ?_
  refine wL (OpA.addi rfl rfl rfl q1 ?_)
  refine wL (OpA.m ?_)
  refine wpL_nil ?_
  exact ⟨(), (x3 + 1), h, (Cov.asg ⟨rfl, rfl, rfl, rfl, rfl, rfl, rfl, trivial⟩), (.cons _ (.refl _))⟩
  have h := h.2 (decF b16)
  refine wpA_exit ?_
  refine wpA_seq ?_
  refine wpA_region ?_
  refine wL (OpA.a ?_)
  refine wpL_nil ?_
  refine wpA_ret ?_
  exact ⟨_, (.tmp (d := D.b true) rfl .nil), _, (.same rfl .nil), ⟨true, rfl, h⟩⟩
theorem lawNear_c (c : Corpus) (t : Text)   : Fun false Tryz.prog 7 [encCorpus c, encText t] (fun d => d = D.b (true)) :=
  Fun.at (enc := fun r => D.b r) (v := true) (lawNear_w c t  (fun r => r = true) (lawNear_ok c t _  rfl))
end Go.Proofs.YtglclijalehcmaaGreatDoor
