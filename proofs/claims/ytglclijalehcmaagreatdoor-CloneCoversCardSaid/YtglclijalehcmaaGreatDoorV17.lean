/-
  walks and contracts
-/
import Derived.Test.YtglclijalehcmaaGreatDoorV10
import Derived.Test.YtglclijalehcmaaGreatDoorV21
import Derived.Test.YtglclijalehcmaaGreatDoorKw2
import Derived.Test.YtglclijalehcmaaGreatDoorKwZ
set_option maxRecDepth 10000
set_option maxHeartbeats 2000000
set_option linter.all false
namespace Go.Proofs.YtglclijalehcmaaGreatDoor
open Go Go.Lic Go.Sort Go.Proofs
attribute [local irreducible] addF addP againstC badR beforeF behindF blankF checkC checkF checkF29 cloneCmp clonesF cmpB cmpI codeF commonF4 countF countL coveredF famF fewC fewTs fewW findC findT gramsF growTF guarF has1F hasF hashF indexF insideF insideT leastF lenC lenF linesF listF lookF mergeF mul64F mulP nameR nearC nearF newF ofF orF packF pairF partF pathB pathF postCmp postLt postsF powF printsF pushF rightL rollF sameW selectF sizeF spanCmp spanR splitF splitG textF validF validT
theorem ixII_w (s_ : (List (List Int))) (g_p : Nat) (fs_p cs_p : List D) (p : (List Int) → Bool) (pD : (List Int) → Prop) (hen_p : entersB Tryz.prog g_p = true) (hg_p : ∀ x0_, pD x0_ → Fun false Tryz.prog g_p (fs_p ++ [(encL 1 D.i) x0_] ++ cs_p) (fun d => d = D.b (p x0_))) (Q : Int → Prop) (h : ixII_vc s_ p pD Q) : Fun false Tryz.prog 66 [(encL 1 (encL 1 D.i)) s_, .fn (.func g_p) fs_p cs_p] (fun d => ∃ r, d = D.i r ∧ Q r) := by
 unfold ixII_vc at h
 refine Fun.of_body Tryz.func66 rfl Tryz.ntmps66 rfl ?_
 refine wpA_seq ?_
 refine wpA_region ?_
 refine wL (OpA.a ?_)
 refine wpL_nil ?_
 iterate 2 refine wpA_seq ?_
 refine wpA_region ?_
 refine wL (OpA.m ?_)
 refine wL (OpA.len rfl rfl rfl rfl ts51.desc (.inl ⟨_, _, rfl, (List.length_map _).symm⟩) ?_)
 refine wL (OpA.m ?_)
 refine wpL_nil ?_
 refine wpA_block ?_
 refine wpA_lfp (S := Int) (G := Unit) () (fun gg ss => asg [(0, (encL 1 (encL 1 D.i)) s_), (1, .fn (.func g_p) fs_p cs_p), (4, D.i 0), (7, D.i (s_.length : Int)), (8, D.i ss)]) (fun gg ss => []) h (Cov.asg ⟨rfl, rfl, rfl, rfl, rfl, trivial⟩) (.refl _) ?_
 rintro again1 _ x h
 have h : ixII_L1 s_ p pD Q again1 x := h
 unfold ixII_L1 at h
 show wpA _ _ _ _ (asg [(0, (encL 1 (encL 1 D.i)) s_), (1, .fn (.func g_p) fs_p cs_p), (4, D.i 0), (7, D.i (s_.length : Int)), (8, D.i x)]) []
 refine wpA_seq ?_
 refine wpA_region ?_
 refine wL (OpA.lss rfl rfl rfl ?_)
 refine wpL_nil ?_
 refine wpA_seq ?_
 refine wpA_cond rfl (fun b2 => ?_) (fun b2 => ?_)
 have h := h.1 (decT b2)
 refine wpA_skip ?_
 refine wpA_seq ?_
 refine wpA_block ?_
 refine wpA_seq ?_
 refine wpA_region ?_
 refine wL (OpA.m ?_)
 refine wL (OpA.a ?_)
 refine wpL_nil ?_
 refine wpA_seq ?_
 obtain ⟨q1, q2, h⟩ := h
 refine wpA_region ?_
 iterate 3 refine wL (OpA.m ?_)
 refine wL (OpA.iixV (enc := (encL 1 D.i)) rfl ts51 rfl rfl rfl q1 ?_)
 refine wL (OpA.iload rfl ti67 rfl rfl ?_)
 refine wL (OpA.call rfl rfl rfl hen_p (hg_p (gi s_ x) q2) ?_)
 rintro _ rfl
 refine wpL_nil ?_
 refine wpA_cond rfl (fun b3 => ?_) (fun b3 => ?_)
 have h := h.1 b3
 refine wpA_seq ?_
 refine wpA_region ?_
 refine wL (OpA.m ?_)
 refine wL (OpA.a ?_)
 refine wpL_nil ?_
 refine wpA_ret ?_
 exact ⟨_, (.tmp (d := D.i x) rfl .nil), _, (.same rfl .nil), ⟨x, rfl, h⟩⟩
 have h := h.2 b3
 refine wpA_skip ?_
 obtain ⟨q1, h⟩ := h
 refine wpA_region ?_
 refine wL (OpA.addi rfl rfl rfl q1 ?_)
 refine wL (OpA.m ?_)
 refine wpL_nil ?_
 exact ⟨(), (x + 1), h, (Cov.asg ⟨rfl, rfl, rfl, rfl, rfl, trivial⟩), (.refl _)⟩
 have h := h.2 (decF b2)
 refine wpA_exit ?_
 refine wpA_seq ?_
 refine wpA_region ?_
 refine wL (OpA.a ?_)
 refine wpL_nil ?_
 refine wpA_ret ?_
 exact ⟨_, (.tmp (d := D.i (-1)) rfl .nil), _, (.same rfl .nil), ⟨(-1), rfl, h⟩⟩
theorem ixII_c (s_ : (List (List Int))) (g_p : Nat) (fs_p cs_p : List D) (p : (List Int) → Bool) (pD : (List Int) → Prop) (hen_p : entersB Tryz.prog g_p = true) (hg_p : ∀ x0_, pD x0_ → Fun false Tryz.prog g_p (fs_p ++ [(encL 1 D.i) x0_] ++ cs_p) (fun d => d = D.b (p x0_))) (hp0 : s_.length ≤ 9223372036854775807) (hp1 : ∀ z_ ∈ s_, pD z_) : Fun false Tryz.prog 66 [(encL 1 (encL 1 D.i)) s_, .fn (.func g_p) fs_p cs_p] (fun d => d = D.i ((idxOf p s_))) :=
 Fun.at (enc := fun r => D.i r) (v := (idxOf p s_)) (ixII_w s_ g_p fs_p cs_p p pD hen_p hg_p (fun r => r = (idxOf p s_)) (ixII_ok s_ p pD _ hp0 hp1 rfl))
theorem cfII_w (s_ : (List (List Int))) (g_p : Nat) (fs_p cs_p : List D) (p : (List Int) → Bool) (pD : (List Int) → Prop) (hen_p : entersB Tryz.prog g_p = true) (hg_p : ∀ x0_, pD x0_ → Fun false Tryz.prog g_p (fs_p ++ [(encL 1 D.i) x0_] ++ cs_p) (fun d => d = D.b (p x0_))) (Q : Bool → Prop) (h : cfII_vc s_ p pD Q) : Fun false Tryz.prog 30 [(encL 1 (encL 1 D.i)) s_, .fn (.func g_p) fs_p cs_p] (fun d => ∃ r, d = D.b r ∧ Q r) := by
 unfold cfII_vc at h
 refine Fun.of_body Tryz.func30 rfl Tryz.ntmps30 rfl ?_
 refine wpA_seq ?_
 refine wpA_region ?_
 refine wL (OpA.a ?_)
 refine wpL_nil ?_
 refine wpA_seq ?_
 obtain ⟨q1, q2, h⟩ := h
 refine wpA_region ?_
 iterate 2 refine wL (OpA.m ?_)
 refine wL (OpA.call rfl rfl rfl en66 (ixII_c s_ g_p fs_p cs_p p pD hen_p hg_p q1 q2) ?_)
 rintro _ rfl
 refine wL (OpA.geq rfl rfl rfl ?_)
 refine wL (OpA.a ?_)
 refine wpL_nil ?_
 refine wpA_ret ?_
 exact ⟨_, (.tmp (d := D.b (decide ((idxOf p s_) ≥ 0))) rfl .nil), _, (.same rfl .nil), ⟨(decide ((idxOf p s_) ≥ 0)), rfl, h⟩⟩
theorem cfII_c (s_ : (List (List Int))) (g_p : Nat) (fs_p cs_p : List D) (p : (List Int) → Bool) (pD : (List Int) → Prop) (hen_p : entersB Tryz.prog g_p = true) (hg_p : ∀ x0_, pD x0_ → Fun false Tryz.prog g_p (fs_p ++ [(encL 1 D.i) x0_] ++ cs_p) (fun d => d = D.b (p x0_))) (hp0 : s_.length ≤ 9223372036854775807) (hp1 : ∀ z_ ∈ s_, pD z_) : Fun false Tryz.prog 30 [(encL 1 (encL 1 D.i)) s_, .fn (.func g_p) fs_p cs_p] (fun d => d = D.b ((s_.any p))) :=
 Fun.at (enc := fun r => D.b r) (v := (s_.any p)) (cfII_w s_ g_p fs_p cs_p p pD hen_p hg_p (fun r => r = (s_.any p)) (cfII_ok s_ p pD _ hp0 hp1 rfl))
theorem covers1_w (m : (List Int)) (i : Int) (Q : Bool → Prop) (h : covers1_vc m i Q) : Fun false Tryz.prog 31 [(encL 1 D.i) m, .iptr (D.i i) 0] (fun d => ∃ r, d = D.b r ∧ Q r) := by
 unfold covers1_vc at h
 refine Fun.of_body Tryz.func31 rfl Tryz.ntmps31 rfl ?_
 refine wpA_seq ?_
 refine wpA_region ?_
 refine wL (OpA.a ?_)
 refine wpL_nil ?_
 refine wpA_seq ?_
 obtain ⟨q1, h⟩ := h
 refine wpA_region ?_
 refine wL (OpA.m ?_)
 refine wL (OpA.iload rfl ti3 rfl rfl ?_)
 refine wL (OpA.call rfl rfl rfl en32 (ctInt_c m i q1) ?_)
 rintro _ rfl
 refine wL (OpA.a ?_)
 refine wpL_nil ?_
 refine wpA_ret ?_
 exact ⟨_, (.tmp (d := D.b (m.any (fun z_ => decide (z_ = i)))) rfl .nil), _, (.same rfl .nil), ⟨(m.any (fun z_ => decide (z_ = i))), rfl, h⟩⟩
theorem covers1_c (m : (List Int)) (i : Int) (hp0 : m.length ≤ 9223372036854775807) : Fun false Tryz.prog 31 [(encL 1 D.i) m, .iptr (D.i i) 0] (fun d => d = D.b ((m.any (fun z_ => decide (z_ = i))))) :=
 Fun.at (enc := fun r => D.b r) (v := (m.any (fun z_ => decide (z_ = i)))) (covers1_w m i  (fun r => r = (m.any (fun z_ => decide (z_ = i)))) (covers1_ok m i _ hp0 rfl))
theorem covers21_w (m : (List Int)) (c : Clone) (Q : Bool → Prop) (h : covers21_vc m c Q) : Fun false Tryz.prog 35 [(encL 1 D.i) m, .iptr (encClone c) 0] (fun d => ∃ r, d = D.b r ∧ Q r) := by
 unfold covers21_vc at h
 refine Fun.of_body Tryz.func35 rfl Tryz.ntmps35 rfl ?_
 refine wpA_seq ?_
 refine wpA_region ?_
 refine wL (OpA.a ?_)
 refine wpL_nil ?_
 refine wpA_seq ?_
 obtain ⟨q1, h⟩ := h
 refine wpA_mid (asg [(3, D.b ((m.any (fun z_ => decide (z_ = c.a))) && (m.any (fun z_ => decide (z_ = c.b)))))]) [] ?_ ?_
 refine wpA_region ?_
 refine wL (OpA.m ?_)
 refine wL (OpA.ifieldAddr rfl tf38_0 rfl ?_)
 refine wL (OpA.iload rfl ti3 rfl rfl ?_)
 refine wL (OpA.call rfl rfl rfl en32 (ctInt_c m c.a q1) ?_)
 rintro _ rfl
 refine wL (OpA.m ?_)
 refine wpL_split (s := 8) rfl (fun b1 => ?_) (fun b1 => ?_)
 refine wG (OpA.m ?_)
 refine wG (OpA.ifieldAddr rfl tf38_2 rfl ?_)
 refine wG (OpA.iload rfl ti3 rfl rfl ?_)
 refine wG (OpA.call rfl rfl rfl en32 (ctInt_c m c.b q1) ?_)
 rintro _ rfl
 refine wL (OpA.p ?_)
 refine wL (OpA.a ?_)
 refine wpL_nil ?_
 exact ⟨(Cov.asg ⟨(congrArg D.b (Eq.symm (andN b1 rfl))), trivial⟩), (.refl _)⟩
 iterate 4 refine wS ?_
 refine wL (OpA.p ?_)
 refine wL (OpA.a ?_)
 refine wpL_nil ?_
 exact ⟨(Cov.asg ⟨(congrArg D.b (Eq.symm (andS b1))), trivial⟩), (.refl _)⟩
 show wpA _ _ _ _ (asg [(3, D.b ((m.any (fun z_ => decide (z_ = c.a))) && (m.any (fun z_ => decide (z_ = c.b)))))]) []
 refine wpA_ret ?_
 exact ⟨_, (.tmp (d := D.b ((m.any (fun z_ => decide (z_ = c.a))) && (m.any (fun z_ => decide (z_ = c.b))))) rfl .nil), _, (.same rfl .nil), ⟨((m.any (fun z_ => decide (z_ = c.a))) && (m.any (fun z_ => decide (z_ = c.b)))), rfl, h⟩⟩
theorem covers21_c (m : (List Int)) (c : Clone) (hp0 : m.length ≤ 9223372036854775807) : Fun false Tryz.prog 35 [(encL 1 D.i) m, .iptr (encClone c) 0] (fun d => d = D.b (((m.any (fun z_ => decide (z_ = c.a))) && (m.any (fun z_ => decide (z_ = c.b)))))) :=
 Fun.at (enc := fun r => D.b r) (v := ((m.any (fun z_ => decide (z_ = c.a))) && (m.any (fun z_ => decide (z_ = c.b))))) (covers21_w m c  (fun r => r = ((m.any (fun z_ => decide (z_ = c.a))) && (m.any (fun z_ => decide (z_ = c.b))))) (covers21_ok m c _ hp0 rfl))
theorem covers2_w (c : Clone) (f : (List (List Int))) (Q : Bool → Prop) (h : covers2_vc c f Q) : Fun false Tryz.prog 34 [encClone c, .iptr ((encL 1 (encL 1 D.i)) f) 0] (fun d => ∃ r, d = D.b r ∧ Q r) := by
 unfold covers2_vc at h
 refine Fun.of_body Tryz.func34 rfl Tryz.ntmps34 rfl ?_
 refine wpA_seq ?_
 refine wpA_region ?_
 refine wL (OpA.bx (sz := 5) rfl (by with_reducible conv => lhs; whnf) (.of rfl) (fun c1 _ => ?_))
 refine wL (OpA.a ?_)
 refine wpL_nil ?_
 refine wpA_seq ?_
 obtain ⟨q1, h⟩ := h
 refine wpA_mid (asg [(3, D.b ((c.a != c.b) && (!(f.any (fun (x0_ : (List Int)) => ((x0_.any (fun z_ => decide (z_ = c.a))) && (x0_.any (fun z_ => decide (z_ = c.b)))))))))]) [(c1, .cells 5 [encClone c])] ?_ ?_
 refine wpA_region ?_
 refine wL (OpA.fieldAddr rfl tf38_0 rfl ?_)
 refine wL (OpA.load rfl ti3 rfl .head rfl rfl ?_)
 refine wL (OpA.fieldAddr rfl tf38_2 rfl ?_)
 refine wL (OpA.load rfl ti3 rfl .head rfl rfl ?_)
 refine wL (OpA.neq rfl rfl rfl ?_)
 refine wL (OpA.m ?_)
 refine wpL_split (s := 9) rfl (fun b2 => ?_) (fun b2 => ?_)
 refine wG (OpA.iload rfl ti51 rfl rfl ?_)
 refine wG (OpA.makeFunc rfl ?_)
 refine wG (OpA.call_snap rfl rfl rfl en30 (.same rfl (.fn .nil (.ptrp rfl .head rfl .nil) .nil)) (cfII_c f 35 [] [.iptr (encClone c) 0] (fun (x0_ : (List Int)) => ((x0_.any (fun z_ => decide (z_ = c.a))) && (x0_.any (fun z_ => decide (z_ = c.b))))) (fun (x0_ : (List Int)) => x0_.length ≤ 9223372036854775807) en35 (fun x0_ hh => covers21_c x0_ c hh) (q1 (bneT b2)).1 (q1 (bneT b2)).2) (by rintro _ rfl; exact .inr (.v _)) ?_)
 rintro _ rfl
 refine wG (OpA.not rfl rfl ?_)
 refine wL (OpA.p ?_)
 refine wL (OpA.a ?_)
 refine wpL_nil ?_
 exact ⟨(Cov.asg ⟨(congrArg D.b (Eq.symm (andN b2 rfl))), trivial⟩), (.refl _)⟩
 iterate 4 refine wS ?_
 refine wL (OpA.p ?_)
 refine wL (OpA.a ?_)
 refine wpL_nil ?_
 exact ⟨(Cov.asg ⟨(congrArg D.b (Eq.symm (andS b2))), trivial⟩), (.refl _)⟩
 show wpA _ _ _ _ (asg [(3, D.b ((c.a != c.b) && (!(f.any (fun (x0_ : (List Int)) => ((x0_.any (fun z_ => decide (z_ = c.a))) && (x0_.any (fun z_ => decide (z_ = c.b)))))))))]) [(c1, .cells 5 [encClone c])]
 refine wpA_ret ?_
 exact ⟨_, (.tmp (d := D.b ((c.a != c.b) && (!(f.any (fun (x0_ : (List Int)) => ((x0_.any (fun z_ => decide (z_ = c.a))) && (x0_.any (fun z_ => decide (z_ = c.b))))))))) rfl .nil), _, (.same rfl .nil), ⟨((c.a != c.b) && (!(f.any (fun (x0_ : (List Int)) => ((x0_.any (fun z_ => decide (z_ = c.a))) && (x0_.any (fun z_ => decide (z_ = c.b)))))))), rfl, h⟩⟩
theorem covers2_c (c : Clone) (f : (List (List Int))) (hp0 : f.length ≤ 9223372036854775807) (hp1 : ∀ m_ ∈ f, m_.length ≤ 9223372036854775807) : Fun false Tryz.prog 34 [encClone c, .iptr ((encL 1 (encL 1 D.i)) f) 0] (fun d => d = D.b ((decide (c.a ≠ c.b) && !(f.any fun m_ => (m_.any fun z_ => decide (z_ = c.a)) && (m_.any fun z_ => decide (z_ = c.b)))))) :=
 Fun.at (enc := fun r => D.b r) (v := (decide (c.a ≠ c.b) && !(f.any fun m_ => (m_.any fun z_ => decide (z_ = c.a)) && (m_.any fun z_ => decide (z_ = c.b))))) (covers2_w c f  (fun r => r = (decide (c.a ≠ c.b) && !(f.any fun m_ => (m_.any fun z_ => decide (z_ = c.a)) && (m_.any fun z_ => decide (z_ = c.b))))) (covers2_ok c f _ hp0 hp1 rfl))
abbrev lawCovers_e0 (l : (List Text)) (grams : Int) := ((findC l (1 + ((IntKind.i64.wrap grams) % 6)) 1).1)
abbrev lawCovers_e1 (linked : Bool) (l : (List Text)) (grams : Int) (x1 : Int) (x : Int) := (linked || ((((gi (lawCovers_e0 l grams) x1).a) != ((gi (lawCovers_e0 l grams) x1).b)) && ((((gi (lawCovers_e0 l grams) x1).a) == x) || (((gi (lawCovers_e0 l grams) x1).b) == x))))
abbrev lawCovers_e2 (l : (List Text)) (grams : Int) := ((famF (l.length : Int) (lawCovers_e0 l grams)).1)
theorem lawCovers_w (l : (List Text)) (grams : Int) (Q : Bool → Prop) (h : lawCovers_vc l grams Q) : Fun false Tryz.prog 6 [(encL 2 encText) l, (D.k .u8) grams] (fun d => ∃ r, d = D.b r ∧ Q r) := by
 unfold lawCovers_vc at h
 refine Fun.of_body Tryz.func6 rfl Tryz.ntmps6 rfl ?_
 refine wpA_seq ?_
 refine wpA_region ?_
 refine wL (OpA.a ?_)
 refine wpL_nil ?_
 iterate 2 refine wpA_seq ?_
 refine wpA_region ?_
 refine wL (OpA.call rfl rfl rfl en8 (awake_c  ) ?_)
 rintro _ rfl
 refine wL (OpA.not rfl rfl ?_)
 refine wpL_nil ?_
 refine wpA_cond rfl (fun b1 => ?_) (fun b1 => ?_)
 have h := h.1 (notT b1)
 refine wpA_seq ?_
 refine wpA_region ?_
 refine wL (OpA.a ?_)
 refine wpL_nil ?_
 refine wpA_ret ?_
 exact ⟨_, (.tmp (d := D.b false) rfl .nil), _, (.same rfl .nil), ⟨false, rfl, h⟩⟩
 have h := h.2 (notF b1)
 refine wpA_skip ?_
 iterate 2 refine wpA_seq ?_
 refine wpA_region ?_
 refine wL (OpA.m ?_)
 refine wL (OpA.call rfl rfl rfl en10 (c26fewt_c l ) ?_)
 rintro _ rfl
 refine wL (OpA.not rfl rfl ?_)
 refine wpL_nil ?_
 refine wpA_cond rfl (fun b2 => ?_) (fun b2 => ?_)
 have h := h.1 (notT b2)
 refine wpA_seq ?_
 refine wpA_region ?_
 refine wL (OpA.a ?_)
 refine wpL_nil ?_
 refine wpA_ret ?_
 exact ⟨_, (.tmp (d := D.b true) rfl .nil), _, (.same rfl .nil), ⟨true, rfl, h⟩⟩
 have h := h.2 (notF b2)
 refine wpA_skip ?_
 refine wpA_seq ?_
 obtain ⟨q1, q2, q3, h⟩ := h
 refine wpA_region ?_
 iterate 2 refine wL (OpA.m ?_)
 refine wL (OpA.conv rfl td5 td3 rfl ?_)
 refine wL (OpA.remN rfl rfl rfl q1 ?_)
 refine wL (OpA.addi rfl rfl rfl q2 ?_)
 refine wL (OpA.call rfl rfl rfl en14 (kfind_c l (1 + ((IntKind.i64.wrap grams) % 6)) 1 q3) ?_)
 rintro _ rfl
 refine wL (OpA.m ?_)
 iterate 2 refine wL (OpA.extract rfl rfl rfl ?_)
 iterate 2 refine wL (OpA.a ?_)
 refine wpL_nil ?_
 iterate 2 refine wpA_seq ?_
 refine wpA_region ?_
 refine wL (OpA.m ?_)
 refine wL (OpA.neq rfl rfl rfl ?_)
 refine wpL_nil ?_
 refine wpA_cond rfl (fun b3 => ?_) (fun b3 => ?_)
 have h := h.1 (bneT b3)
 refine wpA_seq ?_
 refine wpA_region ?_
 refine wL (OpA.m ?_)
 refine wL (OpA.len rfl rfl rfl rfl ts32.desc (.inl ⟨_, _, rfl, (List.length_map _).symm⟩) ?_)
 refine wL (OpA.eql rfl rfl rfl ?_)
 refine wL (OpA.a ?_)
 refine wpL_nil ?_
 refine wpA_ret ?_
 exact ⟨_, (.tmp (d := D.b (((lawCovers_e0 l grams).length : Int) == 0)) rfl .nil), _, (.same rfl .nil), ⟨(((lawCovers_e0 l grams).length : Int) == 0), rfl, h⟩⟩
 have h := h.2 (bneF b3)
 refine wpA_skip ?_
 refine wpA_seq ?_
 obtain ⟨q1, h⟩ := h
 refine wpA_region ?_
 refine wL (OpA.m ?_)
 refine wL (OpA.len rfl rfl rfl rfl ts22.desc (.inl ⟨_, _, rfl, (List.length_map _).symm⟩) ?_)
 refine wL (OpA.m ?_)
 refine wL (OpA.call rfl rfl rfl en24 (kfam_c (l.length : Int) (lawCovers_e0 l grams) q1) ?_)
 rintro _ rfl
 refine wL (OpA.m ?_)
 iterate 2 refine wL (OpA.extract rfl rfl rfl ?_)
 refine wL (OpA.alloc (sz := 1) (d := .v (.slice none 0 0)) rfl tz51 (fun _ _ => .v _) (.of rfl) (fun c4 _ => ?_))
 refine wE (OpA.storeW rfl ti51 rfl (by with_reducible conv => lhs; whnf) (.of rfl) rfl rfl .head ?_)
 refine wL (OpA.a ?_)
 refine wpL_nil ?_
 iterate 2 refine wpA_seq ?_
 refine wpA_region ?_
 refine wL (OpA.m ?_)
 refine wL (OpA.neq rfl rfl rfl ?_)
 refine wpL_nil ?_
 refine wpA_cond rfl (fun b5 => ?_) (fun b5 => ?_)
 have h := h.1 (bneT b5)
 refine wpA_seq ?_
 refine wpA_region ?_
 refine wL (OpA.a ?_)
 refine wpL_nil ?_
 refine wpA_ret ?_
 exact ⟨_, (.tmp (d := D.b false) rfl .nil), _, (.same rfl .nil), ⟨false, rfl, h⟩⟩
 have h := h.2 (bneF b5)
 refine wpA_skip ?_
 iterate 2 refine wpA_seq ?_
 refine wpA_region ?_
 refine wL (OpA.m ?_)
 refine wL (OpA.len rfl rfl rfl rfl ts22.desc (.inl ⟨_, _, rfl, (List.length_map _).symm⟩) ?_)
 refine wL (OpA.m ?_)
 refine wpL_nil ?_
 refine wpA_block ?_
 refine wpA_lfp (S := Int) (G := Unit) () (fun gg ss => asg [(0, (encL 2 encText) l), (4, D.b false), (5, (encL 5 encClone) (lawCovers_e0 l grams)), (7, .ptr c4 1 0 0), (47, (encL 2 encText) l), (48, D.i (l.length : Int)), (49, D.i ss)]) (fun gg ss => [(c4, .cells 1 [(encL 1 (encL 1 D.i)) (lawCovers_e2 l grams)])]) h (Cov.asg ⟨rfl, rfl, rfl, rfl, rfl, rfl, rfl, trivial⟩) (.refl _) ?_
 rintro again6 _ x h
 have h : lawCovers_L1 l grams Q again6 x := h
 unfold lawCovers_L1 at h
 show wpA _ _ _ _ (asg [(0, (encL 2 encText) l), (4, D.b false), (5, (encL 5 encClone) (lawCovers_e0 l grams)), (7, .ptr c4 1 0 0), (47, (encL 2 encText) l), (48, D.i (l.length : Int)), (49, D.i x)]) [(c4, .cells 1 [(encL 1 (encL 1 D.i)) (lawCovers_e2 l grams)])]
 refine wpA_seq ?_
 refine wpA_region ?_
 refine wL (OpA.lss rfl rfl rfl ?_)
 refine wpL_nil ?_
 refine wpA_seq ?_
 refine wpA_cond rfl (fun b7 => ?_) (fun b7 => ?_)
 have h := h.1 (decT b7)
 refine wpA_skip ?_
 refine wpA_seq ?_
 refine wpA_block ?_
 refine wpA_seq ?_
 obtain ⟨q1, h⟩ := h
 refine wpA_region ?_
 refine wL (OpA.m ?_)
 refine wL (OpA.iixV (enc := encText) rfl ts22 rfl rfl rfl q1 ?_)
 refine wL (OpA.iload_whole rfl ti28 rfl ⟨_, rfl, rfl⟩ ?_)
 refine wL (OpA.alloc (sz := 1) (d := D.i 0) rfl tz3 (fun _ _ => .v _) (.of rfl) (fun c8 _ => ?_))
 refine wL (OpA.alloc (sz := 2) (d := .agg ([D.s ByteArray.empty, .v (.slice none 0 0)])) rfl tz28 (fun _ _ => .agg (.cons (.v _) (.cons (.v _) .nil))) (.of rfl) (fun c9 _ => ?_))
 refine wE (OpA.storeW rfl ti3 rfl (by with_reducible conv => lhs; whnf) (.of rfl) rfl rfl (.tail .head) ?_)
 refine wE (OpA.storeW rfl ti28 rfl (by with_reducible conv => lhs; whnf) (.of rfl) rfl rfl .head ?_)
 refine wpL_nil ?_
 refine wpA_seq ?_
 obtain ⟨q1, q2, q3, h⟩ := h
 refine wpA_region ?_
 iterate 2 refine wL (OpA.m ?_)
 refine wL (OpA.load rfl ti3 rfl (.tail .head) rfl rfl ?_)
 refine wL (OpA.call rfl rfl rfl en22 (kcovered_c l (lawCovers_e0 l grams) x q1 q2 q3) ?_)
 rintro _ rfl
 refine wL (OpA.m ?_)
 iterate 2 refine wL (OpA.extract rfl rfl rfl ?_)
 iterate 2 refine wL (OpA.a ?_)
 refine wpL_nil ?_
 iterate 2 refine wpA_seq ?_
 refine wpA_region ?_
 refine wL (OpA.m ?_)
 refine wL (OpA.neq rfl rfl rfl ?_)
 refine wpL_nil ?_
 refine wpA_cond rfl (fun b10 => ?_) (fun b10 => ?_)
 have h := h.1 (bneT b10)
 refine wpA_seq ?_
 refine wpA_region ?_
 refine wL (OpA.a ?_)
 refine wpL_nil ?_
 refine wpA_ret ?_
 exact ⟨_, (.tmp (d := D.b false) rfl .nil), _, (.same rfl .nil), ⟨false, rfl, h⟩⟩
 have h := h.2 (bneF b10)
 refine wpA_skip ?_
 refine wpA_seq ?_
 refine wpA_region ?_
 refine wL (OpA.makeMap vB rfl (fun c11 => ?_))
 refine wL (OpA.a ?_)
 refine wpL_nil ?_
 refine wpA_seq ?_
 refine wpA_region ?_
 refine wL (OpA.a ?_)
 refine wpL_nil ?_
 iterate 2 refine wpA_seq ?_
 refine wpA_region ?_
 refine wL (OpA.m ?_)
 refine wL (OpA.len rfl rfl rfl rfl ts32.desc (.inl ⟨_, _, rfl, (List.length_map _).symm⟩) ?_)
 refine wL (OpA.m ?_)
 refine wpL_nil ?_
 refine wpA_block ?_
 refine wpA_lfp (S := (List (Int × Bool)) × Bool × Int) (G := Unit) () (fun gg ss => asg [(0, (encL 2 encText) l), (4, D.b false), (5, (encL 5 encClone) (lawCovers_e0 l grams)), (7, .ptr c4 1 0 0), (9, .ptr c8 1 0 0), (10, .ptr c9 2 0 0), (11, (encL 3 encSpan) ((coveredF l (lawCovers_e0 l grams) x).1)), (13, .map c11), (14, D.b ss.2.1), (47, (encL 2 encText) l), (48, D.i (l.length : Int)), (49, D.i x), (64, (encL 5 encClone) (lawCovers_e0 l grams)), (65, D.i ((lawCovers_e0 l grams).length : Int)), (66, D.i ss.2.2)]) (fun gg ss => [(c11, .raw (mapO vB ss.1)), (c9, .cells 2 [encText (gi l x)]), (c8, .cells 1 [D.i x]), (c4, .cells 1 [(encL 1 (encL 1 D.i)) (lawCovers_e2 l grams)])]) h (Cov.asg ⟨rfl, rfl, rfl, rfl, rfl, rfl, rfl, rfl, rfl, rfl, rfl, rfl, rfl, rfl, rfl, trivial⟩) (.refl _) ?_
 rintro again12 _ ⟨m_63, linked, x1⟩ h
 have h : lawCovers_L2 l grams x Q again6 again12 m_63 linked x1 := h
 unfold lawCovers_L2 at h
 show wpA _ _ _ _ (asg [(0, (encL 2 encText) l), (4, D.b false), (5, (encL 5 encClone) (lawCovers_e0 l grams)), (7, .ptr c4 1 0 0), (9, .ptr c8 1 0 0), (10, .ptr c9 2 0 0), (11, (encL 3 encSpan) ((coveredF l (lawCovers_e0 l grams) x).1)), (13, .map c11), (14, D.b linked), (47, (encL 2 encText) l), (48, D.i (l.length : Int)), (49, D.i x), (64, (encL 5 encClone) (lawCovers_e0 l grams)), (65, D.i ((lawCovers_e0 l grams).length : Int)), (66, D.i x1)]) [(c11, .raw (mapO vB m_63)), (c9, .cells 2 [encText (gi l x)]), (c8, .cells 1 [D.i x]), (c4, .cells 1 [(encL 1 (encL 1 D.i)) (lawCovers_e2 l grams)])]
 refine wpA_seq ?_
 refine wpA_region ?_
 refine wL (OpA.lss rfl rfl rfl ?_)
 refine wpL_nil ?_
 refine wpA_seq ?_
 refine wpA_cond rfl (fun b13 => ?_) (fun b13 => ?_)
 have h := h.1 (decT b13)
 refine wpA_skip ?_
 refine wpA_seq ?_
 refine wpA_block ?_
 refine wpA_seq ?_
 obtain ⟨q1, h⟩ := h
 refine wpA_region ?_
 refine wL (OpA.iixV (enc := encClone) rfl ts32 rfl rfl rfl q1 ?_)
 refine wL (OpA.iload_whole rfl ti38 rfl ⟨_, rfl, rfl⟩ ?_)
 refine wL (OpA.alloc (sz := 5) (d := encClone (Clone.mk 0 0 0 0 0)) rfl tz38 (fun _ _ => .agg (.cons (.v _) (.cons (.v _) (.cons (.v _) (.cons (.v _) (.cons (.v _) .nil)))))) (.of rfl) (fun c14 _ => ?_))
 refine wE (OpA.storeW rfl ti38 rfl (by with_reducible conv => lhs; whnf) (.of rfl) rfl rfl .head ?_)
 refine wpL_nil ?_
 refine wpA_seq ?_
 refine wpA_mid (asg [(0, (encL 2 encText) l), (4, D.b false), (5, (encL 5 encClone) (lawCovers_e0 l grams)), (7, .ptr c4 1 0 0), (9, .ptr c8 1 0 0), (10, .ptr c9 2 0 0), (11, (encL 3 encSpan) ((coveredF l (lawCovers_e0 l grams) x).1)), (13, .map c11), (14, D.b (lawCovers_e1 linked l grams x1 x)), (16, .ptr c14 5 0 0), (47, (encL 2 encText) l), (48, D.i (l.length : Int)), (49, D.i x), (64, (encL 5 encClone) (lawCovers_e0 l grams)), (65, D.i ((lawCovers_e0 l grams).length : Int)), (66, D.i x1)]) [(c14, .cells 5 [encClone (gi (lawCovers_e0 l grams) x1)]), (c11, .raw (mapO vB m_63)), (c9, .cells 2 [encText (gi l x)]), (c8, .cells 1 [D.i x]), (c4, .cells 1 [(encL 1 (encL 1 D.i)) (lawCovers_e2 l grams)])] ?_ ?_
 refine wpA_region ?_
 iterate 2 refine wL (OpA.m ?_)
 refine wpL_split (s := 71) rfl (fun b21 => ?_) (fun b21 => ?_)
 iterate 6 refine wS ?_
 iterate 10 refine wpL_skipU rfl rfl rfl rfl rfl ?_
 refine wS ?_
 refine wL (OpA.p ?_)
 refine wL (OpA.a ?_)
 refine wpL_nil ?_
 exact ⟨(Cov.asg ⟨rfl, rfl, rfl, rfl, rfl, rfl, rfl, rfl, (congrArg D.b (Eq.symm (orS b21))), rfl, rfl, rfl, rfl, rfl, rfl, rfl, trivial⟩), (.refl _)⟩
 refine wG (OpA.fieldAddr rfl tf38_0 rfl ?_)
 refine wG (OpA.load rfl ti3 rfl .head rfl rfl ?_)
 refine wG (OpA.fieldAddr rfl tf38_2 rfl ?_)
 refine wG (OpA.load rfl ti3 rfl .head rfl rfl ?_)
 refine wG (OpA.neq rfl rfl rfl ?_)
 refine wG (OpA.m ?_)
 refine wpL_split (s := 77) rfl (fun b22 => ?_) (fun b22 => ?_)
 refine wG (OpA.fieldAddr rfl tf38_0 rfl ?_)
 refine wG (OpA.load rfl ti3 rfl .head rfl rfl ?_)
 refine wG (OpA.load rfl ti3 rfl (.tail (.tail (.tail .head))) rfl rfl ?_)
 refine wG (OpA.eql rfl rfl rfl ?_)
 refine wG (OpA.m ?_)
 refine wpL_split (s := 82) rfl (fun b23 => ?_) (fun b23 => ?_)
 iterate 4 refine wS ?_
 iterate 2 refine wG (OpA.p ?_)
 refine wL (OpA.p ?_)
 refine wL (OpA.a ?_)
 refine wpL_nil ?_
 exact ⟨(Cov.asg ⟨rfl, rfl, rfl, rfl, rfl, rfl, rfl, rfl, (congrArg D.b (Eq.symm (orN b21 (andN b22 (orS b23))))), rfl, rfl, rfl, rfl, rfl, rfl, rfl, trivial⟩), (.refl _)⟩
 refine wG (OpA.fieldAddr rfl tf38_2 rfl ?_)
 refine wG (OpA.load rfl ti3 rfl .head rfl rfl ?_)
 refine wG (OpA.load rfl ti3 rfl (.tail (.tail (.tail .head))) rfl rfl ?_)
 refine wG (OpA.eql rfl rfl rfl ?_)
 iterate 2 refine wG (OpA.p ?_)
 refine wL (OpA.p ?_)
 refine wL (OpA.a ?_)
 refine wpL_nil ?_
 exact ⟨(Cov.asg ⟨rfl, rfl, rfl, rfl, rfl, rfl, rfl, rfl, (congrArg D.b (Eq.symm (orN b21 (andN b22 (orN b23 rfl))))), rfl, rfl, rfl, rfl, rfl, rfl, rfl, trivial⟩), (.refl _)⟩
 iterate 5 refine wS ?_
 iterate 4 refine wpL_skipU rfl rfl rfl rfl rfl ?_
 refine wS ?_
 refine wG (OpA.p ?_)
 refine wL (OpA.p ?_)
 refine wL (OpA.a ?_)
 refine wpL_nil ?_
 exact ⟨(Cov.asg ⟨rfl, rfl, rfl, rfl, rfl, rfl, rfl, rfl, (congrArg D.b (Eq.symm (orN b21 (andS b22)))), rfl, rfl, rfl, rfl, rfl, rfl, rfl, trivial⟩), (.refl _)⟩
 show wpA _ _ _ _ (asg [(0, (encL 2 encText) l), (4, D.b false), (5, (encL 5 encClone) (lawCovers_e0 l grams)), (7, .ptr c4 1 0 0), (9, .ptr c8 1 0 0), (10, .ptr c9 2 0 0), (11, (encL 3 encSpan) ((coveredF l (lawCovers_e0 l grams) x).1)), (13, .map c11), (14, D.b (lawCovers_e1 linked l grams x1 x)), (16, .ptr c14 5 0 0), (47, (encL 2 encText) l), (48, D.i (l.length : Int)), (49, D.i x), (64, (encL 5 encClone) (lawCovers_e0 l grams)), (65, D.i ((lawCovers_e0 l grams).length : Int)), (66, D.i x1)]) [(c14, .cells 5 [encClone (gi (lawCovers_e0 l grams) x1)]), (c11, .raw (mapO vB m_63)), (c9, .cells 2 [encText (gi l x)]), (c8, .cells 1 [D.i x]), (c4, .cells 1 [(encL 1 (encL 1 D.i)) (lawCovers_e2 l grams)])]
 refine wpA_seq ?_
 refine wpA_region ?_
 refine wL (OpA.fieldAddr rfl tf38_4 rfl ?_)
 refine wL (OpA.load rfl ti3 rfl .head rfl rfl ?_)
 refine wL (OpA.m ?_)
 refine wpL_nil ?_
 refine wpA_block ?_
 refine wpA_lfp (S := (List (Int × Bool)) × Int) (G := Unit) () (fun gg ss => asg [(0, (encL 2 encText) l), (4, D.b false), (5, (encL 5 encClone) (lawCovers_e0 l grams)), (7, .ptr c4 1 0 0), (9, .ptr c8 1 0 0), (10, .ptr c9 2 0 0), (11, (encL 3 encSpan) ((coveredF l (lawCovers_e0 l grams) x).1)), (13, .map c11), (14, D.b (lawCovers_e1 linked l grams x1 x)), (16, .ptr c14 5 0 0), (47, (encL 2 encText) l), (48, D.i (l.length : Int)), (49, D.i x), (64, (encL 5 encClone) (lawCovers_e0 l grams)), (65, D.i ((lawCovers_e0 l grams).length : Int)), (66, D.i x1), (91, D.i ((gi (lawCovers_e0 l grams) x1).len)), (92, D.i ss.2)]) (fun gg ss => [(c14, .cells 5 [encClone (gi (lawCovers_e0 l grams) x1)]), (c11, .raw (mapO vB ss.1)), (c9, .cells 2 [encText (gi l x)]), (c8, .cells 1 [D.i x]), (c4, .cells 1 [(encL 1 (encL 1 D.i)) (lawCovers_e2 l grams)])]) h (Cov.asg ⟨rfl, rfl, rfl, rfl, rfl, rfl, rfl, rfl, rfl, rfl, rfl, rfl, rfl, rfl, rfl, rfl, rfl, rfl, trivial⟩) (.refl _) ?_
 rintro again15 _ ⟨m_631, x2⟩ h
 have h : lawCovers_L3 l grams x linked x1 again12 again15 m_631 x2 := h
 unfold lawCovers_L3 at h
 show wpA _ _ _ _ (asg [(0, (encL 2 encText) l), (4, D.b false), (5, (encL 5 encClone) (lawCovers_e0 l grams)), (7, .ptr c4 1 0 0), (9, .ptr c8 1 0 0), (10, .ptr c9 2 0 0), (11, (encL 3 encSpan) ((coveredF l (lawCovers_e0 l grams) x).1)), (13, .map c11), (14, D.b (lawCovers_e1 linked l grams x1 x)), (16, .ptr c14 5 0 0), (47, (encL 2 encText) l), (48, D.i (l.length : Int)), (49, D.i x), (64, (encL 5 encClone) (lawCovers_e0 l grams)), (65, D.i ((lawCovers_e0 l grams).length : Int)), (66, D.i x1), (91, D.i ((gi (lawCovers_e0 l grams) x1).len)), (92, D.i x2)]) [(c14, .cells 5 [encClone (gi (lawCovers_e0 l grams) x1)]), (c11, .raw (mapO vB m_631)), (c9, .cells 2 [encText (gi l x)]), (c8, .cells 1 [D.i x]), (c4, .cells 1 [(encL 1 (encL 1 D.i)) (lawCovers_e2 l grams)])]
 refine wpA_seq ?_
 refine wpA_region ?_
 refine wL (OpA.lss rfl rfl rfl ?_)
 refine wpL_nil ?_
 refine wpA_seq ?_
 refine wpA_cond rfl (fun b16 => ?_) (fun b16 => ?_)
 have h := h.1 (decT b16)
 refine wpA_skip ?_
 refine wpA_seq ?_
 refine wpA_block ?_
 refine wpA_seq ?_
 refine wpA_region ?_
 refine wL (OpA.m ?_)
 refine wL (OpA.a ?_)
 refine wpL_nil ?_
 iterate 2 refine wpA_seq ?_
 obtain ⟨q1, h⟩ := h
 refine wpA_mid (asg [(0, (encL 2 encText) l), (4, D.b false), (5, (encL 5 encClone) (lawCovers_e0 l grams)), (7, .ptr c4 1 0 0), (9, .ptr c8 1 0 0), (10, .ptr c9 2 0 0), (11, (encL 3 encSpan) ((coveredF l (lawCovers_e0 l grams) x).1)), (13, .map c11), (14, D.b (lawCovers_e1 linked l grams x1 x)), (16, .ptr c14 5 0 0), (17, D.i x2), (47, (encL 2 encText) l), (48, D.i (l.length : Int)), (49, D.i x), (64, (encL 5 encClone) (lawCovers_e0 l grams)), (65, D.i ((lawCovers_e0 l grams).length : Int)), (66, D.i x1), (91, D.i ((gi (lawCovers_e0 l grams) x1).len)), (92, D.i x2), (108, D.b ((((gi (lawCovers_e0 l grams) x1).a) == x) && (decide ((((gi (lawCovers_e0 l grams) x1).atA) + x2) < (((gi l x).words).length : Int)))))]) [(c14, .cells 5 [encClone (gi (lawCovers_e0 l grams) x1)]), (c11, .raw (mapO vB m_631)), (c9, .cells 2 [encText (gi l x)]), (c8, .cells 1 [D.i x]), (c4, .cells 1 [(encL 1 (encL 1 D.i)) (lawCovers_e2 l grams)])] ?_ ?_
 refine wpA_region ?_
 refine wL (OpA.fieldAddr rfl tf38_0 rfl ?_)
 refine wL (OpA.load rfl ti3 rfl .head rfl rfl ?_)
 refine wL (OpA.load rfl ti3 rfl (.tail (.tail (.tail .head))) rfl rfl ?_)
 refine wL (OpA.eql rfl rfl rfl ?_)
 refine wL (OpA.m ?_)
 refine wpL_split (s := 99) rfl (fun b20 => ?_) (fun b20 => ?_)
 refine wG (OpA.fieldAddr rfl tf38_1 rfl ?_)
 refine wG (OpA.load rfl ti3 rfl .head rfl rfl ?_)
 refine wG (OpA.m ?_)
 refine wG (OpA.addi rfl rfl rfl (q1 (beqT b20)) ?_)
 refine wG (OpA.fieldAddr rfl tf28_1 rfl ?_)
 refine wG (OpA.load rfl ti26 rfl (.tail (.tail .head)) rfl rfl ?_)
 refine wG (OpA.len rfl rfl rfl rfl ts26.desc (.inl ⟨_, _, rfl, (List.length_map _).symm⟩) ?_)
 refine wG (OpA.lss rfl rfl rfl ?_)
 refine wL (OpA.p ?_)
 refine wpL_nil ?_
 exact ⟨(Cov.asg ⟨rfl, rfl, rfl, rfl, rfl, rfl, rfl, rfl, rfl, rfl, rfl, rfl, rfl, rfl, rfl, rfl, rfl, rfl, rfl, (congrArg D.b (Eq.symm (andN b20 rfl))), trivial⟩), (.refl _)⟩
 iterate 8 refine wS ?_
 refine wL (OpA.p ?_)
 refine wpL_nil ?_
 exact ⟨(Cov.asg ⟨rfl, rfl, rfl, rfl, rfl, rfl, rfl, rfl, rfl, rfl, rfl, rfl, rfl, rfl, rfl, rfl, rfl, rfl, rfl, (congrArg D.b (Eq.symm (andS b20))), trivial⟩), (.refl _)⟩
 show wpA _ _ _ _ (asg [(0, (encL 2 encText) l), (4, D.b false), (5, (encL 5 encClone) (lawCovers_e0 l grams)), (7, .ptr c4 1 0 0), (9, .ptr c8 1 0 0), (10, .ptr c9 2 0 0), (11, (encL 3 encSpan) ((coveredF l (lawCovers_e0 l grams) x).1)), (13, .map c11), (14, D.b (lawCovers_e1 linked l grams x1 x)), (16, .ptr c14 5 0 0), (17, D.i x2), (47, (encL 2 encText) l), (48, D.i (l.length : Int)), (49, D.i x), (64, (encL 5 encClone) (lawCovers_e0 l grams)), (65, D.i ((lawCovers_e0 l grams).length : Int)), (66, D.i x1), (91, D.i ((gi (lawCovers_e0 l grams) x1).len)), (92, D.i x2), (108, D.b ((((gi (lawCovers_e0 l grams) x1).a) == x) && (decide ((((gi (lawCovers_e0 l grams) x1).atA) + x2) < (((gi l x).words).length : Int)))))]) [(c14, .cells 5 [encClone (gi (lawCovers_e0 l grams) x1)]), (c11, .raw (mapO vB m_631)), (c9, .cells 2 [encText (gi l x)]), (c8, .cells 1 [D.i x]), (c4, .cells 1 [(encL 1 (encL 1 D.i)) (lawCovers_e2 l grams)])]
 refine wpA_join (S := (List (Int × Bool))) (G := Unit) (fun gg ss => asg [(0, (encL 2 encText) l), (4, D.b false), (5, (encL 5 encClone) (lawCovers_e0 l grams)), (7, .ptr c4 1 0 0), (9, .ptr c8 1 0 0), (10, .ptr c9 2 0 0), (11, (encL 3 encSpan) ((coveredF l (lawCovers_e0 l grams) x).1)), (13, .map c11), (14, D.b (lawCovers_e1 linked l grams x1 x)), (16, .ptr c14 5 0 0), (17, D.i x2), (47, (encL 2 encText) l), (48, D.i (l.length : Int)), (49, D.i x), (64, (encL 5 encClone) (lawCovers_e0 l grams)), (65, D.i ((lawCovers_e0 l grams).length : Int)), (66, D.i x1), (91, D.i ((gi (lawCovers_e0 l grams) x1).len)), (92, D.i x2)]) (fun gg ss => [(c14, .cells 5 [encClone (gi (lawCovers_e0 l grams) x1)]), (c11, .raw (mapO vB ss)), (c9, .cells 2 [encText (gi l x)]), (c8, .cells 1 [D.i x]), (c4, .cells 1 [(encL 1 (encL 1 D.i)) (lawCovers_e2 l grams)])]) (fun ss => lawCovers_J1 l grams x x1 x2 again15 ss) ?_ ?_
 refine wpA_cond rfl (fun b19 => ?_) (fun b19 => ?_)
 have h := h.1 ⟨(beqT (and1 b19)), (decT (and2 b19))⟩
 obtain ⟨q1, q2, h⟩ := h
 refine wpA_region ?_
 refine wL (OpA.m ?_)
 refine wL (OpA.fieldAddr rfl tf28_1 rfl ?_)
 refine wL (OpA.load rfl ti26 rfl (.tail (.tail .head)) rfl rfl ?_)
 refine wL (OpA.fieldAddr rfl tf38_1 rfl ?_)
 refine wL (OpA.load rfl ti3 rfl .head rfl rfl ?_)
 refine wL (OpA.m ?_)
 refine wL (OpA.addi rfl rfl rfl q1 ?_)
 refine wL (OpA.iixV (enc := encLex) rfl ts26 rfl rfl rfl q2 ?_)
 refine wL (OpA.ifieldAddr rfl tf61_1 rfl ?_)
 refine wL (OpA.iload rfl ti3 rfl rfl ?_)
 refine wE (OpA.mapSet (vf := vB) (l := m_631) (v := true) rfl td59 td3 rfl rfl rfl (.tail .head) ?_)
 refine wpL_nil ?_
 exact ⟨(), (mset m_631 ((gi ((gi l x).words) (((gi (lawCovers_e0 l grams) x1).atA) + x2)).line) true), h, (Cov.asg ⟨rfl, rfl, rfl, rfl, rfl, rfl, rfl, rfl, rfl, rfl, rfl, rfl, rfl, rfl, rfl, rfl, rfl, rfl, rfl, trivial⟩), (.refl _)⟩
 have h := h.2 ((and0 b19).imp (fun hh => (beqF hh)) (fun hh => (decF hh)))
 refine wpA_skip ?_
 exact ⟨(), m_631, h, (Cov.asg ⟨rfl, rfl, rfl, rfl, rfl, rfl, rfl, rfl, rfl, rfl, rfl, rfl, rfl, rfl, rfl, rfl, rfl, rfl, rfl, trivial⟩), (.refl _)⟩
 rintro _ m_632 h
 have h : lawCovers_J1 l grams x x1 x2 again15 m_632 := h
 unfold lawCovers_J1 at h
 show wpA _ _ _ _ (asg [(0, (encL 2 encText) l), (4, D.b false), (5, (encL 5 encClone) (lawCovers_e0 l grams)), (7, .ptr c4 1 0 0), (9, .ptr c8 1 0 0), (10, .ptr c9 2 0 0), (11, (encL 3 encSpan) ((coveredF l (lawCovers_e0 l grams) x).1)), (13, .map c11), (14, D.b (lawCovers_e1 linked l grams x1 x)), (16, .ptr c14 5 0 0), (17, D.i x2), (47, (encL 2 encText) l), (48, D.i (l.length : Int)), (49, D.i x), (64, (encL 5 encClone) (lawCovers_e0 l grams)), (65, D.i ((lawCovers_e0 l grams).length : Int)), (66, D.i x1), (91, D.i ((gi (lawCovers_e0 l grams) x1).len)), (92, D.i x2)]) [(c14, .cells 5 [encClone (gi (lawCovers_e0 l grams) x1)]), (c11, .raw (mapO vB m_632)), (c9, .cells 2 [encText (gi l x)]), (c8, .cells 1 [D.i x]), (c4, .cells 1 [(encL 1 (encL 1 D.i)) (lawCovers_e2 l grams)])]
 refine wpA_seq ?_
 obtain ⟨q1, h⟩ := h
 refine wpA_mid (asg [(0, (encL 2 encText) l), (4, D.b false), (5, (encL 5 encClone) (lawCovers_e0 l grams)), (7, .ptr c4 1 0 0), (9, .ptr c8 1 0 0), (10, .ptr c9 2 0 0), (11, (encL 3 encSpan) ((coveredF l (lawCovers_e0 l grams) x).1)), (13, .map c11), (14, D.b (lawCovers_e1 linked l grams x1 x)), (16, .ptr c14 5 0 0), (17, D.i x2), (47, (encL 2 encText) l), (48, D.i (l.length : Int)), (49, D.i x), (64, (encL 5 encClone) (lawCovers_e0 l grams)), (65, D.i ((lawCovers_e0 l grams).length : Int)), (66, D.i x1), (91, D.i ((gi (lawCovers_e0 l grams) x1).len)), (92, D.i x2), (132, D.b ((((gi (lawCovers_e0 l grams) x1).b) == x) && (decide ((((gi (lawCovers_e0 l grams) x1).atB) + x2) < (((gi l x).words).length : Int)))))]) [(c14, .cells 5 [encClone (gi (lawCovers_e0 l grams) x1)]), (c11, .raw (mapO vB m_632)), (c9, .cells 2 [encText (gi l x)]), (c8, .cells 1 [D.i x]), (c4, .cells 1 [(encL 1 (encL 1 D.i)) (lawCovers_e2 l grams)])] ?_ ?_
 refine wpA_region ?_
 refine wL (OpA.fieldAddr rfl tf38_2 rfl ?_)
 refine wL (OpA.load rfl ti3 rfl .head rfl rfl ?_)
 refine wL (OpA.load rfl ti3 rfl (.tail (.tail (.tail .head))) rfl rfl ?_)
 refine wL (OpA.eql rfl rfl rfl ?_)
 refine wL (OpA.m ?_)
 refine wpL_split (s := 123) rfl (fun b18 => ?_) (fun b18 => ?_)
 refine wG (OpA.fieldAddr rfl tf38_3 rfl ?_)
 refine wG (OpA.load rfl ti3 rfl .head rfl rfl ?_)
 refine wG (OpA.m ?_)
 refine wG (OpA.addi rfl rfl rfl (q1 (beqT b18)) ?_)
 refine wG (OpA.fieldAddr rfl tf28_1 rfl ?_)
 refine wG (OpA.load rfl ti26 rfl (.tail (.tail .head)) rfl rfl ?_)
 refine wG (OpA.len rfl rfl rfl rfl ts26.desc (.inl ⟨_, _, rfl, (List.length_map _).symm⟩) ?_)
 refine wG (OpA.lss rfl rfl rfl ?_)
 refine wL (OpA.p ?_)
 refine wpL_nil ?_
 exact ⟨(Cov.asg ⟨rfl, rfl, rfl, rfl, rfl, rfl, rfl, rfl, rfl, rfl, rfl, rfl, rfl, rfl, rfl, rfl, rfl, rfl, rfl, (congrArg D.b (Eq.symm (andN b18 rfl))), trivial⟩), (.refl _)⟩
 iterate 8 refine wS ?_
 refine wL (OpA.p ?_)
 refine wpL_nil ?_
 exact ⟨(Cov.asg ⟨rfl, rfl, rfl, rfl, rfl, rfl, rfl, rfl, rfl, rfl, rfl, rfl, rfl, rfl, rfl, rfl, rfl, rfl, rfl, (congrArg D.b (Eq.symm (andS b18))), trivial⟩), (.refl _)⟩
 show wpA _ _ _ _ (asg [(0, (encL 2 encText) l), (4, D.b false), (5, (encL 5 encClone) (lawCovers_e0 l grams)), (7, .ptr c4 1 0 0), (9, .ptr c8 1 0 0), (10, .ptr c9 2 0 0), (11, (encL 3 encSpan) ((coveredF l (lawCovers_e0 l grams) x).1)), (13, .map c11), (14, D.b (lawCovers_e1 linked l grams x1 x)), (16, .ptr c14 5 0 0), (17, D.i x2), (47, (encL 2 encText) l), (48, D.i (l.length : Int)), (49, D.i x), (64, (encL 5 encClone) (lawCovers_e0 l grams)), (65, D.i ((lawCovers_e0 l grams).length : Int)), (66, D.i x1), (91, D.i ((gi (lawCovers_e0 l grams) x1).len)), (92, D.i x2), (132, D.b ((((gi (lawCovers_e0 l grams) x1).b) == x) && (decide ((((gi (lawCovers_e0 l grams) x1).atB) + x2) < (((gi l x).words).length : Int)))))]) [(c14, .cells 5 [encClone (gi (lawCovers_e0 l grams) x1)]), (c11, .raw (mapO vB m_632)), (c9, .cells 2 [encText (gi l x)]), (c8, .cells 1 [D.i x]), (c4, .cells 1 [(encL 1 (encL 1 D.i)) (lawCovers_e2 l grams)])]
 refine wpA_cond rfl (fun b17 => ?_) (fun b17 => ?_)
 have h := h.1 ⟨(beqT (and1 b17)), (decT (and2 b17))⟩
 obtain ⟨q1, q2, h⟩ := h
 refine wpA_region ?_
 refine wL (OpA.m ?_)
 refine wL (OpA.fieldAddr rfl tf28_1 rfl ?_)
 refine wL (OpA.load rfl ti26 rfl (.tail (.tail .head)) rfl rfl ?_)
 refine wL (OpA.fieldAddr rfl tf38_3 rfl ?_)
 refine wL (OpA.load rfl ti3 rfl .head rfl rfl ?_)
 refine wL (OpA.m ?_)
 refine wL (OpA.addi rfl rfl rfl q1 ?_)
 refine wL (OpA.iixV (enc := encLex) rfl ts26 rfl rfl rfl q2 ?_)
 refine wL (OpA.ifieldAddr rfl tf61_1 rfl ?_)
 refine wL (OpA.iload rfl ti3 rfl rfl ?_)
 refine wE (OpA.mapSet (vf := vB) (l := m_632) (v := true) rfl td59 td3 rfl rfl rfl (.tail .head) ?_)
 refine wpL_nil ?_
 obtain ⟨q1, h⟩ := h
 refine wpA_region ?_
 refine wL (OpA.addi rfl rfl rfl q1 ?_)
 refine wL (OpA.m ?_)
 refine wpL_nil ?_
 exact ⟨(), ((mset m_632 ((gi ((gi l x).words) (((gi (lawCovers_e0 l grams) x1).atB) + x2)).line) true), (x2 + 1)), h, (Cov.asg ⟨rfl, rfl, rfl, rfl, rfl, rfl, rfl, rfl, rfl, rfl, rfl, rfl, rfl, rfl, rfl, rfl, rfl, rfl, trivial⟩), (.refl _)⟩
 have h := h.2 ((and0 b17).imp (fun hh => (beqF hh)) (fun hh => (decF hh)))
 refine wpA_skip ?_
 obtain ⟨q1, h⟩ := h
 refine wpA_region ?_
 refine wL (OpA.addi rfl rfl rfl q1 ?_)
 refine wL (OpA.m ?_)
 refine wpL_nil ?_
 exact ⟨(), (m_632, (x2 + 1)), h, (Cov.asg ⟨rfl, rfl, rfl, rfl, rfl, rfl, rfl, rfl, rfl, rfl, rfl, rfl, rfl, rfl, rfl, rfl, rfl, rfl, trivial⟩), (.refl _)⟩
 have h := h.2 (decF b16)
 refine wpA_exit ?_
 obtain ⟨q1, h⟩ := h
 refine wpA_region ?_
 refine wL (OpA.addi rfl rfl rfl q1 ?_)
 refine wL (OpA.m ?_)
 refine wpL_nil ?_
 exact ⟨(), (m_631, (lawCovers_e1 linked l grams x1 x), (x1 + 1)), h, (Cov.asg ⟨rfl, rfl, rfl, rfl, rfl, rfl, rfl, rfl, rfl, rfl, rfl, rfl, rfl, rfl, rfl, trivial⟩), (.cons _ (.refl _))⟩
 have h := h.2 (decF b13)
 refine wpA_exit ?_
 iterate 2 refine wpA_seq ?_
 obtain ⟨q1, q2, h⟩ := h
 refine wpA_region ?_
 refine wL (OpA.m ?_)
 refine wL (OpA.call rfl rfl rfl en28 (count_c ((coveredF l (lawCovers_e0 l grams) x).1) q1 q2) ?_)
 rintro _ rfl
 refine wL (OpA.m ?_)
 refine wL (OpA.mlen (vf := vB) (l := m_63) rfl rfl rfl rfl td59 rfl .head ?_)
 refine wL (OpA.neq rfl rfl rfl ?_)
 refine wpL_nil ?_
 refine wpA_cond rfl (fun b24 => ?_) (fun b24 => ?_)
 have h := h.1 (bneT b24)
 refine wpA_seq ?_
 refine wpA_region ?_
 refine wL (OpA.a ?_)
 refine wpL_nil ?_
 refine wpA_ret ?_
 exact ⟨_, (.tmp (d := D.b false) rfl .nil), _, (.same rfl .nil), ⟨false, rfl, h⟩⟩
 have h := h.2 (bneF b24)
 refine wpA_skip ?_
 iterate 2 refine wpA_seq ?_
 refine wpA_region ?_
 refine wL (OpA.m ?_)
 refine wL (OpA.rangeMap (vf := vB) (l := m_63) rfl td59 rfl .head (fun c25 => ?_))
 refine wpL_nil ?_
 refine wpA_block ?_
 refine wpA_lfp (S := (List Nat)) (G := Unit) () (fun gg ss => asg [(0, (encL 2 encText) l), (4, D.b false), (5, (encL 5 encClone) (lawCovers_e0 l grams)), (7, .ptr c4 1 0 0), (9, .ptr c8 1 0 0), (10, .ptr c9 2 0 0), (11, (encL 3 encSpan) ((coveredF l (lawCovers_e0 l grams) x).1)), (14, D.b linked), (47, (encL 2 encText) l), (48, D.i (l.length : Int)), (49, D.i x), (151, .ptr c25 1 0 0)]) (fun gg ss => [(c25, .raw (itO c11 m_63.length ss)), (c11, .raw (mapO vB m_63)), (c9, .cells 2 [encText (gi l x)]), (c8, .cells 1 [D.i x]), (c4, .cells 1 [(encL 1 (encL 1 D.i)) (lawCovers_e2 l grams)])]) h (Cov.asg ⟨rfl, rfl, rfl, rfl, rfl, rfl, rfl, rfl, rfl, rfl, rfl, rfl, trivial⟩) (.refl _) ?_
 rintro again26 _ seen h
 have h : lawCovers_L4 l grams x m_63 linked Q again6 again26 seen := h
 unfold lawCovers_L4 at h
 show wpA _ _ _ _ (asg [(0, (encL 2 encText) l), (4, D.b false), (5, (encL 5 encClone) (lawCovers_e0 l grams)), (7, .ptr c4 1 0 0), (9, .ptr c8 1 0 0), (10, .ptr c9 2 0 0), (11, (encL 3 encSpan) ((coveredF l (lawCovers_e0 l grams) x).1)), (14, D.b linked), (47, (encL 2 encText) l), (48, D.i (l.length : Int)), (49, D.i x), (151, .ptr c25 1 0 0)]) [(c25, .raw (itO c11 m_63.length seen)), (c11, .raw (mapO vB m_63)), (c9, .cells 2 [encText (gi l x)]), (c8, .cells 1 [D.i x]), (c4, .cells 1 [(encL 1 (encL 1 D.i)) (lawCovers_e2 l grams)])]
 refine wpA_seq ?_
 refine wpA_region ?_
 refine wL (OpA.nextMap (vf := vB) (l := m_63) (seen := seen) rfl rfl (.tail .head) (fun _ => .head) (fun b27 => ?_) (fun at_ b28 b29 => ?_))
 have h := h.1 b27
 refine wL (OpA.extract rfl rfl rfl ?_)
 refine wpL_nil ?_
 refine wpA_seq ?_
 refine wpA_condF rfl ?_
 refine wpA_exit ?_
 refine wpA_seq ?_
 obtain ⟨q1, q2, h⟩ := h
 refine wpA_region ?_
 refine wL (OpA.load rfl ti51 rfl (.tail (.tail (.tail (.tail .head)))) rfl rfl ?_)
 refine wL (OpA.makeFunc rfl ?_)
 refine wL (OpA.call_snap rfl rfl rfl en30 (.same rfl (.fn .nil (.ptrp rfl (.tail (.tail (.tail .head))) rfl .nil) .nil)) (cfII_c (lawCovers_e2 l grams) 31 [] [.iptr (D.i x) 0] (fun (x0_ : (List Int)) => (x0_.any (fun z_ => decide (z_ = x)))) (fun (x0_ : (List Int)) => x0_.length ≤ 9223372036854775807) en31 (fun x0_ hh => covers1_c x0_ x hh) q1 q2) (by rintro _ rfl; exact .inr (.v _)) ?_)
 rintro _ rfl
 refine wL (OpA.m ?_)
 refine wL (OpA.bcmp rfl td4 rfl rfl (.inr ⟨rfl, rfl⟩) ?_)
 refine wpL_nil ?_
 refine wpA_cond rfl (fun b30 => ?_) (fun b30 => ?_)
 have h := h.1 b30
 refine wpA_seq ?_
 refine wpA_region ?_
 refine wL (OpA.a ?_)
 refine wpL_nil ?_
 refine wpA_ret ?_
 exact ⟨_, (.tmp (d := D.b false) rfl .nil), _, (.same rfl .nil), ⟨false, rfl, h⟩⟩
 have h := h.2 b30
 refine wpA_skip ?_
 obtain ⟨q1, h⟩ := h
 refine wpA_region ?_
 refine wL (OpA.addi rfl rfl rfl q1 ?_)
 refine wL (OpA.m ?_)
 refine wpL_nil ?_
 exact ⟨(), (x + 1), h, (Cov.asg ⟨rfl, rfl, rfl, rfl, rfl, rfl, rfl, trivial⟩), (.cons _ (.cons _ (.cons _ (.cons _ (.refl _)))))⟩
 have h := h.2 at_ b28 b29
 refine wL (OpA.extract rfl rfl rfl ?_)
 refine wpL_nil ?_
 refine wpA_seq ?_
 refine wpA_condT rfl ?_
 refine wpA_skip ?_
 refine wpA_block ?_
 refine wpA_seq ?_
 refine wpA_region ?_
 refine wL (OpA.entry (vf := vB) (l := m_63) (k := at_) rfl rfl (.tail .head) .head b28 ?_)
 refine wL (OpA.extract rfl rfl rfl ?_)
 refine wL (OpA.a ?_)
 refine wpL_nil ?_
 refine wpA_seq ?_
 obtain ⟨q1, q2, h⟩ := h
 refine wpA_region ?_
 refine wL (OpA.m ?_)
 refine wL (OpA.fieldAddr rfl tf28_0 rfl ?_)
 refine wL (OpA.load rfl ti9 rfl (.tail (.tail .head)) rfl rfl ?_)
 refine wL (OpA.m ?_)
 refine wL (OpA.buildO (zs := [.v (.string ⟨#[]⟩), .v (.int .i64 0)]) rfl tp65 tz65 (fun _ _ => (.cons (.v _) (.cons (.v _) .nil))) (.cons (.of (sz := 1) rfl) (.cons (.of (sz := 1) rfl) .nil)) rfl ?_)
 refine wL (OpA.call rfl rfl rfl en29 (has_c ((coveredF l (lawCovers_e0 l grams) x).1) (Line.mk ((gi l x).path) ((gi m_63 (at_ : Int)).1)) q1 q2) ?_)
 rintro _ rfl
 refine wL (OpA.not rfl rfl ?_)
 refine wpL_nil ?_
 refine wpA_cond rfl (fun b31 => ?_) (fun b31 => ?_)
 have h := h.1 (notT b31)
 refine wpA_seq ?_
 refine wpA_region ?_
 refine wL (OpA.a ?_)
 refine wpL_nil ?_
 refine wpA_ret ?_
 exact ⟨_, (.tmp (d := D.b false) rfl .nil), _, (.same rfl .nil), ⟨false, rfl, h⟩⟩
 have h := h.2 (notF b31)
 refine wpA_skip ?_
 exact ⟨(), (seen ++ [at_]), h, (Cov.asg ⟨rfl, rfl, rfl, rfl, rfl, rfl, rfl, rfl, rfl, rfl, rfl, rfl, trivial⟩), (.refl _)⟩
 have h := h.2 (decF b7)
 refine wpA_exit ?_
 refine wpA_seq ?_
 obtain ⟨q1, q2, h⟩ := h
 refine wpA_region ?_
 refine wL (OpA.m ?_)
 refine wL (OpA.makeFunc rfl ?_)
 refine wL (OpA.call_snap rfl rfl rfl en33 (.same rfl (.fn .nil (.ptrp rfl .head rfl .nil) .nil)) (cfClone_c (lawCovers_e0 l grams) 34 [] [.iptr ((encL 1 (encL 1 D.i)) (lawCovers_e2 l grams)) 0] (fun (x0_ : Clone) => (decide (x0_.a ≠ x0_.b) && !((lawCovers_e2 l grams).any fun m_ => (m_.any fun z_ => decide (z_ = x0_.a)) && (m_.any fun z_ => decide (z_ = x0_.b))))) (fun (x0_ : Clone) => (lawCovers_e2 l grams).length ≤ 9223372036854775807 ∧ ∀ m_ ∈ (lawCovers_e2 l grams), m_.length ≤ 9223372036854775807) en34 (fun x0_ hh => covers2_c x0_ (lawCovers_e2 l grams) hh.1 hh.2) q1 q2) (by rintro _ rfl; exact .inr (.v _)) ?_)
 rintro _ rfl
 refine wL (OpA.not rfl rfl ?_)
 refine wL (OpA.a ?_)
 refine wpL_nil ?_
 refine wpA_ret ?_
 exact ⟨_, (.tmp (d := D.b (!((lawCovers_e0 l grams).any (fun (x0_ : Clone) => (decide (x0_.a ≠ x0_.b) && !((lawCovers_e2 l grams).any fun m_ => (m_.any fun z_ => decide (z_ = x0_.a)) && (m_.any fun z_ => decide (z_ = x0_.b)))))))) rfl .nil), _, (.same rfl .nil), ⟨(!((lawCovers_e0 l grams).any (fun (x0_ : Clone) => (decide (x0_.a ≠ x0_.b) && !((lawCovers_e2 l grams).any fun m_ => (m_.any fun z_ => decide (z_ = x0_.a)) && (m_.any fun z_ => decide (z_ = x0_.b))))))), rfl, h⟩⟩
theorem lawCovers_c (l : (List Text)) (grams : Int) (hp0 : inL grams 256) : Fun false Tryz.prog 6 [(encL 2 encText) l, (D.k .u8) grams] (fun d => d = D.b (true)) :=
 Fun.at (enc := fun r => D.b r) (v := true) (lawCovers_w l grams  (fun r => r = true) (lawCovers_ok l grams _ hp0 rfl))
end Go.Proofs.YtglclijalehcmaaGreatDoor
