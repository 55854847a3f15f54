/-
  walks and contracts
-/
import Derived.Test.YtglclijalehcmaaGreatDoorV8
set_option linter.all false
namespace Go.Proofs.YtglclijalehcmaaGreatDoor
open Go Go.Lic Go.Sort Go.Proofs
attribute [local irreducible] addF addP againstC badR beforeF behindF blankF checkC checkF checkF29 cloneCmp clonesF cmpB cmpI codeF commonF4 countF countL coveredF famF fewC fewTs fewW findC findT gramsF growTF guarF has1F hasF hashF indexF insideF insideT leastF lenC lenF linesF listF lookF mergeF mul64F mulP nameR nearC nearF newF ofF orF packF pairF partF pathB pathF postCmp postLt postsF powF printsF pushF rightL rollF sameW selectF sizeF spanCmp spanR splitF splitG textF validF validT
set_option maxHeartbeats 2000000 in
set_option maxRecDepth 10000 in
theorem kfam_w (n : Int) (x : (List Clone)) (Q : (List (List Int)) × Int → Prop) (h : kfam_vc n x Q) : Fun false Tryz.prog 24 [D.i n, (encL 5 encClone) x] (fun d => ∃ r, d = .tup [(encL 1 (encL 1 D.i)) (r.1), D.i (r.2)] ∧ Q r) := by
 unfold kfam_vc at h
 refine Fun.of_body Tryz.func24 rfl Tryz.ntmps24 rfl ?_
 refine wpA_seq ?_
 refine wpA_region ?_
 iterate 2 refine wL (OpA.a ?_)
 refine wpL_nil ?_
 iterate 2 refine wpA_seq ?_
 refine wpA_mid (asg [(0, D.i n), (1, (encL 5 encClone) x), (4, .v (.slice none 0 0)), (5, D.i 0), (23, D.b ((decide (n < 0)) || (decide (n > 64))))]) [] ?_ ?_
 refine wpA_region ?_
 refine wL (OpA.m ?_)
 refine wL (OpA.lss rfl rfl rfl ?_)
 refine wL (OpA.m ?_)
 refine wpL_split (s := 20) rfl (fun b27 => ?_) (fun b27 => ?_)
 iterate 2 refine wS ?_
 refine wL (OpA.p ?_)
 refine wpL_nil ?_
 exact ⟨(Cov.asg ⟨rfl, rfl, rfl, rfl, (congrArg D.b (Eq.symm (orS b27))), trivial⟩), (.refl _)⟩
 refine wG (OpA.m ?_)
 refine wG (OpA.gtr rfl rfl rfl ?_)
 refine wL (OpA.p ?_)
 refine wpL_nil ?_
 exact ⟨(Cov.asg ⟨rfl, rfl, rfl, rfl, (congrArg D.b (Eq.symm (orN b27 rfl))), trivial⟩), (.refl _)⟩
 show wpA _ _ _ _ (asg [(0, D.i n), (1, (encL 5 encClone) x), (4, .v (.slice none 0 0)), (5, D.i 0), (23, D.b ((decide (n < 0)) || (decide (n > 64))))]) []
 refine wpA_cond rfl (fun b1 => ?_) (fun b1 => ?_)
 have h := h.1 ((or0 b1).imp (fun hh => (decT hh)) (fun hh => (decT hh)))
 refine wpA_seq ?_
 refine wpA_region ?_
 iterate 2 refine wL (OpA.a ?_)
 refine wpL_nil ?_
 refine wpA_ret ?_
 exact ⟨_, (.tmp (d := .v (.slice none 0 0)) rfl (.tmp (d := D.i 3) rfl .nil)), _, (.tup (.nilv (sz := 1) (.same rfl .nil)) .nil), ⟨([], 3), rfl, h⟩⟩
 have h := h.2 ⟨(decF (or1 b1)), (decF (or2 b1))⟩
 refine wpA_skip ?_
 refine wpA_seq ?_
 obtain ⟨q1, h⟩ := h
 refine wpA_region ?_
 refine wL (OpA.m ?_)
 refine wL (OpA.makeSliceV (enc := D.i) (v0 := 0) rfl ts67 rfl rfl tz3 (fun _ _ => .v _) (.of rfl) q1 (fun c2 => ?_))
 refine wL (OpA.a ?_)
 refine wpL_nil ?_
 iterate 2 refine wpA_seq ?_
 refine wpA_region ?_
 refine wL (OpA.m ?_)
 refine wL (OpA.len rfl rfl rfl rfl ts67.desc (.inr (.inl ⟨_, _, _, rfl⟩)) ?_)
 refine wL (OpA.m ?_)
 refine wpL_nil ?_
 refine wpA_block ?_
 refine wpA_lfp (S := (List Int) × Int) (G := Nat × List D × List D) (c2, ([] : List D), ([] : List D)) (fun gg ss => asg [(0, D.i n), (1, (encL 5 encClone) x), (4, .v (.slice none 0 0)), (5, D.i 0), (6, .own gg.1 1 gg.2.1.length ss.1.length), (27, D.i ((List.replicate (Int.toNat n) (0 : Int)).length : Int)), (28, D.i ss.2)]) (fun gg ss => [(gg.1, .cells 1 (winL D.i gg.2.1 ss.1 gg.2.2))]) h (Cov.asg ⟨rfl, rfl, rfl, rfl, rfl, rfl, rfl, trivial⟩) (.refl _) ?_
 rintro again3 ⟨cb25, pre25, post25⟩ ⟨family, x1⟩ h
 have h : kfam_L1 n x Q again3 family x1 := h
 unfold kfam_L1 at h
 show wpA _ _ _ _ (asg [(0, D.i n), (1, (encL 5 encClone) x), (4, .v (.slice none 0 0)), (5, D.i 0), (6, .own cb25 1 pre25.length family.length), (27, D.i ((List.replicate (Int.toNat n) (0 : Int)).length : Int)), (28, D.i x1)]) [(cb25, .cells 1 (winL D.i pre25 family post25))]
 refine wpA_seq ?_
 refine wpA_region ?_
 refine wL (OpA.lss rfl rfl rfl ?_)
 refine wpL_nil ?_
 refine wpA_seq ?_
 refine wpA_cond rfl (fun b4 => ?_) (fun b4 => ?_)
 have h := h.1 (decT b4)
 refine wpA_skip ?_
 refine wpA_seq ?_
 refine wpA_block ?_
 refine wpA_seq ?_
 refine wpA_region ?_
 refine wL (OpA.m ?_)
 refine wL (OpA.a ?_)
 refine wpL_nil ?_
 obtain ⟨q1, h⟩ := h
 refine wpA_region ?_
 iterate 3 refine wL (OpA.m ?_)
 refine wL (OpA.ixV rfl ts67 rfl rfl q1 ?_)
 refine wE (OpA.storeV (enc := D.i) (v := x1) rfl ti3 rfl rfl (.of rfl) rfl q1 .head ?_)
 refine wpL_nil ?_
 obtain ⟨q1, h⟩ := h
 refine wpA_region ?_
 refine wL (OpA.addi rfl rfl rfl q1 ?_)
 refine wL (OpA.m ?_)
 refine wpL_nil ?_
 exact ⟨(cb25, pre25, post25), ((si family x1 x1), (x1 + 1)), h, (Cov.asg ⟨rfl, rfl, rfl, rfl, (congrArg (D.own cb25 1 pre25.length) (by simp only [si_length, gcopy_length, clearF_length, sortF_len postCmp_swo, sortF_len cloneCmp_swo, sortF_len spanCmp_swo] <;> rfl)), rfl, rfl, trivial⟩), (.refl _)⟩
 have h := h.2 (decF b4)
 refine wpA_exit ?_
 iterate 2 refine wpA_seq ?_
 refine wpA_region ?_
 refine wL (OpA.m ?_)
 refine wL (OpA.len rfl rfl rfl rfl ts32.desc (.inl ⟨_, _, rfl, (List.length_map _).symm⟩) ?_)
 refine wL (OpA.m ?_)
 refine wpL_nil ?_
 refine wpA_block ?_
 refine wpA_lfp (S := (List Int) × Int) (G := Nat × List D × List D) (cb25, pre25, post25) (fun gg ss => asg [(0, D.i n), (4, .v (.slice none 0 0)), (5, D.i 0), (6, .own gg.1 1 gg.2.1.length ss.1.length), (36, (encL 5 encClone) x), (37, D.i (x.length : Int)), (38, D.i ss.2)]) (fun gg ss => [(gg.1, .cells 1 (winL D.i gg.2.1 ss.1 gg.2.2))]) h (Cov.asg ⟨rfl, rfl, rfl, rfl, rfl, rfl, rfl, trivial⟩) (.refl _) ?_
 rintro again5 ⟨cb251, pre251, post251⟩ ⟨family1, x2⟩ h
 have h : kfam_L2 n x Q again5 family1 x2 := h
 unfold kfam_L2 at h
 show wpA _ _ _ _ (asg [(0, D.i n), (4, .v (.slice none 0 0)), (5, D.i 0), (6, .own cb251 1 pre251.length family1.length), (36, (encL 5 encClone) x), (37, D.i (x.length : Int)), (38, D.i x2)]) [(cb251, .cells 1 (winL D.i pre251 family1 post251))]
 refine wpA_seq ?_
 refine wpA_region ?_
 refine wL (OpA.lss rfl rfl rfl ?_)
 refine wpL_nil ?_
 refine wpA_seq ?_
 refine wpA_cond rfl (fun b6 => ?_) (fun b6 => ?_)
 have h := h.1 (decT b6)
 refine wpA_skip ?_
 refine wpA_seq ?_
 refine wpA_block ?_
 refine wpA_seq ?_
 obtain ⟨q1, h⟩ := h
 refine wpA_region ?_
 refine wL (OpA.iixV (enc := encClone) rfl ts32 rfl rfl rfl q1 ?_)
 refine wL (OpA.iload_whole rfl ti38 rfl ⟨_, rfl, rfl⟩ ?_)
 refine wL (OpA.alloc (sz := 5) (d := encClone (Clone.mk 0 0 0 0 0)) rfl tz38 (fun _ _ => .agg (.cons (.v _) (.cons (.v _) (.cons (.v _) (.cons (.v _) (.cons (.v _) .nil)))))) (.of rfl) (fun c7 _ => ?_))
 refine wE (OpA.storeW rfl ti38 rfl (by with_reducible conv => lhs; whnf) (.of rfl) rfl rfl .head ?_)
 refine wpL_nil ?_
 iterate 2 refine wpA_seq ?_
 refine wpA_mid (asg [(0, D.i n), (4, .v (.slice none 0 0)), (5, D.i 0), (6, .own cb251 1 pre251.length family1.length), (9, .ptr c7 5 0 0), (36, (encL 5 encClone) x), (37, D.i (x.length : Int)), (38, D.i x2), (56, D.b ((decide ((gmin ((gi x x2).a) [(gi x x2).b]) < 0)) || (decide ((gmax ((gi x x2).a) [(gi x x2).b]) ≥ n))))]) [(c7, .cells 5 [encClone (gi x x2)]), (cb251, .cells 1 (winL D.i pre251 family1 post251))] ?_ ?_
 refine wpA_region ?_
 refine wL (OpA.fieldAddr rfl tf38_0 rfl ?_)
 refine wL (OpA.load rfl ti3 rfl .head rfl rfl ?_)
 refine wL (OpA.fieldAddr rfl tf38_2 rfl ?_)
 refine wL (OpA.load rfl ti3 rfl .head rfl rfl ?_)
 refine wL (OpA.min (l := [_]) rfl rfl rfl rfl ?_)
 refine wL (OpA.lss rfl rfl rfl ?_)
 refine wL (OpA.m ?_)
 refine wpL_split (s := 48) rfl (fun b12 => ?_) (fun b12 => ?_)
 iterate 7 refine wS ?_
 refine wL (OpA.p ?_)
 refine wpL_nil ?_
 exact ⟨(Cov.asg ⟨rfl, rfl, rfl, rfl, rfl, rfl, rfl, rfl, (congrArg D.b (Eq.symm (orS b12))), trivial⟩), (.refl _)⟩
 refine wG (OpA.fieldAddr rfl tf38_0 rfl ?_)
 refine wG (OpA.load rfl ti3 rfl .head rfl rfl ?_)
 refine wG (OpA.fieldAddr rfl tf38_2 rfl ?_)
 refine wG (OpA.load rfl ti3 rfl .head rfl rfl ?_)
 refine wG (OpA.max (l := [_]) rfl rfl rfl rfl ?_)
 refine wG (OpA.m ?_)
 refine wG (OpA.geq rfl rfl rfl ?_)
 refine wL (OpA.p ?_)
 refine wpL_nil ?_
 exact ⟨(Cov.asg ⟨rfl, rfl, rfl, rfl, rfl, rfl, rfl, rfl, (congrArg D.b (Eq.symm (orN b12 rfl))), trivial⟩), (.refl _)⟩
 show wpA _ _ _ _ (asg [(0, D.i n), (4, .v (.slice none 0 0)), (5, D.i 0), (6, .own cb251 1 pre251.length family1.length), (9, .ptr c7 5 0 0), (36, (encL 5 encClone) x), (37, D.i (x.length : Int)), (38, D.i x2), (56, D.b ((decide ((gmin ((gi x x2).a) [(gi x x2).b]) < 0)) || (decide ((gmax ((gi x x2).a) [(gi x x2).b]) ≥ n))))]) [(c7, .cells 5 [encClone (gi x x2)]), (cb251, .cells 1 (winL D.i pre251 family1 post251))]
 refine wpA_cond rfl (fun b8 => ?_) (fun b8 => ?_)
 have h := h.1 ((or0 b8).imp (fun hh => (decT hh)) (fun hh => (decT hh)))
 refine wpA_seq ?_
 refine wpA_region ?_
 iterate 2 refine wL (OpA.a ?_)
 refine wpL_nil ?_
 refine wpA_ret ?_
 exact ⟨_, (.tmp (d := .v (.slice none 0 0)) rfl (.tmp (d := D.i 3) rfl .nil)), _, (.tup (.nilv (sz := 1) (.same rfl .nil)) .nil), ⟨([], 3), rfl, h⟩⟩
 have h := h.2 ⟨(decF (or1 b8)), (decF (or2 b8))⟩
 refine wpA_skip ?_
 refine wpA_seq ?_
 obtain ⟨q1, q2, h⟩ := h
 refine wpA_draw (m := 12) mo (by kernel_rfl) rfl ?_
 refine dL (OpA.m ⟨rfl, rfl⟩) ?_
 refine dL (OpA.fieldAddr rfl tf38_0 rfl ⟨rfl, rfl⟩) ?_
 refine dL (OpA.load rfl ti3 rfl .head rfl rfl ⟨rfl, rfl⟩) ?_
 refine dL (OpA.ixV rfl ts67 rfl rfl q1 ⟨rfl, rfl⟩) ?_
 refine dL (OpA.load rfl ti3 rfl (.tail .head) (getV (enc := D.i) q1) rfl ⟨rfl, rfl⟩) ?_
 refine dL (OpA.m ⟨rfl, rfl⟩) ?_
 refine dL (OpA.fieldAddr rfl tf38_2 rfl ⟨rfl, rfl⟩) ?_
 refine dL (OpA.load rfl ti3 rfl .head rfl rfl ⟨rfl, rfl⟩) ?_
 refine dL (OpA.ixV rfl ts67 rfl rfl q2 ⟨rfl, rfl⟩) ?_
 refine dL (OpA.load rfl ti3 rfl (.tail .head) (getV (enc := D.i) q2) rfl ⟨rfl, rfl⟩) ?_
 iterate 2 refine dL (OpA.a ⟨rfl, rfl⟩) ?_
 refine DetK.nil ?_
 refine wpL_nil ?_
 refine wpA_seq ?_
 refine wpA_region ?_
 refine wL (OpA.m ?_)
 refine wL (OpA.len rfl rfl rfl rfl ts67.desc (.inr (.inl ⟨_, _, _, rfl⟩)) ?_)
 refine wL (OpA.m ?_)
 refine wpL_nil ?_
 refine wpA_block ?_
 refine wpA_lfp (S := (List Int) × Int) (G := Nat × List D × List D) (cb251, pre251, post251) (fun gg ss => asg [(0, D.i n), (4, .v (.slice none 0 0)), (5, D.i 0), (6, .own gg.1 1 gg.2.1.length ss.1.length), (10, D.i (gi family1 ((gi x x2).a))), (11, D.i (gi family1 ((gi x x2).b))), (36, (encL 5 encClone) x), (37, D.i (x.length : Int)), (38, D.i x2), (68, D.i (family1.length : Int)), (69, D.i ss.2)]) (fun gg ss => [(c7, .cells 5 [encClone (gi x x2)]), (gg.1, .cells 1 (winL D.i gg.2.1 ss.1 gg.2.2))]) h (Cov.asg ⟨rfl, rfl, rfl, rfl, rfl, rfl, rfl, rfl, rfl, rfl, rfl, trivial⟩) (.refl _) ?_
 rintro again9 ⟨cb252, pre252, post252⟩ ⟨family2, x3⟩ h
 have h : kfam_L3 x family1 x2 again5 again9 family2 x3 := h
 unfold kfam_L3 at h
 show wpA _ _ _ _ (asg [(0, D.i n), (4, .v (.slice none 0 0)), (5, D.i 0), (6, .own cb252 1 pre252.length family2.length), (10, D.i (gi family1 ((gi x x2).a))), (11, D.i (gi family1 ((gi x x2).b))), (36, (encL 5 encClone) x), (37, D.i (x.length : Int)), (38, D.i x2), (68, D.i (family1.length : Int)), (69, D.i x3)]) [(c7, .cells 5 [encClone (gi x x2)]), (cb252, .cells 1 (winL D.i pre252 family2 post252))]
 refine wpA_seq ?_
 refine wpA_region ?_
 refine wL (OpA.lss rfl rfl rfl ?_)
 refine wpL_nil ?_
 refine wpA_seq ?_
 refine wpA_cond rfl (fun b10 => ?_) (fun b10 => ?_)
 have h := h.1 (decT b10)
 refine wpA_skip ?_
 refine wpA_seq ?_
 refine wpA_block ?_
 refine wpA_seq ?_
 refine wpA_region ?_
 refine wL (OpA.m ?_)
 refine wL (OpA.a ?_)
 refine wpL_nil ?_
 refine wpA_seq ?_
 obtain ⟨q1, h⟩ := h
 refine wpA_region ?_
 iterate 2 refine wL (OpA.m ?_)
 refine wL (OpA.ixV rfl ts67 rfl rfl q1 ?_)
 refine wL (OpA.load rfl ti3 rfl (.tail .head) (getV (enc := D.i) q1) rfl ?_)
 iterate 2 refine wL (OpA.m ?_)
 refine wL (OpA.max (l := [_]) rfl rfl rfl rfl ?_)
 refine wL (OpA.eql rfl rfl rfl ?_)
 refine wpL_nil ?_
 refine wpA_cond rfl (fun b11 => ?_) (fun b11 => ?_)
 have h := h.1 (beqT b11)
 obtain ⟨q1, h⟩ := h
 refine wpA_region ?_
 iterate 4 refine wL (OpA.m ?_)
 refine wL (OpA.min (l := [_]) rfl rfl rfl rfl ?_)
 refine wL (OpA.ixV rfl ts67 rfl rfl q1 ?_)
 refine wE (OpA.storeV (enc := D.i) (v := (gmin (gi family1 ((gi x x2).a)) [(gi family1 ((gi x x2).b))])) rfl ti3 rfl rfl (.of rfl) rfl q1 (.tail .head) ?_)
 refine wpL_nil ?_
 obtain ⟨q1, h⟩ := h
 refine wpA_region ?_
 refine wL (OpA.addi rfl rfl rfl q1 ?_)
 refine wL (OpA.m ?_)
 refine wpL_nil ?_
 exact ⟨(cb252, pre252, post252), ((si family2 x3 (gmin (gi family1 ((gi x x2).a)) [(gi family1 ((gi x x2).b))])), (x3 + 1)), h, (Cov.asg ⟨rfl, rfl, rfl, (congrArg (D.own cb252 1 pre252.length) (by simp only [si_length, gcopy_length, clearF_length, sortF_len postCmp_swo, sortF_len cloneCmp_swo, sortF_len spanCmp_swo] <;> rfl)), rfl, rfl, rfl, rfl, rfl, rfl, rfl, trivial⟩), (.refl _)⟩
 have h := h.2 (beqF b11)
 refine wpA_skip ?_
 obtain ⟨q1, h⟩ := h
 refine wpA_region ?_
 refine wL (OpA.addi rfl rfl rfl q1 ?_)
 refine wL (OpA.m ?_)
 refine wpL_nil ?_
 exact ⟨(cb252, pre252, post252), (family2, (x3 + 1)), h, (Cov.asg ⟨rfl, rfl, rfl, rfl, rfl, rfl, rfl, rfl, rfl, rfl, rfl, trivial⟩), (.refl _)⟩
 have h := h.2 (decF b10)
 refine wpA_exit ?_
 obtain ⟨q1, h⟩ := h
 refine wpA_region ?_
 refine wL (OpA.addi rfl rfl rfl q1 ?_)
 refine wL (OpA.m ?_)
 refine wpL_nil ?_
 exact ⟨(cb252, pre252, post252), (family2, (x2 + 1)), h, (Cov.asg ⟨rfl, rfl, rfl, rfl, rfl, rfl, rfl, trivial⟩), (.cons _ (.refl _))⟩
 have h := h.2 (decF b6)
 refine wpA_exit ?_
 refine wpA_seq ?_
 refine wpA_region ?_
 refine wL (OpA.makeSm (hm := fun c13 => ((c13, .map (smD 1 (fun _ => (0, [], [])) ([] : List (Int × List Int)))) :: (cb251, .cells 1 (winL D.i pre251 family1 post251)) :: smB 1 D.i (fun _ => (0, [], [])) ([] : List (Int × List Int)))) Int D.i 1 rfl (fun c13 => (.cons (.cons .here))) (fun c13 => ?_))
 refine wL (OpA.a ?_)
 refine wpL_nil ?_
 iterate 2 refine wpA_seq ?_
 refine wpA_region ?_
 refine wL (OpA.m ?_)
 refine wL (OpA.len rfl rfl rfl rfl ts67.desc (.inr (.inl ⟨_, _, _, rfl⟩)) ?_)
 refine wL (OpA.m ?_)
 refine wpL_nil ?_
 refine wpA_block ?_
 refine wpA_lfp (S := (List (Int × List Int)) × Int) (G := (Int → GS)) (fun _ => (0, [], [])) (fun gg ss => asg [(0, D.i n), (4, .v (.slice none 0 0)), (5, D.i 0), (13, .map c13), (89, .own cb251 1 pre251.length family1.length), (90, D.i (family1.length : Int)), (91, D.i ss.2)]) (fun gg ss => ((c13, .map (smD 1 gg ss.1)) :: (cb251, .cells 1 (winL D.i pre251 family1 post251)) :: smB 1 D.i gg ss.1)) h (Cov.asg ⟨rfl, rfl, rfl, rfl, rfl, rfl, rfl, trivial⟩) (.refl _) ?_
 rintro again14 gm_88 ⟨m_88, x4⟩ h
 have h : kfam_L4 n family1 Q again14 m_88 x4 := h
 unfold kfam_L4 at h
 show wpA _ _ _ _ (asg [(0, D.i n), (4, .v (.slice none 0 0)), (5, D.i 0), (13, .map c13), (89, .own cb251 1 pre251.length family1.length), (90, D.i (family1.length : Int)), (91, D.i x4)]) ((c13, .map (smD 1 gm_88 m_88)) :: (cb251, .cells 1 (winL D.i pre251 family1 post251)) :: smB 1 D.i gm_88 m_88)
 refine wpA_seq ?_
 refine wpA_region ?_
 refine wL (OpA.lss rfl rfl rfl ?_)
 refine wpL_nil ?_
 refine wpA_seq ?_
 refine wpA_cond rfl (fun b15 => ?_) (fun b15 => ?_)
 have h := h.1 (decT b15)
 refine wpA_skip ?_
 refine wpA_seq ?_
 refine wpA_block ?_
 refine wpA_seq ?_
 obtain ⟨q1, h⟩ := h
 refine wpA_region ?_
 refine wL (OpA.m ?_)
 refine wL (OpA.ixV rfl ts67 rfl rfl q1 ?_)
 refine wL (OpA.load rfl ti3 rfl (.tail .head) (getV (enc := D.i) q1) rfl ?_)
 iterate 2 refine wL (OpA.a ?_)
 refine wpL_nil ?_
 obtain ⟨q1, q2, h⟩ := h
 refine wpA_region ?_
 iterate 4 refine wL (OpA.m ?_)
 refine wL (OpA.smGet (sz := 1) (enc := D.i) (γ := gm_88) (L := m_88) rfl td96 td3 tz67 rfl rfl .head (.cons (.cons .here)) (fun c16 pre17 post18 => ?_))
 refine wL (OpA.m ?_)
 refine wL (OpA.ibuildSliceO rfl ts67 rfl (.cons (.of (sz := 1) rfl) .nil) (by decide) ?_)
 refine wL (OpA.appendW (enc := D.i) rfl rfl rfl rfl ts67 rfl (fun _ _ => .head) (.list (ys := ([x4] : List Int))) q1 (fun c19 pre20 => ?_))
 refine wE (OpA.smSet (sz := 1) (enc := D.i) (γ := gm_88) (L := m_88) (pre := pre20) (post := ([] : List D)) (xs := ((mget [] m_88 (gi family1 x4)) ++ ([x4] : List Int))) q2 rfl td96 td3 rfl rfl rfl (.refl _) .head (.cons (.cons .here)) ?_)
 refine wpL_nil ?_
 obtain ⟨q1, h⟩ := h
 refine wpA_region ?_
 refine wL (OpA.addi rfl rfl rfl q1 ?_)
 refine wL (OpA.m ?_)
 refine wpL_nil ?_
 exact ⟨(gup gm_88 (gi family1 x4) (c19, pre20, ([] : List D))), ((mset m_88 (gi family1 x4) ((mget [] m_88 (gi family1 x4)) ++ ([x4] : List Int))), (x4 + 1)), h, (Cov.asg ⟨rfl, rfl, rfl, rfl, rfl, rfl, rfl, trivial⟩), (.refl _)⟩
 have h := h.2 (decF b15)
 refine wpA_exit ?_
 refine wpA_seq ?_
 refine wpA_region ?_
 refine wL (OpA.asnG (T := (List Int)) (enc := (encL 1 D.i)) (sz := 1) rfl rfl (fun c16_g21 => ?_))
 refine wpL_nil ?_
 iterate 2 refine wpA_seq ?_
 refine wpA_region ?_
 iterate 2 refine wL (OpA.m ?_)
 refine wpL_nil ?_
 refine wpA_block ?_
 refine wpA_smFrz (sz := 1) (enc := D.i) (γ := gm_88) (L := m_88) (.cons (.cons (.cons .here))) (.tail .head) ?_
 refine wpA_lfp (S := (List (List Int)) × Int) (G := Nat × List D × List D) (c16_g21, ([] : List D), ([] : List D)) (fun gg ss => asg [(4, .v (.slice none 0 0)), (5, D.i 0), (13, .map c13), (16, .own gg.1 1 gg.2.1.length ss.1.length), (105, D.i n), (106, D.i ss.2)]) (fun gg ss => [(gg.1, .cells 1 (winL (encL 1 D.i) gg.2.1 ss.1 gg.2.2)), (c13, .map (smF 1 D.i m_88)), (cb251, .cells 1 (winL D.i pre251 family1 post251))]) h (Cov.asg ⟨rfl, rfl, rfl, rfl, rfl, rfl, trivial⟩) (.refl _) ?_
 rintro again22 ⟨cb16, pre16, post16⟩ ⟨out, x5⟩ h
 have h : kfam_L5 n m_88 Q again22 out x5 := h
 unfold kfam_L5 at h
 show wpA _ _ _ _ (asg [(4, .v (.slice none 0 0)), (5, D.i 0), (13, .map c13), (16, .own cb16 1 pre16.length out.length), (105, D.i n), (106, D.i x5)]) [(cb16, .cells 1 (winL (encL 1 D.i) pre16 out post16)), (c13, .map (smF 1 D.i m_88)), (cb251, .cells 1 (winL D.i pre251 family1 post251))]
 refine wpA_seq ?_
 refine wpA_region ?_
 refine wL (OpA.lss rfl rfl rfl ?_)
 refine wpL_nil ?_
 refine wpA_seq ?_
 refine wpA_cond rfl (fun b23 => ?_) (fun b23 => ?_)
 have h := h.1 (decT b23)
 refine wpA_skip ?_
 refine wpA_seq ?_
 refine wpA_block ?_
 refine wpA_seq ?_
 refine wpA_region ?_
 refine wL (OpA.m ?_)
 refine wL (OpA.a ?_)
 refine wpL_nil ?_
 refine wpA_seq ?_
 refine wpA_region ?_
 iterate 2 refine wL (OpA.m ?_)
 refine wL (OpA.fmGet (sz := 1) (enc := D.i) (L := m_88) rfl td96 td3 tz67 rfl rfl (.tail .head) ?_)
 refine wL (OpA.len rfl rfl rfl rfl ts67.desc (.inl ⟨_, _, rfl, (List.length_map _).symm⟩) ?_)
 refine wL (OpA.gtr rfl rfl rfl ?_)
 refine wpL_nil ?_
 refine wpA_cond rfl (fun b24 => ?_) (fun b24 => ?_)
 have h := h.1 (decT b24)
 obtain ⟨q1, h⟩ := h
 refine wpA_region ?_
 iterate 3 refine wL (OpA.m ?_)
 refine wL (OpA.fmGet (sz := 1) (enc := D.i) (L := m_88) rfl td96 td3 tz67 rfl rfl (.tail .head) ?_)
 refine wL (OpA.ibuildSliceO rfl ts51 rfl (.cons (.of (sz := 1) rfl) .nil) (by decide) ?_)
 refine wL (OpA.appendW (enc := (encL 1 D.i)) rfl rfl rfl rfl ts51 rfl (fun _ _ => .head) (.list (ys := ([(mget [] m_88 x5)] : List (List Int)))) q1 (fun c25 pre26 => ?_))
 refine wL (OpA.a ?_)
 refine wpL_nil ?_
 obtain ⟨q1, h⟩ := h
 refine wpA_region ?_
 refine wL (OpA.addi rfl rfl rfl q1 ?_)
 refine wL (OpA.m ?_)
 refine wpL_nil ?_
 exact ⟨(c25, pre26, ([] : List D)), ((out ++ ([(mget [] m_88 x5)] : List (List Int))), (x5 + 1)), h, (Cov.asg ⟨rfl, rfl, rfl, rfl, rfl, rfl, trivial⟩), (.refl _)⟩
 have h := h.2 (decF b24)
 refine wpA_skip ?_
 obtain ⟨q1, h⟩ := h
 refine wpA_region ?_
 refine wL (OpA.addi rfl rfl rfl q1 ?_)
 refine wL (OpA.m ?_)
 refine wpL_nil ?_
 exact ⟨(cb16, pre16, post16), (out, (x5 + 1)), h, (Cov.asg ⟨rfl, rfl, rfl, rfl, rfl, rfl, trivial⟩), (.refl _)⟩
 have h := h.2 (decF b23)
 refine wpA_exit ?_
 refine wpA_seq ?_
 refine wpA_region ?_
 refine wL (OpA.m ?_)
 iterate 2 refine wL (OpA.a ?_)
 refine wpL_nil ?_
 refine wpA_ret ?_
 exact ⟨_, (.tmp (d := .own cb16 1 pre16.length out.length) rfl (.tmp (d := D.i 0) rfl .nil)), _, (.tup (.win .head (by intro hf; cases hf) (.same rfl .nil)) .nil), ⟨(out, 0), rfl, h⟩⟩
theorem kfam_c (n : Int) (x : (List Clone)) (hp0 : x.length ≤ 1000000) : Fun false Tryz.prog 24 [D.i n, (encL 5 encClone) x] (fun d => d = .tup [(encL 1 (encL 1 D.i)) ((famF n x).1), D.i ((famF n x).2)]) :=
 Fun.at (enc := fun r => .tup [(encL 1 (encL 1 D.i)) (r.1), D.i (r.2)]) (v := famF n x) (kfam_w n x  (fun r => r = famF n x) (kfam_ok n x _ hp0 rfl))
end Go.Proofs.YtglclijalehcmaaGreatDoor
