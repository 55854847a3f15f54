/-
  walks and contracts
-/
import Derived.Test.YtglclijalehcmaaGreatDoorV8
set_option maxRecDepth 10000
set_option maxHeartbeats 2000000
set_option linter.all false
namespace Go.Proofs.YtglclijalehcmaaGreatDoor
open Go Go.Lic Go.Sort Go.Proofs
attribute [local irreducible] addF addP againstC badR beforeF behindF blankF checkC checkF checkF29 cloneCmp clonesF cmpB cmpI codeF commonF4 countF countL coveredF famF fewC fewTs fewW findC findT gramsF growTF guarF has1F hasF hashF indexF insideF insideT leastF lenC lenF linesF listF lookF mergeF mul64F mulP nameR nearC nearF newF ofF orF packF pairF partF pathB pathF postCmp postLt postsF powF printsF pushF rightL rollF sameW selectF sizeF spanCmp spanR splitF splitG textF validF validT
theorem kfam_w (n : Int) (x : (List Clone)) (Q : (List (List Int)) × Int → Prop) (h : kfam_vc n x Q) : Fun false Tryz.prog 24 [D.i n, (encL 5 encClone) x] (fun d => ∃ r, d = .tup [(encL 1 (encL 1 D.i)) (r.1), D.i (r.2)] ∧ Q r) := by
 unfold kfam_vc at h
 refine Fun.of_body Tryz.func24 rfl Tryz.ntmps24 rfl ?_
 refine wpA_seq ?_
 refine wpA_region ?_
 iterate 2 refine wL (OpA.a ?_)
 refine wpL_nil ?_
 iterate 2 refine wpA_seq ?_
 refine wpA_mid (asg [(0, D.i n), (1, (encL 5 encClone) x), (4, .v (.slice none 0 0)), (5, D.i 0), (23, D.b ((decide (n < 0)) || (decide (n > 64))))]) [] ?_ ?_
 refine wpA_region ?_
 refine wL (OpA.m ?_)
 refine wL (OpA.lss rfl rfl rfl ?_)
 refine wL (OpA.m ?_)
 refine wpL_split (s := 20) rfl (fun b27 => ?_) (fun b27 => ?_)
 iterate 2 refine wS ?_
 refine wL (OpA.p ?_)
 refine wpL_nil ?_
 exact ⟨(Cov.asg ⟨rfl, rfl, rfl, rfl, (congrArg D.b (Eq.symm (orS b27))), trivial⟩), (.refl _)⟩
 refine wG (OpA.m ?_)
 refine wG (OpA.gtr rfl rfl rfl ?_)
 refine wL (OpA.p ?_)
 refine wpL_nil ?_
 exact ⟨(Cov.asg ⟨rfl, rfl, rfl, rfl, (congrArg D.b (Eq.symm (orN b27 rfl))), trivial⟩), (.refl _)⟩
 show wpA _ _ _ _ (asg [(0, D.i n), (1, (encL 5 encClone) x), (4, .v (.slice none 0 0)), (5, D.i 0), (23, D.b ((decide (n < 0)) || (decide (n > 64))))]) []
 refine wpA_cond rfl (fun b1 => ?_) (fun b1 => ?_)
 have h := h.1 ((or0 b1).imp (fun hh => (decT hh)) (fun hh => (decT hh)))
 refine wpA_seq ?_
 refine wpA_region ?_
 iterate 2 refine wL (OpA.a ?_)
 refine wpL_nil ?_
 refine wpA_ret ?_
 exact ⟨_, (.tmp (d := .v (.slice none 0 0)) rfl (.tmp (d := D.i 3) rfl .nil)), _, (.tup (.nilv (sz := 1) (.same rfl .nil)) .nil), ⟨([], 3), rfl, h⟩⟩
 have h := h.2 ⟨(decF (or1 b1)), (decF (or2 b1))⟩
 refine wpA_skip ?_
 refine wpA_seq ?_
 obtain ⟨q1, h⟩ := h
 refine wpA_region ?_
 refine wL (OpA.m ?_)
 refine wL (OpA.makeSliceV (enc := D.i) (v0 := 0) rfl ts67 rfl rfl tz3 (fun _ _ => .v _) (.of rfl) q1 (fun c2 => ?_))
 refine wL (OpA.a ?_)
 refine wpL_nil ?_
 iterate 2 refine wpA_seq ?_
 refine wpA_region ?_
 refine wL (OpA.m ?_)
 refine wL (OpA.len rfl rfl rfl rfl ts67.desc (.inr (.inl ⟨_, _, _, rfl⟩)) ?_)
 refine wL (OpA.m ?_)
 refine wpL_nil ?_
 refine wpA_block ?_
 refine wpA_lfp (S := (List Int) × Int) (G := Nat × List D × List D) (c2, ([] : List D), ([] : List D)) (fun gg ss => asg [(0, D.i n), (1, (encL 5 encClone) x), (4, .v (.slice none 0 0)), (5, D.i 0), (6, .own gg.1 1 gg.2.1.length ss.1.length), (27, D.i ((List.replicate (Int.toNat n) (0 : Int)).length : Int)), (28, D.i ss.2)]) (fun gg ss => [(gg.1, .cells 1 (winL D.i gg.2.1 ss.1 gg.2.2))]) h (Cov.asg ⟨rfl, rfl, rfl, rfl, rfl, rfl, rfl, trivial⟩) (.refl _) ?_
 rintro again3 ⟨cb25, pre25, post25⟩ ⟨family, x1⟩ h
 have h : kfam_L1 n x Q again3 family x1 := h
 unfold kfam_L1 at h
 show wpA _ _ _ _ (asg [(0, D.i n), (1, (encL 5 encClone) x), (4, .v (.slice none 0 0)), (5, D.i 0), (6, .own cb25 1 pre25.length family.length), (27, D.i ((List.replicate (Int.toNat n) (0 : Int)).length : Int)), (28, D.i x1)]) [(cb25, .cells 1 (winL D.i pre25 family post25))]
 refine wpA_seq ?_
 refine wpA_region ?_
 refine wL (OpA.lss rfl rfl rfl ?_)
 refine wpL_nil ?_
 refine wpA_seq ?_
 refine wpA_cond rfl (fun b4 => ?_) (fun b4 => ?_)
 have h := h.1 (decT b4)
 refine wpA_skip ?_
 refine wpA_seq ?_
 refine wpA_block ?_
 refine wpA_seq ?_
 refine wpA_region ?_
 refine wL (OpA.m ?_)
 refine wL (OpA.a ?_)
 refine wpL_nil ?_
 obtain ⟨q1, h⟩ := h
 refine wpA_region ?_
 iterate 3 refine wL (OpA.m ?_)
 refine wL (OpA.ixV rfl ts67 rfl rfl q1 ?_)
 refine wE (OpA.storeV (enc := D.i) (v := x1) rfl ti3 rfl rfl (.of rfl) rfl q1 .head ?_)
 refine wpL_nil ?_
 obtain ⟨q1, h⟩ := h
 refine wpA_region ?_
 refine wL (OpA.addi rfl rfl rfl q1 ?_)
 refine wL (OpA.m ?_)
 refine wpL_nil ?_
 exact ⟨(cb25, pre25, post25), ((si family x1 x1), (x1 + 1)), h, (Cov.asg ⟨rfl, rfl, rfl, rfl, (congrArg (D.own cb25 1 pre25.length) (by simp only [si_length, gcopy_length, clearF_length, sortF_len postCmp_swo, sortF_len cloneCmp_swo, sortF_len spanCmp_swo] <;> rfl)), rfl, rfl, trivial⟩), (.refl _)⟩
 have h := h.2 (decF b4)
 refine wpA_exit ?_
 iterate 2 refine wpA_seq ?_
 refine wpA_region ?_
 refine wL (OpA.m ?_)
 refine wL (OpA.len rfl rfl rfl rfl ts32.desc (.inl ⟨_, _, rfl, (List.length_map _).symm⟩) ?_)
 refine wL (OpA.m ?_)
 refine wpL_nil ?_
 refine wpA_block ?_
 refine wpA_lfp (S := (List Int) × Int) (G := Nat × List D × List D) (cb25, pre25, post25) (fun gg ss => asg [(0, D.i n), (4, .v (.slice none 0 0)), (5, D.i 0), (6, .own gg.1 1 gg.2.1.length ss.1.length), (36, (encL 5 encClone) x), (37, D.i (x.length : Int)), (38, D.i ss.2)]) (fun gg ss => [(gg.1, .cells 1 (winL D.i gg.2.1 ss.1 gg.2.2))]) h (Cov.asg ⟨rfl, rfl, rfl, rfl, rfl, rfl, rfl, trivial⟩) (.refl _) ?_
 rintro again5 ⟨cb251, pre251, post251⟩ ⟨family1, x2⟩ h
 have h : kfam_L2 n x Q again5 family1 x2 := h
 unfold kfam_L2 at h
 show wpA _ _ _ _ (asg [(0, D.i n), (4, .v (.slice none 0 0)), (5, D.i 0), (6, .own cb251 1 pre251.length family1.length), (36, (encL 5 encClone) x), (37, D.i (x.length : Int)), (38, D.i x2)]) [(cb251, .cells 1 (winL D.i pre251 family1 post251))]
 refine wpA_seq ?_
 refine wpA_region ?_
 refine wL (OpA.lss rfl rfl rfl ?_)
 refine wpL_nil ?_
 refine wpA_seq ?_
 refine wpA_cond rfl (fun b6 => ?_) (fun b6 => ?_)
 have h := h.1 (decT b6)
 refine wpA_skip ?_
 refine wpA_seq ?_
 refine wpA_block ?_
 refine wpA_seq ?_
 obtain ⟨q1, h⟩ := h
 refine wpA_region ?_
 refine wL (OpA.iixV (enc := encClone) rfl ts32 rfl rfl rfl q1 ?_)
 refine wL (OpA.iload_whole rfl ti38 rfl ⟨_, rfl, rfl⟩ ?_)
 refine wL (OpA.alloc (sz := 5) (d := encClone (Clone.mk 0 0 0 0 0)) rfl tz38 (fun _ _ => .agg (.cons (.v _) (.cons (.v _) (.cons (.v _) (.cons (.v _) (.cons (.v _) .nil)))))) (.of rfl) (fun c7 _ => ?_))
 refine wE (OpA.storeW rfl ti38 rfl (by with_reducible conv => lhs; whnf) (.of rfl) rfl rfl .head ?_)
 refine wpL_nil ?_
 iterate 2 refine wpA_seq ?_
 refine wpA_mid (asg [(0, D.i n), (4, .v (.slice none 0 0)), (5, D.i 0), (6, .own cb251 1 pre251.length family1.length), (9, .ptr c7 5 0 0), (36, (encL 5 encClone) x), (37, D.i (x.length : Int)), (38, D.i x2), (56, D.b ((decide ((gmin ((gi x x2).a) [(gi x x2).b]) < 0)) || (decide ((gmax ((gi x x2).a) [(gi x x2).b]) ≥ n))))]) [(c7, .cells 5 [encClone (gi x x2)]), (cb251, .cells 1 (winL D.i pre251 family1 post251))] ?_ ?_
 refine wpA_region ?_
 refine wL (OpA.fieldAddr rfl tf38_0 rfl ?_)
 refine wL (OpA.load rfl ti3 rfl .head rfl rfl ?_)
 refine wL (OpA.fieldAddr rfl tf38_2 rfl ?_)
 refine wL (OpA.load rfl ti3 rfl .head rfl rfl ?_)
 refine wL (OpA.min (l := [_]) rfl rfl rfl rfl ?_)
 refine wL (OpA.lss rfl rfl rfl ?_)
 refine wL (OpA.m ?_)
 refine wpL_split (s := 48) rfl (fun b12 => ?_) (fun b12 => ?_)
 iterate 7 refine wS ?_
 refine wL (OpA.p ?_)
 refine wpL_nil ?_
 exact ⟨(Cov.asg ⟨rfl, rfl, rfl, rfl, rfl, rfl, rfl, rfl, (congrArg D.b (Eq.symm (orS b12))), trivial⟩), (.refl _)⟩
 refine wG (OpA.fieldAddr rfl tf38_0 rfl ?_)
 refine wG (OpA.load rfl ti3 rfl .head rfl rfl ?_)
 refine wG (OpA.fieldAddr rfl tf38_2 rfl ?_)
 refine wG (OpA.load rfl ti3 rfl .head rfl rfl ?_)
 refine wG (OpA.max (l := [_]) rfl rfl rfl rfl ?_)
 refine wG (OpA.m ?_)
 refine wG (OpA.geq rfl rfl rfl ?_)
 refine wL (OpA.p ?_)
 refine wpL_nil ?_
 exact ⟨(Cov.asg ⟨rfl, rfl, rfl, rfl, rfl, rfl, rfl, rfl, (congrArg D.b (Eq.symm (orN b12 rfl))), trivial⟩), (.refl _)⟩
 show wpA _ _ _ _ (asg [(0, D.i n), (4, .v (.slice none 0 0)), (5, D.i 0), (6, .own cb251 1 pre251.length family1.length), (9, .ptr c7 5 0 0), (36, (encL 5 encClone) x), (37, D.i (x.length : Int)), (38, D.i x2), (56, D.b ((decide ((gmin ((gi x x2).a) [(gi x x2).b]) < 0)) || (decide ((gmax ((gi x x2).a) [(gi x x2).b]) ≥ n))))]) [(c7, .cells 5 [encClone (gi x x2)]), (cb251, .cells 1 (winL D.i pre251 family1 post251))]
 refine wpA_cond rfl (fun b8 => ?_) (fun b8 => ?_)
 have h := h.1 ((or0 b8).imp (fun hh => (decT hh)) (fun hh => (decT hh)))
 refine wpA_seq ?_
 refine wpA_region ?_
 iterate 2 refine wL (OpA.a ?_)
 refine wpL_nil ?_
 refine wpA_ret ?_
 exact ⟨_, (.tmp (d := .v (.slice none 0 0)) rfl (.tmp (d := D.i 3) rfl .nil)), _, (.tup (.nilv (sz := 1) (.same rfl .nil)) .nil), ⟨([], 3), rfl, h⟩⟩
 have h := h.2 ⟨(decF (or1 b8)), (decF (or2 b8))⟩
 refine wpA_skip ?_
 refine wpA_seq ?_
 obtain ⟨q1, q2, h⟩ := h
 refine wpA_draw (m := 12) mo (by kernel_rfl) rfl ?_
 refine dL (OpA.m ⟨rfl, rfl⟩) ?_
 refine dL (OpA.fieldAddr rfl tf38_0 rfl ⟨rfl, rfl⟩) ?_
 refine dL (OpA.load rfl ti3 rfl .head rfl rfl ⟨rfl, rfl⟩) ?_
 refine dL (OpA.ixV rfl ts67 rfl rfl q1 ⟨rfl, rfl⟩) ?_
 refine dL (OpA.load rfl ti3 rfl (.tail .head) (getV (enc := D.i) q1) rfl ⟨rfl, rfl⟩) ?_
 refine dL (OpA.m ⟨rfl, rfl⟩) ?_
 refine dL (OpA.fieldAddr rfl tf38_2 rfl ⟨rfl, rfl⟩) ?_
 refine dL (OpA.load rfl ti3 rfl .head rfl rfl ⟨rfl, rfl⟩) ?_
 refine dL (OpA.ixV rfl ts67 rfl rfl q2 ⟨rfl, rfl⟩) ?_
 refine dL (OpA.load rfl ti3 rfl (.tail .head) (getV (enc := D.i) q2) rfl ⟨rfl, rfl⟩) ?_
 iterate 2 refine dL (OpA.a ⟨rfl, rfl⟩) ?_
 refine DetK.nil ?_
 refine wpL_nil ?_
 refine wpA_seq ?_
 refine wpA_region ?_
 refine wL (OpA.m ?_)
 refine wL (OpA.len rfl rfl rfl rfl ts67.desc (.inr (.inl ⟨_, _, _, rfl⟩)) ?_)
 refine wL (OpA.m ?_)
 refine wpL_nil ?_
 refine wpA_block ?_
 refine wpA_lfp (S := (List Int) × Int) (G := Nat × List D × List D) (cb251, pre251, post251) (fun gg ss => asg [(0, D.i n), (4, .v (.slice none 0 0)), (5, D.i 0), (6, .own gg.1 1 gg.2.1.length ss.1.length), (10, D.i (gi family1 ((gi x x2).a))), (11, D.i (gi family1 ((gi x x2).b))), (36, (encL 5 encClone) x), (37, D.i (x.length : Int)), (38, D.i x2), (68, D.i (family1.length : Int)), (69, D.i ss.2)]) (fun gg ss => [(c7, .cells 5 [encClone (gi x x2)]), (gg.1, .cells 1 (winL D.i gg.2.1 ss.1 gg.2.2))]) h (Cov.asg ⟨rfl, rfl, rfl, rfl, rfl, rfl, rfl, rfl, rfl, rfl, rfl, trivial⟩) (.refl _) ?_
 rintro again9 ⟨cb252, pre252, post252⟩ ⟨family2, x3⟩ h
 have h : kfam_L3 x family1 x2 again5 again9 family2 x3 := h
 unfold kfam_L3 at h
 show wpA _ _ _ _ (asg [(0, D.i n), (4, .v (.slice none 0 0)), (5, D.i 0), (6, .own cb252 1 pre252.length family2.length), (10, D.i (gi family1 ((gi x x2).a))), (11, D.i (gi family1 ((gi x x2).b))), (36, (encL 5 encClone) x), (37, D.i (x.length : Int)), (38, D.i x2), (68, D.i (family1.length : Int)), (69, D.i x3)]) [(c7, .cells 5 [encClone (gi x x2)]), (cb252, .cells 1 (winL D.i pre252 family2 post252))]
 refine wpA_seq ?_
 refine wpA_region ?_
 refine wL (OpA.lss rfl rfl rfl ?_)
 refine wpL_nil ?_
 refine wpA_seq ?_
 refine wpA_cond rfl (fun b10 => ?_) (fun b10 => ?_)
 have h := h.1 (decT b10)
 refine wpA_skip ?_
 refine wpA_seq ?_
 refine wpA_block ?_
 refine wpA_seq ?_
 refine wpA_region ?_
 refine wL (OpA.m ?_)
 refine wL (OpA.a ?_)
 refine wpL_nil ?_
 refine wpA_seq ?_
 obtain ⟨q1, h⟩ := h
 refine wpA_region ?_
 iterate 2 refine wL (OpA.m ?_)
 refine wL (OpA.ixV rfl ts67 rfl rfl q1 ?_)
 refine wL (OpA.load rfl ti3 rfl (.tail .head) (getV (enc := D.i) q1) rfl ?_)
 iterate 2 refine wL (OpA.m ?_)
 refine wL (OpA.max (l := [_]) rfl rfl rfl rfl ?_)
 refine wL (OpA.eql rfl rfl rfl ?_)
 refine wpL_nil ?_
 refine wpA_cond rfl (fun b11 => ?_) (fun b11 => ?_)
 have h := h.1 (beqT b11)
 obtain ⟨q1, h⟩ := h
 refine wpA_region ?_
 iterate 4 refine wL (OpA.m ?_)
 refine wL (OpA.min (l := [_]) rfl rfl rfl rfl ?_)
 refine wL (OpA.ixV rfl ts67 rfl rfl q1 ?_)
 refine wE (OpA.storeV (enc := D.i) (v := (gmin (gi family1 ((gi x x2).a)) [(gi family1 ((gi x x2).b))])) rfl ti3 rfl rfl (.of rfl) rfl q1 (.tail .head) ?_)
 refine wpL_nil ?_
 obtain ⟨q1, h⟩ := h
 refine wpA_region ?_
 refine wL (OpA.addi rfl rfl rfl q1 ?_)
 refine wL (OpA.m ?_)
 refine wpL_nil ?_
 exact ⟨(cb252, pre252, post252), ((si family2 x3 (gmin (gi family1 ((gi x x2).a)) [(gi family1 ((gi x x2).b))])), (x3 + 1)), h, (Cov.asg ⟨rfl, rfl, rfl, (congrArg (D.own cb252 1 pre252.length) (by simp only [si_length, gcopy_length, clearF_length, sortF_len postCmp_swo, sortF_len cloneCmp_swo, sortF_len spanCmp_swo] <;> rfl)), rfl, rfl, rfl, rfl, rfl, rfl, rfl, trivial⟩), (.refl _)⟩
 have h := h.2 (beqF b11)
 refine wpA_skip ?_
 obtain ⟨q1, h⟩ := h
 refine wpA_region ?_
 refine wL (OpA.addi rfl rfl rfl q1 ?_)
 refine wL (OpA.m ?_)
 refine wpL_nil ?_
 exact ⟨(cb252, pre252, post252), (family2, (x3 + 1)), h, (Cov.asg ⟨rfl, rfl, rfl, rfl, rfl, rfl, rfl, rfl, rfl, rfl, rfl, trivial⟩), (.refl _)⟩
 have h := h.2 (decF b10)
 refine wpA_exit ?_
 obtain ⟨q1, h⟩ := h
 refine wpA_region ?_
 refine wL (OpA.addi rfl rfl rfl q1 ?_)
 refine wL (OpA.m ?_)
 refine wpL_nil ?_
 exact ⟨(cb252, pre252, post252), (family2, (x2 + 1)), h, (Cov.asg ⟨rfl, rfl, rfl, rfl, rfl, rfl, rfl, trivial⟩), (.cons _ (.refl _))⟩
 have h := h.2 (decF b6)
 refine wpA_exit ?_
 refine wpA_seq ?_
 refine wpA_region ?_
 refine wL (OpA.makeSm (hm := fun c13 => ((c13, .map (smD 1 (fun _ => (0, [], [])) ([] : List (Int × List Int)))) :: (cb251, .cells 1 (winL D.i pre251 family1 post251)) :: smB 1 D.i (fun _ => (0, [], [])) ([] : List (Int × List Int)))) Int D.i 1 rfl (fun c13 => (.cons (.cons .here))) (fun c13 => ?_))
 refine wL (OpA.a ?_)
 refine wpL_nil ?_
 iterate 2 refine wpA_seq ?_
 refine wpA_region ?_
 refine wL (OpA.m ?_)
 refine wL (OpA.len rfl rfl rfl rfl ts67.desc (.inr (.inl ⟨_, _, _, rfl⟩)) ?_)
 refine wL (OpA.m ?_)
 refine wpL_nil ?_
 refine wpA_block ?_
 refine wpA_lfp (S := (List (Int × List Int)) × Int) (G := (Int → GS)) (fun _ => (0, [], [])) (fun gg ss => asg [(0, D.i n), (4, .v (.slice none 0 0)), (5, D.i 0), (13, .map c13), (89, .own cb251 1 pre251.length family1.length), (90, D.i (family1.length : Int)), (91, D.i ss.2)]) (fun gg ss => ((c13, .map (smD 1 gg ss.1)) :: (cb251, .cells 1 (winL D.i pre251 family1 post251)) :: smB 1 D.i gg ss.1)) h (Cov.asg ⟨rfl, rfl, rfl, rfl, rfl, rfl, rfl, trivial⟩) (.refl _) ?_
 rintro again14 gm_88 ⟨m_88, x4⟩ h
 have h : kfam_L4 n family1 Q again14 m_88 x4 := h
 unfold kfam_L4 at h
 show wpA _ _ _ _ (asg [(0, D.i n), (4, .v (.slice none 0 0)), (5, D.i 0), (13, .map c13), (89, .own cb251 1 pre251.length family1.length), (90, D.i (family1.length : Int)), (91, D.i x4)]) ((c13, .map (smD 1 gm_88 m_88)) :: (cb251, .cells 1 (winL D.i pre251 family1 post251)) :: smB 1 D.i gm_88 m_88)
 refine wpA_seq ?_
 refine wpA_region ?_
 refine wL (OpA.lss rfl rfl rfl ?_)
 refine wpL_nil ?_
 refine wpA_seq ?_
 refine wpA_cond rfl (fun b15 => ?_) (fun b15 => ?_)
 have h := h.1 (decT b15)
 refine wpA_skip ?_
 refine wpA_seq ?_
 refine wpA_block ?_
 refine wpA_seq ?_
 obtain ⟨q1, h⟩ := h
 refine wpA_region ?_
 refine wL (OpA.m ?_)
 refine wL (OpA.ixV rfl ts67 rfl rfl q1 ?_)
 refine wL (OpA.load rfl ti3 rfl (.tail .head) (getV (enc := D.i) q1) rfl ?_)
 iterate 2 refine wL (OpA.a ?_)
 refine wpL_nil ?_
 obtain ⟨q1, q2, h⟩ := h
 refine wpA_region ?_
 iterate 4 refine wL (OpA.m ?_)
 refine wL (OpA.smGet (sz := 1) (enc := D.i) (γ := gm_88) (L := m_88) rfl td96 td3 tz67 rfl rfl .head (.cons (.cons .here)) (fun c16 pre17 post18 => ?_))
 refine wL (OpA.m ?_)
 refine wL (OpA.ibuildSliceO rfl ts67 rfl (.cons (.of (sz := 1) rfl) .nil) (by decide) ?_)
 refine wL (OpA.appendW (enc := D.i) rfl rfl rfl rfl ts67 rfl (fun _ _ => .head) (.list (ys := ([x4] : List Int))) q1 (fun c19 pre20 => ?_))
 refine wE (OpA.smSet (sz := 1) (enc := D.i) (γ := gm_88) (L := m_88) (pre := pre20) (post := ([] : List D)) (xs := ((mget [] m_88 (gi family1 x4)) ++ ([x4] : List Int))) q2 rfl td96 td3 rfl rfl rfl (.refl _) .head (.cons (.cons .here)) ?_)
 refine wpL_nil ?_
 obtain ⟨q1, h⟩ := h
 refine wpA_region ?_
 refine wL (OpA.addi rfl rfl rfl q1 ?_)
 refine wL (OpA.m ?_)
 refine wpL_nil ?_
 exact ⟨(gup gm_88 (gi family1 x4) (c19, pre20, ([] : List D))), ((mset m_88 (gi family1 x4) ((mget [] m_88 (gi family1 x4)) ++ ([x4] : List Int))), (x4 + 1)), h, (Cov.asg ⟨rfl, rfl, rfl, rfl, rfl, rfl, rfl, trivial⟩), (.refl _)⟩
 have h := h.2 (decF b15)
 refine wpA_exit ?_
 refine wpA_seq ?_
 refine wpA_region ?_
 refine wL (OpA.asnG (T := (List Int)) (enc := (encL 1 D.i)) (sz := 1) rfl rfl (fun c16_g21 => ?_))
 refine wpL_nil ?_
 iterate 2 refine wpA_seq ?_
 refine wpA_region ?_
 iterate 2 refine wL (OpA.m ?_)
 refine wpL_nil ?_
 refine wpA_block ?_
 refine wpA_smFrz (sz := 1) (enc := D.i) (γ := gm_88) (L := m_88) (.cons (.cons (.cons .here))) (.tail .head) ?_
 refine wpA_lfp (S := (List (List Int)) × Int) (G := Nat × List D × List D) (c16_g21, ([] : List D), ([] : List D)) (fun gg ss => asg [(4, .v (.slice none 0 0)), (5, D.i 0), (13, .map c13), (16, .own gg.1 1 gg.2.1.length ss.1.length), (105, D.i n), (106, D.i ss.2)]) (fun gg ss => [(gg.1, .cells 1 (winL (encL 1 D.i) gg.2.1 ss.1 gg.2.2)), (c13, .map (smF 1 D.i m_88)), (cb251, .cells 1 (winL D.i pre251 family1 post251))]) h (Cov.asg ⟨rfl, rfl, rfl, rfl, rfl, rfl, trivial⟩) (.refl _) ?_
 rintro again22 ⟨cb16, pre16, post16⟩ ⟨out, x5⟩ h
 have h : kfam_L5 n m_88 Q again22 out x5 := h
 unfold kfam_L5 at h
 show wpA _ _ _ _ (asg [(4, .v (.slice none 0 0)), (5, D.i 0), (13, .map c13), (16, .own cb16 1 pre16.length out.length), (105, D.i n), (106, D.i x5)]) [(cb16, .cells 1 (winL (encL 1 D.i) pre16 out post16)), (c13, .map (smF 1 D.i m_88)), (cb251, .cells 1 (winL D.i pre251 family1 post251))]
 refine wpA_seq ?_
 refine wpA_region ?_
 refine wL (OpA.lss rfl rfl rfl ?_)
 refine wpL_nil ?_
 refine wpA_seq ?_
 refine wpA_cond rfl (fun b23 => ?_) (fun b23 => ?_)
 have h := h.1 (decT b23)
 refine wpA_skip ?_
 refine wpA_seq ?_
 refine wpA_block ?_
 refine wpA_seq ?_
 refine wpA_region ?_
 refine wL (OpA.m ?_)
 refine wL (OpA.a ?_)
 refine wpL_nil ?_
 refine wpA_seq ?_
 refine wpA_region ?_
 iterate 2 refine wL (OpA.m ?_)
 refine wL (OpA.fmGet (sz := 1) (enc := D.i) (L := m_88) rfl td96 td3 tz67 rfl rfl (.tail .head) ?_)
 refine wL (OpA.len rfl rfl rfl rfl ts67.desc (.inl ⟨_, _, rfl, (List.length_map _).symm⟩) ?_)
 refine wL (OpA.gtr rfl rfl rfl ?_)
 refine wpL_nil ?_
 refine wpA_cond rfl (fun b24 => ?_) (fun b24 => ?_)
 have h := h.1 (decT b24)
 obtain ⟨q1, h⟩ := h
 refine wpA_region ?_
 iterate 3 refine wL (OpA.m ?_)
 refine wL (OpA.fmGet (sz := 1) (enc := D.i) (L := m_88) rfl td96 td3 tz67 rfl rfl (.tail .head) ?_)
 refine wL (OpA.ibuildSliceO rfl ts51 rfl (.cons (.of (sz := 1) rfl) .nil) (by decide) ?_)
 refine wL (OpA.appendW (enc := (encL 1 D.i)) rfl rfl rfl rfl ts51 rfl (fun _ _ => .head) (.list (ys := ([(mget [] m_88 x5)] : List (List Int)))) q1 (fun c25 pre26 => ?_))
 refine wL (OpA.a ?_)
 refine wpL_nil ?_
 obtain ⟨q1, h⟩ := h
 refine wpA_region ?_
 refine wL (OpA.addi rfl rfl rfl q1 ?_)
 refine wL (OpA.m ?_)
 refine wpL_nil ?_
 exact ⟨(c25, pre26, ([] : List D)), ((out ++ ([(mget [] m_88 x5)] : List (List Int))), (x5 + 1)), h, (Cov.asg ⟨rfl, rfl, rfl, rfl, rfl, rfl, trivial⟩), (.refl _)⟩
 have h := h.2 (decF b24)
 refine wpA_skip ?_
 obtain ⟨q1, h⟩ := h
 refine wpA_region ?_
 refine wL (OpA.addi rfl rfl rfl q1 ?_)
 refine wL (OpA.m ?_)
 refine wpL_nil ?_
 exact ⟨(cb16, pre16, post16), (out, (x5 + 1)), h, (Cov.asg ⟨rfl, rfl, rfl, rfl, rfl, rfl, trivial⟩), (.refl _)⟩
 have h := h.2 (decF b23)
 refine wpA_exit ?_
 refine wpA_seq ?_
 refine wpA_region ?_
 refine wL (OpA.m ?_)
 iterate 2 refine wL (OpA.a ?_)
 refine wpL_nil ?_
 refine wpA_ret ?_
 exact ⟨_, (.tmp (d := .own cb16 1 pre16.length out.length) rfl (.tmp (d := D.i 0) rfl .nil)), _, (.tup (.win .head (by intro hf; cases hf) (.same rfl .nil)) .nil), ⟨(out, 0), rfl, h⟩⟩
theorem kfam_c (n : Int) (x : (List Clone)) (hp0 : x.length ≤ 1000000) : Fun false Tryz.prog 24 [D.i n, (encL 5 encClone) x] (fun d => d = .tup [(encL 1 (encL 1 D.i)) ((famF n x).1), D.i ((famF n x).2)]) :=
 Fun.at (enc := fun r => .tup [(encL 1 (encL 1 D.i)) (r.1), D.i (r.2)]) (v := famF n x) (kfam_w n x  (fun r => r = famF n x) (kfam_ok n x _ hp0 rfl))
theorem rrightL_w (l : (List Text)) (Q : Bool → Prop) (h : rrightL_vc l Q) : Fun false Tryz.prog 57 [(encL 2 encText) l] (fun d => ∃ r, d = D.b r ∧ Q r) := by
 unfold rrightL_vc at h
 refine Fun.of_body Tryz.func57 rfl Tryz.ntmps57 rfl ?_
 refine wpA_seq ?_
 refine wpA_region ?_
 refine wL (OpA.a ?_)
 refine wpL_nil ?_
 iterate 2 refine wpA_seq ?_
 refine wpA_region ?_
 refine wL (OpA.m ?_)
 refine wL (OpA.len rfl rfl rfl rfl ts22.desc (.inl ⟨_, _, rfl, (List.length_map _).symm⟩) ?_)
 refine wL (OpA.gtr rfl rfl rfl ?_)
 refine wpL_nil ?_
 refine wpA_cond rfl (fun b1 => ?_) (fun b1 => ?_)
 have h := h.1 (decT b1)
 refine wpA_seq ?_
 refine wpA_region ?_
 refine wL (OpA.a ?_)
 refine wpL_nil ?_
 refine wpA_ret ?_
 exact ⟨_, (.tmp (d := D.b false) rfl .nil), _, (.same rfl .nil), ⟨false, rfl, h⟩⟩
 have h := h.2 (decF b1)
 refine wpA_skip ?_
 iterate 2 refine wpA_seq ?_
 refine wpA_region ?_
 refine wL (OpA.a ?_)
 refine wpL_nil ?_
 refine wpA_block ?_
 refine wpA_lfp (S := Int) (G := Unit) () (fun gg ss => asg [(0, (encL 2 encText) l), (2, D.b false), (3, D.i ss)]) (fun gg ss => []) h (Cov.asg ⟨rfl, rfl, rfl, trivial⟩) (.refl _) ?_
 rintro again2 _ i h
 have h : rrightL_L1 l Q again2 i := h
 unfold rrightL_L1 at h
 show wpA _ _ _ _ (asg [(0, (encL 2 encText) l), (2, D.b false), (3, D.i i)]) []
 iterate 2 refine wpA_seq ?_
 refine wpA_region ?_
 iterate 2 refine wL (OpA.m ?_)
 refine wL (OpA.len rfl rfl rfl rfl ts22.desc (.inl ⟨_, _, rfl, (List.length_map _).symm⟩) ?_)
 refine wL (OpA.lss rfl rfl rfl ?_)
 refine wpL_nil ?_
 refine wpA_cond rfl (fun b3 => ?_) (fun b3 => ?_)
 have h := h.1 (decT b3)
 refine wpA_skip ?_
 refine wpA_seq ?_
 refine wpA_block ?_
 refine wpA_seq ?_
 obtain ⟨q1, q2, q3, h⟩ := h
 refine wpA_mid (asg [(0, (encL 2 encText) l), (2, D.b false), (3, D.i i), (36, D.b ((!(validT (gi l i))) || ((decide (i > 0)) && (!sless ((gi l (i - 1)).path) ((gi l i).path)))))]) [] ?_ ?_
 refine wpA_draw (m := 24) mo (by kernel_rfl) rfl ?_
 iterate 2 refine dL (OpA.m ⟨rfl, rfl⟩) ?_
 refine dL (OpA.iixV (enc := encText) rfl ts22 rfl rfl rfl q1 ⟨rfl, rfl⟩) ?_
 refine dL (OpA.iload_whole rfl ti28 rfl ⟨_, rfl, rfl⟩ ⟨rfl, rfl⟩) ?_
 refine dL (OpA.call rfl rfl rfl en51 (n23valid_c (gi l i) q2) (by rintro _ rfl; exact ⟨rfl, rfl⟩)) ?_
 refine dL (OpA.not rfl rfl ⟨rfl, rfl⟩) ?_
 refine dL (OpA.m ⟨rfl, rfl⟩) ?_
 refine DetK_split (s := 19) rfl (fun b5 => ?_) (fun b5 => ?_)
 iterate 3 refine dS ?_
 iterate 12 refine DetK.skipU rfl rfl rfl ?_
 refine dS ?_
 refine dL (OpA.p ⟨rfl, rfl⟩) ?_
 refine DetK.nil ?_
 refine wpL_nil ?_
 exact ⟨(Cov.asg ⟨rfl, rfl, rfl, (congrArg D.b (Eq.symm (orS b5))), trivial⟩), (.refl _)⟩
 refine dG (OpA.m ⟨rfl, rfl⟩) ?_
 refine dG (OpA.gtr rfl rfl rfl ⟨rfl, rfl⟩) ?_
 refine dG (OpA.m ⟨rfl, rfl⟩) ?_
 refine DetK_split (s := 22) rfl (fun b6 => ?_) (fun b6 => ?_)
 iterate 2 refine dG (OpA.m ⟨rfl, rfl⟩) ?_
 refine dG (OpA.subi rfl rfl rfl ((q3 (notF b5)) (decT b6)).1 ⟨rfl, rfl⟩) ?_
 refine dG (OpA.iixV (enc := encText) rfl ts22 rfl rfl rfl ((q3 (notF b5)) (decT b6)).2 ⟨rfl, rfl⟩) ?_
 refine dG (OpA.ifieldAddr rfl tf28_0 rfl ⟨rfl, rfl⟩) ?_
 refine dG (OpA.iload rfl ti9 rfl rfl ⟨rfl, rfl⟩) ?_
 iterate 2 refine dG (OpA.m ⟨rfl, rfl⟩) ?_
 refine dG (OpA.iixV (enc := encText) rfl ts22 rfl rfl rfl q1 ⟨rfl, rfl⟩) ?_
 refine dG (OpA.ifieldAddr rfl tf28_0 rfl ⟨rfl, rfl⟩) ?_
 refine dG (OpA.iload rfl ti9 rfl rfl ⟨rfl, rfl⟩) ?_
 refine dG (OpA.sgeq rfl rfl rfl ⟨rfl, rfl⟩) ?_
 refine dG (OpA.p ⟨rfl, rfl⟩) ?_
 refine dL (OpA.p ⟨rfl, rfl⟩) ?_
 refine DetK.nil ?_
 refine wpL_nil ?_
 exact ⟨(Cov.asg ⟨rfl, rfl, rfl, (congrArg D.b (Eq.symm (orN b5 (andN b6 rfl)))), trivial⟩), (.refl _)⟩
 iterate 12 refine dS ?_
 refine dG (OpA.p ⟨rfl, rfl⟩) ?_
 refine dL (OpA.p ⟨rfl, rfl⟩) ?_
 refine DetK.nil ?_
 refine wpL_nil ?_
 exact ⟨(Cov.asg ⟨rfl, rfl, rfl, (congrArg D.b (Eq.symm (orN b5 (andS b6)))), trivial⟩), (.refl _)⟩
 show wpA _ _ _ _ (asg [(0, (encL 2 encText) l), (2, D.b false), (3, D.i i), (36, D.b ((!(validT (gi l i))) || ((decide (i > 0)) && (!sless ((gi l (i - 1)).path) ((gi l i).path)))))]) []
 refine wpA_cond rfl (fun b4 => ?_) (fun b4 => ?_)
 have h := h.1 ((or0 b4).imp (fun hh => (notT hh)) (fun hh => ⟨(decT (and1 hh)), (and2 hh)⟩))
 refine wpA_seq ?_
 refine wpA_region ?_
 refine wL (OpA.a ?_)
 refine wpL_nil ?_
 refine wpA_ret ?_
 exact ⟨_, (.tmp (d := D.b false) rfl .nil), _, (.same rfl .nil), ⟨false, rfl, h⟩⟩
 have h := h.2 ⟨(notF (or1 b4)), ((and0 (or2 b4)).imp (fun hh => (decF hh)) (fun hh => hh))⟩
 refine wpA_skip ?_
 obtain ⟨q1, h⟩ := h
 refine wpA_region ?_
 refine wL (OpA.m ?_)
 refine wL (OpA.addi rfl rfl rfl q1 ?_)
 refine wL (OpA.a ?_)
 refine wpL_nil ?_
 exact ⟨(), (i + 1), h, (Cov.asg ⟨rfl, rfl, rfl, trivial⟩), (.refl _)⟩
 have h := h.2 (decF b3)
 refine wpA_exit ?_
 refine wpA_seq ?_
 refine wpA_region ?_
 refine wL (OpA.a ?_)
 refine wpL_nil ?_
 refine wpA_ret ?_
 exact ⟨_, (.tmp (d := D.b true) rfl .nil), _, (.same rfl .nil), ⟨true, rfl, h⟩⟩
theorem rrightL_c (l : (List Text)) (hp0 : okTs l) : Fun false Tryz.prog 57 [(encL 2 encText) l] (fun d => d = D.b (rightL l)) :=
 Fun.at (enc := fun r => D.b r) (v := rightL l) (rrightL_w l  (fun r => r = rightL l) (rrightL_ok l _ hp0 rfl))
theorem rsameW_w (a : Text) (i : Int) (b : Text) (j : Int) (Q : Bool → Prop) (h : rsameW_vc a i b j Q) : Fun false Tryz.prog 94 [encText a, D.i i, encText b, D.i j] (fun d => ∃ r, d = D.b r ∧ Q r) := by
 unfold rsameW_vc at h
 refine Fun.of_body Tryz.func94 rfl Tryz.ntmps94 rfl ?_
 refine wpA_seq ?_
 refine wpA_region ?_
 refine wL (OpA.bx (sz := 2) rfl (by with_reducible conv => lhs; whnf) (.of rfl) (fun c1 _ => ?_))
 refine wL (OpA.bx (sz := 2) rfl (by with_reducible conv => lhs; whnf) (.of rfl) (fun c2 _ => ?_))
 refine wL (OpA.a ?_)
 refine wpL_nil ?_
 refine wpA_seq ?_
 obtain ⟨q1, h⟩ := h
 refine wpA_mid (asg [(8, D.b (((((decide (i ≥ 0)) && (decide (j ≥ 0))) && (decide (i < (a.words.length : Int)))) && (decide (j < (b.words.length : Int)))) && (decide ((gi a.words i).text = (gi b.words j).text))))]) [(c2, .cells 2 [encText b]), (c1, .cells 2 [encText a])] ?_ ?_
 refine wpA_draw (m := 36) mo (by kernel_rfl) rfl ?_
 refine dL (OpA.m ⟨rfl, rfl⟩) ?_
 refine dL (OpA.geq rfl rfl rfl ⟨rfl, rfl⟩) ?_
 refine dL (OpA.m ⟨rfl, rfl⟩) ?_
 refine DetK_split (s := 11) rfl (fun b3 => ?_) (fun b3 => ?_)
 refine dG (OpA.m ⟨rfl, rfl⟩) ?_
 refine dG (OpA.geq rfl rfl rfl ⟨rfl, rfl⟩) ?_
 refine dL (OpA.p ⟨rfl, rfl⟩) ?_
 refine dL (OpA.m ⟨rfl, rfl⟩) ?_
 refine DetK_split (s := 15) rfl (fun b4 => ?_) (fun b4 => ?_)
 refine dG (OpA.m ⟨rfl, rfl⟩) ?_
 refine dG (OpA.fieldAddr rfl tf28_1 rfl ⟨rfl, rfl⟩) ?_
 refine dG (OpA.load rfl ti26 rfl (.tail .head) rfl rfl ⟨rfl, rfl⟩) ?_
 refine dG (OpA.len rfl rfl rfl rfl ts26.desc (.inl ⟨_, _, rfl, (List.length_map _).symm⟩) ⟨rfl, rfl⟩) ?_
 refine dG (OpA.lss rfl rfl rfl ⟨rfl, rfl⟩) ?_
 refine dL (OpA.p ⟨rfl, rfl⟩) ?_
 refine dL (OpA.m ⟨rfl, rfl⟩) ?_
 refine DetK_split (s := 22) rfl (fun b5 => ?_) (fun b5 => ?_)
 refine dG (OpA.m ⟨rfl, rfl⟩) ?_
 refine dG (OpA.fieldAddr rfl tf28_1 rfl ⟨rfl, rfl⟩) ?_
 refine dG (OpA.load rfl ti26 rfl .head rfl rfl ⟨rfl, rfl⟩) ?_
 refine dG (OpA.len rfl rfl rfl rfl ts26.desc (.inl ⟨_, _, rfl, (List.length_map _).symm⟩) ⟨rfl, rfl⟩) ?_
 refine dG (OpA.lss rfl rfl rfl ⟨rfl, rfl⟩) ?_
 refine dL (OpA.p ⟨rfl, rfl⟩) ?_
 refine dL (OpA.m ⟨rfl, rfl⟩) ?_
 refine DetK_split (s := 29) rfl (fun b6 => ?_) (fun b6 => ?_)
 refine dG (OpA.fieldAddr rfl tf28_1 rfl ⟨rfl, rfl⟩) ?_
 refine dG (OpA.load rfl ti26 rfl (.tail .head) rfl rfl ⟨rfl, rfl⟩) ?_
 refine dG (OpA.m ⟨rfl, rfl⟩) ?_
 refine dG (OpA.iixV (enc := encLex) rfl ts26 rfl rfl rfl (q1 ⟨⟨⟨(decT b3), (decT b4)⟩, (decT b5)⟩, (decT b6)⟩).1 ⟨rfl, rfl⟩) ?_
 refine dG (OpA.ifieldAddr rfl tf61_0 rfl ⟨rfl, rfl⟩) ?_
 refine dG (OpA.iload rfl ti9 rfl rfl ⟨rfl, rfl⟩) ?_
 refine dG (OpA.fieldAddr rfl tf28_1 rfl ⟨rfl, rfl⟩) ?_
 refine dG (OpA.load rfl ti26 rfl .head rfl rfl ⟨rfl, rfl⟩) ?_
 refine dG (OpA.m ⟨rfl, rfl⟩) ?_
 refine dG (OpA.iixV (enc := encLex) rfl ts26 rfl rfl rfl (q1 ⟨⟨⟨(decT b3), (decT b4)⟩, (decT b5)⟩, (decT b6)⟩).2 ⟨rfl, rfl⟩) ?_
 refine dG (OpA.ifieldAddr rfl tf61_0 rfl ⟨rfl, rfl⟩) ?_
 refine dG (OpA.iload rfl ti9 rfl rfl ⟨rfl, rfl⟩) ?_
 refine dG (OpA.seql rfl rfl rfl ⟨rfl, rfl⟩) ?_
 refine dL (OpA.p ⟨rfl, rfl⟩) ?_
 refine dL (OpA.a ⟨rfl, rfl⟩) ?_
 refine DetK.nil ?_
 refine wpL_nil ?_
 exact ⟨(Cov.asg ⟨(congrArg D.b (Eq.symm (andN (andN (andN (andN b3 b4) b5) b6) rfl))), trivial⟩), (.refl _)⟩
 iterate 13 refine dS ?_
 refine dL (OpA.p ⟨rfl, rfl⟩) ?_
 refine dL (OpA.a ⟨rfl, rfl⟩) ?_
 refine DetK.nil ?_
 refine wpL_nil ?_
 exact ⟨(Cov.asg ⟨(congrArg D.b (Eq.symm (andS (andN (andN (andN b3 b4) b5) b6)))), trivial⟩), (.refl _)⟩
 iterate 5 refine dS ?_
 refine dL (OpA.p ⟨rfl, rfl⟩) ?_
 refine dL (OpA.m ⟨rfl, rfl⟩) ?_
 iterate 13 refine dS ?_
 refine dL (OpA.p ⟨rfl, rfl⟩) ?_
 refine dL (OpA.a ⟨rfl, rfl⟩) ?_
 refine DetK.nil ?_
 refine wpL_nil ?_
 exact ⟨(Cov.asg ⟨(congrArg D.b (Eq.symm (andS (andS (andN (andN b3 b4) b5))))), trivial⟩), (.refl _)⟩
 iterate 5 refine dS ?_
 refine dL (OpA.p ⟨rfl, rfl⟩) ?_
 refine dL (OpA.m ⟨rfl, rfl⟩) ?_
 iterate 5 refine dS ?_
 refine dL (OpA.p ⟨rfl, rfl⟩) ?_
 refine dL (OpA.m ⟨rfl, rfl⟩) ?_
 iterate 13 refine dS ?_
 refine dL (OpA.p ⟨rfl, rfl⟩) ?_
 refine dL (OpA.a ⟨rfl, rfl⟩) ?_
 refine DetK.nil ?_
 refine wpL_nil ?_
 exact ⟨(Cov.asg ⟨(congrArg D.b (Eq.symm (andS (andS (andS (andN b3 b4)))))), trivial⟩), (.refl _)⟩
 iterate 2 refine dS ?_
 refine dL (OpA.p ⟨rfl, rfl⟩) ?_
 refine dL (OpA.m ⟨rfl, rfl⟩) ?_
 iterate 5 refine dS ?_
 refine dL (OpA.p ⟨rfl, rfl⟩) ?_
 refine dL (OpA.m ⟨rfl, rfl⟩) ?_
 iterate 5 refine dS ?_
 refine dL (OpA.p ⟨rfl, rfl⟩) ?_
 refine dL (OpA.m ⟨rfl, rfl⟩) ?_
 iterate 13 refine dS ?_
 refine dL (OpA.p ⟨rfl, rfl⟩) ?_
 refine dL (OpA.a ⟨rfl, rfl⟩) ?_
 refine DetK.nil ?_
 refine wpL_nil ?_
 exact ⟨(Cov.asg ⟨(congrArg D.b (Eq.symm (andS (andS (andS (andS b3)))))), trivial⟩), (.refl _)⟩
 show wpA _ _ _ _ (asg [(8, D.b (((((decide (i ≥ 0)) && (decide (j ≥ 0))) && (decide (i < (a.words.length : Int)))) && (decide (j < (b.words.length : Int)))) && (decide ((gi a.words i).text = (gi b.words j).text))))]) [(c2, .cells 2 [encText b]), (c1, .cells 2 [encText a])]
 refine wpA_ret ?_
 exact ⟨_, (.tmp (d := D.b (((((decide (i ≥ 0)) && (decide (j ≥ 0))) && (decide (i < (a.words.length : Int)))) && (decide (j < (b.words.length : Int)))) && (decide ((gi a.words i).text = (gi b.words j).text)))) rfl .nil), _, (.same rfl .nil), ⟨(((((decide (i ≥ 0)) && (decide (j ≥ 0))) && (decide (i < (a.words.length : Int)))) && (decide (j < (b.words.length : Int)))) && (decide ((gi a.words i).text = (gi b.words j).text))), rfl, h⟩⟩
theorem rsameW_c (a : Text) (i : Int) (b : Text) (j : Int)  : Fun false Tryz.prog 94 [encText a, D.i i, encText b, D.i j] (fun d => d = D.b (sameW a i b j)) :=
 Fun.at (enc := fun r => D.b r) (v := sameW a i b j) (rsameW_w a i b j  (fun r => r = sameW a i b j) (rsameW_ok a i b j _  rfl))
theorem rlength_w (a : Text) (i : Int) (b : Text) (j : Int) (Q : Int → Prop) (h : rlength_vc a i b j Q) : Fun false Tryz.prog 58 [encText a, D.i i, encText b, D.i j] (fun d => ∃ r, d = D.i r ∧ Q r) := by
 unfold rlength_vc at h
 refine Fun.of_body Tryz.func58 rfl Tryz.ntmps58 rfl ?_
 refine wpA_seq ?_
 refine wpA_region ?_
 refine wL (OpA.bx (sz := 2) rfl (by with_reducible conv => lhs; whnf) (.of rfl) (fun c1 _ => ?_))
 refine wL (OpA.bx (sz := 2) rfl (by with_reducible conv => lhs; whnf) (.of rfl) (fun c2 _ => ?_))
 refine wL (OpA.a ?_)
 refine wpL_nil ?_
 iterate 2 refine wpA_seq ?_
 obtain ⟨q1, q2, h⟩ := h
 refine wpA_region ?_
 refine wL (OpA.load_whole rfl ti28 rfl rfl (.tail .head) rfl ⟨_, rfl⟩ ?_)
 refine wL (OpA.m ?_)
 refine wL (OpA.subi rfl rfl rfl q1 ?_)
 refine wL (OpA.load_whole rfl ti28 rfl rfl .head rfl ⟨_, rfl⟩ ?_)
 refine wL (OpA.m ?_)
 refine wL (OpA.subi rfl rfl rfl q2 ?_)
 refine wL (OpA.call rfl rfl rfl en94 (rsameW_c a (i - 1) b (j - 1) ) ?_)
 rintro _ rfl
 refine wpL_nil ?_
 refine wpA_cond rfl (fun b3 => ?_) (fun b3 => ?_)
 have h := h.1 b3
 refine wpA_seq ?_
 refine wpA_region ?_
 refine wL (OpA.a ?_)
 refine wpL_nil ?_
 refine wpA_ret ?_
 exact ⟨_, (.tmp (d := D.i 0) rfl .nil), _, (.same rfl .nil), ⟨0, rfl, h⟩⟩
 have h := h.2 b3
 refine wpA_skip ?_
 refine wpA_seq ?_
 refine wpA_region ?_
 refine wL (OpA.a ?_)
 refine wpL_nil ?_
 refine wpA_seq ?_
 refine wpA_block ?_
 refine wpA_lfp (S := Int) (G := Unit) () (fun gg ss => asg [(1, D.i i), (3, D.i j), (4, .ptr c1 2 0 0), (6, .ptr c2 2 0 0), (8, D.i 0), (9, D.i ss)]) (fun gg ss => [(c2, .cells 2 [encText b]), (c1, .cells 2 [encText a])]) h (Cov.asg ⟨rfl, rfl, rfl, rfl, rfl, rfl, trivial⟩) (.refl _) ?_
 rintro again4 _ n h
 have h : rlength_L1 a i b j Q again4 n := h
 unfold rlength_L1 at h
 show wpA _ _ _ _ (asg [(1, D.i i), (3, D.i j), (4, .ptr c1 2 0 0), (6, .ptr c2 2 0 0), (8, D.i 0), (9, D.i n)]) [(c2, .cells 2 [encText b]), (c1, .cells 2 [encText a])]
 iterate 2 refine wpA_seq ?_
 obtain ⟨q1, q2, h⟩ := h
 refine wpA_region ?_
 refine wL (OpA.load_whole rfl ti28 rfl rfl (.tail .head) rfl ⟨_, rfl⟩ ?_)
 iterate 2 refine wL (OpA.m ?_)
 refine wL (OpA.addi rfl rfl rfl q1 ?_)
 refine wL (OpA.load_whole rfl ti28 rfl rfl .head rfl ⟨_, rfl⟩ ?_)
 iterate 2 refine wL (OpA.m ?_)
 refine wL (OpA.addi rfl rfl rfl q2 ?_)
 refine wL (OpA.call rfl rfl rfl en94 (rsameW_c a (i + n) b (j + n) ) ?_)
 rintro _ rfl
 refine wpL_nil ?_
 refine wpA_cond rfl (fun b5 => ?_) (fun b5 => ?_)
 have h := h.1 b5
 refine wpA_skip ?_
 refine wpA_block ?_
 obtain ⟨q1, h⟩ := h
 refine wpA_region ?_
 refine wL (OpA.m ?_)
 refine wL (OpA.addi rfl rfl rfl q1 ?_)
 refine wL (OpA.a ?_)
 refine wpL_nil ?_
 exact ⟨(), (n + 1), h, (Cov.asg ⟨rfl, rfl, rfl, rfl, rfl, rfl, trivial⟩), (.refl _)⟩
 have h := h.2 b5
 refine wpA_exit ?_
 refine wpA_seq ?_
 refine wpA_region ?_
 refine wL (OpA.m ?_)
 refine wL (OpA.a ?_)
 refine wpL_nil ?_
 refine wpA_ret ?_
 exact ⟨_, (.tmp (d := D.i n) rfl .nil), _, (.same rfl .nil), ⟨n, rfl, h⟩⟩
theorem rlength_c (a : Text) (i : Int) (b : Text) (j : Int) (hp0 : okT a) (hp1 : okT b) (hp2 : 0 ≤ i) (hp3 : 0 ≤ j) (hp4 : inI i) (hp5 : inI j) : Fun false Tryz.prog 58 [encText a, D.i i, encText b, D.i j] (fun d => d = D.i (lenC a i b j)) :=
 Fun.at (enc := fun r => D.i r) (v := lenC a i b j) (rlength_w a i b j  (fun r => r = lenC a i b j) (rlength_ok a i b j _ hp0 hp1 hp2 hp3 hp4 hp5 rfl))
theorem rcheck_w (l : (List Text)) (x : Clone) (n : Int) (Q : Int → Prop) (h : rcheck_vc l x n Q) : Fun false Tryz.prog 21 [(encL 2 encText) l, encClone x, D.i n] (fun d => ∃ r, d = D.i r ∧ Q r) := by
 unfold rcheck_vc at h
 refine Fun.of_body Tryz.func21 rfl Tryz.ntmps21 rfl ?_
 refine wpA_seq ?_
 refine wpA_region ?_
 refine wL (OpA.bx (sz := 5) rfl (by with_reducible conv => lhs; whnf) (.of rfl) (fun c1 _ => ?_))
 refine wL (OpA.a ?_)
 refine wpL_nil ?_
 iterate 2 refine wpA_seq ?_
 obtain ⟨q1, h⟩ := h
 refine wpA_region ?_
 refine wL (OpA.m ?_)
 refine wL (OpA.call rfl rfl rfl en57 (rrightL_c l q1) ?_)
 rintro _ rfl
 refine wL (OpA.not rfl rfl ?_)
 refine wpL_nil ?_
 refine wpA_cond rfl (fun b2 => ?_) (fun b2 => ?_)
 have h := h.1 (notT b2)
 refine wpA_seq ?_
 refine wpA_region ?_
 refine wL (OpA.a ?_)
 refine wpL_nil ?_
 refine wpA_ret ?_
 exact ⟨_, (.tmp (d := D.i 1) rfl .nil), _, (.same rfl .nil), ⟨1, rfl, h⟩⟩
 have h := h.2 (notF b2)
 refine wpA_skip ?_
 iterate 2 refine wpA_seq ?_
 refine wpA_mid (asg [(0, (encL 2 encText) l), (2, D.i n), (4, .ptr c1 5 0 0), (6, D.i 0), (55, D.b (((((((decide (x.a < 0)) || (decide (x.b ≥ (l.length : Int)))) || (decide (x.atA < 0))) || (decide (x.atB < 0))) || (decide (x.len < 1))) || (decide (x.a > x.b))) || ((x.a == x.b) && (decide (x.atA ≥ x.atB)))))]) [(c1, .cells 5 [encClone x])] ?_ ?_
 refine wpA_region ?_
 refine wL (OpA.fieldAddr rfl tf38_0 rfl ?_)
 refine wL (OpA.load rfl ti3 rfl .head rfl rfl ?_)
 refine wL (OpA.lss rfl rfl rfl ?_)
 refine wL (OpA.m ?_)
 refine wpL_split (s := 13) rfl (fun b6 => ?_) (fun b6 => ?_)
 iterate 5 refine wS ?_
 refine wL (OpA.p ?_)
 refine wL (OpA.m ?_)
 iterate 3 refine wS ?_
 refine wL (OpA.p ?_)
 refine wL (OpA.m ?_)
 iterate 3 refine wS ?_
 refine wL (OpA.p ?_)
 refine wL (OpA.m ?_)
 iterate 3 refine wS ?_
 refine wL (OpA.p ?_)
 refine wL (OpA.m ?_)
 iterate 5 refine wS ?_
 refine wL (OpA.p ?_)
 refine wL (OpA.m ?_)
 iterate 6 refine wS ?_
 iterate 5 refine wpL_skipU rfl rfl rfl rfl rfl ?_
 refine wS ?_
 refine wL (OpA.p ?_)
 refine wpL_nil ?_
 exact ⟨(Cov.asg ⟨rfl, rfl, rfl, rfl, (congrArg D.b (Eq.symm (orS (orS (orS (orS (orS (orS b6)))))))), trivial⟩), (.refl _)⟩
 refine wG (OpA.fieldAddr rfl tf38_2 rfl ?_)
 refine wG (OpA.load rfl ti3 rfl .head rfl rfl ?_)
 refine wG (OpA.m ?_)
 refine wG (OpA.len rfl rfl rfl rfl ts22.desc (.inl ⟨_, _, rfl, (List.length_map _).symm⟩) ?_)
 refine wG (OpA.geq rfl rfl rfl ?_)
 refine wL (OpA.p ?_)
 refine wL (OpA.m ?_)
 refine wpL_split (s := 20) rfl (fun b7 => ?_) (fun b7 => ?_)
 iterate 3 refine wS ?_
 refine wL (OpA.p ?_)
 refine wL (OpA.m ?_)
 iterate 3 refine wS ?_
 refine wL (OpA.p ?_)
 refine wL (OpA.m ?_)
 iterate 3 refine wS ?_
 refine wL (OpA.p ?_)
 refine wL (OpA.m ?_)
 iterate 5 refine wS ?_
 refine wL (OpA.p ?_)
 refine wL (OpA.m ?_)
 iterate 6 refine wS ?_
 iterate 5 refine wpL_skipU rfl rfl rfl rfl rfl ?_
 refine wS ?_
 refine wL (OpA.p ?_)
 refine wpL_nil ?_
 exact ⟨(Cov.asg ⟨rfl, rfl, rfl, rfl, (congrArg D.b (Eq.symm (orS (orS (orS (orS (orS (orN b6 b7)))))))), trivial⟩), (.refl _)⟩
 refine wG (OpA.fieldAddr rfl tf38_1 rfl ?_)
 refine wG (OpA.load rfl ti3 rfl .head rfl rfl ?_)
 refine wG (OpA.lss rfl rfl rfl ?_)
 refine wL (OpA.p ?_)
 refine wL (OpA.m ?_)
 refine wpL_split (s := 25) rfl (fun b8 => ?_) (fun b8 => ?_)
 iterate 3 refine wS ?_
 refine wL (OpA.p ?_)
 refine wL (OpA.m ?_)
 iterate 3 refine wS ?_
 refine wL (OpA.p ?_)
 refine wL (OpA.m ?_)
 iterate 5 refine wS ?_
 refine wL (OpA.p ?_)
 refine wL (OpA.m ?_)
 iterate 6 refine wS ?_
 iterate 5 refine wpL_skipU rfl rfl rfl rfl rfl ?_
 refine wS ?_
 refine wL (OpA.p ?_)
 refine wpL_nil ?_
 exact ⟨(Cov.asg ⟨rfl, rfl, rfl, rfl, (congrArg D.b (Eq.symm (orS (orS (orS (orS (orN (orN b6 b7) b8))))))), trivial⟩), (.refl _)⟩
 refine wG (OpA.fieldAddr rfl tf38_3 rfl ?_)
 refine wG (OpA.load rfl ti3 rfl .head rfl rfl ?_)
 refine wG (OpA.lss rfl rfl rfl ?_)
 refine wL (OpA.p ?_)
 refine wL (OpA.m ?_)
 refine wpL_split (s := 30) rfl (fun b9 => ?_) (fun b9 => ?_)
 iterate 3 refine wS ?_
 refine wL (OpA.p ?_)
 refine wL (OpA.m ?_)
 iterate 5 refine wS ?_
 refine wL (OpA.p ?_)
 refine wL (OpA.m ?_)
 iterate 6 refine wS ?_
 iterate 5 refine wpL_skipU rfl rfl rfl rfl rfl ?_
 refine wS ?_
 refine wL (OpA.p ?_)
 refine wpL_nil ?_
 exact ⟨(Cov.asg ⟨rfl, rfl, rfl, rfl, (congrArg D.b (Eq.symm (orS (orS (orS (orN (orN (orN b6 b7) b8) b9)))))), trivial⟩), (.refl _)⟩
 refine wG (OpA.fieldAddr rfl tf38_4 rfl ?_)
 refine wG (OpA.load rfl ti3 rfl .head rfl rfl ?_)
 refine wG (OpA.lss rfl rfl rfl ?_)
 refine wL (OpA.p ?_)
 refine wL (OpA.m ?_)
 refine wpL_split (s := 35) rfl (fun b10 => ?_) (fun b10 => ?_)
 iterate 5 refine wS ?_
 refine wL (OpA.p ?_)
 refine wL (OpA.m ?_)
 iterate 6 refine wS ?_
 iterate 5 refine wpL_skipU rfl rfl rfl rfl rfl ?_
 refine wS ?_
 refine wL (OpA.p ?_)
 refine wpL_nil ?_
 exact ⟨(Cov.asg ⟨rfl, rfl, rfl, rfl, (congrArg D.b (Eq.symm (orS (orS (orN (orN (orN (orN b6 b7) b8) b9) b10))))), trivial⟩), (.refl _)⟩
 refine wG (OpA.fieldAddr rfl tf38_0 rfl ?_)
 refine wG (OpA.load rfl ti3 rfl .head rfl rfl ?_)
 refine wG (OpA.fieldAddr rfl tf38_2 rfl ?_)
 refine wG (OpA.load rfl ti3 rfl .head rfl rfl ?_)
 refine wG (OpA.gtr rfl rfl rfl ?_)
 refine wL (OpA.p ?_)
 refine wL (OpA.m ?_)
 refine wpL_split (s := 42) rfl (fun b11 => ?_) (fun b11 => ?_)
 iterate 6 refine wS ?_
 iterate 5 refine wpL_skipU rfl rfl rfl rfl rfl ?_
 refine wS ?_
 refine wL (OpA.p ?_)
 refine wpL_nil ?_
 exact ⟨(Cov.asg ⟨rfl, rfl, rfl, rfl, (congrArg D.b (Eq.symm (orS (orN (orN (orN (orN (orN b6 b7) b8) b9) b10) b11)))), trivial⟩), (.refl _)⟩
 refine wG (OpA.fieldAddr rfl tf38_0 rfl ?_)
 refine wG (OpA.load rfl ti3 rfl .head rfl rfl ?_)
 refine wG (OpA.fieldAddr rfl tf38_2 rfl ?_)
 refine wG (OpA.load rfl ti3 rfl .head rfl rfl ?_)
 refine wG (OpA.eql rfl rfl rfl ?_)
 refine wG (OpA.m ?_)
 refine wpL_split (s := 48) rfl (fun b12 => ?_) (fun b12 => ?_)
 refine wG (OpA.fieldAddr rfl tf38_1 rfl ?_)
 refine wG (OpA.load rfl ti3 rfl .head rfl rfl ?_)
 refine wG (OpA.fieldAddr rfl tf38_3 rfl ?_)
 refine wG (OpA.load rfl ti3 rfl .head rfl rfl ?_)
 refine wG (OpA.geq rfl rfl rfl ?_)
 refine wG (OpA.p ?_)
 refine wL (OpA.p ?_)
 refine wpL_nil ?_
 exact ⟨(Cov.asg ⟨rfl, rfl, rfl, rfl, (congrArg D.b (Eq.symm (orN (orN (orN (orN (orN (orN b6 b7) b8) b9) b10) b11) (andN b12 rfl)))), trivial⟩), (.refl _)⟩
 iterate 5 refine wS ?_
 refine wG (OpA.p ?_)
 refine wL (OpA.p ?_)
 refine wpL_nil ?_
 exact ⟨(Cov.asg ⟨rfl, rfl, rfl, rfl, (congrArg D.b (Eq.symm (orN (orN (orN (orN (orN (orN b6 b7) b8) b9) b10) b11) (andS b12)))), trivial⟩), (.refl _)⟩
 show wpA _ _ _ _ (asg [(0, (encL 2 encText) l), (2, D.i n), (4, .ptr c1 5 0 0), (6, D.i 0), (55, D.b (((((((decide (x.a < 0)) || (decide (x.b ≥ (l.length : Int)))) || (decide (x.atA < 0))) || (decide (x.atB < 0))) || (decide (x.len < 1))) || (decide (x.a > x.b))) || ((x.a == x.b) && (decide (x.atA ≥ x.atB)))))]) [(c1, .cells 5 [encClone x])]
 refine wpA_cond rfl (fun b3 => ?_) (fun b3 => ?_)
 have h := h.1 ((or0 b3).imp (fun hh => ((or0 hh).imp (fun hh => ((or0 hh).imp (fun hh => ((or0 hh).imp (fun hh => ((or0 hh).imp (fun hh => ((or0 hh).imp (fun hh => (decT hh)) (fun hh => (decT hh)))) (fun hh => (decT hh)))) (fun hh => (decT hh)))) (fun hh => (decT hh)))) (fun hh => (decT hh)))) (fun hh => ⟨(beqT (and1 hh)), (decT (and2 hh))⟩))
 refine wpA_seq ?_
 refine wpA_region ?_
 refine wL (OpA.a ?_)
 refine wpL_nil ?_
 refine wpA_ret ?_
 exact ⟨_, (.tmp (d := D.i 3) rfl .nil), _, (.same rfl .nil), ⟨3, rfl, h⟩⟩
 have h := h.2 ⟨⟨⟨⟨⟨⟨(decF (or1 (or1 (or1 (or1 (or1 (or1 b3))))))), (decF (or2 (or1 (or1 (or1 (or1 (or1 b3)))))))⟩, (decF (or2 (or1 (or1 (or1 (or1 b3))))))⟩, (decF (or2 (or1 (or1 (or1 b3)))))⟩, (decF (or2 (or1 (or1 b3))))⟩, (decF (or2 (or1 b3)))⟩, ((and0 (or2 b3)).imp (fun hh => (beqF hh)) (fun hh => (decF hh)))⟩
 refine wpA_skip ?_
 iterate 2 refine wpA_seq ?_
 obtain ⟨q1, q2, q3, q4, q5, q6, q7, q8, h⟩ := h
 refine wpA_draw (m := 18) mo (by kernel_rfl) rfl ?_
 refine dL (OpA.m ⟨rfl, rfl⟩) ?_
 refine dL (OpA.fieldAddr rfl tf38_0 rfl ⟨rfl, rfl⟩) ?_
 refine dL (OpA.load rfl ti3 rfl .head rfl rfl ⟨rfl, rfl⟩) ?_
 refine dL (OpA.iixV (enc := encText) rfl ts22 rfl rfl rfl q1 ⟨rfl, rfl⟩) ?_
 refine dL (OpA.iload_whole rfl ti28 rfl ⟨_, rfl, rfl⟩ ⟨rfl, rfl⟩) ?_
 refine dL (OpA.fieldAddr rfl tf38_1 rfl ⟨rfl, rfl⟩) ?_
 refine dL (OpA.load rfl ti3 rfl .head rfl rfl ⟨rfl, rfl⟩) ?_
 refine dL (OpA.m ⟨rfl, rfl⟩) ?_
 refine dL (OpA.fieldAddr rfl tf38_2 rfl ⟨rfl, rfl⟩) ?_
 refine dL (OpA.load rfl ti3 rfl .head rfl rfl ⟨rfl, rfl⟩) ?_
 refine dL (OpA.iixV (enc := encText) rfl ts22 rfl rfl rfl q2 ⟨rfl, rfl⟩) ?_
 refine dL (OpA.iload_whole rfl ti28 rfl ⟨_, rfl, rfl⟩ ⟨rfl, rfl⟩) ?_
 refine dL (OpA.fieldAddr rfl tf38_3 rfl ⟨rfl, rfl⟩) ?_
 refine dL (OpA.load rfl ti3 rfl .head rfl rfl ⟨rfl, rfl⟩) ?_
 refine dL (OpA.call rfl rfl rfl en58 (rlength_c (gi l x.a) x.atA (gi l x.b) x.atB q3 q4 q5 q6 q7 q8) (by rintro _ rfl; exact ⟨rfl, rfl⟩)) ?_
 refine dL (OpA.fieldAddr rfl tf38_4 rfl ⟨rfl, rfl⟩) ?_
 refine dL (OpA.load rfl ti3 rfl .head rfl rfl ⟨rfl, rfl⟩) ?_
 refine dL (OpA.neq rfl rfl rfl ⟨rfl, rfl⟩) ?_
 refine DetK.nil ?_
 refine wpL_nil ?_
 refine wpA_cond rfl (fun b4 => ?_) (fun b4 => ?_)
 have h := h.1 (bneT b4)
 refine wpA_seq ?_
 refine wpA_region ?_
 refine wL (OpA.a ?_)
 refine wpL_nil ?_
 refine wpA_ret ?_
 exact ⟨_, (.tmp (d := D.i 18) rfl .nil), _, (.same rfl .nil), ⟨18, rfl, h⟩⟩
 have h := h.2 (bneF b4)
 refine wpA_skip ?_
 iterate 2 refine wpA_seq ?_
 refine wpA_region ?_
 refine wL (OpA.fieldAddr rfl tf38_4 rfl ?_)
 refine wL (OpA.load rfl ti3 rfl .head rfl rfl ?_)
 refine wL (OpA.m ?_)
 refine wL (OpA.lss rfl rfl rfl ?_)
 refine wpL_nil ?_
 refine wpA_cond rfl (fun b5 => ?_) (fun b5 => ?_)
 have h := h.1 (decT b5)
 refine wpA_seq ?_
 refine wpA_region ?_
 refine wL (OpA.a ?_)
 refine wpL_nil ?_
 refine wpA_ret ?_
 exact ⟨_, (.tmp (d := D.i 13) rfl .nil), _, (.same rfl .nil), ⟨13, rfl, h⟩⟩
 have h := h.2 (decF b5)
 refine wpA_skip ?_
 refine wpA_seq ?_
 refine wpA_region ?_
 refine wL (OpA.a ?_)
 refine wpL_nil ?_
 refine wpA_ret ?_
 exact ⟨_, (.tmp (d := D.i 0) rfl .nil), _, (.same rfl .nil), ⟨0, rfl, h⟩⟩
theorem rcheck_c (l : (List Text)) (x : Clone) (n : Int) (hp0 : okTs l) (hp1 : inI x.atA) (hp2 : inI x.atB) : Fun false Tryz.prog 21 [(encL 2 encText) l, encClone x, D.i n] (fun d => d = D.i (checkF29 l x n)) :=
 Fun.at (enc := fun r => D.i r) (v := checkF29 l x n) (rcheck_w l x n  (fun r => r = checkF29 l x n) (rcheck_ok l x n _ hp0 hp1 hp2 rfl))
theorem rfam_w (n : Int) (x : (List Clone)) (Q : (List (List Int)) × Int → Prop) (h : rfam_vc n x Q) : Fun false Tryz.prog 25 [D.i n, (encL 5 encClone) x] (fun d => ∃ r, d = .tup [(encL 1 (encL 1 D.i)) (r.1), D.i (r.2)] ∧ Q r) := by
 unfold rfam_vc at h
 refine Fun.of_body Tryz.func25 rfl Tryz.ntmps25 rfl ?_
 refine wpA_seq ?_
 refine wpA_region ?_
 iterate 2 refine wL (OpA.a ?_)
 refine wpL_nil ?_
 iterate 2 refine wpA_seq ?_
 refine wpA_mid (asg [(0, D.i n), (1, (encL 5 encClone) x), (4, .v (.slice none 0 0)), (5, D.i 0), (22, D.b ((decide (n < 0)) || (decide (n > 64))))]) [] ?_ ?_
 refine wpA_region ?_
 refine wL (OpA.m ?_)
 refine wL (OpA.lss rfl rfl rfl ?_)
 refine wL (OpA.m ?_)
 refine wpL_split (s := 19) rfl (fun b29 => ?_) (fun b29 => ?_)
 iterate 2 refine wS ?_
 refine wL (OpA.p ?_)
 refine wpL_nil ?_
 exact ⟨(Cov.asg ⟨rfl, rfl, rfl, rfl, (congrArg D.b (Eq.symm (orS b29))), trivial⟩), (.refl _)⟩
 refine wG (OpA.m ?_)
 refine wG (OpA.gtr rfl rfl rfl ?_)
 refine wL (OpA.p ?_)
 refine wpL_nil ?_
 exact ⟨(Cov.asg ⟨rfl, rfl, rfl, rfl, (congrArg D.b (Eq.symm (orN b29 rfl))), trivial⟩), (.refl _)⟩
 show wpA _ _ _ _ (asg [(0, D.i n), (1, (encL 5 encClone) x), (4, .v (.slice none 0 0)), (5, D.i 0), (22, D.b ((decide (n < 0)) || (decide (n > 64))))]) []
 refine wpA_cond rfl (fun b1 => ?_) (fun b1 => ?_)
 have h := h.1 ((or0 b1).imp (fun hh => (decT hh)) (fun hh => (decT hh)))
 refine wpA_seq ?_
 refine wpA_region ?_
 iterate 2 refine wL (OpA.a ?_)
 refine wpL_nil ?_
 refine wpA_ret ?_
 exact ⟨_, (.tmp (d := .v (.slice none 0 0)) rfl (.tmp (d := D.i 3) rfl .nil)), _, (.tup (.nilv (sz := 1) (.same rfl .nil)) .nil), ⟨([], 3), rfl, h⟩⟩
 have h := h.2 ⟨(decF (or1 b1)), (decF (or2 b1))⟩
 refine wpA_skip ?_
 iterate 2 refine wpA_seq ?_
 refine wpA_region ?_
 refine wL (OpA.a ?_)
 refine wpL_nil ?_
 refine wpA_block ?_
 refine wpA_lfp (S := Int) (G := Unit) () (fun gg ss => asg [(0, D.i n), (1, (encL 5 encClone) x), (4, .v (.slice none 0 0)), (5, D.i 0), (6, D.i ss)]) (fun gg ss => []) h (Cov.asg ⟨rfl, rfl, rfl, rfl, rfl, trivial⟩) (.refl _) ?_
 rintro again2 _ i h
 have h : rfam_L1 n x Q again2 i := h
 unfold rfam_L1 at h
 show wpA _ _ _ _ (asg [(0, D.i n), (1, (encL 5 encClone) x), (4, .v (.slice none 0 0)), (5, D.i 0), (6, D.i i)]) []
 iterate 2 refine wpA_seq ?_
 refine wpA_region ?_
 iterate 2 refine wL (OpA.m ?_)
 refine wL (OpA.len rfl rfl rfl rfl ts32.desc (.inl ⟨_, _, rfl, (List.length_map _).symm⟩) ?_)
 refine wL (OpA.lss rfl rfl rfl ?_)
 refine wpL_nil ?_
 refine wpA_cond rfl (fun b3 => ?_) (fun b3 => ?_)
 have h := h.1 (decT b3)
 refine wpA_skip ?_
 refine wpA_seq ?_
 refine wpA_block ?_
 refine wpA_seq ?_
 obtain ⟨q1, h⟩ := h
 refine wpA_mid (asg [(0, D.i n), (1, (encL 5 encClone) x), (4, .v (.slice none 0 0)), (5, D.i 0), (6, D.i i), (60, D.b ((((decide ((gi x i).a < 0)) || (decide ((gi x i).a ≥ n))) || (decide ((gi x i).b < 0))) || (decide ((gi x i).b ≥ n))))]) [] ?_ ?_
 refine wpA_region ?_
 iterate 2 refine wL (OpA.m ?_)
 refine wL (OpA.iixV (enc := encClone) rfl ts32 rfl rfl rfl q1 ?_)
 refine wL (OpA.ifieldAddr rfl tf38_0 rfl ?_)
 refine wL (OpA.iload rfl ti3 rfl rfl ?_)
 refine wL (OpA.lss rfl rfl rfl ?_)
 refine wL (OpA.m ?_)
 refine wpL_split (s := 35) rfl (fun b5 => ?_) (fun b5 => ?_)
 iterate 7 refine wS ?_
 refine wL (OpA.p ?_)
 refine wL (OpA.m ?_)
 iterate 6 refine wS ?_
 refine wL (OpA.p ?_)
 refine wL (OpA.m ?_)
 iterate 7 refine wS ?_
 refine wL (OpA.p ?_)
 refine wpL_nil ?_
 exact ⟨(Cov.asg ⟨rfl, rfl, rfl, rfl, rfl, (congrArg D.b (Eq.symm (orS (orS (orS b5))))), trivial⟩), (.refl _)⟩
 iterate 2 refine wG (OpA.m ?_)
 refine wG (OpA.iixV (enc := encClone) rfl ts32 rfl rfl rfl q1 ?_)
 refine wG (OpA.ifieldAddr rfl tf38_0 rfl ?_)
 refine wG (OpA.iload rfl ti3 rfl rfl ?_)
 refine wG (OpA.m ?_)
 refine wG (OpA.geq rfl rfl rfl ?_)
 refine wL (OpA.p ?_)
 refine wL (OpA.m ?_)
 refine wpL_split (s := 44) rfl (fun b6 => ?_) (fun b6 => ?_)
 iterate 6 refine wS ?_
 refine wL (OpA.p ?_)
 refine wL (OpA.m ?_)
 iterate 7 refine wS ?_
 refine wL (OpA.p ?_)
 refine wpL_nil ?_
 exact ⟨(Cov.asg ⟨rfl, rfl, rfl, rfl, rfl, (congrArg D.b (Eq.symm (orS (orS (orN b5 b6))))), trivial⟩), (.refl _)⟩
 iterate 2 refine wG (OpA.m ?_)
 refine wG (OpA.iixV (enc := encClone) rfl ts32 rfl rfl rfl q1 ?_)
 refine wG (OpA.ifieldAddr rfl tf38_2 rfl ?_)
 refine wG (OpA.iload rfl ti3 rfl rfl ?_)
 refine wG (OpA.lss rfl rfl rfl ?_)
 refine wL (OpA.p ?_)
 refine wL (OpA.m ?_)
 refine wpL_split (s := 52) rfl (fun b7 => ?_) (fun b7 => ?_)
 iterate 7 refine wS ?_
 refine wL (OpA.p ?_)
 refine wpL_nil ?_
 exact ⟨(Cov.asg ⟨rfl, rfl, rfl, rfl, rfl, (congrArg D.b (Eq.symm (orS (orN (orN b5 b6) b7)))), trivial⟩), (.refl _)⟩
 iterate 2 refine wG (OpA.m ?_)
 refine wG (OpA.iixV (enc := encClone) rfl ts32 rfl rfl rfl q1 ?_)
 refine wG (OpA.ifieldAddr rfl tf38_2 rfl ?_)
 refine wG (OpA.iload rfl ti3 rfl rfl ?_)
 refine wG (OpA.m ?_)
 refine wG (OpA.geq rfl rfl rfl ?_)
 refine wL (OpA.p ?_)
 refine wpL_nil ?_
 exact ⟨(Cov.asg ⟨rfl, rfl, rfl, rfl, rfl, (congrArg D.b (Eq.symm (orN (orN (orN b5 b6) b7) rfl))), trivial⟩), (.refl _)⟩
 show wpA _ _ _ _ (asg [(0, D.i n), (1, (encL 5 encClone) x), (4, .v (.slice none 0 0)), (5, D.i 0), (6, D.i i), (60, D.b ((((decide ((gi x i).a < 0)) || (decide ((gi x i).a ≥ n))) || (decide ((gi x i).b < 0))) || (decide ((gi x i).b ≥ n))))]) []
 refine wpA_cond rfl (fun b4 => ?_) (fun b4 => ?_)
 have h := h.1 ((or0 b4).imp (fun hh => ((or0 hh).imp (fun hh => ((or0 hh).imp (fun hh => (decT hh)) (fun hh => (decT hh)))) (fun hh => (decT hh)))) (fun hh => (decT hh)))
 refine wpA_seq ?_
 refine wpA_region ?_
 iterate 2 refine wL (OpA.a ?_)
 refine wpL_nil ?_
 refine wpA_ret ?_
 exact ⟨_, (.tmp (d := .v (.slice none 0 0)) rfl (.tmp (d := D.i 3) rfl .nil)), _, (.tup (.nilv (sz := 1) (.same rfl .nil)) .nil), ⟨([], 3), rfl, h⟩⟩
 have h := h.2 ⟨⟨⟨(decF (or1 (or1 (or1 b4)))), (decF (or2 (or1 (or1 b4))))⟩, (decF (or2 (or1 b4)))⟩, (decF (or2 b4))⟩
 refine wpA_skip ?_
 obtain ⟨q1, h⟩ := h
 refine wpA_region ?_
 refine wL (OpA.m ?_)
 refine wL (OpA.addi rfl rfl rfl q1 ?_)
 refine wL (OpA.a ?_)
 refine wpL_nil ?_
 exact ⟨(), (i + 1), h, (Cov.asg ⟨rfl, rfl, rfl, rfl, rfl, trivial⟩), (.refl _)⟩
 have h := h.2 (decF b3)
 refine wpA_exit ?_
 refine wpA_seq ?_
 obtain ⟨q1, h⟩ := h
 refine wpA_region ?_
 refine wL (OpA.m ?_)
 refine wL (OpA.makeSliceV (enc := D.i) (v0 := 0) rfl ts67 rfl rfl tz3 (fun _ _ => .v _) (.of rfl) q1 (fun c8 => ?_))
 refine wL (OpA.a ?_)
 refine wpL_nil ?_
 iterate 2 refine wpA_seq ?_
 refine wpA_region ?_
 refine wL (OpA.a ?_)
 refine wpL_nil ?_
 refine wpA_block ?_
 refine wpA_lfp (S := (List Int) × Int) (G := Nat × List D × List D) (c8, ([] : List D), ([] : List D)) (fun gg ss => asg [(0, D.i n), (1, (encL 5 encClone) x), (4, .v (.slice none 0 0)), (5, D.i 0), (7, .own gg.1 1 gg.2.1.length ss.1.length), (8, D.i ss.2)]) (fun gg ss => [(gg.1, .cells 1 (winL D.i gg.2.1 ss.1 gg.2.2))]) h (Cov.asg ⟨rfl, rfl, rfl, rfl, rfl, rfl, trivial⟩) (.refl _) ?_
 rintro again9 ⟨cb62, pre62, post62⟩ ⟨group, i1⟩ h
 have h : rfam_L2 n x Q again9 group i1 := h
 unfold rfam_L2 at h
 show wpA _ _ _ _ (asg [(0, D.i n), (1, (encL 5 encClone) x), (4, .v (.slice none 0 0)), (5, D.i 0), (7, .own cb62 1 pre62.length group.length), (8, D.i i1)]) [(cb62, .cells 1 (winL D.i pre62 group post62))]
 iterate 2 refine wpA_seq ?_
 refine wpA_region ?_
 iterate 2 refine wL (OpA.m ?_)
 refine wL (OpA.lss rfl rfl rfl ?_)
 refine wpL_nil ?_
 refine wpA_cond rfl (fun b10 => ?_) (fun b10 => ?_)
 have h := h.1 (decT b10)
 refine wpA_skip ?_
 refine wpA_seq ?_
 refine wpA_block ?_
 obtain ⟨q1, h⟩ := h
 refine wpA_region ?_
 iterate 3 refine wL (OpA.m ?_)
 refine wL (OpA.ixV rfl ts67 rfl rfl q1 ?_)
 refine wE (OpA.storeV (enc := D.i) (v := i1) rfl ti3 rfl rfl (.of rfl) rfl q1 .head ?_)
 refine wpL_nil ?_
 obtain ⟨q1, h⟩ := h
 refine wpA_region ?_
 refine wL (OpA.m ?_)
 refine wL (OpA.addi rfl rfl rfl q1 ?_)
 refine wL (OpA.a ?_)
 refine wpL_nil ?_
 exact ⟨(cb62, pre62, post62), ((si group i1 i1), (i1 + 1)), h, (Cov.asg ⟨rfl, rfl, rfl, rfl, (congrArg (D.own cb62 1 pre62.length) (by simp only [si_length, gcopy_length, clearF_length, sortF_len postCmp_swo, sortF_len cloneCmp_swo, sortF_len spanCmp_swo] <;> rfl)), rfl, trivial⟩), (.refl _)⟩
 have h := h.2 (decF b10)
 refine wpA_exit ?_
 iterate 2 refine wpA_seq ?_
 refine wpA_region ?_
 refine wL (OpA.a ?_)
 refine wpL_nil ?_
 refine wpA_block ?_
 refine wpA_lfp (S := (List Int) × Bool) (G := Nat × List D × List D) (cb62, pre62, post62) (fun gg ss => asg [(0, D.i n), (1, (encL 5 encClone) x), (4, .v (.slice none 0 0)), (5, D.i 0), (7, .own gg.1 1 gg.2.1.length ss.1.length), (9, D.b ss.2)]) (fun gg ss => [(gg.1, .cells 1 (winL D.i gg.2.1 ss.1 gg.2.2))]) h (Cov.asg ⟨rfl, rfl, rfl, rfl, rfl, rfl, trivial⟩) (.refl _) ?_
 rintro again11 ⟨cb621, pre621, post621⟩ ⟨group1, again_⟩ h
 have h : rfam_L3 n x Q again11 group1 again_ := h
 unfold rfam_L3 at h
 show wpA _ _ _ _ (asg [(0, D.i n), (1, (encL 5 encClone) x), (4, .v (.slice none 0 0)), (5, D.i 0), (7, .own cb621 1 pre621.length group1.length), (9, D.b again_)]) [(cb621, .cells 1 (winL D.i pre621 group1 post621))]
 iterate 2 refine wpA_seq ?_
 refine wpA_region ?_
 refine wL (OpA.m ?_)
 refine wpL_nil ?_
 refine wpA_cond rfl (fun b12 => ?_) (fun b12 => ?_)
 have h := h.1 b12
 refine wpA_skip ?_
 refine wpA_block ?_
 refine wpA_seq ?_
 refine wpA_region ?_
 refine wL (OpA.a ?_)
 refine wpL_nil ?_
 refine wpA_seq ?_
 refine wpA_region ?_
 refine wL (OpA.a ?_)
 refine wpL_nil ?_
 refine wpA_block ?_
 refine wpA_lfp (S := (List Int) × Bool × Int) (G := Nat × List D × List D) (cb621, pre621, post621) (fun gg ss => asg [(0, D.i n), (1, (encL 5 encClone) x), (4, .v (.slice none 0 0)), (5, D.i 0), (7, .own gg.1 1 gg.2.1.length ss.1.length), (9, D.b ss.2.1), (10, D.i ss.2.2)]) (fun gg ss => [(gg.1, .cells 1 (winL D.i gg.2.1 ss.1 gg.2.2))]) h (Cov.asg ⟨rfl, rfl, rfl, rfl, rfl, rfl, rfl, trivial⟩) (.refl _) ?_
 rintro again13 ⟨cb622, pre622, post622⟩ ⟨group2, again_1, i2⟩ h
 have h : rfam_L4 x again11 again13 group2 again_1 i2 := h
 unfold rfam_L4 at h
 show wpA _ _ _ _ (asg [(0, D.i n), (1, (encL 5 encClone) x), (4, .v (.slice none 0 0)), (5, D.i 0), (7, .own cb622 1 pre622.length group2.length), (9, D.b again_1), (10, D.i i2)]) [(cb622, .cells 1 (winL D.i pre622 group2 post622))]
 iterate 2 refine wpA_seq ?_
 refine wpA_region ?_
 iterate 2 refine wL (OpA.m ?_)
 refine wL (OpA.len rfl rfl rfl rfl ts32.desc (.inl ⟨_, _, rfl, (List.length_map _).symm⟩) ?_)
 refine wL (OpA.lss rfl rfl rfl ?_)
 refine wpL_nil ?_
 refine wpA_cond rfl (fun b14 => ?_) (fun b14 => ?_)
 have h := h.1 (decT b14)
 refine wpA_skip ?_
 refine wpA_seq ?_
 refine wpA_block ?_
 refine wpA_seq ?_
 obtain ⟨q1, q2, q3, h⟩ := h
 refine wpA_draw (m := 18) mo (by kernel_rfl) rfl ?_
 iterate 3 refine dL (OpA.m ⟨rfl, rfl⟩) ?_
 refine dL (OpA.iixV (enc := encClone) rfl ts32 rfl rfl rfl q1 ⟨rfl, rfl⟩) ?_
 refine dL (OpA.ifieldAddr rfl tf38_0 rfl ⟨rfl, rfl⟩) ?_
 refine dL (OpA.iload rfl ti3 rfl rfl ⟨rfl, rfl⟩) ?_
 refine dL (OpA.ixV rfl ts67 rfl rfl q2 ⟨rfl, rfl⟩) ?_
 refine dL (OpA.load rfl ti3 rfl .head (getV (enc := D.i) q2) rfl ⟨rfl, rfl⟩) ?_
 iterate 3 refine dL (OpA.m ⟨rfl, rfl⟩) ?_
 refine dL (OpA.iixV (enc := encClone) rfl ts32 rfl rfl rfl q1 ⟨rfl, rfl⟩) ?_
 refine dL (OpA.ifieldAddr rfl tf38_2 rfl ⟨rfl, rfl⟩) ?_
 refine dL (OpA.iload rfl ti3 rfl rfl ⟨rfl, rfl⟩) ?_
 refine dL (OpA.ixV rfl ts67 rfl rfl q3 ⟨rfl, rfl⟩) ?_
 refine dL (OpA.load rfl ti3 rfl .head (getV (enc := D.i) q3) rfl ⟨rfl, rfl⟩) ?_
 iterate 2 refine dL (OpA.a ⟨rfl, rfl⟩) ?_
 refine DetK.nil ?_
 refine wpL_nil ?_
 iterate 2 refine wpA_seq ?_
 refine wpA_region ?_
 iterate 2 refine wL (OpA.m ?_)
 refine wL (OpA.lss rfl rfl rfl ?_)
 refine wpL_nil ?_
 refine wpA_join (S := (List Int) × Bool) (G := Unit) (fun gg ss => asg [(0, D.i n), (1, (encL 5 encClone) x), (4, .v (.slice none 0 0)), (5, D.i 0), (7, .own cb622 1 pre622.length ss.1.length), (9, D.b ss.2), (10, D.i i2), (11, D.i (gi group2 ((gi x i2).a))), (12, D.i (gi group2 ((gi x i2).b)))]) (fun gg ss => [(cb622, .cells 1 (winL D.i pre622 ss.1 post622))]) (fun ss => rfam_J1 x group2 i2 again13 ss.1 ss.2) ?_ ?_
 refine wpA_cond rfl (fun b16 => ?_) (fun b16 => ?_)
 have h := h.1 (decT b16)
 obtain ⟨q1, q2, h⟩ := h
 refine wpA_region ?_
 iterate 3 refine wL (OpA.m ?_)
 refine wL (OpA.iixV (enc := encClone) rfl ts32 rfl rfl rfl q1 ?_)
 refine wL (OpA.ifieldAddr rfl tf38_2 rfl ?_)
 refine wL (OpA.iload rfl ti3 rfl rfl ?_)
 refine wL (OpA.m ?_)
 refine wL (OpA.ixV rfl ts67 rfl rfl q2 ?_)
 refine wE (OpA.storeV (enc := D.i) (v := (gi group2 ((gi x i2).a))) rfl ti3 rfl rfl (.of rfl) rfl q2 .head ?_)
 refine wL (OpA.a ?_)
 refine wpL_nil ?_
 exact ⟨(), ((si group2 ((gi x i2).b) (gi group2 ((gi x i2).a))), true), h, (Cov.asg ⟨rfl, rfl, rfl, rfl, (congrArg (D.own cb622 1 pre622.length) (by simp only [si_length, gcopy_length, clearF_length, sortF_len postCmp_swo, sortF_len cloneCmp_swo, sortF_len spanCmp_swo] <;> rfl)), rfl, rfl, rfl, rfl, trivial⟩), (.refl _)⟩
 have h := h.2 (decF b16)
 refine wpA_skip ?_
 exact ⟨(), (group2, again_1), h, (Cov.asg ⟨rfl, rfl, rfl, rfl, rfl, rfl, rfl, rfl, rfl, trivial⟩), (.refl _)⟩
 rintro _ ⟨group3, again_2⟩ h
 have h : rfam_J1 x group2 i2 again13 group3 again_2 := h
 unfold rfam_J1 at h
 show wpA _ _ _ _ (asg [(0, D.i n), (1, (encL 5 encClone) x), (4, .v (.slice none 0 0)), (5, D.i 0), (7, .own cb622 1 pre622.length group3.length), (9, D.b again_2), (10, D.i i2), (11, D.i (gi group2 ((gi x i2).a))), (12, D.i (gi group2 ((gi x i2).b)))]) [(cb622, .cells 1 (winL D.i pre622 group3 post622))]
 refine wpA_seq ?_
 refine wpA_region ?_
 iterate 2 refine wL (OpA.m ?_)
 refine wL (OpA.lss rfl rfl rfl ?_)
 refine wpL_nil ?_
 refine wpA_cond rfl (fun b15 => ?_) (fun b15 => ?_)
 have h := h.1 (decT b15)
 obtain ⟨q1, q2, h⟩ := h
 refine wpA_region ?_
 iterate 3 refine wL (OpA.m ?_)
 refine wL (OpA.iixV (enc := encClone) rfl ts32 rfl rfl rfl q1 ?_)
 refine wL (OpA.ifieldAddr rfl tf38_0 rfl ?_)
 refine wL (OpA.iload rfl ti3 rfl rfl ?_)
 refine wL (OpA.m ?_)
 refine wL (OpA.ixV rfl ts67 rfl rfl q2 ?_)
 refine wE (OpA.storeV (enc := D.i) (v := (gi group2 ((gi x i2).b))) rfl ti3 rfl rfl (.of rfl) rfl q2 .head ?_)
 refine wL (OpA.a ?_)
 refine wpL_nil ?_
 obtain ⟨q1, h⟩ := h
 refine wpA_region ?_
 refine wL (OpA.m ?_)
 refine wL (OpA.addi rfl rfl rfl q1 ?_)
 refine wL (OpA.a ?_)
 refine wpL_nil ?_
 exact ⟨(cb622, pre622, post622), ((si group3 ((gi x i2).a) (gi group2 ((gi x i2).b))), true, (i2 + 1)), h, (Cov.asg ⟨rfl, rfl, rfl, rfl, (congrArg (D.own cb622 1 pre622.length) (by simp only [si_length, gcopy_length, clearF_length, sortF_len postCmp_swo, sortF_len cloneCmp_swo, sortF_len spanCmp_swo] <;> rfl)), rfl, rfl, trivial⟩), (.refl _)⟩
 have h := h.2 (decF b15)
 refine wpA_skip ?_
 obtain ⟨q1, h⟩ := h
 refine wpA_region ?_
 refine wL (OpA.m ?_)
 refine wL (OpA.addi rfl rfl rfl q1 ?_)
 refine wL (OpA.a ?_)
 refine wpL_nil ?_
 exact ⟨(cb622, pre622, post622), (group3, again_2, (i2 + 1)), h, (Cov.asg ⟨rfl, rfl, rfl, rfl, rfl, rfl, rfl, trivial⟩), (.refl _)⟩
 have h := h.2 (decF b14)
 refine wpA_exit ?_
 exact ⟨(cb622, pre622, post622), (group2, again_1), h, (Cov.asg ⟨rfl, rfl, rfl, rfl, rfl, rfl, trivial⟩), (.refl _)⟩
 have h := h.2 b12
 refine wpA_exit ?_
 refine wpA_seq ?_
 refine wpA_region ?_
 refine wL (OpA.buildSliceV (enc := (encL 1 D.i)) (xs := ([] : List (List Int))) rfl ts51 rfl .nil (by decide) rfl (fun c17 => ?_))
 refine wL (OpA.a ?_)
 refine wpL_nil ?_
 iterate 2 refine wpA_seq ?_
 refine wpA_region ?_
 refine wL (OpA.a ?_)
 refine wpL_nil ?_
 refine wpA_block ?_
 refine wpA_lfp (S := (List (List Int)) × Int) (G := Nat × List D × List D) (c17, ([] : List D), ([] : List D)) (fun gg ss => asg [(0, D.i n), (4, .v (.slice none 0 0)), (5, D.i 0), (7, .own cb621 1 pre621.length group1.length), (13, .own gg.1 1 gg.2.1.length ss.1.length), (14, D.i ss.2)]) (fun gg ss => [(gg.1, .cells 1 (winL (encL 1 D.i) gg.2.1 ss.1 gg.2.2)), (cb621, .cells 1 (winL D.i pre621 group1 post621))]) h (Cov.asg ⟨rfl, rfl, rfl, rfl, rfl, rfl, trivial⟩) (.refl _) ?_
 rintro again18 ⟨cb117, pre117, post117⟩ ⟨out, i3⟩ h
 have h : rfam_L5 n group1 Q again18 out i3 := h
 unfold rfam_L5 at h
 show wpA _ _ _ _ (asg [(0, D.i n), (4, .v (.slice none 0 0)), (5, D.i 0), (7, .own cb621 1 pre621.length group1.length), (13, .own cb117 1 pre117.length out.length), (14, D.i i3)]) [(cb117, .cells 1 (winL (encL 1 D.i) pre117 out post117)), (cb621, .cells 1 (winL D.i pre621 group1 post621))]
 iterate 2 refine wpA_seq ?_
 refine wpA_region ?_
 iterate 2 refine wL (OpA.m ?_)
 refine wL (OpA.lss rfl rfl rfl ?_)
 refine wpL_nil ?_
 refine wpA_cond rfl (fun b19 => ?_) (fun b19 => ?_)
 have h := h.1 (decT b19)
 refine wpA_skip ?_
 refine wpA_seq ?_
 refine wpA_block ?_
 refine wpA_seq ?_
 refine wpA_region ?_
 refine wL (OpA.buildSliceV (enc := D.i) (xs := ([] : List Int)) rfl ts67 rfl .nil (by decide) rfl (fun c20 => ?_))
 refine wL (OpA.a ?_)
 refine wpL_nil ?_
 iterate 2 refine wpA_seq ?_
 refine wpA_region ?_
 refine wL (OpA.a ?_)
 refine wpL_nil ?_
 refine wpA_block ?_
 refine wpA_lfp (S := (List Int) × Int) (G := Nat × List D × List D) (c20, ([] : List D), ([] : List D)) (fun gg ss => asg [(0, D.i n), (4, .v (.slice none 0 0)), (5, D.i 0), (7, .own cb621 1 pre621.length group1.length), (13, .own cb117 1 pre117.length out.length), (14, D.i i3), (15, .own gg.1 1 gg.2.1.length ss.1.length), (16, D.i ss.2)]) (fun gg ss => [(gg.1, .cells 1 (winL D.i gg.2.1 ss.1 gg.2.2)), (cb117, .cells 1 (winL (encL 1 D.i) pre117 out post117)), (cb621, .cells 1 (winL D.i pre621 group1 post621))]) h (Cov.asg ⟨rfl, rfl, rfl, rfl, rfl, rfl, rfl, rfl, trivial⟩) (.refl _) ?_
 rintro again21 ⟨cb123, pre123, post123⟩ ⟨f, k⟩ h
 have h : rfam_L6 n group1 out i3 again18 again21 f k := h
 unfold rfam_L6 at h
 show wpA _ _ _ _ (asg [(0, D.i n), (4, .v (.slice none 0 0)), (5, D.i 0), (7, .own cb621 1 pre621.length group1.length), (13, .own cb117 1 pre117.length out.length), (14, D.i i3), (15, .own cb123 1 pre123.length f.length), (16, D.i k)]) [(cb123, .cells 1 (winL D.i pre123 f post123)), (cb117, .cells 1 (winL (encL 1 D.i) pre117 out post117)), (cb621, .cells 1 (winL D.i pre621 group1 post621))]
 iterate 2 refine wpA_seq ?_
 refine wpA_region ?_
 iterate 2 refine wL (OpA.m ?_)
 refine wL (OpA.lss rfl rfl rfl ?_)
 refine wpL_nil ?_
 refine wpA_cond rfl (fun b22 => ?_) (fun b22 => ?_)
 have h := h.1 (decT b22)
 refine wpA_skip ?_
 refine wpA_seq ?_
 refine wpA_block ?_
 refine wpA_seq ?_
 obtain ⟨q1, h⟩ := h
 refine wpA_region ?_
 iterate 2 refine wL (OpA.m ?_)
 refine wL (OpA.ixV rfl ts67 rfl rfl q1 ?_)
 refine wL (OpA.load rfl ti3 rfl (.tail (.tail .head)) (getV (enc := D.i) q1) rfl ?_)
 refine wL (OpA.m ?_)
 refine wL (OpA.eql rfl rfl rfl ?_)
 refine wpL_nil ?_
 refine wpA_cond rfl (fun b23 => ?_) (fun b23 => ?_)
 have h := h.1 (beqT b23)
 obtain ⟨q1, h⟩ := h
 refine wpA_region ?_
 iterate 2 refine wL (OpA.m ?_)
 refine wL (OpA.ibuildSliceO rfl ts67 rfl (.cons (.of (sz := 1) rfl) .nil) (by decide) ?_)
 refine wL (OpA.appendW (enc := D.i) rfl rfl rfl rfl ts67 rfl (fun _ _ => .head) (.list (ys := ([k] : List Int))) q1 (fun c24 pre25 => ?_))
 refine wL (OpA.a ?_)
 refine wpL_nil ?_
 obtain ⟨q1, h⟩ := h
 refine wpA_region ?_
 refine wL (OpA.m ?_)
 refine wL (OpA.addi rfl rfl rfl q1 ?_)
 refine wL (OpA.a ?_)
 refine wpL_nil ?_
 exact ⟨(c24, pre25, ([] : List D)), ((f ++ ([k] : List Int)), (k + 1)), h, (Cov.asg ⟨rfl, rfl, rfl, rfl, rfl, rfl, rfl, rfl, trivial⟩), (.refl _)⟩
 have h := h.2 (beqF b23)
 refine wpA_skip ?_
 obtain ⟨q1, h⟩ := h
 refine wpA_region ?_
 refine wL (OpA.m ?_)
 refine wL (OpA.addi rfl rfl rfl q1 ?_)
 refine wL (OpA.a ?_)
 refine wpL_nil ?_
 exact ⟨(cb123, pre123, post123), (f, (k + 1)), h, (Cov.asg ⟨rfl, rfl, rfl, rfl, rfl, rfl, rfl, rfl, trivial⟩), (.refl _)⟩
 have h := h.2 (decF b22)
 refine wpA_exit ?_
 refine wpA_seq ?_
 refine wpA_region ?_
 refine wL (OpA.m ?_)
 refine wL (OpA.len rfl rfl rfl rfl ts67.desc (.inr (.inl ⟨_, _, _, rfl⟩)) ?_)
 refine wL (OpA.gtr rfl rfl rfl ?_)
 refine wpL_nil ?_
 refine wpA_cond rfl (fun b26 => ?_) (fun b26 => ?_)
 have h := h.1 (decT b26)
 obtain ⟨q1, h⟩ := h
 refine wpA_region ?_
 refine wL (OpA.m ?_)
 refine wL (OpA.freeze (.inl rfl) rfl (.refl _) (.win (enc := D.i) .head (by intro hf; cases hf) .nil) ?_)
 refine wL (OpA.ibuildSliceO rfl ts51 rfl (.cons (.of (sz := 1) rfl) .nil) (by decide) ?_)
 refine wL (OpA.appendW (enc := (encL 1 D.i)) rfl rfl rfl rfl ts51 rfl (fun _ _ => .head) (.list (ys := ([f] : List (List Int)))) q1 (fun c27 pre28 => ?_))
 refine wL (OpA.a ?_)
 refine wpL_nil ?_
 obtain ⟨q1, h⟩ := h
 refine wpA_region ?_
 refine wL (OpA.m ?_)
 refine wL (OpA.addi rfl rfl rfl q1 ?_)
 refine wL (OpA.a ?_)
 refine wpL_nil ?_
 exact ⟨(c27, pre28, ([] : List D)), ((out ++ ([f] : List (List Int))), (i3 + 1)), h, (Cov.asg ⟨rfl, rfl, rfl, rfl, rfl, rfl, trivial⟩), (.refl _)⟩
 have h := h.2 (decF b26)
 refine wpA_skip ?_
 obtain ⟨q1, h⟩ := h
 refine wpA_region ?_
 refine wL (OpA.m ?_)
 refine wL (OpA.addi rfl rfl rfl q1 ?_)
 refine wL (OpA.a ?_)
 refine wpL_nil ?_
 exact ⟨(cb117, pre117, post117), (out, (i3 + 1)), h, (Cov.asg ⟨rfl, rfl, rfl, rfl, rfl, rfl, trivial⟩), (.cons _ (.refl _))⟩
 have h := h.2 (decF b19)
 refine wpA_exit ?_
 refine wpA_seq ?_
 refine wpA_region ?_
 refine wL (OpA.m ?_)
 iterate 2 refine wL (OpA.a ?_)
 refine wpL_nil ?_
 refine wpA_ret ?_
 exact ⟨_, (.tmp (d := .own cb117 1 pre117.length out.length) rfl (.tmp (d := D.i 0) rfl .nil)), _, (.tup (.win .head (by intro hf; cases hf) (.same rfl .nil)) .nil), ⟨(out, 0), rfl, h⟩⟩
theorem rfam_c (n : Int) (x : (List Clone)) (hp0 : x.length ≤ 1000000) : Fun false Tryz.prog 25 [D.i n, (encL 5 encClone) x] (fun d => d = .tup [(encL 1 (encL 1 D.i)) ((famF n x).1), D.i ((famF n x).2)]) :=
 Fun.at (enc := fun r => .tup [(encL 1 (encL 1 D.i)) (r.1), D.i (r.2)]) (v := famF n x) (rfam_w n x  (fun r => r = famF n x) (rfam_ok n x _ hp0 rfl))
theorem rsamel_w (a : (List (List Int))) (b : (List (List Int))) (Q : Bool → Prop) (h : rsamel_vc a b Q) : Fun false Tryz.prog 27 [(encL 1 (encL 1 D.i)) a, (encL 1 (encL 1 D.i)) b] (fun d => ∃ r, d = D.b r ∧ Q r) := by
 unfold rsamel_vc at h
 refine Fun.of_body Tryz.func27 rfl Tryz.ntmps27 rfl ?_
 refine wpA_seq ?_
 refine wpA_region ?_
 refine wL (OpA.a ?_)
 refine wpL_nil ?_
 iterate 2 refine wpA_seq ?_
 refine wpA_region ?_
 refine wL (OpA.m ?_)
 refine wL (OpA.len rfl rfl rfl rfl ts51.desc (.inl ⟨_, _, rfl, (List.length_map _).symm⟩) ?_)
 refine wL (OpA.m ?_)
 refine wL (OpA.len rfl rfl rfl rfl ts51.desc (.inl ⟨_, _, rfl, (List.length_map _).symm⟩) ?_)
 refine wL (OpA.neq rfl rfl rfl ?_)
 refine wpL_nil ?_
 refine wpA_cond rfl (fun b1 => ?_) (fun b1 => ?_)
 have h := h.1 (bneT b1)
 refine wpA_seq ?_
 refine wpA_region ?_
 refine wL (OpA.a ?_)
 refine wpL_nil ?_
 refine wpA_ret ?_
 exact ⟨_, (.tmp (d := D.b false) rfl .nil), _, (.same rfl .nil), ⟨false, rfl, h⟩⟩
 have h := h.2 (bneF b1)
 refine wpA_skip ?_
 iterate 2 refine wpA_seq ?_
 refine wpA_region ?_
 refine wL (OpA.a ?_)
 refine wpL_nil ?_
 refine wpA_block ?_
 refine wpA_lfp (S := Int) (G := Unit) () (fun gg ss => asg [(0, (encL 1 (encL 1 D.i)) a), (1, (encL 1 (encL 1 D.i)) b), (4, D.b false), (5, D.i ss)]) (fun gg ss => []) h (Cov.asg ⟨rfl, rfl, rfl, rfl, trivial⟩) (.refl _) ?_
 rintro again2 _ i h
 have h : rsamel_L1 a b Q again2 i := h
 unfold rsamel_L1 at h
 show wpA _ _ _ _ (asg [(0, (encL 1 (encL 1 D.i)) a), (1, (encL 1 (encL 1 D.i)) b), (4, D.b false), (5, D.i i)]) []
 iterate 2 refine wpA_seq ?_
 refine wpA_region ?_
 iterate 2 refine wL (OpA.m ?_)
 refine wL (OpA.len rfl rfl rfl rfl ts51.desc (.inl ⟨_, _, rfl, (List.length_map _).symm⟩) ?_)
 refine wL (OpA.lss rfl rfl rfl ?_)
 refine wpL_nil ?_
 refine wpA_cond rfl (fun b3 => ?_) (fun b3 => ?_)
 have h := h.1 (decT b3)
 refine wpA_skip ?_
 refine wpA_seq ?_
 refine wpA_block ?_
 iterate 2 refine wpA_seq ?_
 obtain ⟨q1, q2, h⟩ := h
 refine wpA_draw (m := 11) mo (by kernel_rfl) rfl ?_
 iterate 2 refine dL (OpA.m ⟨rfl, rfl⟩) ?_
 refine dL (OpA.iixV (enc := (encL 1 D.i)) rfl ts51 rfl rfl rfl q1 ⟨rfl, rfl⟩) ?_
 refine dL (OpA.iload rfl ti67 rfl rfl ⟨rfl, rfl⟩) ?_
 refine dL (OpA.len rfl rfl rfl rfl ts67.desc (.inl ⟨_, _, rfl, (List.length_map _).symm⟩) ⟨rfl, rfl⟩) ?_
 iterate 2 refine dL (OpA.m ⟨rfl, rfl⟩) ?_
 refine dL (OpA.iixV (enc := (encL 1 D.i)) rfl ts51 rfl rfl rfl q2 ⟨rfl, rfl⟩) ?_
 refine dL (OpA.iload rfl ti67 rfl rfl ⟨rfl, rfl⟩) ?_
 refine dL (OpA.len rfl rfl rfl rfl ts67.desc (.inl ⟨_, _, rfl, (List.length_map _).symm⟩) ⟨rfl, rfl⟩) ?_
 refine dL (OpA.neq rfl rfl rfl ⟨rfl, rfl⟩) ?_
 refine DetK.nil ?_
 refine wpL_nil ?_
 refine wpA_cond rfl (fun b4 => ?_) (fun b4 => ?_)
 have h := h.1 (bneT b4)
 refine wpA_seq ?_
 refine wpA_region ?_
 refine wL (OpA.a ?_)
 refine wpL_nil ?_
 refine wpA_ret ?_
 exact ⟨_, (.tmp (d := D.b false) rfl .nil), _, (.same rfl .nil), ⟨false, rfl, h⟩⟩
 have h := h.2 (bneF b4)
 refine wpA_skip ?_
 refine wpA_seq ?_
 refine wpA_region ?_
 refine wL (OpA.a ?_)
 refine wpL_nil ?_
 refine wpA_block ?_
 refine wpA_lfp (S := Int) (G := Unit) () (fun gg ss => asg [(0, (encL 1 (encL 1 D.i)) a), (1, (encL 1 (encL 1 D.i)) b), (4, D.b false), (5, D.i i), (6, D.i ss)]) (fun gg ss => []) h (Cov.asg ⟨rfl, rfl, rfl, rfl, rfl, trivial⟩) (.refl _) ?_
 rintro again5 _ k h
 have h : rsamel_L2 a b i Q again2 again5 k := h
 unfold rsamel_L2 at h
 show wpA _ _ _ _ (asg [(0, (encL 1 (encL 1 D.i)) a), (1, (encL 1 (encL 1 D.i)) b), (4, D.b false), (5, D.i i), (6, D.i k)]) []
 iterate 2 refine wpA_seq ?_
 obtain ⟨q1, h⟩ := h
 refine wpA_region ?_
 iterate 3 refine wL (OpA.m ?_)
 refine wL (OpA.iixV (enc := (encL 1 D.i)) rfl ts51 rfl rfl rfl q1 ?_)
 refine wL (OpA.iload rfl ti67 rfl rfl ?_)
 refine wL (OpA.len rfl rfl rfl rfl ts67.desc (.inl ⟨_, _, rfl, (List.length_map _).symm⟩) ?_)
 refine wL (OpA.lss rfl rfl rfl ?_)
 refine wpL_nil ?_
 refine wpA_cond rfl (fun b6 => ?_) (fun b6 => ?_)
 have h := h.1 (decT b6)
 refine wpA_skip ?_
 refine wpA_seq ?_
 refine wpA_block ?_
 refine wpA_seq ?_
 obtain ⟨q1, q2, q3, q4, h⟩ := h
 refine wpA_draw (m := 15) mo (by kernel_rfl) rfl ?_
 iterate 2 refine dL (OpA.m ⟨rfl, rfl⟩) ?_
 refine dL (OpA.iixV (enc := (encL 1 D.i)) rfl ts51 rfl rfl rfl q1 ⟨rfl, rfl⟩) ?_
 refine dL (OpA.iload rfl ti67 rfl rfl ⟨rfl, rfl⟩) ?_
 refine dL (OpA.m ⟨rfl, rfl⟩) ?_
 refine dL (OpA.iixV (enc := D.i) rfl ts67 rfl rfl rfl q2 ⟨rfl, rfl⟩) ?_
 refine dL (OpA.iload rfl ti3 rfl rfl ⟨rfl, rfl⟩) ?_
 iterate 2 refine dL (OpA.m ⟨rfl, rfl⟩) ?_
 refine dL (OpA.iixV (enc := (encL 1 D.i)) rfl ts51 rfl rfl rfl q3 ⟨rfl, rfl⟩) ?_
 refine dL (OpA.iload rfl ti67 rfl rfl ⟨rfl, rfl⟩) ?_
 refine dL (OpA.m ⟨rfl, rfl⟩) ?_
 refine dL (OpA.iixV (enc := D.i) rfl ts67 rfl rfl rfl q4 ⟨rfl, rfl⟩) ?_
 refine dL (OpA.iload rfl ti3 rfl rfl ⟨rfl, rfl⟩) ?_
 refine dL (OpA.neq rfl rfl rfl ⟨rfl, rfl⟩) ?_
 refine DetK.nil ?_
 refine wpL_nil ?_
 refine wpA_cond rfl (fun b7 => ?_) (fun b7 => ?_)
 have h := h.1 (bneT b7)
 refine wpA_seq ?_
 refine wpA_region ?_
 refine wL (OpA.a ?_)
 refine wpL_nil ?_
 refine wpA_ret ?_
 exact ⟨_, (.tmp (d := D.b false) rfl .nil), _, (.same rfl .nil), ⟨false, rfl, h⟩⟩
 have h := h.2 (bneF b7)
 refine wpA_skip ?_
 obtain ⟨q1, h⟩ := h
 refine wpA_region ?_
 refine wL (OpA.m ?_)
 refine wL (OpA.addi rfl rfl rfl q1 ?_)
 refine wL (OpA.a ?_)
 refine wpL_nil ?_
 exact ⟨(), (k + 1), h, (Cov.asg ⟨rfl, rfl, rfl, rfl, rfl, trivial⟩), (.refl _)⟩
 have h := h.2 (decF b6)
 refine wpA_exit ?_
 obtain ⟨q1, h⟩ := h
 refine wpA_region ?_
 refine wL (OpA.m ?_)
 refine wL (OpA.addi rfl rfl rfl q1 ?_)
 refine wL (OpA.a ?_)
 refine wpL_nil ?_
 exact ⟨(), (i + 1), h, (Cov.asg ⟨rfl, rfl, rfl, rfl, trivial⟩), (.refl _)⟩
 have h := h.2 (decF b3)
 refine wpA_exit ?_
 refine wpA_seq ?_
 refine wpA_region ?_
 refine wL (OpA.a ?_)
 refine wpL_nil ?_
 refine wpA_ret ?_
 exact ⟨_, (.tmp (d := D.b true) rfl .nil), _, (.same rfl .nil), ⟨true, rfl, h⟩⟩
theorem rsamel_c (a : (List (List Int))) (b : (List (List Int))) (hp0 : a.length ≤ 1000) (hp1 : ∀ z_ ∈ a, z_.length ≤ 1000) : Fun false Tryz.prog 27 [(encL 1 (encL 1 D.i)) a, (encL 1 (encL 1 D.i)) b] (fun d => d = D.b ((decide (a = b)))) :=
 Fun.at (enc := fun r => D.b r) (v := (decide (a = b))) (rsamel_w a b  (fun r => r = (decide (a = b))) (rsamel_ok a b _ hp0 hp1 rfl))
end Go.Proofs.YtglclijalehcmaaGreatDoor
