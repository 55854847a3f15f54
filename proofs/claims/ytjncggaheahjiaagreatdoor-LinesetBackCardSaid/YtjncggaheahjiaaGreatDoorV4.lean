/-
  walks and contracts
-/
import Derived.Test.YtjncggaheahjiaaGreatDoorV3
set_option maxRecDepth 10000
set_option maxHeartbeats 2000000
set_option linter.all false
namespace Go.Proofs.YtjncggaheahjiaaGreatDoor
open Go Go.Lic Go.Sort Go.Proofs
attribute [local irreducible] badR behindF cmpB cmpI countF countL fewF has1F hasF hasPrefF indexF insideF itoaF lenF listF mergeF minusF nameR numF numR ofF oneF orF parseF partF pathB pathF printF scutF spanCmp spanF spanR splitB splitF splitG underF validF
abbrev minus_e0 (out1 : (List Span)) (s_ : Span) (both1 : (List Span)) := (out1 ++ ([(Span.mk s_.path s_.from_ ((gi both1 0).from_))] : List Span))
theorem minus_w (a : (List Span)) (b : (List Span)) (Q : (List Span) × Int → Prop) (h : minus_vc a b Q) : Fun false Tryz.prog 17 [(encL 3 encSpan) a, (encL 3 encSpan) b] (fun d => ∃ r, d = .tup [(encL 3 encSpan) (r.1), D.i (r.2)] ∧ Q r) := by
 unfold minus_vc at h
 refine Fun.of_body Tryz.func17 rfl Tryz.ntmps17 rfl ?_
 refine wpA_seq ?_
 refine wpA_region ?_
 iterate 2 refine wL (OpA.a ?_)
 refine wpL_nil ?_
 iterate 2 refine wpA_seq ?_
 obtain ⟨q1, q2, q3, h⟩ := h
 refine wpA_mid (asg [(0, (encL 3 encSpan) a), (1, (encL 3 encSpan) b), (4, .v (.slice none 0 0)), (5, D.i 0), (17, D.b ((!(validF a)) || (!(validF b))))]) [] ?_ ?_
 refine wpA_region ?_
 refine wL (OpA.m ?_)
 refine wL (OpA.call rfl rfl rfl en12 (valid_c a q1 q2) ?_)
 rintro _ rfl
 refine wL (OpA.not rfl rfl ?_)
 refine wL (OpA.m ?_)
 refine wpL_split (s := 13) rfl (fun b236 => ?_) (fun b236 => ?_)
 iterate 3 refine wS ?_
 refine wL (OpA.p ?_)
 refine wpL_nil ?_
 exact ⟨(Cov.asg ⟨rfl, rfl, rfl, rfl, (congrArg D.b (Eq.symm (orS b236))), trivial⟩), (.refl _)⟩
 refine wG (OpA.m ?_)
 refine wG (OpA.call rfl rfl rfl en12 (valid_c b (q3 (notF b236)).1 (q3 (notF b236)).2) ?_)
 rintro _ rfl
 refine wG (OpA.not rfl rfl ?_)
 refine wL (OpA.p ?_)
 refine wpL_nil ?_
 exact ⟨(Cov.asg ⟨rfl, rfl, rfl, rfl, (congrArg D.b (Eq.symm (orN b236 rfl))), trivial⟩), (.refl _)⟩
 show wpA _ _ _ _ (asg [(0, (encL 3 encSpan) a), (1, (encL 3 encSpan) b), (4, .v (.slice none 0 0)), (5, D.i 0), (17, D.b ((!(validF a)) || (!(validF b))))]) []
 refine wpA_cond rfl (fun b1 => ?_) (fun b1 => ?_)
 have h := h.1 ((or0 b1).imp (fun hh => (notT hh)) (fun hh => (notT hh)))
 refine wpA_seq ?_
 refine wpA_region ?_
 iterate 2 refine wL (OpA.a ?_)
 refine wpL_nil ?_
 refine wpA_ret ?_
 exact ⟨_, (.tmp (d := .v (.slice none 0 0)) rfl (.tmp (d := D.i 1) rfl .nil)), _, (.tup (.nilv (sz := 3) (.same rfl .nil)) .nil), ⟨([], 1), rfl, h⟩⟩
 have h := h.2 ⟨(notF (or1 b1)), (notF (or2 b1))⟩
 refine wpA_skip ?_
 refine wpA_seq ?_
 refine wpA_region ?_
 refine wL (OpA.asnG (T := Span) (enc := encSpan) (sz := 3) rfl rfl (fun c6_g2 => ?_))
 refine wpL_nil ?_
 refine wpA_seq ?_
 obtain ⟨q1, q2, h⟩ := h
 refine wpA_region ?_
 iterate 2 refine wL (OpA.m ?_)
 refine wL (OpA.call rfl rfl rfl en34 (common_c a b q1 q2) ?_)
 rintro _ rfl
 refine wL (OpA.a ?_)
 refine wpL_nil ?_
 iterate 2 refine wpA_seq ?_
 refine wpA_region ?_
 refine wL (OpA.m ?_)
 refine wL (OpA.len rfl rfl rfl rfl ts23.desc (.inl ⟨_, _, rfl, (List.length_map _).symm⟩) ?_)
 refine wL (OpA.m ?_)
 refine wpL_nil ?_
 refine wpA_block ?_
 refine wpA_lfp (S := (List Span) × (List Span) × Int) (G := Nat × List D × List D) (c6_g2, ([] : List D), ([] : List D)) (fun gg ss => asg [(4, .v (.slice none 0 0)), (5, D.i 0), (6, .own gg.1 3 gg.2.1.length ss.1.length), (7, (encL 3 encSpan) ss.2.1), (21, (encL 3 encSpan) a), (22, D.i (a.length : Int)), (23, D.i ss.2.2)]) (fun gg ss => [(gg.1, .cells 3 (winL encSpan gg.2.1 ss.1 gg.2.2))]) h (Cov.asg ⟨rfl, rfl, rfl, rfl, rfl, rfl, rfl, trivial⟩) (.refl _) ?_
 rintro again3 ⟨cb6, pre6, post6⟩ ⟨out, both, x⟩ h
 have h : minus_L1 a Q again3 out both x := h
 unfold minus_L1 at h
 show wpA _ _ _ _ (asg [(4, .v (.slice none 0 0)), (5, D.i 0), (6, .own cb6 3 pre6.length out.length), (7, (encL 3 encSpan) both), (21, (encL 3 encSpan) a), (22, D.i (a.length : Int)), (23, D.i x)]) [(cb6, .cells 3 (winL encSpan pre6 out post6))]
 refine wpA_seq ?_
 refine wpA_region ?_
 refine wL (OpA.lss rfl rfl rfl ?_)
 refine wpL_nil ?_
 refine wpA_seq ?_
 refine wpA_cond rfl (fun b4 => ?_) (fun b4 => ?_)
 have h := h.1 (decT b4)
 refine wpA_skip ?_
 refine wpA_seq ?_
 refine wpA_block ?_
 refine wpA_seq ?_
 obtain ⟨q1, h⟩ := h
 refine wpA_region ?_
 refine wL (OpA.iixV (enc := encSpan) rfl ts23 rfl rfl rfl q1 ?_)
 refine wL (OpA.iload_whole rfl ti33 rfl ⟨_, rfl, rfl⟩ ?_)
 refine wL (OpA.alloc (sz := 3) (d := encSpan (Span.mk ByteArray.empty 0 0)) rfl tz33 (fun _ _ => .agg (.cons (.v _) (.cons (.v _) (.cons (.v _) .nil)))) (.of rfl) (fun c5 _ => ?_))
 refine wE (OpA.storeW rfl ti33 rfl (by with_reducible conv => lhs; whnf) (.of rfl) rfl rfl .head ?_)
 refine wpL_nil ?_
 refine wpA_seq ?_
 refine wpA_block ?_
 refine wpA_lfp (S := Span × (List Span) × (List Span)) (G := Nat × List D × List D) (cb6, pre6, post6) (fun gg ss => asg [(4, .v (.slice none 0 0)), (5, D.i 0), (6, .own gg.1 3 gg.2.1.length ss.2.1.length), (7, (encL 3 encSpan) ss.2.2), (9, .ptr c5 3 0 0), (21, (encL 3 encSpan) a), (22, D.i (a.length : Int)), (23, D.i x)]) (fun gg ss => [(c5, .cells 3 [encSpan ss.1]), (gg.1, .cells 3 (winL encSpan gg.2.1 ss.2.1 gg.2.2))]) h (Cov.asg ⟨rfl, rfl, rfl, rfl, rfl, rfl, rfl, rfl, trivial⟩) (.refl _) ?_
 rintro again6 ⟨cb61, pre61, post61⟩ ⟨s_, out1, both1⟩ h
 have h : minus_L2 x again3 again6 s_ out1 both1 := h
 unfold minus_L2 at h
 show wpA _ _ _ _ (asg [(4, .v (.slice none 0 0)), (5, D.i 0), (6, .own cb61 3 pre61.length out1.length), (7, (encL 3 encSpan) both1), (9, .ptr c5 3 0 0), (21, (encL 3 encSpan) a), (22, D.i (a.length : Int)), (23, D.i x)]) [(c5, .cells 3 [encSpan s_]), (cb61, .cells 3 (winL encSpan pre61 out1 post61))]
 iterate 2 refine wpA_seq ?_
 obtain ⟨q1, q2, h⟩ := h
 refine wpA_mid (asg [(4, .v (.slice none 0 0)), (5, D.i 0), (6, .own cb61 3 pre61.length out1.length), (7, (encL 3 encSpan) both1), (9, .ptr c5 3 0 0), (21, (encL 3 encSpan) a), (22, D.i (a.length : Int)), (23, D.i x), (47, D.b (((decide ((both1.length : Int) > 0)) && (decide ((gi both1 0).path = s_.path))) && (decide ((gi both1 0).to ≤ s_.to))))]) [(c5, .cells 3 [encSpan s_]), (cb61, .cells 3 (winL encSpan pre61 out1 post61))] ?_ ?_
 refine wpA_draw (m := 21) mo (by kernel_rfl) rfl ?_
 refine dL (OpA.m ⟨rfl, rfl⟩) ?_
 refine dL (OpA.len rfl rfl rfl rfl ts23.desc (.inl ⟨_, _, rfl, (List.length_map _).symm⟩) ⟨rfl, rfl⟩) ?_
 refine dL (OpA.gtr rfl rfl rfl ⟨rfl, rfl⟩) ?_
 refine dL (OpA.m ⟨rfl, rfl⟩) ?_
 refine DetK_split (s := 30) rfl (fun b234 => ?_) (fun b234 => ?_)
 refine dG (OpA.m ⟨rfl, rfl⟩) ?_
 refine dG (OpA.iixV (enc := encSpan) rfl ts23 rfl rfl rfl (q1 (decT b234)) ⟨rfl, rfl⟩) ?_
 refine dG (OpA.ifieldAddr rfl tf33_0 rfl ⟨rfl, rfl⟩) ?_
 refine dG (OpA.iload rfl ti9 rfl rfl ⟨rfl, rfl⟩) ?_
 refine dG (OpA.fieldAddr rfl tf33_0 rfl ⟨rfl, rfl⟩) ?_
 refine dG (OpA.load rfl ti9 rfl .head rfl rfl ⟨rfl, rfl⟩) ?_
 refine dG (OpA.seql rfl rfl rfl ⟨rfl, rfl⟩) ?_
 refine dL (OpA.p ⟨rfl, rfl⟩) ?_
 refine dL (OpA.m ⟨rfl, rfl⟩) ?_
 refine DetK_split (s := 39) rfl (fun b235 => ?_) (fun b235 => ?_)
 refine dG (OpA.m ⟨rfl, rfl⟩) ?_
 refine dG (OpA.iixV (enc := encSpan) rfl ts23 rfl rfl rfl (q2 ⟨(decT b234), (decT b235)⟩) ⟨rfl, rfl⟩) ?_
 refine dG (OpA.ifieldAddr rfl tf33_2 rfl ⟨rfl, rfl⟩) ?_
 refine dG (OpA.iload rfl ti3 rfl rfl ⟨rfl, rfl⟩) ?_
 refine dG (OpA.fieldAddr rfl tf33_2 rfl ⟨rfl, rfl⟩) ?_
 refine dG (OpA.load rfl ti3 rfl .head rfl rfl ⟨rfl, rfl⟩) ?_
 refine dG (OpA.leq rfl rfl rfl ⟨rfl, rfl⟩) ?_
 refine dL (OpA.p ⟨rfl, rfl⟩) ?_
 refine DetK.nil ?_
 refine wpL_nil ?_
 exact ⟨(Cov.asg ⟨rfl, rfl, rfl, rfl, rfl, rfl, rfl, rfl, (congrArg D.b (Eq.symm (andN (andN b234 b235) rfl))), trivial⟩), (.refl _)⟩
 iterate 7 refine dS ?_
 refine dL (OpA.p ⟨rfl, rfl⟩) ?_
 refine DetK.nil ?_
 refine wpL_nil ?_
 exact ⟨(Cov.asg ⟨rfl, rfl, rfl, rfl, rfl, rfl, rfl, rfl, (congrArg D.b (Eq.symm (andS (andN b234 b235)))), trivial⟩), (.refl _)⟩
 iterate 7 refine dS ?_
 refine dL (OpA.p ⟨rfl, rfl⟩) ?_
 refine dL (OpA.m ⟨rfl, rfl⟩) ?_
 iterate 7 refine dS ?_
 refine dL (OpA.p ⟨rfl, rfl⟩) ?_
 refine DetK.nil ?_
 refine wpL_nil ?_
 exact ⟨(Cov.asg ⟨rfl, rfl, rfl, rfl, rfl, rfl, rfl, rfl, (congrArg D.b (Eq.symm (andS (andS b234)))), trivial⟩), (.refl _)⟩
 show wpA _ _ _ _ (asg [(4, .v (.slice none 0 0)), (5, D.i 0), (6, .own cb61 3 pre61.length out1.length), (7, (encL 3 encSpan) both1), (9, .ptr c5 3 0 0), (21, (encL 3 encSpan) a), (22, D.i (a.length : Int)), (23, D.i x), (47, D.b (((decide ((both1.length : Int) > 0)) && (decide ((gi both1 0).path = s_.path))) && (decide ((gi both1 0).to ≤ s_.to))))]) [(c5, .cells 3 [encSpan s_]), (cb61, .cells 3 (winL encSpan pre61 out1 post61))]
 refine wpA_cond rfl (fun b7 => ?_) (fun b7 => ?_)
 have h := h.1 ⟨⟨(decT (and1 (and1 b7))), (decT (and2 (and1 b7)))⟩, (decT (and2 b7))⟩
 refine wpA_skip ?_
 refine wpA_block ?_
 iterate 2 refine wpA_seq ?_
 obtain ⟨q1, h⟩ := h
 refine wpA_draw (m := 7) mo (by kernel_rfl) rfl ?_
 refine dL (OpA.fieldAddr rfl tf33_1 rfl ⟨rfl, rfl⟩) ?_
 refine dL (OpA.load rfl ti3 rfl .head rfl rfl ⟨rfl, rfl⟩) ?_
 refine dL (OpA.m ⟨rfl, rfl⟩) ?_
 refine dL (OpA.iixV (enc := encSpan) rfl ts23 rfl rfl rfl q1 ⟨rfl, rfl⟩) ?_
 refine dL (OpA.ifieldAddr rfl tf33_1 rfl ⟨rfl, rfl⟩) ?_
 refine dL (OpA.iload rfl ti3 rfl rfl ⟨rfl, rfl⟩) ?_
 refine dL (OpA.lss rfl rfl rfl ⟨rfl, rfl⟩) ?_
 refine DetK.nil ?_
 refine wpL_nil ?_
 refine wpA_cond rfl (fun b8 => ?_) (fun b8 => ?_)
 have h := h.1 (decT b8)
 obtain ⟨q1, q2, h⟩ := h
 refine wpA_draw (m := 11) mo (by kernel_rfl) rfl ?_
 refine dL (OpA.m ⟨rfl, rfl⟩) ?_
 refine dL (OpA.fieldAddr rfl tf33_0 rfl ⟨rfl, rfl⟩) ?_
 refine dL (OpA.load rfl ti9 rfl .head rfl rfl ⟨rfl, rfl⟩) ?_
 refine dL (OpA.fieldAddr rfl tf33_1 rfl ⟨rfl, rfl⟩) ?_
 refine dL (OpA.load rfl ti3 rfl .head rfl rfl ⟨rfl, rfl⟩) ?_
 refine dL (OpA.m ⟨rfl, rfl⟩) ?_
 refine dL (OpA.iixV (enc := encSpan) rfl ts23 rfl rfl rfl q1 ⟨rfl, rfl⟩) ?_
 refine dL (OpA.ifieldAddr rfl tf33_1 rfl ⟨rfl, rfl⟩) ?_
 refine dL (OpA.iload rfl ti3 rfl rfl ⟨rfl, rfl⟩) ?_
 refine dL (OpA.buildO (zs := [.v (.string ⟨#[]⟩), .v (.int .i64 0), .v (.int .i64 0)]) rfl tp33 tz33 (fun _ _ => (.cons (.v _) (.cons (.v _) (.cons (.v _) .nil)))) (.cons (.of (sz := 1) rfl) (.cons (.of (sz := 1) rfl) (.cons (.of (sz := 1) rfl) .nil))) rfl ⟨rfl, rfl⟩) ?_
 refine dL (OpA.ibuildSliceO rfl ts23 rfl (.cons (.of (sz := 3) rfl) .nil) (by decide) ⟨rfl, rfl⟩) ?_
 refine DetK.nil ?_
 refine wL (OpA.appendW (enc := encSpan) rfl rfl rfl rfl ts23 rfl (fun _ _ => (.tail .head)) (.list (ys := ([(Span.mk s_.path s_.from_ ((gi both1 0).from_))] : List Span))) q2 (fun c9 pre10 => ?_))
 refine wL (OpA.a ?_)
 refine wpL_nil ?_
 obtain ⟨q1_0, q5_0, h⟩ := h
 refine wpA_states mo (fun W hW => ?_)
 refine flip_goal (a := W 0 (lv 9 511) (asg [(4, .v (.slice none 0 0)), (5, D.i 0), (6, .own c9 3 pre10.length (minus_e0 out1 s_ both1).length), (7, (encL 3 encSpan) (lsub both1 1 (both1.length : Int))), (9, .ptr c5 3 0 0), (21, (encL 3 encSpan) a), (22, D.i (a.length : Int)), (23, D.i x)]) [(c5, .cells 3 [encSpan (Span.mk s_.path ((gi both1 0).to) s_.to)]), (c9, .cells 3 (winL encSpan pre10 (minus_e0 out1 s_ both1) ([] : List D)))]) (fun s0 => ?_) ?_
 have s1 : W 2 (lv 9 127) (asg [(4, .v (.slice none 0 0)), (5, D.i 0), (6, .own c9 3 pre10.length (minus_e0 out1 s_ both1).length), (7, (encL 3 encSpan) both1), (9, .ptr c5 3 0 0), (21, (encL 3 encSpan) a), (22, D.i (a.length : Int)), (23, D.i x), (70, D.i ((gi both1 0).to)), (72, (encL 3 encSpan) (lsub both1 1 (both1.length : Int))), (73, .ptr c5 3 0 1)]) [(c5, .cells 3 [encSpan s_]), (c9, .cells 3 (winL encSpan pre10 (minus_e0 out1 s_ both1) ([] : List D)))] := wpS_of hW (by refine wpS_step (rs := [7]) (by kernel_rfl) rfl ⟨?_, trivial⟩; refine wpS_eff (i := 7) (li' := (lv 9 255)) rfl rfl rfl (by kernel_rfl) (OpA.store (e' := encSpan (Span.mk s_.path ((gi both1 0).to) s_.to)) rfl ti3 rfl (.of rfl) rfl (Nat.le_of_ble_eq_true rfl) rfl .head ?_); refine wpS_firstY (fuel := 0) (i := 8) (li' := (lv 9 511)) rfl rfl (.assign rfl) rfl rfl (by kernel_rfl) (by kernel_rfl) (by kernel_rfl) (fun _ _ _ hx => hx) rfl rfl (by kernel_rfl) ?_; exact wpS_to hW (s0) (Cov.asg ⟨rfl, rfl, rfl, rfl, rfl, rfl, rfl, rfl, trivial⟩) (.refl _))
 have s2 : W 2 (lv 9 223) (asg [(4, .v (.slice none 0 0)), (5, D.i 0), (6, .own c9 3 pre10.length (minus_e0 out1 s_ both1).length), (7, (encL 3 encSpan) both1), (9, .ptr c5 3 0 0), (21, (encL 3 encSpan) a), (22, D.i (a.length : Int)), (23, D.i x), (71, (encL 3 encSpan) both1)]) [(c5, .cells 3 [encSpan (Span.mk s_.path ((gi both1 0).to) s_.to)]), (c9, .cells 3 (winL encSpan pre10 (minus_e0 out1 s_ both1) ([] : List D)))] := wpS_of hW (by refine wpS_step (rs := [5]) (by kernel_rfl) rfl ⟨?_, trivial⟩; refine wpS_op (i := 5) (li' := (lv 9 255)) rfl rfl rfl rfl (by kernel_rfl) (OpA.isliceV (enc := encSpan) rfl ts23 rfl (.some rfl) (.none _) q5_0 ?_); refine wpS_firstY (fuel := 0) (i := 8) (li' := (lv 9 511)) rfl rfl (.assign rfl) rfl rfl (by kernel_rfl) (by kernel_rfl) (by kernel_rfl) (fun _ _ _ hx => hx) rfl rfl (by kernel_rfl) ?_; exact wpS_to hW (s0) (Cov.asg ⟨rfl, rfl, rfl, rfl, rfl, rfl, rfl, rfl, trivial⟩) (.refl _))
 have s3 : W 3 (lv 9 95) (asg [(4, .v (.slice none 0 0)), (5, D.i 0), (6, .own c9 3 pre10.length (minus_e0 out1 s_ both1).length), (7, (encL 3 encSpan) both1), (9, .ptr c5 3 0 0), (21, (encL 3 encSpan) a), (22, D.i (a.length : Int)), (23, D.i x), (70, D.i ((gi both1 0).to)), (71, (encL 3 encSpan) both1), (73, .ptr c5 3 0 1)]) [(c5, .cells 3 [encSpan s_]), (c9, .cells 3 (winL encSpan pre10 (minus_e0 out1 s_ both1) ([] : List D)))] := wpS_of hW (by refine wpS_step (rs := [5, 7]) (by kernel_rfl) rfl ⟨?_, ?_, trivial⟩; refine wpS_op (i := 5) (li' := (lv 9 127)) rfl rfl rfl rfl (by kernel_rfl) (OpA.isliceV (enc := encSpan) rfl ts23 rfl (.some rfl) (.none _) q5_0 ?_); exact wpS_to hW (s1) (Cov.asg ⟨rfl, rfl, rfl, rfl, rfl, rfl, rfl, rfl, rfl, rfl, rfl, trivial⟩) (.refl _); refine wpS_eff (i := 7) (li' := (lv 9 223)) rfl rfl rfl (by kernel_rfl) (OpA.store (e' := encSpan (Span.mk s_.path ((gi both1 0).to) s_.to)) rfl ti3 rfl (.of rfl) rfl (Nat.le_of_ble_eq_true rfl) rfl .head ?_); exact wpS_to hW (s2) (Cov.asg ⟨rfl, rfl, rfl, rfl, rfl, rfl, rfl, rfl, rfl, trivial⟩) (.refl _))
 have s4 : W 4 (lv 9 55) (asg [(4, .v (.slice none 0 0)), (5, D.i 0), (6, .own c9 3 pre10.length (minus_e0 out1 s_ both1).length), (7, (encL 3 encSpan) both1), (9, .ptr c5 3 0 0), (21, (encL 3 encSpan) a), (22, D.i (a.length : Int)), (23, D.i x), (69, .iptr (encSpan (gi both1 0)) 2), (72, (encL 3 encSpan) (lsub both1 1 (both1.length : Int)))]) [(c5, .cells 3 [encSpan s_]), (c9, .cells 3 (winL encSpan pre10 (minus_e0 out1 s_ both1) ([] : List D)))] := wpS_of hW (by refine wpS_step (rs := [3]) (by kernel_rfl) rfl ⟨?_, trivial⟩; refine wpS_op (i := 3) (li' := (lv 9 63)) rfl rfl rfl rfl (by kernel_rfl) (OpA.iload rfl ti3 rfl rfl ?_); refine wpS_firstY (fuel := 2) (i := 6) (li' := (lv 9 127)) rfl rfl (.fieldAddr rfl tf33_1 rfl) rfl rfl (by kernel_rfl) (by kernel_rfl) (by kernel_rfl) (fun _ _ _ hx => hx) rfl rfl (by kernel_rfl) ?_; exact wpS_to hW (s1) (Cov.asg ⟨rfl, rfl, rfl, rfl, rfl, rfl, rfl, rfl, rfl, rfl, rfl, trivial⟩) (.refl _))
 have s5 : W 5 (lv 9 23) (asg [(4, .v (.slice none 0 0)), (5, D.i 0), (6, .own c9 3 pre10.length (minus_e0 out1 s_ both1).length), (7, (encL 3 encSpan) both1), (9, .ptr c5 3 0 0), (21, (encL 3 encSpan) a), (22, D.i (a.length : Int)), (23, D.i x), (69, .iptr (encSpan (gi both1 0)) 2), (71, (encL 3 encSpan) both1)]) [(c5, .cells 3 [encSpan s_]), (c9, .cells 3 (winL encSpan pre10 (minus_e0 out1 s_ both1) ([] : List D)))] := wpS_of hW (by refine wpS_step (rs := [3, 5]) (by kernel_rfl) rfl ⟨?_, ?_, trivial⟩; refine wpS_op (i := 3) (li' := (lv 9 31)) rfl rfl rfl rfl (by kernel_rfl) (OpA.iload rfl ti3 rfl rfl ?_); refine wpS_firstY (fuel := 3) (i := 6) (li' := (lv 9 95)) rfl rfl (.fieldAddr rfl tf33_1 rfl) rfl rfl (by kernel_rfl) (by kernel_rfl) (by kernel_rfl) (fun _ _ _ hx => hx) rfl rfl (by kernel_rfl) ?_; exact wpS_to hW (s3) (Cov.asg ⟨rfl, rfl, rfl, rfl, rfl, rfl, rfl, rfl, rfl, rfl, rfl, trivial⟩) (.refl _); refine wpS_op (i := 5) (li' := (lv 9 55)) rfl rfl rfl rfl (by kernel_rfl) (OpA.isliceV (enc := encSpan) rfl ts23 rfl (.some rfl) (.none _) q5_0 ?_); exact wpS_to hW (s4) (Cov.asg ⟨rfl, rfl, rfl, rfl, rfl, rfl, rfl, rfl, rfl, rfl, trivial⟩) (.refl _))
 refine wpS_of hW ?_
 refine wpS_firstY (fuel := 8) (i := 0) (li' := (lv 9 1)) rfl rfl (.move rfl) rfl rfl (by kernel_rfl) (by kernel_rfl) (by kernel_rfl) (fun _ _ _ hx => hx) rfl rfl (by kernel_rfl) ?_
 refine wpS_firstY (fuel := 7) (i := 1) (li' := (lv 9 3)) rfl rfl (.iix (enc := encSpan) rfl ts23 rfl rfl rfl q1_0) rfl rfl (by kernel_rfl) (by kernel_rfl) (by kernel_rfl) (fun _ _ _ hx => hx) rfl rfl (by kernel_rfl) ?_
 refine wpS_firstY (fuel := 6) (i := 2) (li' := (lv 9 7)) rfl rfl (.ifieldAddr rfl tf33_2 rfl) rfl rfl (by kernel_rfl) (by kernel_rfl) (by kernel_rfl) (fun _ _ _ hx => hx) rfl rfl (by kernel_rfl) ?_
 refine wpS_firstY (fuel := 5) (i := 4) (li' := (lv 9 23)) rfl rfl (.move rfl) rfl rfl (by kernel_rfl) (by kernel_rfl) (by kernel_rfl) (fun _ _ _ hx => hx) rfl rfl (by kernel_rfl) ?_
 exact wpS_to hW s5 (Cov.asg ⟨rfl, rfl, rfl, rfl, rfl, rfl, rfl, rfl, rfl, rfl, trivial⟩) (.refl _)
 refine wpS_of hW (wpS_done (by kernel_rfl) ?_)
 exact ⟨(c9, pre10, ([] : List D)), ((Span.mk s_.path ((gi both1 0).to) s_.to), (minus_e0 out1 s_ both1), (lsub both1 1 (both1.length : Int))), h, (Cov.asg ⟨rfl, rfl, rfl, rfl, rfl, rfl, rfl, rfl, trivial⟩), (.refl _)⟩
 have h := h.2 (decF b8)
 refine wpA_skip ?_
 obtain ⟨q1_0, q5_0, h⟩ := h
 refine wpA_states mo (fun W hW => ?_)
 refine flip_goal (a := W 0 (lv 9 511) (asg [(4, .v (.slice none 0 0)), (5, D.i 0), (6, .own cb61 3 pre61.length out1.length), (7, (encL 3 encSpan) (lsub both1 1 (both1.length : Int))), (9, .ptr c5 3 0 0), (21, (encL 3 encSpan) a), (22, D.i (a.length : Int)), (23, D.i x)]) [(c5, .cells 3 [encSpan (Span.mk s_.path ((gi both1 0).to) s_.to)]), (cb61, .cells 3 (winL encSpan pre61 out1 post61))]) (fun s0 => ?_) ?_
 have s1 : W 2 (lv 9 127) (asg [(4, .v (.slice none 0 0)), (5, D.i 0), (6, .own cb61 3 pre61.length out1.length), (7, (encL 3 encSpan) both1), (9, .ptr c5 3 0 0), (21, (encL 3 encSpan) a), (22, D.i (a.length : Int)), (23, D.i x), (70, D.i ((gi both1 0).to)), (72, (encL 3 encSpan) (lsub both1 1 (both1.length : Int))), (73, .ptr c5 3 0 1)]) [(c5, .cells 3 [encSpan s_]), (cb61, .cells 3 (winL encSpan pre61 out1 post61))] := wpS_of hW (by refine wpS_step (rs := [7]) (by kernel_rfl) rfl ⟨?_, trivial⟩; refine wpS_eff (i := 7) (li' := (lv 9 255)) rfl rfl rfl (by kernel_rfl) (OpA.store (e' := encSpan (Span.mk s_.path ((gi both1 0).to) s_.to)) rfl ti3 rfl (.of rfl) rfl (Nat.le_of_ble_eq_true rfl) rfl .head ?_); refine wpS_firstY (fuel := 0) (i := 8) (li' := (lv 9 511)) rfl rfl (.assign rfl) rfl rfl (by kernel_rfl) (by kernel_rfl) (by kernel_rfl) (fun _ _ _ hx => hx) rfl rfl (by kernel_rfl) ?_; exact wpS_to hW (s0) (Cov.asg ⟨rfl, rfl, rfl, rfl, rfl, rfl, rfl, rfl, trivial⟩) (.refl _))
 have s2 : W 2 (lv 9 223) (asg [(4, .v (.slice none 0 0)), (5, D.i 0), (6, .own cb61 3 pre61.length out1.length), (7, (encL 3 encSpan) both1), (9, .ptr c5 3 0 0), (21, (encL 3 encSpan) a), (22, D.i (a.length : Int)), (23, D.i x), (71, (encL 3 encSpan) both1)]) [(c5, .cells 3 [encSpan (Span.mk s_.path ((gi both1 0).to) s_.to)]), (cb61, .cells 3 (winL encSpan pre61 out1 post61))] := wpS_of hW (by refine wpS_step (rs := [5]) (by kernel_rfl) rfl ⟨?_, trivial⟩; refine wpS_op (i := 5) (li' := (lv 9 255)) rfl rfl rfl rfl (by kernel_rfl) (OpA.isliceV (enc := encSpan) rfl ts23 rfl (.some rfl) (.none _) q5_0 ?_); refine wpS_firstY (fuel := 0) (i := 8) (li' := (lv 9 511)) rfl rfl (.assign rfl) rfl rfl (by kernel_rfl) (by kernel_rfl) (by kernel_rfl) (fun _ _ _ hx => hx) rfl rfl (by kernel_rfl) ?_; exact wpS_to hW (s0) (Cov.asg ⟨rfl, rfl, rfl, rfl, rfl, rfl, rfl, rfl, trivial⟩) (.refl _))
 have s3 : W 3 (lv 9 95) (asg [(4, .v (.slice none 0 0)), (5, D.i 0), (6, .own cb61 3 pre61.length out1.length), (7, (encL 3 encSpan) both1), (9, .ptr c5 3 0 0), (21, (encL 3 encSpan) a), (22, D.i (a.length : Int)), (23, D.i x), (70, D.i ((gi both1 0).to)), (71, (encL 3 encSpan) both1), (73, .ptr c5 3 0 1)]) [(c5, .cells 3 [encSpan s_]), (cb61, .cells 3 (winL encSpan pre61 out1 post61))] := wpS_of hW (by refine wpS_step (rs := [5, 7]) (by kernel_rfl) rfl ⟨?_, ?_, trivial⟩; refine wpS_op (i := 5) (li' := (lv 9 127)) rfl rfl rfl rfl (by kernel_rfl) (OpA.isliceV (enc := encSpan) rfl ts23 rfl (.some rfl) (.none _) q5_0 ?_); exact wpS_to hW (s1) (Cov.asg ⟨rfl, rfl, rfl, rfl, rfl, rfl, rfl, rfl, rfl, rfl, rfl, trivial⟩) (.refl _); refine wpS_eff (i := 7) (li' := (lv 9 223)) rfl rfl rfl (by kernel_rfl) (OpA.store (e' := encSpan (Span.mk s_.path ((gi both1 0).to) s_.to)) rfl ti3 rfl (.of rfl) rfl (Nat.le_of_ble_eq_true rfl) rfl .head ?_); exact wpS_to hW (s2) (Cov.asg ⟨rfl, rfl, rfl, rfl, rfl, rfl, rfl, rfl, rfl, trivial⟩) (.refl _))
 have s4 : W 4 (lv 9 55) (asg [(4, .v (.slice none 0 0)), (5, D.i 0), (6, .own cb61 3 pre61.length out1.length), (7, (encL 3 encSpan) both1), (9, .ptr c5 3 0 0), (21, (encL 3 encSpan) a), (22, D.i (a.length : Int)), (23, D.i x), (69, .iptr (encSpan (gi both1 0)) 2), (72, (encL 3 encSpan) (lsub both1 1 (both1.length : Int)))]) [(c5, .cells 3 [encSpan s_]), (cb61, .cells 3 (winL encSpan pre61 out1 post61))] := wpS_of hW (by refine wpS_step (rs := [3]) (by kernel_rfl) rfl ⟨?_, trivial⟩; refine wpS_op (i := 3) (li' := (lv 9 63)) rfl rfl rfl rfl (by kernel_rfl) (OpA.iload rfl ti3 rfl rfl ?_); refine wpS_firstY (fuel := 2) (i := 6) (li' := (lv 9 127)) rfl rfl (.fieldAddr rfl tf33_1 rfl) rfl rfl (by kernel_rfl) (by kernel_rfl) (by kernel_rfl) (fun _ _ _ hx => hx) rfl rfl (by kernel_rfl) ?_; exact wpS_to hW (s1) (Cov.asg ⟨rfl, rfl, rfl, rfl, rfl, rfl, rfl, rfl, rfl, rfl, rfl, trivial⟩) (.refl _))
 have s5 : W 5 (lv 9 23) (asg [(4, .v (.slice none 0 0)), (5, D.i 0), (6, .own cb61 3 pre61.length out1.length), (7, (encL 3 encSpan) both1), (9, .ptr c5 3 0 0), (21, (encL 3 encSpan) a), (22, D.i (a.length : Int)), (23, D.i x), (69, .iptr (encSpan (gi both1 0)) 2), (71, (encL 3 encSpan) both1)]) [(c5, .cells 3 [encSpan s_]), (cb61, .cells 3 (winL encSpan pre61 out1 post61))] := wpS_of hW (by refine wpS_step (rs := [3, 5]) (by kernel_rfl) rfl ⟨?_, ?_, trivial⟩; refine wpS_op (i := 3) (li' := (lv 9 31)) rfl rfl rfl rfl (by kernel_rfl) (OpA.iload rfl ti3 rfl rfl ?_); refine wpS_firstY (fuel := 3) (i := 6) (li' := (lv 9 95)) rfl rfl (.fieldAddr rfl tf33_1 rfl) rfl rfl (by kernel_rfl) (by kernel_rfl) (by kernel_rfl) (fun _ _ _ hx => hx) rfl rfl (by kernel_rfl) ?_; exact wpS_to hW (s3) (Cov.asg ⟨rfl, rfl, rfl, rfl, rfl, rfl, rfl, rfl, rfl, rfl, rfl, trivial⟩) (.refl _); refine wpS_op (i := 5) (li' := (lv 9 55)) rfl rfl rfl rfl (by kernel_rfl) (OpA.isliceV (enc := encSpan) rfl ts23 rfl (.some rfl) (.none _) q5_0 ?_); exact wpS_to hW (s4) (Cov.asg ⟨rfl, rfl, rfl, rfl, rfl, rfl, rfl, rfl, rfl, rfl, trivial⟩) (.refl _))
 refine wpS_of hW ?_
 refine wpS_firstY (fuel := 8) (i := 0) (li' := (lv 9 1)) rfl rfl (.move rfl) rfl rfl (by kernel_rfl) (by kernel_rfl) (by kernel_rfl) (fun _ _ _ hx => hx) rfl rfl (by kernel_rfl) ?_
 refine wpS_firstY (fuel := 7) (i := 1) (li' := (lv 9 3)) rfl rfl (.iix (enc := encSpan) rfl ts23 rfl rfl rfl q1_0) rfl rfl (by kernel_rfl) (by kernel_rfl) (by kernel_rfl) (fun _ _ _ hx => hx) rfl rfl (by kernel_rfl) ?_
 refine wpS_firstY (fuel := 6) (i := 2) (li' := (lv 9 7)) rfl rfl (.ifieldAddr rfl tf33_2 rfl) rfl rfl (by kernel_rfl) (by kernel_rfl) (by kernel_rfl) (fun _ _ _ hx => hx) rfl rfl (by kernel_rfl) ?_
 refine wpS_firstY (fuel := 5) (i := 4) (li' := (lv 9 23)) rfl rfl (.move rfl) rfl rfl (by kernel_rfl) (by kernel_rfl) (by kernel_rfl) (fun _ _ _ hx => hx) rfl rfl (by kernel_rfl) ?_
 exact wpS_to hW s5 (Cov.asg ⟨rfl, rfl, rfl, rfl, rfl, rfl, rfl, rfl, rfl, rfl, trivial⟩) (.refl _)
 refine wpS_of hW (wpS_done (by kernel_rfl) ?_)
 exact ⟨(cb61, pre61, post61), ((Span.mk s_.path ((gi both1 0).to) s_.to), out1, (lsub both1 1 (both1.length : Int))), h, (Cov.asg ⟨rfl, rfl, rfl, rfl, rfl, rfl, rfl, rfl, trivial⟩), (.refl _)⟩
 have h := h.2 ((and0 b7).imp (fun hh => ((and0 hh).imp (fun hh => (decF hh)) (fun hh => (decF hh)))) (fun hh => (decF hh)))
 refine wpA_exit ?_
 refine wpA_seq ?_
 refine wpA_region ?_
 refine wL (OpA.fieldAddr rfl tf33_1 rfl ?_)
 refine wL (OpA.load rfl ti3 rfl .head rfl rfl ?_)
 refine wL (OpA.fieldAddr rfl tf33_2 rfl ?_)
 refine wL (OpA.load rfl ti3 rfl .head rfl rfl ?_)
 refine wL (OpA.lss rfl rfl rfl ?_)
 refine wpL_nil ?_
 refine wpA_cond rfl (fun b231 => ?_) (fun b231 => ?_)
 have h := h.1 (decT b231)
 obtain ⟨q1, h⟩ := h
 refine wpA_region ?_
 refine wL (OpA.m ?_)
 refine wL (OpA.load_whole rfl ti33 rfl rfl .head rfl ⟨_, rfl⟩ ?_)
 refine wL (OpA.ibuildSliceO rfl ts23 rfl (.cons (.of (sz := 3) rfl) .nil) (by decide) ?_)
 refine wL (OpA.appendW (enc := encSpan) rfl rfl rfl rfl ts23 rfl (fun _ _ => (.tail .head)) (.list (ys := ([s_] : List Span))) q1 (fun c232 pre233 => ?_))
 refine wL (OpA.a ?_)
 refine wpL_nil ?_
 obtain ⟨q1, h⟩ := h
 refine wpA_region ?_
 refine wL (OpA.addi rfl rfl rfl q1 ?_)
 refine wL (OpA.m ?_)
 refine wpL_nil ?_
 exact ⟨(c232, pre233, ([] : List D)), ((out1 ++ ([s_] : List Span)), both1, (x + 1)), h, (Cov.asg ⟨rfl, rfl, rfl, rfl, rfl, rfl, rfl, trivial⟩), (.cons _ (.refl _))⟩
 have h := h.2 (decF b231)
 refine wpA_skip ?_
 obtain ⟨q1, h⟩ := h
 refine wpA_region ?_
 refine wL (OpA.addi rfl rfl rfl q1 ?_)
 refine wL (OpA.m ?_)
 refine wpL_nil ?_
 exact ⟨(cb61, pre61, post61), (out1, both1, (x + 1)), h, (Cov.asg ⟨rfl, rfl, rfl, rfl, rfl, rfl, rfl, trivial⟩), (.cons _ (.refl _))⟩
 have h := h.2 (decF b4)
 refine wpA_exit ?_
 refine wpA_seq ?_
 refine wpA_region ?_
 refine wL (OpA.m ?_)
 iterate 2 refine wL (OpA.a ?_)
 refine wpL_nil ?_
 refine wpA_ret ?_
 exact ⟨_, (.tmp (d := .own cb6 3 pre6.length out.length) rfl (.tmp (d := D.i 0) rfl .nil)), _, (.tup (.win .head (by intro hf; cases hf) (.same rfl .nil)) .nil), ⟨(out, 0), rfl, h⟩⟩
theorem minus_c (a : (List Span)) (b : (List Span)) (hp0 : a.length ≤ 100000) (hp1 : b.length ≤ 100000) (hp2 : ∀ z_ ∈ a, z_.path.size ≤ 1000000) (hp3 : ∀ z_ ∈ b, z_.path.size ≤ 1000000) : Fun false Tryz.prog 17 [(encL 3 encSpan) a, (encL 3 encSpan) b] (fun d => d = .tup [(encL 3 encSpan) ((minusF a b).1), D.i ((minusF a b).2)]) :=
 Fun.at (enc := fun r => .tup [(encL 3 encSpan) (r.1), D.i (r.2)]) (v := minusF a b) (minus_w a b  (fun r => r = minusF a b) (minus_ok a b _ hp0 hp1 hp2 hp3 rfl))
theorem rfew_w (l : (List Span)) (Q : Bool → Prop) (h : rfew_vc l Q) : Fun false Tryz.prog 6 [(encL 3 encSpan) l] (fun d => ∃ r, d = D.b r ∧ Q r) := by
 unfold rfew_vc at h
 refine Fun.of_body Tryz.func6 rfl Tryz.ntmps6 rfl ?_
 refine wpA_seq ?_
 refine wpA_region ?_
 refine wL (OpA.a ?_)
 refine wpL_nil ?_
 iterate 2 refine wpA_seq ?_
 refine wpA_region ?_
 refine wL (OpA.m ?_)
 refine wL (OpA.len rfl rfl rfl rfl ts23.desc (.inl ⟨_, _, rfl, (List.length_map _).symm⟩) ?_)
 refine wL (OpA.gtr rfl rfl rfl ?_)
 refine wpL_nil ?_
 refine wpA_cond rfl (fun b1 => ?_) (fun b1 => ?_)
 have h := h.1 (decT b1)
 refine wpA_seq ?_
 refine wpA_region ?_
 refine wL (OpA.a ?_)
 refine wpL_nil ?_
 refine wpA_ret ?_
 exact ⟨_, (.tmp (d := D.b false) rfl .nil), _, (.same rfl .nil), ⟨false, rfl, h⟩⟩
 have h := h.2 (decF b1)
 refine wpA_skip ?_
 iterate 2 refine wpA_seq ?_
 refine wpA_region ?_
 refine wL (OpA.a ?_)
 refine wpL_nil ?_
 refine wpA_block ?_
 refine wpA_lfp (S := Int) (G := Unit) () (fun gg ss => asg [(0, (encL 3 encSpan) l), (2, D.b false), (3, D.i ss)]) (fun gg ss => []) h (Cov.asg ⟨rfl, rfl, rfl, trivial⟩) (.refl _) ?_
 rintro again2 _ i h
 have h : rfew_L1 l Q again2 i := h
 unfold rfew_L1 at h
 show wpA _ _ _ _ (asg [(0, (encL 3 encSpan) l), (2, D.b false), (3, D.i i)]) []
 iterate 2 refine wpA_seq ?_
 refine wpA_region ?_
 iterate 2 refine wL (OpA.m ?_)
 refine wL (OpA.len rfl rfl rfl rfl ts23.desc (.inl ⟨_, _, rfl, (List.length_map _).symm⟩) ?_)
 refine wL (OpA.lss rfl rfl rfl ?_)
 refine wpL_nil ?_
 refine wpA_cond rfl (fun b3 => ?_) (fun b3 => ?_)
 have h := h.1 (decT b3)
 refine wpA_skip ?_
 refine wpA_seq ?_
 refine wpA_block ?_
 refine wpA_seq ?_
 obtain ⟨q1, h⟩ := h
 refine wpA_region ?_
 iterate 2 refine wL (OpA.m ?_)
 refine wL (OpA.iixV (enc := encSpan) rfl ts23 rfl rfl rfl q1 ?_)
 refine wL (OpA.ifieldAddr rfl tf33_0 rfl ?_)
 refine wL (OpA.iload rfl ti9 rfl rfl ?_)
 refine wL (OpA.slen rfl rfl rfl rfl td9 rfl ?_)
 refine wL (OpA.gtr rfl rfl rfl ?_)
 refine wpL_nil ?_
 refine wpA_cond rfl (fun b4 => ?_) (fun b4 => ?_)
 have h := h.1 (decT b4)
 refine wpA_seq ?_
 refine wpA_region ?_
 refine wL (OpA.a ?_)
 refine wpL_nil ?_
 refine wpA_ret ?_
 exact ⟨_, (.tmp (d := D.b false) rfl .nil), _, (.same rfl .nil), ⟨false, rfl, h⟩⟩
 have h := h.2 (decF b4)
 refine wpA_skip ?_
 obtain ⟨q1, h⟩ := h
 refine wpA_region ?_
 refine wL (OpA.m ?_)
 refine wL (OpA.addi rfl rfl rfl q1 ?_)
 refine wL (OpA.a ?_)
 refine wpL_nil ?_
 exact ⟨(), (i + 1), h, (Cov.asg ⟨rfl, rfl, rfl, trivial⟩), (.refl _)⟩
 have h := h.2 (decF b3)
 refine wpA_exit ?_
 refine wpA_seq ?_
 refine wpA_region ?_
 refine wL (OpA.a ?_)
 refine wpL_nil ?_
 refine wpA_ret ?_
 exact ⟨_, (.tmp (d := D.b true) rfl .nil), _, (.same rfl .nil), ⟨true, rfl, h⟩⟩
theorem rfew_c (l : (List Span))  : Fun false Tryz.prog 6 [(encL 3 encSpan) l] (fun d => d = D.b (fewF l)) :=
 Fun.at (enc := fun r => D.b r) (v := fewF l) (rfew_w l  (fun r => r = fewF l) (rfew_ok l _  rfl))
theorem eqSpans_w (s1 : (List Span)) (s2 : (List Span)) (Q : Bool → Prop) (h : eqSpans_vc s1 s2 Q) : Fun false Tryz.prog 11 [(encL 3 encSpan) s1, (encL 3 encSpan) s2] (fun d => ∃ r, d = D.b r ∧ Q r) := by
 unfold eqSpans_vc at h
 refine Fun.of_body Tryz.func11 rfl Tryz.ntmps11 rfl ?_
 refine wpA_seq ?_
 refine wpA_region ?_
 refine wL (OpA.a ?_)
 refine wpL_nil ?_
 iterate 2 refine wpA_seq ?_
 refine wpA_region ?_
 refine wL (OpA.m ?_)
 refine wL (OpA.len rfl rfl rfl rfl ts23.desc (.inl ⟨_, _, rfl, (List.length_map _).symm⟩) ?_)
 refine wL (OpA.m ?_)
 refine wL (OpA.len rfl rfl rfl rfl ts23.desc (.inl ⟨_, _, rfl, (List.length_map _).symm⟩) ?_)
 refine wL (OpA.neq rfl rfl rfl ?_)
 refine wpL_nil ?_
 refine wpA_cond rfl (fun b1 => ?_) (fun b1 => ?_)
 have h := h.1 (bneT b1)
 refine wpA_seq ?_
 refine wpA_region ?_
 refine wL (OpA.a ?_)
 refine wpL_nil ?_
 refine wpA_ret ?_
 exact ⟨_, (.tmp (d := D.b false) rfl .nil), _, (.same rfl .nil), ⟨false, rfl, h⟩⟩
 have h := h.2 (bneF b1)
 refine wpA_skip ?_
 iterate 2 refine wpA_seq ?_
 refine wpA_region ?_
 refine wL (OpA.m ?_)
 refine wL (OpA.len rfl rfl rfl rfl ts23.desc (.inl ⟨_, _, rfl, (List.length_map _).symm⟩) ?_)
 refine wL (OpA.m ?_)
 refine wpL_nil ?_
 refine wpA_block ?_
 refine wpA_lfp (S := Int) (G := Unit) () (fun gg ss => asg [(0, (encL 3 encSpan) s1), (1, (encL 3 encSpan) s2), (4, D.b false), (12, D.i (s1.length : Int)), (13, D.i ss)]) (fun gg ss => []) h (Cov.asg ⟨rfl, rfl, rfl, rfl, rfl, trivial⟩) (.refl _) ?_
 rintro again2 _ x h
 have h : eqSpans_L1 s1 s2 Q again2 x := h
 unfold eqSpans_L1 at h
 show wpA _ _ _ _ (asg [(0, (encL 3 encSpan) s1), (1, (encL 3 encSpan) s2), (4, D.b false), (12, D.i (s1.length : Int)), (13, D.i x)]) []
 refine wpA_seq ?_
 refine wpA_region ?_
 refine wL (OpA.lss rfl rfl rfl ?_)
 refine wpL_nil ?_
 refine wpA_seq ?_
 refine wpA_cond rfl (fun b3 => ?_) (fun b3 => ?_)
 have h := h.1 (decT b3)
 refine wpA_skip ?_
 refine wpA_seq ?_
 refine wpA_block ?_
 refine wpA_seq ?_
 refine wpA_region ?_
 refine wL (OpA.m ?_)
 refine wL (OpA.a ?_)
 refine wpL_nil ?_
 refine wpA_seq ?_
 obtain ⟨q1, q2, h⟩ := h
 refine wpA_draw (m := 9) mo (by kernel_rfl) rfl ?_
 iterate 2 refine dL (OpA.m ⟨rfl, rfl⟩) ?_
 refine dL (OpA.iixV (enc := encSpan) rfl ts23 rfl rfl rfl q1 ⟨rfl, rfl⟩) ?_
 refine dL (OpA.iload_whole rfl ti33 rfl ⟨_, rfl, rfl⟩ ⟨rfl, rfl⟩) ?_
 iterate 2 refine dL (OpA.m ⟨rfl, rfl⟩) ?_
 refine dL (OpA.iixV (enc := encSpan) rfl ts23 rfl rfl rfl q2 ⟨rfl, rfl⟩) ?_
 refine dL (OpA.iload_whole rfl ti33 rfl ⟨_, rfl, rfl⟩ ⟨rfl, rfl⟩) ?_
 refine dL (OpA.structcmp (xs := [.string ((gi s1 x).path), .int .i64 ((gi s1 x).from_), .int .i64 ((gi s1 x).to)]) (ys := [.string ((gi s2 x).path), .int .i64 ((gi s2 x).from_), .int .i64 ((gi s2 x).to)]) (r := (eqSpan (gi s1 x) (gi s2 x))) rfl eg33 su33.1 su33.2.1 su33.2.2 rfl rfl (.str td9 ti9 rfl rfl (.int td3 ti3 rfl rfl (.int td3 ti3 rfl rfl .nil))) (.inr ⟨rfl, rfl⟩) ⟨rfl, rfl⟩) ?_
 refine DetK.nil ?_
 refine wpL_nil ?_
 refine wpA_cond rfl (fun b4 => ?_) (fun b4 => ?_)
 have h := h.1 (notT b4)
 refine wpA_seq ?_
 refine wpA_region ?_
 refine wL (OpA.a ?_)
 refine wpL_nil ?_
 refine wpA_ret ?_
 exact ⟨_, (.tmp (d := D.b false) rfl .nil), _, (.same rfl .nil), ⟨false, rfl, h⟩⟩
 have h := h.2 (notF b4)
 refine wpA_skip ?_
 obtain ⟨q1, h⟩ := h
 refine wpA_region ?_
 refine wL (OpA.addi rfl rfl rfl q1 ?_)
 refine wL (OpA.m ?_)
 refine wpL_nil ?_
 exact ⟨(), (x + 1), h, (Cov.asg ⟨rfl, rfl, rfl, rfl, rfl, trivial⟩), (.refl _)⟩
 have h := h.2 (decF b3)
 refine wpA_exit ?_
 refine wpA_seq ?_
 refine wpA_region ?_
 refine wL (OpA.a ?_)
 refine wpL_nil ?_
 refine wpA_ret ?_
 exact ⟨_, (.tmp (d := D.b true) rfl .nil), _, (.same rfl .nil), ⟨true, rfl, h⟩⟩
theorem eqSpans_c (s1 : (List Span)) (s2 : (List Span)) (hp0 : s1.length ≤ 9223372036854775807) : Fun false Tryz.prog 11 [(encL 3 encSpan) s1, (encL 3 encSpan) s2] (fun d => d = D.b ((decide (s1 = s2)))) :=
 Fun.at (enc := fun r => D.b r) (v := (decide (s1 = s2))) (eqSpans_w s1 s2  (fun r => r = (decide (s1 = s2))) (eqSpans_ok s1 s2 _ hp0 rfl))
abbrev awake_e0 := (ofF ([(Line.mk (⟨#[97, 47, 120]⟩ : ByteArray) 3), (Line.mk (⟨#[97, 47, 121]⟩ : ByteArray) 0), (Line.mk (⟨#[97, 47, 120]⟩ : ByteArray) 1), (Line.mk (⟨#[97, 47, 120]⟩ : ByteArray) 2)] : List Line))
abbrev awake_e1 := (((((((((((awake_e0.2) == 0) && (((minusF (awake_e0.1) ([(Span.mk (⟨#[97, 47, 120]⟩ : ByteArray) 2 3)] : List Span)).2) == 0)) && (((printF (awake_e0.1)).2) == 0)) && (((underF (awake_e0.1) (⟨#[97, 47, 120]⟩ : ByteArray)).2) == 0)) && ((((underF (awake_e0.1) (⟨#[97, 47, 120]⟩ : ByteArray)).1).length : Int) == 0)) && ((countL (awake_e0.1)) == 4)) && (decide ((printF (awake_e0.1)).1 = (⟨#[97, 47, 120, 32, 49, 32, 52, 10, 97, 47, 121, 32, 48, 32, 49, 10]⟩ : ByteArray)))) && ((((minusF (awake_e0.1) ([(Span.mk (⟨#[97, 47, 120]⟩ : ByteArray) 2 3)] : List Span)).1).length : Int) == 3)) && (eqSpan (gi ((minusF (awake_e0.1) ([(Span.mk (⟨#[97, 47, 120]⟩ : ByteArray) 2 3)] : List Span)).1) 1) (Span.mk (⟨#[97, 47, 120]⟩ : ByteArray) 3 4))) && (hasF (awake_e0.1) (Line.mk (⟨#[97, 47, 121]⟩ : ByteArray) 0)))
theorem awake_w  (Q : Bool → Prop) (h : awake_vc  Q) : Fun false Tryz.prog 5 [] (fun d => ∃ r, d = D.b r ∧ Q r) := by
 unfold awake_vc at h
 refine Fun.of_body Tryz.func5 rfl Tryz.ntmps5 rfl ?_
 refine wpA_seq ?_
 refine wpA_region ?_
 refine wL (OpA.a ?_)
 refine wpL_nil ?_
 refine wpA_seq ?_
 obtain ⟨q1, q2, h⟩ := h
 refine wpA_region ?_
 refine wL (OpA.buildO (zs := [.v (.string ⟨#[]⟩), .v (.int .i64 0)]) rfl tp40 tz40 (fun _ _ => (.cons (.v _) (.cons (.v _) .nil))) (.cons (.of (sz := 1) rfl) (.cons (.of (sz := 1) rfl) .nil)) rfl ?_)
 refine wL (OpA.buildO (zs := [.v (.string ⟨#[]⟩), .v (.int .i64 0)]) rfl tp40 tz40 (fun _ _ => (.cons (.v _) (.cons (.v _) .nil))) (.cons (.of (sz := 1) rfl) .nil) rfl ?_)
 iterate 2 refine wL (OpA.buildO (zs := [.v (.string ⟨#[]⟩), .v (.int .i64 0)]) rfl tp40 tz40 (fun _ _ => (.cons (.v _) (.cons (.v _) .nil))) (.cons (.of (sz := 1) rfl) (.cons (.of (sz := 1) rfl) .nil)) rfl ?_)
 refine wL (OpA.ibuildSliceO rfl ts36 rfl (.cons (.of (sz := 2) rfl) (.cons (.of (sz := 2) rfl) (.cons (.of (sz := 2) rfl) (.cons (.of (sz := 2) rfl) .nil)))) (by decide) ?_)
 refine wL (OpA.call rfl rfl rfl en16 (of_c ([(Line.mk (⟨#[97, 47, 120]⟩ : ByteArray) 3), (Line.mk (⟨#[97, 47, 121]⟩ : ByteArray) 0), (Line.mk (⟨#[97, 47, 120]⟩ : ByteArray) 1), (Line.mk (⟨#[97, 47, 120]⟩ : ByteArray) 2)] : List Line) q1 q2) ?_)
 rintro _ rfl
 refine wL (OpA.m ?_)
 iterate 2 refine wL (OpA.extract rfl rfl rfl ?_)
 iterate 2 refine wL (OpA.a ?_)
 refine wpL_nil ?_
 refine wpA_seq ?_
 obtain ⟨q1, q2, q3, q4, h⟩ := h
 refine wpA_region ?_
 refine wL (OpA.m ?_)
 refine wL (OpA.buildO (zs := [.v (.string ⟨#[]⟩), .v (.int .i64 0), .v (.int .i64 0)]) rfl tp33 tz33 (fun _ _ => (.cons (.v _) (.cons (.v _) (.cons (.v _) .nil)))) (.cons (.of (sz := 1) rfl) (.cons (.of (sz := 1) rfl) (.cons (.of (sz := 1) rfl) .nil))) rfl ?_)
 refine wL (OpA.ibuildSliceO rfl ts23 rfl (.cons (.of (sz := 3) rfl) .nil) (by decide) ?_)
 refine wL (OpA.call rfl rfl rfl en17 (minus_c (awake_e0.1) ([(Span.mk (⟨#[97, 47, 120]⟩ : ByteArray) 2 3)] : List Span) q1 q2 q3 q4) ?_)
 rintro _ rfl
 refine wL (OpA.m ?_)
 iterate 2 refine wL (OpA.extract rfl rfl rfl ?_)
 iterate 2 refine wL (OpA.a ?_)
 refine wpL_nil ?_
 refine wpA_seq ?_
 obtain ⟨q1, q2, h⟩ := h
 refine wpA_region ?_
 refine wL (OpA.m ?_)
 refine wL (OpA.call rfl rfl rfl en7 (print_c (awake_e0.1) q1 q2) ?_)
 rintro _ rfl
 refine wL (OpA.m ?_)
 iterate 2 refine wL (OpA.extract rfl rfl rfl ?_)
 iterate 2 refine wL (OpA.a ?_)
 refine wpL_nil ?_
 refine wpA_seq ?_
 obtain ⟨q1, q2, q3, h⟩ := h
 refine wpA_region ?_
 refine wL (OpA.m ?_)
 refine wL (OpA.call rfl rfl rfl en18 (under_c (awake_e0.1) (⟨#[97, 47, 120]⟩ : ByteArray) q1 q2 q3) ?_)
 rintro _ rfl
 refine wL (OpA.m ?_)
 iterate 2 refine wL (OpA.extract rfl rfl rfl ?_)
 iterate 2 refine wL (OpA.a ?_)
 refine wpL_nil ?_
 refine wpA_seq ?_
 obtain ⟨q1, q2, q3, h⟩ := h
 refine wpA_mid (asg [(0, D.b awake_e1)]) [] ?_ ?_
 refine wpA_region ?_
 refine wL (OpA.m ?_)
 refine wL (OpA.eql rfl rfl rfl ?_)
 refine wL (OpA.m ?_)
 refine wpL_split (s := 37) rfl (fun b1 => ?_) (fun b1 => ?_)
 refine wG (OpA.m ?_)
 refine wG (OpA.eql rfl rfl rfl ?_)
 refine wL (OpA.p ?_)
 refine wL (OpA.m ?_)
 refine wpL_split (s := 41) rfl (fun b2 => ?_) (fun b2 => ?_)
 refine wG (OpA.m ?_)
 refine wG (OpA.eql rfl rfl rfl ?_)
 refine wL (OpA.p ?_)
 refine wL (OpA.m ?_)
 refine wpL_split (s := 45) rfl (fun b3 => ?_) (fun b3 => ?_)
 refine wG (OpA.m ?_)
 refine wG (OpA.eql rfl rfl rfl ?_)
 refine wL (OpA.p ?_)
 refine wL (OpA.m ?_)
 refine wpL_split (s := 49) rfl (fun b4 => ?_) (fun b4 => ?_)
 refine wG (OpA.m ?_)
 refine wG (OpA.len rfl rfl rfl rfl ts23.desc (.inl ⟨_, _, rfl, (List.length_map _).symm⟩) ?_)
 refine wG (OpA.eql rfl rfl rfl ?_)
 refine wL (OpA.p ?_)
 refine wL (OpA.m ?_)
 refine wpL_split (s := 54) rfl (fun b5 => ?_) (fun b5 => ?_)
 refine wG (OpA.m ?_)
 refine wG (OpA.call rfl rfl rfl en13 (count_c (awake_e0.1) (q1 ⟨⟨⟨⟨(beqT b1), (beqT b2)⟩, (beqT b3)⟩, (beqT b4)⟩, (beqT b5)⟩).1 (q1 ⟨⟨⟨⟨(beqT b1), (beqT b2)⟩, (beqT b3)⟩, (beqT b4)⟩, (beqT b5)⟩).2) ?_)
 rintro _ rfl
 refine wG (OpA.eql rfl rfl rfl ?_)
 refine wL (OpA.p ?_)
 refine wL (OpA.m ?_)
 refine wpL_split (s := 59) rfl (fun b6 => ?_) (fun b6 => ?_)
 refine wG (OpA.m ?_)
 refine wG (OpA.seql rfl rfl rfl ?_)
 refine wL (OpA.p ?_)
 refine wL (OpA.m ?_)
 refine wpL_split (s := 63) rfl (fun b7 => ?_) (fun b7 => ?_)
 refine wG (OpA.m ?_)
 refine wG (OpA.len rfl rfl rfl rfl ts23.desc (.inl ⟨_, _, rfl, (List.length_map _).symm⟩) ?_)
 refine wG (OpA.eql rfl rfl rfl ?_)
 refine wL (OpA.p ?_)
 refine wL (OpA.m ?_)
 refine wpL_split (s := 68) rfl (fun b8 => ?_) (fun b8 => ?_)
 refine wG (OpA.m ?_)
 refine wG (OpA.iixV (enc := encSpan) rfl ts23 rfl rfl rfl (q2 ⟨⟨⟨⟨⟨⟨⟨(beqT b1), (beqT b2)⟩, (beqT b3)⟩, (beqT b4)⟩, (beqT b5)⟩, (beqT b6)⟩, (decT b7)⟩, (beqT b8)⟩) ?_)
 refine wG (OpA.iload_whole rfl ti33 rfl ⟨_, rfl, rfl⟩ ?_)
 refine wG (OpA.buildO (zs := [.v (.string ⟨#[]⟩), .v (.int .i64 0), .v (.int .i64 0)]) rfl tp33 tz33 (fun _ _ => (.cons (.v _) (.cons (.v _) (.cons (.v _) .nil)))) (.cons (.of (sz := 1) rfl) (.cons (.of (sz := 1) rfl) (.cons (.of (sz := 1) rfl) .nil))) rfl ?_)
 refine wG (OpA.structcmp (xs := [.string ((gi ((minusF (awake_e0.1) ([(Span.mk (⟨#[97, 47, 120]⟩ : ByteArray) 2 3)] : List Span)).1) 1).path), .int .i64 ((gi ((minusF (awake_e0.1) ([(Span.mk (⟨#[97, 47, 120]⟩ : ByteArray) 2 3)] : List Span)).1) 1).from_), .int .i64 ((gi ((minusF (awake_e0.1) ([(Span.mk (⟨#[97, 47, 120]⟩ : ByteArray) 2 3)] : List Span)).1) 1).to)]) (ys := [.string (⟨#[97, 47, 120]⟩ : ByteArray), .int .i64 3, .int .i64 4]) (r := (eqSpan (gi ((minusF (awake_e0.1) ([(Span.mk (⟨#[97, 47, 120]⟩ : ByteArray) 2 3)] : List Span)).1) 1) (Span.mk (⟨#[97, 47, 120]⟩ : ByteArray) 3 4))) rfl eg33 su33.1 su33.2.1 su33.2.2 rfl rfl (.str td9 ti9 rfl rfl (.int td3 ti3 rfl rfl (.int td3 ti3 rfl rfl .nil))) (.inl ⟨rfl, rfl⟩) ?_)
 refine wL (OpA.p ?_)
 refine wL (OpA.m ?_)
 refine wpL_split (s := 75) rfl (fun b9 => ?_) (fun b9 => ?_)
 refine wG (OpA.m ?_)
 refine wG (OpA.buildO (zs := [.v (.string ⟨#[]⟩), .v (.int .i64 0)]) rfl tp40 tz40 (fun _ _ => (.cons (.v _) (.cons (.v _) .nil))) (.cons (.of (sz := 1) rfl) .nil) rfl ?_)
 refine wG (OpA.call rfl rfl rfl en19 (has_c (awake_e0.1) (Line.mk (⟨#[97, 47, 121]⟩ : ByteArray) 0) (q3 ⟨⟨⟨⟨⟨⟨⟨⟨(beqT b1), (beqT b2)⟩, (beqT b3)⟩, (beqT b4)⟩, (beqT b5)⟩, (beqT b6)⟩, (decT b7)⟩, (beqT b8)⟩, b9⟩).1 (q3 ⟨⟨⟨⟨⟨⟨⟨⟨(beqT b1), (beqT b2)⟩, (beqT b3)⟩, (beqT b4)⟩, (beqT b5)⟩, (beqT b6)⟩, (decT b7)⟩, (beqT b8)⟩, b9⟩).2) ?_)
 rintro _ rfl
 refine wL (OpA.p ?_)
 refine wL (OpA.a ?_)
 refine wpL_nil ?_
 exact ⟨(Cov.asg ⟨(congrArg D.b (Eq.symm (andN (andN (andN (andN (andN (andN (andN (andN (andN b1 b2) b3) b4) b5) b6) b7) b8) b9) rfl))), trivial⟩), (.refl _)⟩
 iterate 3 refine wS ?_
 refine wL (OpA.p ?_)
 refine wL (OpA.a ?_)
 refine wpL_nil ?_
 exact ⟨(Cov.asg ⟨(congrArg D.b (Eq.symm (andS (andN (andN (andN (andN (andN (andN (andN (andN b1 b2) b3) b4) b5) b6) b7) b8) b9)))), trivial⟩), (.refl _)⟩
 iterate 5 refine wS ?_
 refine wL (OpA.p ?_)
 refine wL (OpA.m ?_)
 iterate 3 refine wS ?_
 refine wL (OpA.p ?_)
 refine wL (OpA.a ?_)
 refine wpL_nil ?_
 exact ⟨(Cov.asg ⟨(congrArg D.b (Eq.symm (andS (andS (andN (andN (andN (andN (andN (andN (andN b1 b2) b3) b4) b5) b6) b7) b8))))), trivial⟩), (.refl _)⟩
 iterate 3 refine wS ?_
 refine wL (OpA.p ?_)
 refine wL (OpA.m ?_)
 iterate 5 refine wS ?_
 refine wL (OpA.p ?_)
 refine wL (OpA.m ?_)
 iterate 3 refine wS ?_
 refine wL (OpA.p ?_)
 refine wL (OpA.a ?_)
 refine wpL_nil ?_
 exact ⟨(Cov.asg ⟨(congrArg D.b (Eq.symm (andS (andS (andS (andN (andN (andN (andN (andN (andN b1 b2) b3) b4) b5) b6) b7)))))), trivial⟩), (.refl _)⟩
 iterate 2 refine wS ?_
 refine wL (OpA.p ?_)
 refine wL (OpA.m ?_)
 iterate 3 refine wS ?_
 refine wL (OpA.p ?_)
 refine wL (OpA.m ?_)
 iterate 5 refine wS ?_
 refine wL (OpA.p ?_)
 refine wL (OpA.m ?_)
 iterate 3 refine wS ?_
 refine wL (OpA.p ?_)
 refine wL (OpA.a ?_)
 refine wpL_nil ?_
 exact ⟨(Cov.asg ⟨(congrArg D.b (Eq.symm (andS (andS (andS (andS (andN (andN (andN (andN (andN b1 b2) b3) b4) b5) b6))))))), trivial⟩), (.refl _)⟩
 iterate 3 refine wS ?_
 refine wL (OpA.p ?_)
 refine wL (OpA.m ?_)
 iterate 2 refine wS ?_
 refine wL (OpA.p ?_)
 refine wL (OpA.m ?_)
 iterate 3 refine wS ?_
 refine wL (OpA.p ?_)
 refine wL (OpA.m ?_)
 iterate 5 refine wS ?_
 refine wL (OpA.p ?_)
 refine wL (OpA.m ?_)
 iterate 3 refine wS ?_
 refine wL (OpA.p ?_)
 refine wL (OpA.a ?_)
 refine wpL_nil ?_
 exact ⟨(Cov.asg ⟨(congrArg D.b (Eq.symm (andS (andS (andS (andS (andS (andN (andN (andN (andN b1 b2) b3) b4) b5)))))))), trivial⟩), (.refl _)⟩
 iterate 3 refine wS ?_
 refine wL (OpA.p ?_)
 refine wL (OpA.m ?_)
 iterate 3 refine wS ?_
 refine wL (OpA.p ?_)
 refine wL (OpA.m ?_)
 iterate 2 refine wS ?_
 refine wL (OpA.p ?_)
 refine wL (OpA.m ?_)
 iterate 3 refine wS ?_
 refine wL (OpA.p ?_)
 refine wL (OpA.m ?_)
 iterate 5 refine wS ?_
 refine wL (OpA.p ?_)
 refine wL (OpA.m ?_)
 iterate 3 refine wS ?_
 refine wL (OpA.p ?_)
 refine wL (OpA.a ?_)
 refine wpL_nil ?_
 exact ⟨(Cov.asg ⟨(congrArg D.b (Eq.symm (andS (andS (andS (andS (andS (andS (andN (andN (andN b1 b2) b3) b4))))))))), trivial⟩), (.refl _)⟩
 iterate 2 refine wS ?_
 refine wL (OpA.p ?_)
 refine wL (OpA.m ?_)
 iterate 3 refine wS ?_
 refine wL (OpA.p ?_)
 refine wL (OpA.m ?_)
 iterate 3 refine wS ?_
 refine wL (OpA.p ?_)
 refine wL (OpA.m ?_)
 iterate 2 refine wS ?_
 refine wL (OpA.p ?_)
 refine wL (OpA.m ?_)
 iterate 3 refine wS ?_
 refine wL (OpA.p ?_)
 refine wL (OpA.m ?_)
 iterate 5 refine wS ?_
 refine wL (OpA.p ?_)
 refine wL (OpA.m ?_)
 iterate 3 refine wS ?_
 refine wL (OpA.p ?_)
 refine wL (OpA.a ?_)
 refine wpL_nil ?_
 exact ⟨(Cov.asg ⟨(congrArg D.b (Eq.symm (andS (andS (andS (andS (andS (andS (andS (andN (andN b1 b2) b3)))))))))), trivial⟩), (.refl _)⟩
 iterate 2 refine wS ?_
 refine wL (OpA.p ?_)
 refine wL (OpA.m ?_)
 iterate 2 refine wS ?_
 refine wL (OpA.p ?_)
 refine wL (OpA.m ?_)
 iterate 3 refine wS ?_
 refine wL (OpA.p ?_)
 refine wL (OpA.m ?_)
 iterate 3 refine wS ?_
 refine wL (OpA.p ?_)
 refine wL (OpA.m ?_)
 iterate 2 refine wS ?_
 refine wL (OpA.p ?_)
 refine wL (OpA.m ?_)
 iterate 3 refine wS ?_
 refine wL (OpA.p ?_)
 refine wL (OpA.m ?_)
 iterate 5 refine wS ?_
 refine wL (OpA.p ?_)
 refine wL (OpA.m ?_)
 iterate 3 refine wS ?_
 refine wL (OpA.p ?_)
 refine wL (OpA.a ?_)
 refine wpL_nil ?_
 exact ⟨(Cov.asg ⟨(congrArg D.b (Eq.symm (andS (andS (andS (andS (andS (andS (andS (andS (andN b1 b2))))))))))), trivial⟩), (.refl _)⟩
 iterate 2 refine wS ?_
 refine wL (OpA.p ?_)
 refine wL (OpA.m ?_)
 iterate 2 refine wS ?_
 refine wL (OpA.p ?_)
 refine wL (OpA.m ?_)
 iterate 2 refine wS ?_
 refine wL (OpA.p ?_)
 refine wL (OpA.m ?_)
 iterate 3 refine wS ?_
 refine wL (OpA.p ?_)
 refine wL (OpA.m ?_)
 iterate 3 refine wS ?_
 refine wL (OpA.p ?_)
 refine wL (OpA.m ?_)
 iterate 2 refine wS ?_
 refine wL (OpA.p ?_)
 refine wL (OpA.m ?_)
 iterate 3 refine wS ?_
 refine wL (OpA.p ?_)
 refine wL (OpA.m ?_)
 iterate 5 refine wS ?_
 refine wL (OpA.p ?_)
 refine wL (OpA.m ?_)
 iterate 3 refine wS ?_
 refine wL (OpA.p ?_)
 refine wL (OpA.a ?_)
 refine wpL_nil ?_
 exact ⟨(Cov.asg ⟨(congrArg D.b (Eq.symm (andS (andS (andS (andS (andS (andS (andS (andS (andS b1))))))))))), trivial⟩), (.refl _)⟩
 show wpA _ _ _ _ (asg [(0, D.b awake_e1)]) []
 refine wpA_ret ?_
 exact ⟨_, (.tmp (d := D.b awake_e1) rfl .nil), _, (.same rfl .nil), ⟨awake_e1, rfl, h⟩⟩
theorem awake_c  : Fun false Tryz.prog 5 [] (fun d => d = D.b (true)) :=
 Fun.at (enc := fun r => D.b r) (v := true) (awake_w   (fun r => r = true) (awake_ok  _  rfl))
end Go.Proofs.YtjncggaheahjiaaGreatDoor
