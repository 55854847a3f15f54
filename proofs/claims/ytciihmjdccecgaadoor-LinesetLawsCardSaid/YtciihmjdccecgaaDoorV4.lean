/-
  walks and contracts
-/
import Derived.Test.YtciihmjdccecgaaDoorV3
set_option linter.all false
namespace Go.Proofs.YtciihmjdccecgaaDoor
open Go Go.Lic Go.Sort Go.Proofs
attribute [local irreducible] badR behindF cmpB cmpI countF countL fewF growF has1F hasF hasPrefF indexF insideF itoaF lenF meetF mergeF minusF ofF orF partF pathF printF spanCmp splitF splitG underF unionF validF



set_option maxHeartbeats 2000000 in
set_option maxRecDepth 10000 in
theorem minus_w (a : (List Span)) (b : (List Span))  (Q : (List Span) × Int → Prop) (h : minus_vc a b Q) : Fun false Tryd.prog 13 [(encL 3 encSpan) a, (encL 3 encSpan) b] (fun d => ∃ r, d = .tup [(encL 3 encSpan) (r.1), D.i (r.2)] ∧ Q r) := by
  unfold minus_vc at h
  refine Fun.of_body Tryd.func13 rfl Tryd.ntmps13 rfl ?_
  refine wpA_seq ?_
  refine wpA_region ?_
  refine wpL_op rfl rfl rfl (OpA.asn rfl (by with_reducible conv => lhs; whnf) ?_)
  refine wpL_op rfl rfl rfl (OpA.asn rfl (by with_reducible conv => lhs; whnf) ?_)
  refine wpL_nil ?_
  iterate 2 refine wpA_seq ?_
  obtain ⟨q1, q2, q3, h⟩ := h
  refine wpA_mid (asg [(0, (encL 3 encSpan) a), (1, (encL 3 encSpan) b), (4, .v (.slice none 0 0)), (5, D.i 0), (17, D.b ((!(validF a)) || (!(validF b))))]) [] ?_ ?_
  refine wpA_region ?_
  refine wpL_op rfl rfl rfl (OpA.mv rfl (by with_reducible conv => lhs; whnf) ?_)
  refine wpL_op rfl rfl rfl (OpA.call rfl rfl rfl en6 (valid_c a q1 q2) ?_)
  rintro _ rfl
  refine wpL_op rfl rfl rfl (OpA.not rfl rfl ?_)
  refine wpL_op rfl rfl rfl (OpA.mv rfl (by with_reducible conv => lhs; whnf) ?_)
  refine wpL_split (s := 13) rfl (fun b236 => ?_) (fun b236 => ?_)
  iterate 3 refine wpL_skip rfl rfl rfl rfl rfl rfl ?_
  refine wpL_op rfl rfl rfl (OpA.pck rfl rfl (by with_reducible conv => lhs; whnf) ?_)
  refine wpL_nil ?_
  exact ⟨(Cov.asg ⟨rfl, rfl, rfl, rfl, (congrArg D.b (Eq.symm (orS b236))), trivial⟩), (.refl _)⟩
  refine wpL_opg rfl rfl rfl rfl rfl rfl (OpA.mv rfl (by with_reducible conv => lhs; whnf) ?_)
  refine wpL_opg rfl rfl rfl rfl rfl rfl (OpA.call rfl rfl rfl en6 (valid_c b (q3 (notF b236)).1 (q3 (notF b236)).2) ?_)
  rintro _ rfl
  refine wpL_opg rfl rfl rfl rfl rfl rfl (OpA.not rfl rfl ?_)
  refine wpL_op rfl rfl rfl (OpA.pck rfl rfl (by with_reducible conv => lhs; whnf) ?_)
  refine wpL_nil ?_
  exact ⟨(Cov.asg ⟨rfl, rfl, rfl, rfl, (congrArg D.b (Eq.symm (orN b236 rfl))), trivial⟩), (.refl _)⟩
  show wpA _ _ _ _ (asg [(0, (encL 3 encSpan) a), (1, (encL 3 encSpan) b), (4, .v (.slice none 0 0)), (5, D.i 0), (17, D.b ((!(validF a)) || (!(validF b))))]) []
  refine wpA_cond rfl (fun b1 => ?_) (fun b1 => ?_)
  have h := h.1 ((or0 b1).imp (fun hh => (notT hh)) (fun hh => (notT hh)))
  refine wpA_seq ?_
  refine wpA_region ?_
  refine wpL_op rfl rfl rfl (OpA.asn rfl (by with_reducible conv => lhs; whnf) ?_)
  refine wpL_op rfl rfl rfl (OpA.asn rfl (by with_reducible conv => lhs; whnf) ?_)
  refine wpL_nil ?_
  refine wpA_ret ?_
  exact ⟨_, (.tmp (d := .v (.slice none 0 0)) rfl (.tmp (d := D.i 1) rfl .nil)), _, (.tup (.nilv (sz := 3) (.same rfl .nil)) .nil), ⟨([], 1), rfl, h⟩⟩
  have h := h.2 ⟨(notF (or1 b1)), (notF (or2 b1))⟩
  refine wpA_skip ?_
  refine wpA_seq ?_
  refine wpA_region ?_
  refine wpL_op rfl rfl rfl (OpA.asnG (T := Span) (enc := encSpan) (sz := 3) rfl rfl (fun c6_g2 => ?_))
  refine wpL_nil ?_
  refine wpA_seq ?_
  obtain ⟨q1, q2, h⟩ := h
  refine wpA_region ?_
  refine wpL_op rfl rfl rfl (OpA.mv rfl (by with_reducible conv => lhs; whnf) ?_)
  refine wpL_op rfl rfl rfl (OpA.mv rfl (by with_reducible conv => lhs; whnf) ?_)
  refine wpL_op rfl rfl rfl (OpA.call rfl rfl rfl en25 (common_c a b q1 q2) ?_)
  rintro _ rfl
  refine wpL_op rfl rfl rfl (OpA.asn rfl (by with_reducible conv => lhs; whnf) ?_)
  refine wpL_nil ?_
  iterate 2 refine wpA_seq ?_
  refine wpA_region ?_
  refine wpL_op rfl rfl rfl (OpA.mv rfl (by with_reducible conv => lhs; whnf) ?_)
  refine wpL_op rfl rfl rfl (OpA.len rfl rfl rfl rfl ts23.desc (.inl ⟨_, _, rfl, (List.length_map _).symm⟩) ?_)
  refine wpL_op rfl rfl rfl (OpA.mv rfl (by with_reducible conv => lhs; whnf) ?_)
  refine wpL_nil ?_
  refine wpA_block ?_
  refine wpA_lfp (S := (List Span) × (List Span) × Int) (G := Nat × List D × List D) (c6_g2, ([] : List D), ([] : List D)) (fun gg ss => asg [(4, .v (.slice none 0 0)), (5, D.i 0), (6, .own gg.1 3 gg.2.1.length ss.1.length), (7, (encL 3 encSpan) ss.2.1), (21, (encL 3 encSpan) a), (22, D.i (a.length : Int)), (23, D.i ss.2.2)]) (fun gg ss => [(gg.1, .cells 3 (winL encSpan gg.2.1 ss.1 gg.2.2))]) h (Cov.asg ⟨rfl, rfl, rfl, rfl, rfl, rfl, rfl, trivial⟩) (.refl _) ?_
  rintro again3 ⟨cb6, pre6, post6⟩ ⟨out, both, x⟩ h
  have h : minus_L1 a Q again3 out both x := h
  unfold minus_L1 at h
  show wpA _ _ _ _ (asg [(4, .v (.slice none 0 0)), (5, D.i 0), (6, .own cb6 3 pre6.length out.length), (7, (encL 3 encSpan) both), (21, (encL 3 encSpan) a), (22, D.i (a.length : Int)), (23, D.i x)]) [(cb6, .cells 3 (winL encSpan pre6 out post6))]
  refine wpA_seq ?_
  refine wpA_region ?_
  refine wpL_op rfl rfl rfl (OpA.lss rfl rfl rfl ?_)
  refine wpL_nil ?_
  refine wpA_seq ?_
  refine wpA_cond rfl (fun b4 => ?_) (fun b4 => ?_)
  have h := h.1 (decT b4)
  refine wpA_skip ?_
  refine wpA_seq ?_
  refine wpA_block ?_
  refine wpA_seq ?_
  obtain ⟨q1, h⟩ := h
  refine wpA_region ?_
  refine wpL_op rfl rfl rfl (OpA.iixV (enc := encSpan) rfl ts23 rfl rfl rfl q1 ?_)
  refine wpL_op rfl rfl rfl (OpA.iload_whole rfl ti33 rfl ⟨_, rfl, rfl⟩ ?_)
  refine wpL_op rfl rfl rfl (OpA.alloc (sz := 3) (d := encSpan (Span.mk ByteArray.empty 0 0)) rfl tz33 (fun _ _ => .agg (.cons (.v _) (.cons (.v _) (.cons (.v _) .nil)))) (.of rfl) (fun c5 _ => ?_))
  refine wpL_eff rfl rfl (OpA.storeW rfl ti33 rfl (by with_reducible conv => lhs; whnf) (.of rfl) rfl rfl .head ?_)
  refine wpL_nil ?_
  refine wpA_seq ?_
  refine wpA_block ?_
  refine wpA_lfp (S := Span × (List Span) × (List Span)) (G := Nat × List D × List D) (cb6, pre6, post6) (fun gg ss => asg [(4, .v (.slice none 0 0)), (5, D.i 0), (6, .own gg.1 3 gg.2.1.length ss.2.1.length), (7, (encL 3 encSpan) ss.2.2), (9, .ptr c5 3 0 0), (21, (encL 3 encSpan) a), (22, D.i (a.length : Int)), (23, D.i x)]) (fun gg ss => [(c5, .cells 3 [encSpan ss.1]), (gg.1, .cells 3 (winL encSpan gg.2.1 ss.2.1 gg.2.2))]) h (Cov.asg ⟨rfl, rfl, rfl, rfl, rfl, rfl, rfl, rfl, trivial⟩) (.refl _) ?_
  rintro again6 ⟨cb61, pre61, post61⟩ ⟨s_, out1, both1⟩ h
  have h : minus_L2 x again3 again6 s_ out1 both1 := h
  unfold minus_L2 at h
  show wpA _ _ _ _ (asg [(4, .v (.slice none 0 0)), (5, D.i 0), (6, .own cb61 3 pre61.length out1.length), (7, (encL 3 encSpan) both1), (9, .ptr c5 3 0 0), (21, (encL 3 encSpan) a), (22, D.i (a.length : Int)), (23, D.i x)]) [(c5, .cells 3 [encSpan s_]), (cb61, .cells 3 (winL encSpan pre61 out1 post61))]
  iterate 2 refine wpA_seq ?_
  obtain ⟨q1, q2, h⟩ := h
  refine wpA_mid (asg [(4, .v (.slice none 0 0)), (5, D.i 0), (6, .own cb61 3 pre61.length out1.length), (7, (encL 3 encSpan) both1), (9, .ptr c5 3 0 0), (21, (encL 3 encSpan) a), (22, D.i (a.length : Int)), (23, D.i x), (47, D.b (((decide ((both1.length : Int) > 0)) && (decide ((gi both1 0).path = s_.path))) && (decide ((gi both1 0).to ≤ s_.to))))]) [(c5, .cells 3 [encSpan s_]), (cb61, .cells 3 (winL encSpan pre61 out1 post61))] ?_ ?_
  refine wpA_draw (m := 21) mo (by kernel_rfl) rfl ?_
  refine DetK.op rfl (OpA.mv rfl (by with_reducible conv => lhs; whnf) ⟨rfl, rfl⟩) ?_
  refine DetK.op rfl (OpA.len rfl rfl rfl rfl ts23.desc (.inl ⟨_, _, rfl, (List.length_map _).symm⟩) ⟨rfl, rfl⟩) ?_
  refine DetK.op rfl (OpA.gtr rfl rfl rfl ⟨rfl, rfl⟩) ?_
  refine DetK.op rfl (OpA.mv rfl (by with_reducible conv => lhs; whnf) ⟨rfl, rfl⟩) ?_
  refine DetK_split (s := 30) rfl (fun b234 => ?_) (fun b234 => ?_)
  refine DetK.opg rfl rfl rfl rfl (OpA.mv rfl (by with_reducible conv => lhs; whnf) ⟨rfl, rfl⟩) ?_
  refine DetK.opg rfl rfl rfl rfl (OpA.iixV (enc := encSpan) rfl ts23 rfl rfl rfl (q1 (decT b234)) ⟨rfl, rfl⟩) ?_
  refine DetK.opg rfl rfl rfl rfl (OpA.ifieldAddr rfl tf33_0 rfl ⟨rfl, rfl⟩) ?_
  refine DetK.opg rfl rfl rfl rfl (OpA.iload rfl ti9 rfl rfl ⟨rfl, rfl⟩) ?_
  refine DetK.opg rfl rfl rfl rfl (OpA.fieldAddr rfl tf33_0 rfl ⟨rfl, rfl⟩) ?_
  refine DetK.opg rfl rfl rfl rfl (OpA.load rfl ti9 rfl .head rfl rfl ⟨rfl, rfl⟩) ?_
  refine DetK.opg rfl rfl rfl rfl (OpA.seql rfl rfl rfl ⟨rfl, rfl⟩) ?_
  refine DetK.op rfl (OpA.pck rfl rfl (by with_reducible conv => lhs; whnf) ⟨rfl, rfl⟩) ?_
  refine DetK.op rfl (OpA.mv rfl (by with_reducible conv => lhs; whnf) ⟨rfl, rfl⟩) ?_
  refine DetK_split (s := 39) rfl (fun b235 => ?_) (fun b235 => ?_)
  refine DetK.opg rfl rfl rfl rfl (OpA.mv rfl (by with_reducible conv => lhs; whnf) ⟨rfl, rfl⟩) ?_
  refine DetK.opg rfl rfl rfl rfl (OpA.iixV (enc := encSpan) rfl ts23 rfl rfl rfl (q2 ⟨(decT b234), (decT b235)⟩) ⟨rfl, rfl⟩) ?_
  refine DetK.opg rfl rfl rfl rfl (OpA.ifieldAddr rfl tf33_2 rfl ⟨rfl, rfl⟩) ?_
  refine DetK.opg rfl rfl rfl rfl (OpA.iload rfl ti3 rfl rfl ⟨rfl, rfl⟩) ?_
  refine DetK.opg rfl rfl rfl rfl (OpA.fieldAddr rfl tf33_2 rfl ⟨rfl, rfl⟩) ?_
  refine DetK.opg rfl rfl rfl rfl (OpA.load rfl ti3 rfl .head rfl rfl ⟨rfl, rfl⟩) ?_
  refine DetK.opg rfl rfl rfl rfl (OpA.leq rfl rfl rfl ⟨rfl, rfl⟩) ?_
  refine DetK.op rfl (OpA.pck rfl rfl (by with_reducible conv => lhs; whnf) ⟨rfl, rfl⟩) ?_
  refine DetK.nil ?_
  refine wpL_nil ?_
  exact ⟨(Cov.asg ⟨rfl, rfl, rfl, rfl, rfl, rfl, rfl, rfl, (congrArg D.b (Eq.symm (andN (andN b234 b235) rfl))), trivial⟩), (.refl _)⟩
  iterate 7 refine DetK.skip rfl rfl rfl rfl ?_
  refine DetK.op rfl (OpA.pck rfl rfl (by with_reducible conv => lhs; whnf) ⟨rfl, rfl⟩) ?_
  refine DetK.nil ?_
  refine wpL_nil ?_
  exact ⟨(Cov.asg ⟨rfl, rfl, rfl, rfl, rfl, rfl, rfl, rfl, (congrArg D.b (Eq.symm (andS (andN b234 b235)))), trivial⟩), (.refl _)⟩
  iterate 7 refine DetK.skip rfl rfl rfl rfl ?_
  refine DetK.op rfl (OpA.pck rfl rfl (by with_reducible conv => lhs; whnf) ⟨rfl, rfl⟩) ?_
  refine DetK.op rfl (OpA.mv rfl (by with_reducible conv => lhs; whnf) ⟨rfl, rfl⟩) ?_
  iterate 7 refine DetK.skip rfl rfl rfl rfl ?_
  refine DetK.op rfl (OpA.pck rfl rfl (by with_reducible conv => lhs; whnf) ⟨rfl, rfl⟩) ?_
  refine DetK.nil ?_
  refine wpL_nil ?_
  exact ⟨(Cov.asg ⟨rfl, rfl, rfl, rfl, rfl, rfl, rfl, rfl, (congrArg D.b (Eq.symm (andS (andS b234)))), trivial⟩), (.refl _)⟩
  show wpA _ _ _ _ (asg [(4, .v (.slice none 0 0)), (5, D.i 0), (6, .own cb61 3 pre61.length out1.length), (7, (encL 3 encSpan) both1), (9, .ptr c5 3 0 0), (21, (encL 3 encSpan) a), (22, D.i (a.length : Int)), (23, D.i x), (47, D.b (((decide ((both1.length : Int) > 0)) && (decide ((gi both1 0).path = s_.path))) && (decide ((gi both1 0).to ≤ s_.to))))]) [(c5, .cells 3 [encSpan s_]), (cb61, .cells 3 (winL encSpan pre61 out1 post61))]
  refine wpA_cond rfl (fun b7 => ?_) (fun b7 => ?_)
  have h := h.1 ⟨⟨(decT (and1 (and1 b7))), (decT (and2 (and1 b7)))⟩, (decT (and2 b7))⟩
  refine wpA_skip ?_
  refine wpA_block ?_
  iterate 2 refine wpA_seq ?_
  obtain ⟨q1, h⟩ := h
  refine wpA_draw (m := 7) mo (by kernel_rfl) rfl ?_
  refine DetK.op rfl (OpA.fieldAddr rfl tf33_1 rfl ⟨rfl, rfl⟩) ?_
  refine DetK.op rfl (OpA.load rfl ti3 rfl .head rfl rfl ⟨rfl, rfl⟩) ?_
  refine DetK.op rfl (OpA.mv rfl (by with_reducible conv => lhs; whnf) ⟨rfl, rfl⟩) ?_
  refine DetK.op rfl (OpA.iixV (enc := encSpan) rfl ts23 rfl rfl rfl q1 ⟨rfl, rfl⟩) ?_
  refine DetK.op rfl (OpA.ifieldAddr rfl tf33_1 rfl ⟨rfl, rfl⟩) ?_
  refine DetK.op rfl (OpA.iload rfl ti3 rfl rfl ⟨rfl, rfl⟩) ?_
  refine DetK.op rfl (OpA.lss rfl rfl rfl ⟨rfl, rfl⟩) ?_
  refine DetK.nil ?_
  refine wpL_nil ?_
  refine wpA_cond rfl (fun b8 => ?_) (fun b8 => ?_)
  have h := h.1 (decT b8)
  obtain ⟨q1, q2, h⟩ := h
  refine wpA_draw (m := 11) mo (by kernel_rfl) rfl ?_
  refine DetK.op rfl (OpA.mv rfl (by with_reducible conv => lhs; whnf) ⟨rfl, rfl⟩) ?_
  refine DetK.op rfl (OpA.fieldAddr rfl tf33_0 rfl ⟨rfl, rfl⟩) ?_
  refine DetK.op rfl (OpA.load rfl ti9 rfl .head rfl rfl ⟨rfl, rfl⟩) ?_
  refine DetK.op rfl (OpA.fieldAddr rfl tf33_1 rfl ⟨rfl, rfl⟩) ?_
  refine DetK.op rfl (OpA.load rfl ti3 rfl .head rfl rfl ⟨rfl, rfl⟩) ?_
  refine DetK.op rfl (OpA.mv rfl (by with_reducible conv => lhs; whnf) ⟨rfl, rfl⟩) ?_
  refine DetK.op rfl (OpA.iixV (enc := encSpan) rfl ts23 rfl rfl rfl q1 ⟨rfl, rfl⟩) ?_
  refine DetK.op rfl (OpA.ifieldAddr rfl tf33_1 rfl ⟨rfl, rfl⟩) ?_
  refine DetK.op rfl (OpA.iload rfl ti3 rfl rfl ⟨rfl, rfl⟩) ?_
  refine DetK.op rfl (OpA.buildO (zs := [.v (.string ⟨#[]⟩), .v (.int .i64 0), .v (.int .i64 0)]) rfl tp33 tz33 (fun _ _ => (.cons (.v _) (.cons (.v _) (.cons (.v _) .nil)))) (.cons (.of (sz := 1) rfl) (.cons (.of (sz := 1) rfl) (.cons (.of (sz := 1) rfl) .nil))) rfl ⟨rfl, rfl⟩) ?_
  refine DetK.op rfl (OpA.ibuildSliceO rfl ts23 rfl (.cons (.of (sz := 3) rfl) .nil) (by decide) ⟨rfl, rfl⟩) ?_
  refine DetK.nil ?_
  refine wpL_op rfl rfl rfl (OpA.appendW (enc := encSpan) rfl rfl rfl rfl ts23 rfl (fun _ _ => (.tail .head)) (.list (ys := ([(Span.mk s_.path s_.from_ ((gi both1 0).from_))] : List Span))) q2 (fun c9 pre10 => ?_))
  refine wpL_op rfl rfl rfl (OpA.asn rfl (by with_reducible conv => lhs; whnf) ?_)
  refine wpL_nil ?_
  obtain ⟨q1_0, q5_0, h⟩ := h
  refine wpA_states mo (fun W hW => ?_)
  refine flip_goal (a := W 0 (lv 9 511) (asg [(4, .v (.slice none 0 0)), (5, D.i 0), (6, .own c9 3 pre10.length (out1 ++ ([(Span.mk s_.path s_.from_ ((gi both1 0).from_))] : List Span)).length), (7, (encL 3 encSpan) (lsub both1 1 (both1.length : Int))), (9, .ptr c5 3 0 0), (21, (encL 3 encSpan) a), (22, D.i (a.length : Int)), (23, D.i x)]) [(c5, .cells 3 [encSpan (Span.mk s_.path ((gi both1 0).to) s_.to)]), (c9, .cells 3 (winL encSpan pre10 (out1 ++ ([(Span.mk s_.path s_.from_ ((gi both1 0).from_))] : List Span)) ([] : List D)))]) (fun s0 => ?_) ?_
  have s1 : W 1 (lv 9 255) (asg [(4, .v (.slice none 0 0)), (5, D.i 0), (6, .own c9 3 pre10.length (out1 ++ ([(Span.mk s_.path s_.from_ ((gi both1 0).from_))] : List Span)).length), (7, (encL 3 encSpan) both1), (9, .ptr c5 3 0 0), (21, (encL 3 encSpan) a), (22, D.i (a.length : Int)), (23, D.i x), (72, (encL 3 encSpan) (lsub both1 1 (both1.length : Int)))]) [(c5, .cells 3 [encSpan (Span.mk s_.path ((gi both1 0).to) s_.to)]), (c9, .cells 3 (winL encSpan pre10 (out1 ++ ([(Span.mk s_.path s_.from_ ((gi both1 0).from_))] : List Span)) ([] : List D)))] := wpS_of hW (by refine wpS_step (rs := [8]) (by kernel_rfl) rfl ⟨?_, trivial⟩; refine wpS_op (i := 8) (li' := (lv 9 511)) rfl rfl rfl rfl (by kernel_rfl) (OpA.asn rfl (by with_reducible conv => lhs; whnf) ?_); exact wpS_to hW (s0) (Cov.asg ⟨rfl, rfl, rfl, rfl, rfl, rfl, rfl, rfl, trivial⟩) (.refl _))
  have s2 : W 2 (lv 9 127) (asg [(4, .v (.slice none 0 0)), (5, D.i 0), (6, .own c9 3 pre10.length (out1 ++ ([(Span.mk s_.path s_.from_ ((gi both1 0).from_))] : List Span)).length), (7, (encL 3 encSpan) both1), (9, .ptr c5 3 0 0), (21, (encL 3 encSpan) a), (22, D.i (a.length : Int)), (23, D.i x), (70, D.i ((gi both1 0).to)), (72, (encL 3 encSpan) (lsub both1 1 (both1.length : Int))), (73, .ptr c5 3 0 1)]) [(c5, .cells 3 [encSpan s_]), (c9, .cells 3 (winL encSpan pre10 (out1 ++ ([(Span.mk s_.path s_.from_ ((gi both1 0).from_))] : List Span)) ([] : List D)))] := wpS_of hW (by refine wpS_step (rs := [7]) (by kernel_rfl) rfl ⟨?_, trivial⟩; refine wpS_eff (i := 7) (li' := (lv 9 255)) rfl rfl rfl (by kernel_rfl) (OpA.store (e' := encSpan (Span.mk s_.path ((gi both1 0).to) s_.to)) rfl ti3 rfl (.of rfl) rfl (Nat.le_of_ble_eq_true rfl) rfl .head ?_); exact wpS_to hW (s1) (Cov.asg ⟨rfl, rfl, rfl, rfl, rfl, rfl, rfl, rfl, rfl, trivial⟩) (.refl _))
  have s3 : W 2 (lv 9 223) (asg [(4, .v (.slice none 0 0)), (5, D.i 0), (6, .own c9 3 pre10.length (out1 ++ ([(Span.mk s_.path s_.from_ ((gi both1 0).from_))] : List Span)).length), (7, (encL 3 encSpan) both1), (9, .ptr c5 3 0 0), (21, (encL 3 encSpan) a), (22, D.i (a.length : Int)), (23, D.i x), (71, (encL 3 encSpan) both1)]) [(c5, .cells 3 [encSpan (Span.mk s_.path ((gi both1 0).to) s_.to)]), (c9, .cells 3 (winL encSpan pre10 (out1 ++ ([(Span.mk s_.path s_.from_ ((gi both1 0).from_))] : List Span)) ([] : List D)))] := wpS_of hW (by refine wpS_step (rs := [5]) (by kernel_rfl) rfl ⟨?_, trivial⟩; refine wpS_op (i := 5) (li' := (lv 9 255)) rfl rfl rfl rfl (by kernel_rfl) (OpA.isliceV (enc := encSpan) rfl ts23 rfl (.some rfl) (.none _) q5_0 ?_); exact wpS_to hW (s1) (Cov.asg ⟨rfl, rfl, rfl, rfl, rfl, rfl, rfl, rfl, rfl, trivial⟩) (.refl _))
  have s4 : W 3 (lv 9 63) (asg [(4, .v (.slice none 0 0)), (5, D.i 0), (6, .own c9 3 pre10.length (out1 ++ ([(Span.mk s_.path s_.from_ ((gi both1 0).from_))] : List Span)).length), (7, (encL 3 encSpan) both1), (9, .ptr c5 3 0 0), (21, (encL 3 encSpan) a), (22, D.i (a.length : Int)), (23, D.i x), (70, D.i ((gi both1 0).to)), (72, (encL 3 encSpan) (lsub both1 1 (both1.length : Int)))]) [(c5, .cells 3 [encSpan s_]), (c9, .cells 3 (winL encSpan pre10 (out1 ++ ([(Span.mk s_.path s_.from_ ((gi both1 0).from_))] : List Span)) ([] : List D)))] := wpS_of hW (by refine wpS_step (rs := [6]) (by kernel_rfl) rfl ⟨?_, trivial⟩; refine wpS_op (i := 6) (li' := (lv 9 127)) rfl rfl rfl rfl (by kernel_rfl) (OpA.fieldAddr rfl tf33_1 rfl ?_); exact wpS_to hW (s2) (Cov.asg ⟨rfl, rfl, rfl, rfl, rfl, rfl, rfl, rfl, rfl, rfl, rfl, trivial⟩) (.refl _))
  have s5 : W 3 (lv 9 95) (asg [(4, .v (.slice none 0 0)), (5, D.i 0), (6, .own c9 3 pre10.length (out1 ++ ([(Span.mk s_.path s_.from_ ((gi both1 0).from_))] : List Span)).length), (7, (encL 3 encSpan) both1), (9, .ptr c5 3 0 0), (21, (encL 3 encSpan) a), (22, D.i (a.length : Int)), (23, D.i x), (70, D.i ((gi both1 0).to)), (71, (encL 3 encSpan) both1), (73, .ptr c5 3 0 1)]) [(c5, .cells 3 [encSpan s_]), (c9, .cells 3 (winL encSpan pre10 (out1 ++ ([(Span.mk s_.path s_.from_ ((gi both1 0).from_))] : List Span)) ([] : List D)))] := wpS_of hW (by refine wpS_step (rs := [5, 7]) (by kernel_rfl) rfl ⟨?_, ?_, trivial⟩; refine wpS_op (i := 5) (li' := (lv 9 127)) rfl rfl rfl rfl (by kernel_rfl) (OpA.isliceV (enc := encSpan) rfl ts23 rfl (.some rfl) (.none _) q5_0 ?_); exact wpS_to hW (s2) (Cov.asg ⟨rfl, rfl, rfl, rfl, rfl, rfl, rfl, rfl, rfl, rfl, rfl, trivial⟩) (.refl _); refine wpS_eff (i := 7) (li' := (lv 9 223)) rfl rfl rfl (by kernel_rfl) (OpA.store (e' := encSpan (Span.mk s_.path ((gi both1 0).to) s_.to)) rfl ti3 rfl (.of rfl) rfl (Nat.le_of_ble_eq_true rfl) rfl .head ?_); exact wpS_to hW (s3) (Cov.asg ⟨rfl, rfl, rfl, rfl, rfl, rfl, rfl, rfl, rfl, trivial⟩) (.refl _))
  have s6 : W 4 (lv 9 31) (asg [(4, .v (.slice none 0 0)), (5, D.i 0), (6, .own c9 3 pre10.length (out1 ++ ([(Span.mk s_.path s_.from_ ((gi both1 0).from_))] : List Span)).length), (7, (encL 3 encSpan) both1), (9, .ptr c5 3 0 0), (21, (encL 3 encSpan) a), (22, D.i (a.length : Int)), (23, D.i x), (70, D.i ((gi both1 0).to)), (71, (encL 3 encSpan) both1)]) [(c5, .cells 3 [encSpan s_]), (c9, .cells 3 (winL encSpan pre10 (out1 ++ ([(Span.mk s_.path s_.from_ ((gi both1 0).from_))] : List Span)) ([] : List D)))] := wpS_of hW (by refine wpS_step (rs := [5, 6]) (by kernel_rfl) rfl ⟨?_, ?_, trivial⟩; refine wpS_op (i := 5) (li' := (lv 9 63)) rfl rfl rfl rfl (by kernel_rfl) (OpA.isliceV (enc := encSpan) rfl ts23 rfl (.some rfl) (.none _) q5_0 ?_); exact wpS_to hW (s4) (Cov.asg ⟨rfl, rfl, rfl, rfl, rfl, rfl, rfl, rfl, rfl, rfl, trivial⟩) (.refl _); refine wpS_op (i := 6) (li' := (lv 9 95)) rfl rfl rfl rfl (by kernel_rfl) (OpA.fieldAddr rfl tf33_1 rfl ?_); exact wpS_to hW (s5) (Cov.asg ⟨rfl, rfl, rfl, rfl, rfl, rfl, rfl, rfl, rfl, rfl, rfl, trivial⟩) (.refl _))
  have s7 : W 4 (lv 9 55) (asg [(4, .v (.slice none 0 0)), (5, D.i 0), (6, .own c9 3 pre10.length (out1 ++ ([(Span.mk s_.path s_.from_ ((gi both1 0).from_))] : List Span)).length), (7, (encL 3 encSpan) both1), (9, .ptr c5 3 0 0), (21, (encL 3 encSpan) a), (22, D.i (a.length : Int)), (23, D.i x), (69, .iptr (encSpan (gi both1 0)) 2), (72, (encL 3 encSpan) (lsub both1 1 (both1.length : Int)))]) [(c5, .cells 3 [encSpan s_]), (c9, .cells 3 (winL encSpan pre10 (out1 ++ ([(Span.mk s_.path s_.from_ ((gi both1 0).from_))] : List Span)) ([] : List D)))] := wpS_of hW (by refine wpS_step (rs := [3]) (by kernel_rfl) rfl ⟨?_, trivial⟩; refine wpS_op (i := 3) (li' := (lv 9 63)) rfl rfl rfl rfl (by kernel_rfl) (OpA.iload rfl ti3 rfl rfl ?_); exact wpS_to hW (s4) (Cov.asg ⟨rfl, rfl, rfl, rfl, rfl, rfl, rfl, rfl, rfl, rfl, trivial⟩) (.refl _))
  have s8 : W 5 (lv 9 23) (asg [(4, .v (.slice none 0 0)), (5, D.i 0), (6, .own c9 3 pre10.length (out1 ++ ([(Span.mk s_.path s_.from_ ((gi both1 0).from_))] : List Span)).length), (7, (encL 3 encSpan) both1), (9, .ptr c5 3 0 0), (21, (encL 3 encSpan) a), (22, D.i (a.length : Int)), (23, D.i x), (69, .iptr (encSpan (gi both1 0)) 2), (71, (encL 3 encSpan) both1)]) [(c5, .cells 3 [encSpan s_]), (c9, .cells 3 (winL encSpan pre10 (out1 ++ ([(Span.mk s_.path s_.from_ ((gi both1 0).from_))] : List Span)) ([] : List D)))] := wpS_of hW (by refine wpS_step (rs := [3, 5]) (by kernel_rfl) rfl ⟨?_, ?_, trivial⟩; refine wpS_op (i := 3) (li' := (lv 9 31)) rfl rfl rfl rfl (by kernel_rfl) (OpA.iload rfl ti3 rfl rfl ?_); exact wpS_to hW (s6) (Cov.asg ⟨rfl, rfl, rfl, rfl, rfl, rfl, rfl, rfl, rfl, rfl, trivial⟩) (.refl _); refine wpS_op (i := 5) (li' := (lv 9 55)) rfl rfl rfl rfl (by kernel_rfl) (OpA.isliceV (enc := encSpan) rfl ts23 rfl (.some rfl) (.none _) q5_0 ?_); exact wpS_to hW (s7) (Cov.asg ⟨rfl, rfl, rfl, rfl, rfl, rfl, rfl, rfl, rfl, rfl, trivial⟩) (.refl _))
  have s9 : W 5 (lv 9 51) (asg [(4, .v (.slice none 0 0)), (5, D.i 0), (6, .own c9 3 pre10.length (out1 ++ ([(Span.mk s_.path s_.from_ ((gi both1 0).from_))] : List Span)).length), (7, (encL 3 encSpan) both1), (9, .ptr c5 3 0 0), (21, (encL 3 encSpan) a), (22, D.i (a.length : Int)), (23, D.i x), (68, .iptr (encSpan (gi both1 0)) 0), (72, (encL 3 encSpan) (lsub both1 1 (both1.length : Int)))]) [(c5, .cells 3 [encSpan s_]), (c9, .cells 3 (winL encSpan pre10 (out1 ++ ([(Span.mk s_.path s_.from_ ((gi both1 0).from_))] : List Span)) ([] : List D)))] := wpS_of hW (by refine wpS_step (rs := [2]) (by kernel_rfl) rfl ⟨?_, trivial⟩; refine wpS_op (i := 2) (li' := (lv 9 55)) rfl rfl rfl rfl (by kernel_rfl) (OpA.ifieldAddr rfl tf33_2 rfl ?_); exact wpS_to hW (s7) (Cov.asg ⟨rfl, rfl, rfl, rfl, rfl, rfl, rfl, rfl, rfl, rfl, trivial⟩) (.refl _))
  have s10 : W 6 (lv 9 19) (asg [(4, .v (.slice none 0 0)), (5, D.i 0), (6, .own c9 3 pre10.length (out1 ++ ([(Span.mk s_.path s_.from_ ((gi both1 0).from_))] : List Span)).length), (7, (encL 3 encSpan) both1), (9, .ptr c5 3 0 0), (21, (encL 3 encSpan) a), (22, D.i (a.length : Int)), (23, D.i x), (68, .iptr (encSpan (gi both1 0)) 0), (71, (encL 3 encSpan) both1)]) [(c5, .cells 3 [encSpan s_]), (c9, .cells 3 (winL encSpan pre10 (out1 ++ ([(Span.mk s_.path s_.from_ ((gi both1 0).from_))] : List Span)) ([] : List D)))] := wpS_of hW (by refine wpS_step (rs := [2, 5]) (by kernel_rfl) rfl ⟨?_, ?_, trivial⟩; refine wpS_op (i := 2) (li' := (lv 9 23)) rfl rfl rfl rfl (by kernel_rfl) (OpA.ifieldAddr rfl tf33_2 rfl ?_); exact wpS_to hW (s8) (Cov.asg ⟨rfl, rfl, rfl, rfl, rfl, rfl, rfl, rfl, rfl, rfl, trivial⟩) (.refl _); refine wpS_op (i := 5) (li' := (lv 9 51)) rfl rfl rfl rfl (by kernel_rfl) (OpA.isliceV (enc := encSpan) rfl ts23 rfl (.some rfl) (.none _) q5_0 ?_); exact wpS_to hW (s9) (Cov.asg ⟨rfl, rfl, rfl, rfl, rfl, rfl, rfl, rfl, rfl, rfl, trivial⟩) (.refl _))
  have s11 : W 6 (lv 9 49) (asg [(4, .v (.slice none 0 0)), (5, D.i 0), (6, .own c9 3 pre10.length (out1 ++ ([(Span.mk s_.path s_.from_ ((gi both1 0).from_))] : List Span)).length), (7, (encL 3 encSpan) both1), (9, .ptr c5 3 0 0), (21, (encL 3 encSpan) a), (22, D.i (a.length : Int)), (23, D.i x), (67, (encL 3 encSpan) both1), (72, (encL 3 encSpan) (lsub both1 1 (both1.length : Int)))]) [(c5, .cells 3 [encSpan s_]), (c9, .cells 3 (winL encSpan pre10 (out1 ++ ([(Span.mk s_.path s_.from_ ((gi both1 0).from_))] : List Span)) ([] : List D)))] := wpS_of hW (by refine wpS_step (rs := [1]) (by kernel_rfl) rfl ⟨?_, trivial⟩; refine wpS_op (i := 1) (li' := (lv 9 51)) rfl rfl rfl rfl (by kernel_rfl) (OpA.iixV (enc := encSpan) rfl ts23 rfl rfl rfl q1_0 ?_); exact wpS_to hW (s9) (Cov.asg ⟨rfl, rfl, rfl, rfl, rfl, rfl, rfl, rfl, rfl, rfl, trivial⟩) (.refl _))
  have s12 : W 7 (lv 9 17) (asg [(4, .v (.slice none 0 0)), (5, D.i 0), (6, .own c9 3 pre10.length (out1 ++ ([(Span.mk s_.path s_.from_ ((gi both1 0).from_))] : List Span)).length), (7, (encL 3 encSpan) both1), (9, .ptr c5 3 0 0), (21, (encL 3 encSpan) a), (22, D.i (a.length : Int)), (23, D.i x), (67, (encL 3 encSpan) both1), (71, (encL 3 encSpan) both1)]) [(c5, .cells 3 [encSpan s_]), (c9, .cells 3 (winL encSpan pre10 (out1 ++ ([(Span.mk s_.path s_.from_ ((gi both1 0).from_))] : List Span)) ([] : List D)))] := wpS_of hW (by refine wpS_step (rs := [1, 5]) (by kernel_rfl) rfl ⟨?_, ?_, trivial⟩; refine wpS_op (i := 1) (li' := (lv 9 19)) rfl rfl rfl rfl (by kernel_rfl) (OpA.iixV (enc := encSpan) rfl ts23 rfl rfl rfl q1_0 ?_); exact wpS_to hW (s10) (Cov.asg ⟨rfl, rfl, rfl, rfl, rfl, rfl, rfl, rfl, rfl, rfl, trivial⟩) (.refl _); refine wpS_op (i := 5) (li' := (lv 9 49)) rfl rfl rfl rfl (by kernel_rfl) (OpA.isliceV (enc := encSpan) rfl ts23 rfl (.some rfl) (.none _) q5_0 ?_); exact wpS_to hW (s11) (Cov.asg ⟨rfl, rfl, rfl, rfl, rfl, rfl, rfl, rfl, rfl, rfl, trivial⟩) (.refl _))
  refine wpS_of hW ?_
  refine wpS_firstY (fuel := 8) (i := 0) (li' := (lv 9 1)) rfl rfl (.move rfl) rfl rfl (by kernel_rfl) (by kernel_rfl) (by kernel_rfl) (fun _ _ _ hx => hx) rfl rfl (by kernel_rfl) ?_
  refine wpS_firstY (fuel := 7) (i := 4) (li' := (lv 9 17)) rfl rfl (.move rfl) rfl rfl (by kernel_rfl) (by kernel_rfl) (by kernel_rfl) (fun _ _ _ hx => hx) rfl rfl (by kernel_rfl) ?_
  exact wpS_to hW s12 (Cov.asg ⟨rfl, rfl, rfl, rfl, rfl, rfl, rfl, rfl, rfl, rfl, trivial⟩) (.refl _)
  refine wpS_of hW (wpS_done (by kernel_rfl) ?_)
  exact ⟨(c9, pre10, ([] : List D)), ((Span.mk s_.path ((gi both1 0).to) s_.to), (out1 ++ ([(Span.mk s_.path s_.from_ ((gi both1 0).from_))] : List Span)), (lsub both1 1 (both1.length : Int))), h, (Cov.asg ⟨rfl, rfl, rfl, rfl, rfl, rfl, rfl, rfl, trivial⟩), (.refl _)⟩
  have h := h.2 (decF b8)
  refine wpA_skip ?_
  obtain ⟨q1_0, q5_0, h⟩ := h
  refine wpA_states mo (fun W hW => ?_)
  refine flip_goal (a := W 0 (lv 9 511) (asg [(4, .v (.slice none 0 0)), (5, D.i 0), (6, .own cb61 3 pre61.length out1.length), (7, (encL 3 encSpan) (lsub both1 1 (both1.length : Int))), (9, .ptr c5 3 0 0), (21, (encL 3 encSpan) a), (22, D.i (a.length : Int)), (23, D.i x)]) [(c5, .cells 3 [encSpan (Span.mk s_.path ((gi both1 0).to) s_.to)]), (cb61, .cells 3 (winL encSpan pre61 out1 post61))]) (fun s0 => ?_) ?_
  have s1 : W 1 (lv 9 255) (asg [(4, .v (.slice none 0 0)), (5, D.i 0), (6, .own cb61 3 pre61.length out1.length), (7, (encL 3 encSpan) both1), (9, .ptr c5 3 0 0), (21, (encL 3 encSpan) a), (22, D.i (a.length : Int)), (23, D.i x), (72, (encL 3 encSpan) (lsub both1 1 (both1.length : Int)))]) [(c5, .cells 3 [encSpan (Span.mk s_.path ((gi both1 0).to) s_.to)]), (cb61, .cells 3 (winL encSpan pre61 out1 post61))] := wpS_of hW (by refine wpS_step (rs := [8]) (by kernel_rfl) rfl ⟨?_, trivial⟩; refine wpS_op (i := 8) (li' := (lv 9 511)) rfl rfl rfl rfl (by kernel_rfl) (OpA.asn rfl (by with_reducible conv => lhs; whnf) ?_); exact wpS_to hW (s0) (Cov.asg ⟨rfl, rfl, rfl, rfl, rfl, rfl, rfl, rfl, trivial⟩) (.refl _))
  have s2 : W 2 (lv 9 127) (asg [(4, .v (.slice none 0 0)), (5, D.i 0), (6, .own cb61 3 pre61.length out1.length), (7, (encL 3 encSpan) both1), (9, .ptr c5 3 0 0), (21, (encL 3 encSpan) a), (22, D.i (a.length : Int)), (23, D.i x), (70, D.i ((gi both1 0).to)), (72, (encL 3 encSpan) (lsub both1 1 (both1.length : Int))), (73, .ptr c5 3 0 1)]) [(c5, .cells 3 [encSpan s_]), (cb61, .cells 3 (winL encSpan pre61 out1 post61))] := wpS_of hW (by refine wpS_step (rs := [7]) (by kernel_rfl) rfl ⟨?_, trivial⟩; refine wpS_eff (i := 7) (li' := (lv 9 255)) rfl rfl rfl (by kernel_rfl) (OpA.store (e' := encSpan (Span.mk s_.path ((gi both1 0).to) s_.to)) rfl ti3 rfl (.of rfl) rfl (Nat.le_of_ble_eq_true rfl) rfl .head ?_); exact wpS_to hW (s1) (Cov.asg ⟨rfl, rfl, rfl, rfl, rfl, rfl, rfl, rfl, rfl, trivial⟩) (.refl _))
  have s3 : W 2 (lv 9 223) (asg [(4, .v (.slice none 0 0)), (5, D.i 0), (6, .own cb61 3 pre61.length out1.length), (7, (encL 3 encSpan) both1), (9, .ptr c5 3 0 0), (21, (encL 3 encSpan) a), (22, D.i (a.length : Int)), (23, D.i x), (71, (encL 3 encSpan) both1)]) [(c5, .cells 3 [encSpan (Span.mk s_.path ((gi both1 0).to) s_.to)]), (cb61, .cells 3 (winL encSpan pre61 out1 post61))] := wpS_of hW (by refine wpS_step (rs := [5]) (by kernel_rfl) rfl ⟨?_, trivial⟩; refine wpS_op (i := 5) (li' := (lv 9 255)) rfl rfl rfl rfl (by kernel_rfl) (OpA.isliceV (enc := encSpan) rfl ts23 rfl (.some rfl) (.none _) q5_0 ?_); exact wpS_to hW (s1) (Cov.asg ⟨rfl, rfl, rfl, rfl, rfl, rfl, rfl, rfl, rfl, trivial⟩) (.refl _))
  have s4 : W 3 (lv 9 63) (asg [(4, .v (.slice none 0 0)), (5, D.i 0), (6, .own cb61 3 pre61.length out1.length), (7, (encL 3 encSpan) both1), (9, .ptr c5 3 0 0), (21, (encL 3 encSpan) a), (22, D.i (a.length : Int)), (23, D.i x), (70, D.i ((gi both1 0).to)), (72, (encL 3 encSpan) (lsub both1 1 (both1.length : Int)))]) [(c5, .cells 3 [encSpan s_]), (cb61, .cells 3 (winL encSpan pre61 out1 post61))] := wpS_of hW (by refine wpS_step (rs := [6]) (by kernel_rfl) rfl ⟨?_, trivial⟩; refine wpS_op (i := 6) (li' := (lv 9 127)) rfl rfl rfl rfl (by kernel_rfl) (OpA.fieldAddr rfl tf33_1 rfl ?_); exact wpS_to hW (s2) (Cov.asg ⟨rfl, rfl, rfl, rfl, rfl, rfl, rfl, rfl, rfl, rfl, rfl, trivial⟩) (.refl _))
  have s5 : W 3 (lv 9 95) (asg [(4, .v (.slice none 0 0)), (5, D.i 0), (6, .own cb61 3 pre61.length out1.length), (7, (encL 3 encSpan) both1), (9, .ptr c5 3 0 0), (21, (encL 3 encSpan) a), (22, D.i (a.length : Int)), (23, D.i x), (70, D.i ((gi both1 0).to)), (71, (encL 3 encSpan) both1), (73, .ptr c5 3 0 1)]) [(c5, .cells 3 [encSpan s_]), (cb61, .cells 3 (winL encSpan pre61 out1 post61))] := wpS_of hW (by refine wpS_step (rs := [5, 7]) (by kernel_rfl) rfl ⟨?_, ?_, trivial⟩; refine wpS_op (i := 5) (li' := (lv 9 127)) rfl rfl rfl rfl (by kernel_rfl) (OpA.isliceV (enc := encSpan) rfl ts23 rfl (.some rfl) (.none _) q5_0 ?_); exact wpS_to hW (s2) (Cov.asg ⟨rfl, rfl, rfl, rfl, rfl, rfl, rfl, rfl, rfl, rfl, rfl, trivial⟩) (.refl _); refine wpS_eff (i := 7) (li' := (lv 9 223)) rfl rfl rfl (by kernel_rfl) (OpA.store (e' := encSpan (Span.mk s_.path ((gi both1 0).to) s_.to)) rfl ti3 rfl (.of rfl) rfl (Nat.le_of_ble_eq_true rfl) rfl .head ?_); exact wpS_to hW (s3) (Cov.asg ⟨rfl, rfl, rfl, rfl, rfl, rfl, rfl, rfl, rfl, trivial⟩) (.refl _))
  have s6 : W 4 (lv 9 31) (asg [(4, .v (.slice none 0 0)), (5, D.i 0), (6, .own cb61 3 pre61.length out1.length), (7, (encL 3 encSpan) both1), (9, .ptr c5 3 0 0), (21, (encL 3 encSpan) a), (22, D.i (a.length : Int)), (23, D.i x), (70, D.i ((gi both1 0).to)), (71, (encL 3 encSpan) both1)]) [(c5, .cells 3 [encSpan s_]), (cb61, .cells 3 (winL encSpan pre61 out1 post61))] := wpS_of hW (by refine wpS_step (rs := [5, 6]) (by kernel_rfl) rfl ⟨?_, ?_, trivial⟩; refine wpS_op (i := 5) (li' := (lv 9 63)) rfl rfl rfl rfl (by kernel_rfl) (OpA.isliceV (enc := encSpan) rfl ts23 rfl (.some rfl) (.none _) q5_0 ?_); exact wpS_to hW (s4) (Cov.asg ⟨rfl, rfl, rfl, rfl, rfl, rfl, rfl, rfl, rfl, rfl, trivial⟩) (.refl _); refine wpS_op (i := 6) (li' := (lv 9 95)) rfl rfl rfl rfl (by kernel_rfl) (OpA.fieldAddr rfl tf33_1 rfl ?_); exact wpS_to hW (s5) (Cov.asg ⟨rfl, rfl, rfl, rfl, rfl, rfl, rfl, rfl, rfl, rfl, rfl, trivial⟩) (.refl _))
  have s7 : W 4 (lv 9 55) (asg [(4, .v (.slice none 0 0)), (5, D.i 0), (6, .own cb61 3 pre61.length out1.length), (7, (encL 3 encSpan) both1), (9, .ptr c5 3 0 0), (21, (encL 3 encSpan) a), (22, D.i (a.length : Int)), (23, D.i x), (69, .iptr (encSpan (gi both1 0)) 2), (72, (encL 3 encSpan) (lsub both1 1 (both1.length : Int)))]) [(c5, .cells 3 [encSpan s_]), (cb61, .cells 3 (winL encSpan pre61 out1 post61))] := wpS_of hW (by refine wpS_step (rs := [3]) (by kernel_rfl) rfl ⟨?_, trivial⟩; refine wpS_op (i := 3) (li' := (lv 9 63)) rfl rfl rfl rfl (by kernel_rfl) (OpA.iload rfl ti3 rfl rfl ?_); exact wpS_to hW (s4) (Cov.asg ⟨rfl, rfl, rfl, rfl, rfl, rfl, rfl, rfl, rfl, rfl, trivial⟩) (.refl _))
  have s8 : W 5 (lv 9 23) (asg [(4, .v (.slice none 0 0)), (5, D.i 0), (6, .own cb61 3 pre61.length out1.length), (7, (encL 3 encSpan) both1), (9, .ptr c5 3 0 0), (21, (encL 3 encSpan) a), (22, D.i (a.length : Int)), (23, D.i x), (69, .iptr (encSpan (gi both1 0)) 2), (71, (encL 3 encSpan) both1)]) [(c5, .cells 3 [encSpan s_]), (cb61, .cells 3 (winL encSpan pre61 out1 post61))] := wpS_of hW (by refine wpS_step (rs := [3, 5]) (by kernel_rfl) rfl ⟨?_, ?_, trivial⟩; refine wpS_op (i := 3) (li' := (lv 9 31)) rfl rfl rfl rfl (by kernel_rfl) (OpA.iload rfl ti3 rfl rfl ?_); exact wpS_to hW (s6) (Cov.asg ⟨rfl, rfl, rfl, rfl, rfl, rfl, rfl, rfl, rfl, rfl, trivial⟩) (.refl _); refine wpS_op (i := 5) (li' := (lv 9 55)) rfl rfl rfl rfl (by kernel_rfl) (OpA.isliceV (enc := encSpan) rfl ts23 rfl (.some rfl) (.none _) q5_0 ?_); exact wpS_to hW (s7) (Cov.asg ⟨rfl, rfl, rfl, rfl, rfl, rfl, rfl, rfl, rfl, rfl, trivial⟩) (.refl _))
  have s9 : W 5 (lv 9 51) (asg [(4, .v (.slice none 0 0)), (5, D.i 0), (6, .own cb61 3 pre61.length out1.length), (7, (encL 3 encSpan) both1), (9, .ptr c5 3 0 0), (21, (encL 3 encSpan) a), (22, D.i (a.length : Int)), (23, D.i x), (68, .iptr (encSpan (gi both1 0)) 0), (72, (encL 3 encSpan) (lsub both1 1 (both1.length : Int)))]) [(c5, .cells 3 [encSpan s_]), (cb61, .cells 3 (winL encSpan pre61 out1 post61))] := wpS_of hW (by refine wpS_step (rs := [2]) (by kernel_rfl) rfl ⟨?_, trivial⟩; refine wpS_op (i := 2) (li' := (lv 9 55)) rfl rfl rfl rfl (by kernel_rfl) (OpA.ifieldAddr rfl tf33_2 rfl ?_); exact wpS_to hW (s7) (Cov.asg ⟨rfl, rfl, rfl, rfl, rfl, rfl, rfl, rfl, rfl, rfl, trivial⟩) (.refl _))
  have s10 : W 6 (lv 9 19) (asg [(4, .v (.slice none 0 0)), (5, D.i 0), (6, .own cb61 3 pre61.length out1.length), (7, (encL 3 encSpan) both1), (9, .ptr c5 3 0 0), (21, (encL 3 encSpan) a), (22, D.i (a.length : Int)), (23, D.i x), (68, .iptr (encSpan (gi both1 0)) 0), (71, (encL 3 encSpan) both1)]) [(c5, .cells 3 [encSpan s_]), (cb61, .cells 3 (winL encSpan pre61 out1 post61))] := wpS_of hW (by refine wpS_step (rs := [2, 5]) (by kernel_rfl) rfl ⟨?_, ?_, trivial⟩; refine wpS_op (i := 2) (li' := (lv 9 23)) rfl rfl rfl rfl (by kernel_rfl) (OpA.ifieldAddr rfl tf33_2 rfl ?_); exact wpS_to hW (s8) (Cov.asg ⟨rfl, rfl, rfl, rfl, rfl, rfl, rfl, rfl, rfl, rfl, trivial⟩) (.refl _); refine wpS_op (i := 5) (li' := (lv 9 51)) rfl rfl rfl rfl (by kernel_rfl) (OpA.isliceV (enc := encSpan) rfl ts23 rfl (.some rfl) (.none _) q5_0 ?_); exact wpS_to hW (s9) (Cov.asg ⟨rfl, rfl, rfl, rfl, rfl, rfl, rfl, rfl, rfl, rfl, trivial⟩) (.refl _))
  have s11 : W 6 (lv 9 49) (asg [(4, .v (.slice none 0 0)), (5, D.i 0), (6, .own cb61 3 pre61.length out1.length), (7, (encL 3 encSpan) both1), (9, .ptr c5 3 0 0), (21, (encL 3 encSpan) a), (22, D.i (a.length : Int)), (23, D.i x), (67, (encL 3 encSpan) both1), (72, (encL 3 encSpan) (lsub both1 1 (both1.length : Int)))]) [(c5, .cells 3 [encSpan s_]), (cb61, .cells 3 (winL encSpan pre61 out1 post61))] := wpS_of hW (by refine wpS_step (rs := [1]) (by kernel_rfl) rfl ⟨?_, trivial⟩; refine wpS_op (i := 1) (li' := (lv 9 51)) rfl rfl rfl rfl (by kernel_rfl) (OpA.iixV (enc := encSpan) rfl ts23 rfl rfl rfl q1_0 ?_); exact wpS_to hW (s9) (Cov.asg ⟨rfl, rfl, rfl, rfl, rfl, rfl, rfl, rfl, rfl, rfl, trivial⟩) (.refl _))
  have s12 : W 7 (lv 9 17) (asg [(4, .v (.slice none 0 0)), (5, D.i 0), (6, .own cb61 3 pre61.length out1.length), (7, (encL 3 encSpan) both1), (9, .ptr c5 3 0 0), (21, (encL 3 encSpan) a), (22, D.i (a.length : Int)), (23, D.i x), (67, (encL 3 encSpan) both1), (71, (encL 3 encSpan) both1)]) [(c5, .cells 3 [encSpan s_]), (cb61, .cells 3 (winL encSpan pre61 out1 post61))] := wpS_of hW (by refine wpS_step (rs := [1, 5]) (by kernel_rfl) rfl ⟨?_, ?_, trivial⟩; refine wpS_op (i := 1) (li' := (lv 9 19)) rfl rfl rfl rfl (by kernel_rfl) (OpA.iixV (enc := encSpan) rfl ts23 rfl rfl rfl q1_0 ?_); exact wpS_to hW (s10) (Cov.asg ⟨rfl, rfl, rfl, rfl, rfl, rfl, rfl, rfl, rfl, rfl, trivial⟩) (.refl _); refine wpS_op (i := 5) (li' := (lv 9 49)) rfl rfl rfl rfl (by kernel_rfl) (OpA.isliceV (enc := encSpan) rfl ts23 rfl (.some rfl) (.none _) q5_0 ?_); exact wpS_to hW (s11) (Cov.asg ⟨rfl, rfl, rfl, rfl, rfl, rfl, rfl, rfl, rfl, rfl, trivial⟩) (.refl _))
  refine wpS_of hW ?_
  refine wpS_firstY (fuel := 8) (i := 0) (li' := (lv 9 1)) rfl rfl (.move rfl) rfl rfl (by kernel_rfl) (by kernel_rfl) (by kernel_rfl) (fun _ _ _ hx => hx) rfl rfl (by kernel_rfl) ?_
  refine wpS_firstY (fuel := 7) (i := 4) (li' := (lv 9 17)) rfl rfl (.move rfl) rfl rfl (by kernel_rfl) (by kernel_rfl) (by kernel_rfl) (fun _ _ _ hx => hx) rfl rfl (by kernel_rfl) ?_
  exact wpS_to hW s12 (Cov.asg ⟨rfl, rfl, rfl, rfl, rfl, rfl, rfl, rfl, rfl, rfl, trivial⟩) (.refl _)
  refine wpS_of hW (wpS_done (by kernel_rfl) ?_)
  exact ⟨(cb61, pre61, post61), ((Span.mk s_.path ((gi both1 0).to) s_.to), out1, (lsub both1 1 (both1.length : Int))), h, (Cov.asg ⟨rfl, rfl, rfl, rfl, rfl, rfl, rfl, rfl, trivial⟩), (.refl _)⟩
  have h := h.2 ((and0 b7).imp (fun hh => ((and0 hh).imp (fun hh => (decF hh)) (fun hh => (decF hh)))) (fun hh => (decF hh)))
  refine wpA_exit ?_
  refine wpA_seq ?_
  refine wpA_region ?_
  refine wpL_op rfl rfl rfl (OpA.fieldAddr rfl tf33_1 rfl ?_)
  refine wpL_op rfl rfl rfl (OpA.load rfl ti3 rfl .head rfl rfl ?_)
  refine wpL_op rfl rfl rfl (OpA.fieldAddr rfl tf33_2 rfl ?_)
  refine wpL_op rfl rfl rfl (OpA.load rfl ti3 rfl .head rfl rfl ?_)
  refine wpL_op rfl rfl rfl (OpA.lss rfl rfl rfl ?_)
  refine wpL_nil ?_
  refine wpA_cond rfl (fun b231 => ?_) (fun b231 => ?_)
  have h := h.1 (decT b231)
  obtain ⟨q1, h⟩ := h
  refine wpA_region ?_
  refine wpL_op rfl rfl rfl (OpA.mv rfl (by with_reducible conv => lhs; whnf) ?_)
  refine wpL_op rfl rfl rfl (OpA.load_whole rfl ti33 rfl rfl .head rfl ⟨_, rfl⟩ ?_)
  refine wpL_op rfl rfl rfl (OpA.ibuildSliceO rfl ts23 rfl (.cons (.of (sz := 3) rfl) .nil) (by decide) ?_)
  refine wpL_op rfl rfl rfl (OpA.appendW (enc := encSpan) rfl rfl rfl rfl ts23 rfl (fun _ _ => (.tail .head)) (.list (ys := ([s_] : List Span))) q1 (fun c232 pre233 => ?_))
  refine wpL_op rfl rfl rfl (OpA.asn rfl (by with_reducible conv => lhs; whnf) ?_)
  refine wpL_nil ?_
  obtain ⟨q1, h⟩ := h
  refine wpA_region ?_
  refine wpL_op rfl rfl rfl (OpA.addi rfl rfl rfl q1 ?_)
  refine wpL_op rfl rfl rfl (OpA.mv rfl (by with_reducible conv => lhs; whnf) ?_)
  refine wpL_nil ?_
  exact ⟨(c232, pre233, ([] : List D)), ((out1 ++ ([s_] : List Span)), both1, (x + 1)), h, (Cov.asg ⟨rfl, rfl, rfl, rfl, rfl, rfl, rfl, trivial⟩), (.cons _ (.refl _))⟩
  have h := h.2 (decF b231)
  refine wpA_skip ?_
  obtain ⟨q1, h⟩ := h
  refine wpA_region ?_
  refine wpL_op rfl rfl rfl (OpA.addi rfl rfl rfl q1 ?_)
  refine wpL_op rfl rfl rfl (OpA.mv rfl (by with_reducible conv => lhs; whnf) ?_)
  refine wpL_nil ?_
  exact ⟨(cb61, pre61, post61), (out1, both1, (x + 1)), h, (Cov.asg ⟨rfl, rfl, rfl, rfl, rfl, rfl, rfl, trivial⟩), (.cons _ (.refl _))⟩
  have h := h.2 (decF b4)
  refine wpA_exit ?_
  refine wpA_seq ?_
  refine wpA_region ?_
  refine wpL_op rfl rfl rfl (OpA.mv rfl (by with_reducible conv => lhs; whnf) ?_)
  refine wpL_op rfl rfl rfl (OpA.asn rfl (by with_reducible conv => lhs; whnf) ?_)
  refine wpL_op rfl rfl rfl (OpA.asn rfl (by with_reducible conv => lhs; whnf) ?_)
  refine wpL_nil ?_
  refine wpA_ret ?_
  exact ⟨_, (.tmp (d := .own cb6 3 pre6.length out.length) rfl (.tmp (d := D.i 0) rfl .nil)), _, (.tup (.win .head (by intro hf; cases hf) (.same rfl .nil)) .nil), ⟨(out, 0), rfl, h⟩⟩
theorem minus_c (a : (List Span)) (b : (List Span))  (hp0 : a.length ≤ 100000) (hp1 : b.length ≤ 100000) (hp2 : ∀ z_ ∈ a, z_.path.size ≤ 1000000) (hp3 : ∀ z_ ∈ b, z_.path.size ≤ 1000000) : Fun false Tryd.prog 13 [(encL 3 encSpan) a, (encL 3 encSpan) b] (fun d => d = .tup [(encL 3 encSpan) ((minusF a b).1), D.i ((minusF a b).2)]) :=
  Fun.at (enc := fun r => .tup [(encL 3 encSpan) (r.1), D.i (r.2)]) (v := minusF a b) (minus_w a b  (fun r => r = minusF a b) (minus_ok a b _ hp0 hp1 hp2 hp3 rfl))
end Go.Proofs.YtciihmjdccecgaaDoor
