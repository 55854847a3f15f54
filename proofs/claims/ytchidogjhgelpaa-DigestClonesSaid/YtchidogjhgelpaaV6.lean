/-
  walks and contracts
-/
import Derived.Test.YtchidogjhgelpaaV4
set_option linter.all false
namespace Go.Proofs.Ytchidogjhgelpaa
open Go Go.Lic
attribute [local irreducible] rotF offF conF offsF consF roundF roundR permF sumF hexF digF parseF idxB hex1 newF absF clF wrF ssF



set_option maxHeartbeats 2000000 in
set_option maxRecDepth 10000 in
theorem lawStream_w (calls : (List (List ByteArray)))  (Q : Bool → Prop) (h : lawStream_vc calls Q) : Fun false Try.prog 6 [(encL 1 (encL 1 D.s)) calls] (fun d => ∃ r, d = D.b r ∧ Q r) := by
  unfold lawStream_vc at h
  refine Fun.of_body Try.func6 rfl Try.ntmps6 rfl ?_
  refine wpA_seq ?_
  refine wpA_region ?_
  refine wpL_op rfl rfl rfl (OpA.asn rfl (by with_reducible conv => lhs; whnf) ?_)
  refine wpL_nil ?_
  iterate 2 refine wpA_seq ?_
  refine wpA_region ?_
  refine wpL_op rfl rfl rfl (OpA.call rfl rfl rfl en10 (awake_c  ) ?_)
  rintro _ rfl
  refine wpL_op rfl rfl rfl (OpA.not rfl rfl ?_)
  refine wpL_nil ?_
  refine wpA_cond rfl (fun b1 => ?_) (fun b1 => ?_)
  have h := h.1 (notT b1)
  refine wpA_seq ?_
  refine wpA_region ?_
  refine wpL_op rfl rfl rfl (OpA.asn rfl (by with_reducible conv => lhs; whnf) ?_)
  refine wpL_nil ?_
  refine wpA_ret ?_
  exact ⟨_, (.tmp (d := D.b false) rfl .nil), _, (.same rfl .nil), ⟨false, rfl, h⟩⟩
  have h := h.2 (notF b1)
  refine wpA_skip ?_
  iterate 2 refine wpA_seq ?_
  refine wpA_region ?_
  refine wpL_op rfl rfl rfl (OpA.mv rfl (by with_reducible conv => lhs; whnf) ?_)
  refine wpL_op rfl rfl rfl (OpA.len rfl rfl rfl rfl ts30.desc (.inl ⟨_, _, rfl, (List.length_map _).symm⟩) ?_)
  refine wpL_op rfl rfl rfl (OpA.gtr rfl rfl rfl ?_)
  refine wpL_nil ?_
  refine wpA_cond rfl (fun b2 => ?_) (fun b2 => ?_)
  have h := h.1 (decT b2)
  refine wpA_seq ?_
  refine wpA_region ?_
  refine wpL_op rfl rfl rfl (OpA.asn rfl (by with_reducible conv => lhs; whnf) ?_)
  refine wpL_nil ?_
  refine wpA_ret ?_
  exact ⟨_, (.tmp (d := D.b true) rfl .nil), _, (.same rfl .nil), ⟨true, rfl, h⟩⟩
  have h := h.2 (decF b2)
  refine wpA_skip ?_
  refine wpA_seq ?_
  refine wpA_region ?_
  refine wpL_op rfl rfl rfl (OpA.callH rfl rfl rfl en15 (h1 := []) (h2 := []) (.refl _) (new_c ) ?_)
  rintro _ _ ⟨⟨c3, c_n4, pre_n4, post_n4⟩, rfl, rfl⟩
  refine wpL_op rfl rfl rfl (OpA.asn rfl (by with_reducible conv => lhs; whnf) ?_)
  refine wpL_op rfl rfl rfl (OpA.asn rfl (by with_reducible conv => lhs; whnf) ?_)
  refine wpL_nil ?_
  iterate 2 refine wpA_seq ?_
  refine wpA_region ?_
  refine wpL_op rfl rfl rfl (OpA.mv rfl (by with_reducible conv => lhs; whnf) ?_)
  refine wpL_op rfl rfl rfl (OpA.ptrNil rfl td31 rfl rfl (.inl ⟨rfl, rfl⟩) ?_)
  refine wpL_nil ?_
  refine wpA_condF rfl ?_
  refine wpA_skip ?_
  iterate 2 refine wpA_seq ?_
  refine wpA_region ?_
  refine wpL_op rfl rfl rfl (OpA.mv rfl (by with_reducible conv => lhs; whnf) ?_)
  refine wpL_op rfl rfl rfl (OpA.len rfl rfl rfl rfl ts30.desc (.inl ⟨_, _, rfl, (List.length_map _).symm⟩) ?_)
  refine wpL_op rfl rfl rfl (OpA.mv rfl (by with_reducible conv => lhs; whnf) ?_)
  refine wpL_nil ?_
  refine wpA_block ?_
  refine wpA_lfp (S := (List Int) × Int × (List Int) × ByteArray × ByteArray × (List Int) × ByteArray × Int) (G := Nat × List D × List D) (c_n4, pre_n4, post_n4) (fun gg ss => asg [(2, D.b false), (3, .ptr c3 54 0 0), (4, D.s ss.2.2.2.2.2.2.1), (18, (encL 1 (encL 1 D.s)) calls), (19, D.i (calls.length : Int)), (20, D.i ss.2.2.2.2.2.2.2)]) (fun gg ss => [(c3, .cells 54 [.agg (arrC 25 (D.k .u64) ss.1 ++ ([.own gg.1 1 gg.2.1.length ss.2.2.2.2.2.1.length, D.i ss.2.1] ++ (arrC 25 (D.k .u64) ss.2.2.1 ++ ([D.s ss.2.2.2.1, D.s ss.2.2.2.2.1]))))]), (gg.1, .cells 1 (winL (D.k .u8) gg.2.1 ss.2.2.2.2.2.1 gg.2.2))]) h (Cov.asg ⟨rfl, rfl, rfl, rfl, rfl, rfl, trivial⟩) (.refl _) ?_
  rintro again5 ⟨cn4_rest, pren4_rest, postn4_rest⟩ ⟨s_state, s_taken, s_seen, s_tail, s_sum, xs, all, x⟩ h
  have h : lawStream_L1 calls Q again5 s_state s_taken s_seen s_tail s_sum xs all x := h
  unfold lawStream_L1 at h
  show wpA _ _ _ _ (asg [(2, D.b false), (3, .ptr c3 54 0 0), (4, D.s all), (18, (encL 1 (encL 1 D.s)) calls), (19, D.i (calls.length : Int)), (20, D.i x)]) [(c3, .cells 54 [.agg (arrC 25 (D.k .u64) s_state ++ ([.own cn4_rest 1 pren4_rest.length xs.length, D.i s_taken] ++ (arrC 25 (D.k .u64) s_seen ++ ([D.s s_tail, D.s s_sum]))))]), (cn4_rest, .cells 1 (winL (D.k .u8) pren4_rest xs postn4_rest))]
  refine wpA_seq ?_
  refine wpA_region ?_
  refine wpL_op rfl rfl rfl (OpA.lss rfl rfl rfl ?_)
  refine wpL_nil ?_
  refine wpA_seq ?_
  refine wpA_cond rfl (fun b6 => ?_) (fun b6 => ?_)
  have h := h.1 (decT b6)
  refine wpA_skip ?_
  refine wpA_seq ?_
  refine wpA_block ?_
  refine wpA_seq ?_
  obtain ⟨q1, h⟩ := h
  refine wpA_region ?_
  refine wpL_op rfl rfl rfl (OpA.iixV (enc := (encL 1 D.s)) rfl ts30 rfl rfl rfl q1 ?_)
  refine wpL_op rfl rfl rfl (OpA.iload rfl ti33 rfl rfl ?_)
  refine wpL_op rfl rfl rfl (OpA.asn rfl (by with_reducible conv => lhs; whnf) ?_)
  refine wpL_nil ?_
  iterate 2 refine wpA_seq ?_
  refine wpA_region ?_
  refine wpL_op rfl rfl rfl (OpA.mv rfl (by with_reducible conv => lhs; whnf) ?_)
  refine wpL_op rfl rfl rfl (OpA.len rfl rfl rfl rfl ts33.desc (.inl ⟨_, _, rfl, (List.length_map _).symm⟩) ?_)
  refine wpL_op rfl rfl rfl (OpA.gtr rfl rfl rfl ?_)
  refine wpL_nil ?_
  refine wpA_cond rfl (fun b7 => ?_) (fun b7 => ?_)
  have h := h.1 (decT b7)
  refine wpA_seq ?_
  refine wpA_region ?_
  refine wpL_op rfl rfl rfl (OpA.asn rfl (by with_reducible conv => lhs; whnf) ?_)
  refine wpL_nil ?_
  refine wpA_ret ?_
  exact ⟨_, (.tmp (d := D.b true) rfl .nil), _, (.same rfl .nil), ⟨true, rfl, h⟩⟩
  have h := h.2 (decF b7)
  refine wpA_skip ?_
  iterate 2 refine wpA_seq ?_
  refine wpA_region ?_
  refine wpL_op rfl rfl rfl (OpA.mv rfl (by with_reducible conv => lhs; whnf) ?_)
  refine wpL_op rfl rfl rfl (OpA.len rfl rfl rfl rfl ts33.desc (.inl ⟨_, _, rfl, (List.length_map _).symm⟩) ?_)
  refine wpL_op rfl rfl rfl (OpA.mv rfl (by with_reducible conv => lhs; whnf) ?_)
  refine wpL_nil ?_
  refine wpA_block ?_
  refine wpA_lfp (S := ByteArray × Int) (G := Unit) () (fun gg ss => asg [(2, D.b false), (3, .ptr c3 54 0 0), (4, D.s ss.1), (6, (encL 1 D.s) (gi calls x)), (18, (encL 1 (encL 1 D.s)) calls), (19, D.i (calls.length : Int)), (20, D.i x), (27, (encL 1 D.s) (gi calls x)), (28, D.i ((gi calls x).length : Int)), (29, D.i ss.2)]) (fun gg ss => [(c3, .cells 54 [.agg (arrC 25 (D.k .u64) s_state ++ ([.own cn4_rest 1 pren4_rest.length xs.length, D.i s_taken] ++ (arrC 25 (D.k .u64) s_seen ++ ([D.s s_tail, D.s s_sum]))))]), (cn4_rest, .cells 1 (winL (D.k .u8) pren4_rest xs postn4_rest))]) h (Cov.asg ⟨rfl, rfl, rfl, rfl, rfl, rfl, rfl, rfl, rfl, rfl, trivial⟩) (.refl _) ?_
  rintro again8 _ ⟨all1, x1⟩ h
  have h : lawStream_L2 calls s_state s_taken s_seen s_tail s_sum xs x Q again5 again8 all1 x1 := h
  unfold lawStream_L2 at h
  show wpA _ _ _ _ (asg [(2, D.b false), (3, .ptr c3 54 0 0), (4, D.s all1), (6, (encL 1 D.s) (gi calls x)), (18, (encL 1 (encL 1 D.s)) calls), (19, D.i (calls.length : Int)), (20, D.i x), (27, (encL 1 D.s) (gi calls x)), (28, D.i ((gi calls x).length : Int)), (29, D.i x1)]) [(c3, .cells 54 [.agg (arrC 25 (D.k .u64) s_state ++ ([.own cn4_rest 1 pren4_rest.length xs.length, D.i s_taken] ++ (arrC 25 (D.k .u64) s_seen ++ ([D.s s_tail, D.s s_sum]))))]), (cn4_rest, .cells 1 (winL (D.k .u8) pren4_rest xs postn4_rest))]
  refine wpA_seq ?_
  refine wpA_region ?_
  refine wpL_op rfl rfl rfl (OpA.lss rfl rfl rfl ?_)
  refine wpL_nil ?_
  refine wpA_seq ?_
  refine wpA_cond rfl (fun b9 => ?_) (fun b9 => ?_)
  have h := h.1 (decT b9)
  refine wpA_skip ?_
  refine wpA_seq ?_
  refine wpA_block ?_
  refine wpA_seq ?_
  obtain ⟨q1, h⟩ := h
  refine wpA_region ?_
  refine wpL_op rfl rfl rfl (OpA.iixV (enc := D.s) rfl ts33 rfl rfl rfl q1 ?_)
  refine wpL_op rfl rfl rfl (OpA.iload rfl ti9 rfl rfl ?_)
  refine wpL_op rfl rfl rfl (OpA.asn rfl (by with_reducible conv => lhs; whnf) ?_)
  refine wpL_nil ?_
  iterate 2 refine wpA_seq ?_
  refine wpA_region ?_
  refine wpL_op rfl rfl rfl (OpA.mv rfl (by with_reducible conv => lhs; whnf) ?_)
  refine wpL_op rfl rfl rfl (OpA.slen rfl rfl rfl rfl td9 rfl ?_)
  refine wpL_op rfl rfl rfl (OpA.gtr rfl rfl rfl ?_)
  refine wpL_nil ?_
  refine wpA_cond rfl (fun b10 => ?_) (fun b10 => ?_)
  have h := h.1 (decT b10)
  refine wpA_seq ?_
  refine wpA_region ?_
  refine wpL_op rfl rfl rfl (OpA.asn rfl (by with_reducible conv => lhs; whnf) ?_)
  refine wpL_nil ?_
  refine wpA_ret ?_
  exact ⟨_, (.tmp (d := D.b true) rfl .nil), _, (.same rfl .nil), ⟨true, rfl, h⟩⟩
  have h := h.2 (decF b10)
  refine wpA_skip ?_
  obtain ⟨q1, h⟩ := h
  refine wpA_region ?_
  refine wpL_op rfl rfl rfl (OpA.mv rfl (by with_reducible conv => lhs; whnf) ?_)
  refine wpL_op rfl rfl rfl (OpA.mv rfl (by with_reducible conv => lhs; whnf) ?_)
  refine wpL_op rfl rfl rfl (OpA.sadd rfl rfl rfl q1 ?_)
  refine wpL_op rfl rfl rfl (OpA.asn rfl (by with_reducible conv => lhs; whnf) ?_)
  refine wpL_nil ?_
  obtain ⟨q1, h⟩ := h
  refine wpA_region ?_
  refine wpL_op rfl rfl rfl (OpA.addi rfl rfl rfl q1 ?_)
  refine wpL_op rfl rfl rfl (OpA.mv rfl (by with_reducible conv => lhs; whnf) ?_)
  refine wpL_nil ?_
  exact ⟨(), ((all1 ++ (gi (gi calls x) x1)), (x1 + 1)), h, (Cov.asg ⟨rfl, rfl, rfl, rfl, rfl, rfl, rfl, rfl, rfl, rfl, trivial⟩), (.refl _)⟩
  have h := h.2 (decF b9)
  refine wpA_exit ?_
  refine wpA_seq ?_
  obtain ⟨q1, q2, q3, q4, q5, q6, h⟩ := h
  refine wpA_region ?_
  refine wpL_op rfl rfl rfl (OpA.mv rfl (by with_reducible conv => lhs; whnf) ?_)
  refine wpL_op rfl rfl rfl (OpA.mv rfl (by with_reducible conv => lhs; whnf) ?_)
  refine wpL_op rfl rfl rfl (OpA.callH rfl rfl rfl en16 (h1 := [(c3, .cells 54 [.agg (arrC 25 (D.k .u64) s_state ++ ([.own cn4_rest 1 pren4_rest.length xs.length, D.i s_taken] ++ (arrC 25 (D.k .u64) s_seen ++ ([D.s s_tail, D.s s_sum]))))]), (cn4_rest, .cells 1 (winL (D.k .u8) pren4_rest xs postn4_rest))]) (h2 := []) (.refl _) (wr_c (DigestSponge.mk s_state xs s_taken s_seen s_tail s_sum) c3 cn4_rest pren4_rest postn4_rest (gi calls x) q1 q2 q3 q4 q5 q6) ?_)
  rintro _ _ ⟨⟨c11, pre12, post13⟩, rfl, rfl⟩
  refine wpL_op rfl rfl rfl (OpA.asn rfl (by with_reducible conv => lhs; whnf) ?_)
  refine wpL_nil ?_
  refine wpA_seq ?_
  refine wpA_region ?_
  refine wpL_op rfl rfl rfl (OpA.mv rfl (by with_reducible conv => lhs; whnf) ?_)
  refine wpL_op rfl rfl rfl (OpA.mv rfl (by with_reducible conv => lhs; whnf) ?_)
  refine wpL_op rfl rfl rfl (OpA.slen rfl rfl rfl rfl td9 rfl ?_)
  refine wpL_op rfl rfl rfl (OpA.neq rfl rfl rfl ?_)
  refine wpL_op rfl rfl rfl (OpA.mv rfl (by with_reducible conv => lhs; whnf) ?_)
  refine wpL_split (s := 47) rfl (fun b20 => ?_) (fun b20 => ?_)
  have h := h.1 (bneT b20)
  iterate 5 refine wpL_skip rfl rfl rfl rfl rfl rfl ?_
  refine wpL_op rfl rfl rfl (OpA.pck rfl rfl (by with_reducible conv => lhs; whnf) ?_)
  refine wpL_op rfl rfl rfl (OpA.mv rfl (by with_reducible conv => lhs; whnf) ?_)
  iterate 5 refine wpL_skip rfl rfl rfl rfl rfl rfl ?_
  refine wpL_op rfl rfl rfl (OpA.pck rfl rfl (by with_reducible conv => lhs; whnf) ?_)
  refine wpL_nil ?_
  refine wpA_condT rfl ?_
  refine wpA_seq ?_
  refine wpA_region ?_
  refine wpL_op rfl rfl rfl (OpA.asn rfl (by with_reducible conv => lhs; whnf) ?_)
  refine wpL_nil ?_
  refine wpA_ret ?_
  exact ⟨_, (.tmp (d := D.b false) rfl .nil), _, (.same rfl .nil), ⟨false, rfl, h⟩⟩
  have h := h.2 (bneF b20)
  refine wpL_opg rfl rfl rfl rfl rfl rfl (OpA.mv rfl (by with_reducible conv => lhs; whnf) ?_)
  obtain ⟨q1, q2, h⟩ := h
  refine wpL_opg rfl rfl rfl rfl rfl rfl (OpA.callH rfl rfl rfl en17 (h1 := [(c3, .cells 54 [.agg (arrC 25 (D.k .u64) (((wrF (DigestSponge.mk s_state xs s_taken s_seen s_tail s_sum) (gi calls x)).2).state) ++ ([.own c11 1 pre12.length (((wrF (DigestSponge.mk s_state xs s_taken s_seen s_tail s_sum) (gi calls x)).2).rest).length, D.i (((wrF (DigestSponge.mk s_state xs s_taken s_seen s_tail s_sum) (gi calls x)).2).taken)] ++ (arrC 25 (D.k .u64) (((wrF (DigestSponge.mk s_state xs s_taken s_seen s_tail s_sum) (gi calls x)).2).seen) ++ ([D.s (((wrF (DigestSponge.mk s_state xs s_taken s_seen s_tail s_sum) (gi calls x)).2).tail), D.s (((wrF (DigestSponge.mk s_state xs s_taken s_seen s_tail s_sum) (gi calls x)).2).sum)]))))]), (c11, .cells 1 (winL (D.k .u8) pre12 (((wrF (DigestSponge.mk s_state xs s_taken s_seen s_tail s_sum) (gi calls x)).2).rest) post13))]) (h2 := []) (.refl _) (ss_c ((wrF (DigestSponge.mk s_state xs s_taken s_seen s_tail s_sum) (gi calls x)).2) c3 c11 pre12 post13 q1 q2) ?_)
  rintro _ _ ⟨⟨c21, pre22, post23⟩, rfl, rfl⟩
  refine wpL_opg rfl rfl rfl rfl rfl rfl (OpA.mv rfl (by with_reducible conv => lhs; whnf) ?_)
  obtain ⟨q1, h⟩ := h
  refine wpL_opg rfl rfl rfl rfl rfl rfl (OpA.call rfl rfl rfl en11 (sum_c all1 q1) ?_)
  rintro _ rfl
  refine wpL_opg rfl rfl rfl rfl rfl rfl (OpA.sneq rfl rfl rfl ?_)
  refine wpL_op rfl rfl rfl (OpA.pck rfl rfl (by with_reducible conv => lhs; whnf) ?_)
  refine wpL_op rfl rfl rfl (OpA.mv rfl (by with_reducible conv => lhs; whnf) ?_)
  refine wpL_split (s := 54) rfl (fun b24 => ?_) (fun b24 => ?_)
  have h := h.1 (ndecT b24)
  iterate 5 refine wpL_skip rfl rfl rfl rfl rfl rfl ?_
  refine wpL_op rfl rfl rfl (OpA.pck rfl rfl (by with_reducible conv => lhs; whnf) ?_)
  refine wpL_nil ?_
  refine wpA_condT rfl ?_
  refine wpA_seq ?_
  refine wpA_region ?_
  refine wpL_op rfl rfl rfl (OpA.asn rfl (by with_reducible conv => lhs; whnf) ?_)
  refine wpL_nil ?_
  refine wpA_ret ?_
  exact ⟨_, (.tmp (d := D.b false) rfl .nil), _, (.same rfl .nil), ⟨false, rfl, h⟩⟩
  have h := h.2 (ndecF b24)
  refine wpL_opg rfl rfl rfl rfl rfl rfl (OpA.mv rfl (by with_reducible conv => lhs; whnf) ?_)
  obtain ⟨q1, q2, h⟩ := h
  refine wpL_opg rfl rfl rfl rfl rfl rfl (OpA.callH rfl rfl rfl en17 (h1 := [(c3, .cells 54 [.agg (arrC 25 (D.k .u64) (((ssF ((wrF (DigestSponge.mk s_state xs s_taken s_seen s_tail s_sum) (gi calls x)).2)).2).state) ++ ([.own c21 1 pre22.length (((ssF ((wrF (DigestSponge.mk s_state xs s_taken s_seen s_tail s_sum) (gi calls x)).2)).2).rest).length, D.i (((ssF ((wrF (DigestSponge.mk s_state xs s_taken s_seen s_tail s_sum) (gi calls x)).2)).2).taken)] ++ (arrC 25 (D.k .u64) (((ssF ((wrF (DigestSponge.mk s_state xs s_taken s_seen s_tail s_sum) (gi calls x)).2)).2).seen) ++ ([D.s (((ssF ((wrF (DigestSponge.mk s_state xs s_taken s_seen s_tail s_sum) (gi calls x)).2)).2).tail), D.s (((ssF ((wrF (DigestSponge.mk s_state xs s_taken s_seen s_tail s_sum) (gi calls x)).2)).2).sum)]))))]), (c21, .cells 1 (winL (D.k .u8) pre22 (((ssF ((wrF (DigestSponge.mk s_state xs s_taken s_seen s_tail s_sum) (gi calls x)).2)).2).rest) post23))]) (h2 := []) (.refl _) (ss_c ((ssF ((wrF (DigestSponge.mk s_state xs s_taken s_seen s_tail s_sum) (gi calls x)).2)).2) c3 c21 pre22 post23 q1 q2) ?_)
  rintro _ _ ⟨⟨c25, pre26, post27⟩, rfl, rfl⟩
  refine wpL_opg rfl rfl rfl rfl rfl rfl (OpA.mv rfl (by with_reducible conv => lhs; whnf) ?_)
  obtain ⟨q1, h⟩ := h
  refine wpL_opg rfl rfl rfl rfl rfl rfl (OpA.call rfl rfl rfl en12 (rsum_c all1 q1) ?_)
  rintro _ rfl
  refine wpL_opg rfl rfl rfl rfl rfl rfl (OpA.sneq rfl rfl rfl ?_)
  refine wpL_op rfl rfl rfl (OpA.pck rfl rfl (by with_reducible conv => lhs; whnf) ?_)
  refine wpL_nil ?_
  refine wpA_cond rfl (fun b28 => ?_) (fun b28 => ?_)
  have h := h.1 (ndecT b28)
  refine wpA_seq ?_
  refine wpA_region ?_
  refine wpL_op rfl rfl rfl (OpA.asn rfl (by with_reducible conv => lhs; whnf) ?_)
  refine wpL_nil ?_
  refine wpA_ret ?_
  exact ⟨_, (.tmp (d := D.b false) rfl .nil), _, (.same rfl .nil), ⟨false, rfl, h⟩⟩
  have h := h.2 (ndecF b28)
  refine wpA_skip ?_
  obtain ⟨q1, h⟩ := h
  refine wpA_region ?_
  refine wpL_op rfl rfl rfl (OpA.addi rfl rfl rfl q1 ?_)
  refine wpL_op rfl rfl rfl (OpA.mv rfl (by with_reducible conv => lhs; whnf) ?_)
  refine wpL_nil ?_
  exact ⟨(c25, pre26, post27), (((ssF ((ssF ((wrF (DigestSponge.mk s_state xs s_taken s_seen s_tail s_sum) (gi calls x)).2)).2)).2).state, ((ssF ((ssF ((wrF (DigestSponge.mk s_state xs s_taken s_seen s_tail s_sum) (gi calls x)).2)).2)).2).taken, ((ssF ((ssF ((wrF (DigestSponge.mk s_state xs s_taken s_seen s_tail s_sum) (gi calls x)).2)).2)).2).seen, ((ssF ((ssF ((wrF (DigestSponge.mk s_state xs s_taken s_seen s_tail s_sum) (gi calls x)).2)).2)).2).tail, ((ssF ((ssF ((wrF (DigestSponge.mk s_state xs s_taken s_seen s_tail s_sum) (gi calls x)).2)).2)).2).sum, ((ssF ((ssF ((wrF (DigestSponge.mk s_state xs s_taken s_seen s_tail s_sum) (gi calls x)).2)).2)).2).rest, all1, (x + 1)), h, (Cov.asg ⟨rfl, rfl, rfl, rfl, rfl, rfl, trivial⟩), (.refl _)⟩
  have h := h.2 (decF b6)
  refine wpA_exit ?_
  refine wpA_seq ?_
  obtain ⟨q1, q2, q3, h⟩ := h
  refine wpA_region ?_
  refine wpL_op rfl rfl rfl (OpA.mv rfl (by with_reducible conv => lhs; whnf) ?_)
  refine wpL_op rfl rfl rfl (OpA.callH rfl rfl rfl en17 (h1 := [(c3, .cells 54 [.agg (arrC 25 (D.k .u64) s_state ++ ([.own cn4_rest 1 pren4_rest.length xs.length, D.i s_taken] ++ (arrC 25 (D.k .u64) s_seen ++ ([D.s s_tail, D.s s_sum]))))]), (cn4_rest, .cells 1 (winL (D.k .u8) pren4_rest xs postn4_rest))]) (h2 := []) (.refl _) (ss_c (DigestSponge.mk s_state xs s_taken s_seen s_tail s_sum) c3 cn4_rest pren4_rest postn4_rest q1 q2) ?_)
  rintro _ _ ⟨⟨c29, pre30, post31⟩, rfl, rfl⟩
  refine wpL_op rfl rfl rfl (OpA.mv rfl (by with_reducible conv => lhs; whnf) ?_)
  refine wpL_op rfl rfl rfl (OpA.call rfl rfl rfl en11 (sum_c all q3) ?_)
  rintro _ rfl
  refine wpL_op rfl rfl rfl (OpA.seql rfl rfl rfl ?_)
  refine wpL_op rfl rfl rfl (OpA.asn rfl (by with_reducible conv => lhs; whnf) ?_)
  refine wpL_nil ?_
  refine wpA_ret ?_
  exact ⟨_, (.tmp (d := D.b (decide (((ssF (DigestSponge.mk s_state xs s_taken s_seen s_tail s_sum)).1) = (sumF all)))) rfl .nil), _, (.same rfl .nil), ⟨(decide (((ssF (DigestSponge.mk s_state xs s_taken s_seen s_tail s_sum)).1) = (sumF all))), rfl, h⟩⟩
theorem lawStream_c (calls : (List (List ByteArray)))   : Fun false Try.prog 6 [(encL 1 (encL 1 D.s)) calls] (fun d => d = D.b (true)) :=
  Fun.at (enc := fun r => D.b r) (v := true) (lawStream_w calls  (fun r => r = true) (lawStream_ok calls _  rfl))

set_option maxHeartbeats 2000000 in
set_option maxRecDepth 10000 in
theorem lawClones_w (a : ByteArray) (b : ByteArray) (c : ByteArray)  (Q : Bool → Prop) (h : lawClones_vc a b c Q) : Fun false Try.prog 7 [D.s a, D.s b, D.s c] (fun d => ∃ r, d = D.b r ∧ Q r) := by
  unfold lawClones_vc at h
  refine Fun.of_body Try.func7 rfl Try.ntmps7 rfl ?_
  refine wpA_seq ?_
  refine wpA_region ?_
  refine wpL_op rfl rfl rfl (OpA.asn rfl (by with_reducible conv => lhs; whnf) ?_)
  refine wpL_nil ?_
  iterate 2 refine wpA_seq ?_
  refine wpA_region ?_
  refine wpL_op rfl rfl rfl (OpA.call rfl rfl rfl en10 (awake_c  ) ?_)
  rintro _ rfl
  refine wpL_op rfl rfl rfl (OpA.not rfl rfl ?_)
  refine wpL_nil ?_
  refine wpA_cond rfl (fun b1 => ?_) (fun b1 => ?_)
  have h := h.1 (notT b1)
  refine wpA_seq ?_
  refine wpA_region ?_
  refine wpL_op rfl rfl rfl (OpA.asn rfl (by with_reducible conv => lhs; whnf) ?_)
  refine wpL_nil ?_
  refine wpA_ret ?_
  exact ⟨_, (.tmp (d := D.b false) rfl .nil), _, (.same rfl .nil), ⟨false, rfl, h⟩⟩
  have h := h.2 (notF b1)
  refine wpA_skip ?_
  iterate 2 refine wpA_seq ?_
  refine wpA_mid (asg [(0, D.s a), (1, D.s b), (2, D.s c), (6, D.b false), (25, D.b (((decide ((a.size : Int) > 300)) || (decide ((b.size : Int) > 300))) || (decide ((c.size : Int) > 300))))]) [] ?_ ?_
  refine wpA_region ?_
  refine wpL_op rfl rfl rfl (OpA.mv rfl (by with_reducible conv => lhs; whnf) ?_)
  refine wpL_op rfl rfl rfl (OpA.slen rfl rfl rfl rfl td9 rfl ?_)
  refine wpL_op rfl rfl rfl (OpA.gtr rfl rfl rfl ?_)
  refine wpL_op rfl rfl rfl (OpA.mv rfl (by with_reducible conv => lhs; whnf) ?_)
  refine wpL_split (s := 16) rfl (fun b41 => ?_) (fun b41 => ?_)
  iterate 3 refine wpL_skip rfl rfl rfl rfl rfl rfl ?_
  refine wpL_op rfl rfl rfl (OpA.pck rfl rfl (by with_reducible conv => lhs; whnf) ?_)
  refine wpL_op rfl rfl rfl (OpA.mv rfl (by with_reducible conv => lhs; whnf) ?_)
  iterate 3 refine wpL_skip rfl rfl rfl rfl rfl rfl ?_
  refine wpL_op rfl rfl rfl (OpA.pck rfl rfl (by with_reducible conv => lhs; whnf) ?_)
  refine wpL_nil ?_
  exact ⟨(Cov.asg ⟨rfl, rfl, rfl, rfl, (congrArg D.b (Eq.symm (orS (orS b41)))), trivial⟩), (.refl _)⟩
  refine wpL_opg rfl rfl rfl rfl rfl rfl (OpA.mv rfl (by with_reducible conv => lhs; whnf) ?_)
  refine wpL_opg rfl rfl rfl rfl rfl rfl (OpA.slen rfl rfl rfl rfl td9 rfl ?_)
  refine wpL_opg rfl rfl rfl rfl rfl rfl (OpA.gtr rfl rfl rfl ?_)
  refine wpL_op rfl rfl rfl (OpA.pck rfl rfl (by with_reducible conv => lhs; whnf) ?_)
  refine wpL_op rfl rfl rfl (OpA.mv rfl (by with_reducible conv => lhs; whnf) ?_)
  refine wpL_split (s := 21) rfl (fun b42 => ?_) (fun b42 => ?_)
  iterate 3 refine wpL_skip rfl rfl rfl rfl rfl rfl ?_
  refine wpL_op rfl rfl rfl (OpA.pck rfl rfl (by with_reducible conv => lhs; whnf) ?_)
  refine wpL_nil ?_
  exact ⟨(Cov.asg ⟨rfl, rfl, rfl, rfl, (congrArg D.b (Eq.symm (orS (orN b41 b42)))), trivial⟩), (.refl _)⟩
  refine wpL_opg rfl rfl rfl rfl rfl rfl (OpA.mv rfl (by with_reducible conv => lhs; whnf) ?_)
  refine wpL_opg rfl rfl rfl rfl rfl rfl (OpA.slen rfl rfl rfl rfl td9 rfl ?_)
  refine wpL_opg rfl rfl rfl rfl rfl rfl (OpA.gtr rfl rfl rfl ?_)
  refine wpL_op rfl rfl rfl (OpA.pck rfl rfl (by with_reducible conv => lhs; whnf) ?_)
  refine wpL_nil ?_
  exact ⟨(Cov.asg ⟨rfl, rfl, rfl, rfl, (congrArg D.b (Eq.symm (orN (orN b41 b42) rfl))), trivial⟩), (.refl _)⟩
  show wpA _ _ _ _ (asg [(0, D.s a), (1, D.s b), (2, D.s c), (6, D.b false), (25, D.b (((decide ((a.size : Int) > 300)) || (decide ((b.size : Int) > 300))) || (decide ((c.size : Int) > 300))))]) []
  refine wpA_cond rfl (fun b2 => ?_) (fun b2 => ?_)
  have h := h.1 ((or0 b2).imp (fun hh => ((or0 hh).imp (fun hh => (decT hh)) (fun hh => (decT hh)))) (fun hh => (decT hh)))
  refine wpA_seq ?_
  refine wpA_region ?_
  refine wpL_op rfl rfl rfl (OpA.asn rfl (by with_reducible conv => lhs; whnf) ?_)
  refine wpL_nil ?_
  refine wpA_ret ?_
  exact ⟨_, (.tmp (d := D.b true) rfl .nil), _, (.same rfl .nil), ⟨true, rfl, h⟩⟩
  have h := h.2 ⟨⟨(decF (or1 (or1 b2))), (decF (or2 (or1 b2)))⟩, (decF (or2 b2))⟩
  refine wpA_skip ?_
  refine wpA_seq ?_
  refine wpA_region ?_
  refine wpL_op rfl rfl rfl (OpA.callH rfl rfl rfl en15 (h1 := []) (h2 := []) (.refl _) (new_c ) ?_)
  rintro _ _ ⟨⟨c3, c_n4, pre_n4, post_n4⟩, rfl, rfl⟩
  refine wpL_op rfl rfl rfl (OpA.asn rfl (by with_reducible conv => lhs; whnf) ?_)
  refine wpL_nil ?_
  iterate 2 refine wpA_seq ?_
  refine wpA_region ?_
  refine wpL_op rfl rfl rfl (OpA.mv rfl (by with_reducible conv => lhs; whnf) ?_)
  refine wpL_op rfl rfl rfl (OpA.ptrNil rfl td31 rfl rfl (.inl ⟨rfl, rfl⟩) ?_)
  refine wpL_nil ?_
  refine wpA_condF rfl ?_
  refine wpA_skip ?_
  refine wpA_seq ?_
  obtain ⟨q1, q2, q3, q4, q5, q6, h⟩ := h
  refine wpA_region ?_
  refine wpL_op rfl rfl rfl (OpA.mv rfl (by with_reducible conv => lhs; whnf) ?_)
  refine wpL_op rfl rfl rfl (OpA.mv rfl (by with_reducible conv => lhs; whnf) ?_)
  refine wpL_op rfl rfl rfl (OpA.ibuildSliceO rfl ts33 rfl (.cons (.of (sz := 1) rfl) .nil) (by decide) ?_)
  refine wpL_op rfl rfl rfl (OpA.callH rfl rfl rfl en16 (h1 := [(c3, .cells 54 [.agg (arrC 25 (D.k .u64) newF.state ++ ([.own c_n4 1 pre_n4.length newF.rest.length, D.i newF.taken] ++ (arrC 25 (D.k .u64) newF.seen ++ ([D.s newF.tail, D.s newF.sum]))))]), (c_n4, .cells 1 (winL (D.k .u8) pre_n4 newF.rest post_n4))]) (h2 := []) (.refl _) (wr_c newF c3 c_n4 pre_n4 post_n4 ([a] : List ByteArray) q1 q2 q3 q4 q5 q6) ?_)
  rintro _ _ ⟨⟨c5, pre6, post7⟩, rfl, rfl⟩
  refine wpL_nil ?_
  refine wpA_seq ?_
  obtain ⟨q1, h⟩ := h
  refine wpA_region ?_
  refine wpL_op rfl rfl rfl (OpA.mv rfl (by with_reducible conv => lhs; whnf) ?_)
  refine wpL_op rfl rfl rfl (OpA.callH rfl rfl rfl en18 (h1 := [(c3, .cells 54 [.agg (arrC 25 (D.k .u64) (((wrF newF ([a] : List ByteArray)).2).state) ++ ([.own c5 1 pre6.length (((wrF newF ([a] : List ByteArray)).2).rest).length, D.i (((wrF newF ([a] : List ByteArray)).2).taken)] ++ (arrC 25 (D.k .u64) (((wrF newF ([a] : List ByteArray)).2).seen) ++ ([D.s (((wrF newF ([a] : List ByteArray)).2).tail), D.s (((wrF newF ([a] : List ByteArray)).2).sum)]))))]), (c5, .cells 1 (winL (D.k .u8) pre6 (((wrF newF ([a] : List ByteArray)).2).rest) post7))]) (h2 := []) (.refl _) (cl_c ((wrF newF ([a] : List ByteArray)).2) c3 c5 pre6 post7 q1) ?_)
  rintro _ _ ⟨⟨c8, c_n9, pre_n9, post_n9, c10, pre11, post12⟩, rfl, rfl⟩
  refine wpL_op rfl rfl rfl (OpA.asn rfl (by with_reducible conv => lhs; whnf) ?_)
  refine wpL_nil ?_
  iterate 2 refine wpA_seq ?_
  obtain ⟨q1, q2, q3, q4, h⟩ := h
  refine wpA_region ?_
  refine wpL_op rfl rfl rfl (OpA.mv rfl (by with_reducible conv => lhs; whnf) ?_)
  refine wpL_op rfl rfl rfl (OpA.ptrNil rfl td31 rfl rfl (.inl ⟨rfl, rfl⟩) ?_)
  refine wpL_op rfl rfl rfl (OpA.mv rfl (by with_reducible conv => lhs; whnf) ?_)
  refine wpL_opg rfl rfl rfl rfl rfl rfl (OpA.mv rfl (by with_reducible conv => lhs; whnf) ?_)
  refine wpL_opg rfl rfl rfl rfl rfl rfl (OpA.callH rfl rfl rfl en17 (h1 := [(c8, .cells 54 [.agg (arrC 25 (D.k .u64) (((clF ((wrF newF ([a] : List ByteArray)).2)).1).state) ++ ([.own c_n9 1 pre_n9.length (((clF ((wrF newF ([a] : List ByteArray)).2)).1).rest).length, D.i (((clF ((wrF newF ([a] : List ByteArray)).2)).1).taken)] ++ (arrC 25 (D.k .u64) (((clF ((wrF newF ([a] : List ByteArray)).2)).1).seen) ++ ([D.s (((clF ((wrF newF ([a] : List ByteArray)).2)).1).tail), D.s (((clF ((wrF newF ([a] : List ByteArray)).2)).1).sum)]))))]), (c_n9, .cells 1 (winL (D.k .u8) pre_n9 (((clF ((wrF newF ([a] : List ByteArray)).2)).1).rest) post_n9))]) (h2 := [(c3, .cells 54 [.agg (arrC 25 (D.k .u64) (((clF ((wrF newF ([a] : List ByteArray)).2)).2).state) ++ ([.own c10 1 pre11.length (((clF ((wrF newF ([a] : List ByteArray)).2)).2).rest).length, D.i (((clF ((wrF newF ([a] : List ByteArray)).2)).2).taken)] ++ (arrC 25 (D.k .u64) (((clF ((wrF newF ([a] : List ByteArray)).2)).2).seen) ++ ([D.s (((clF ((wrF newF ([a] : List ByteArray)).2)).2).tail), D.s (((clF ((wrF newF ([a] : List ByteArray)).2)).2).sum)]))))]), (c10, .cells 1 (winL (D.k .u8) pre11 (((clF ((wrF newF ([a] : List ByteArray)).2)).2).rest) post12))]) (.refl _) (ss_c ((clF ((wrF newF ([a] : List ByteArray)).2)).1) c8 c_n9 pre_n9 post_n9 q1 q2) ?_)
  rintro _ _ ⟨⟨c13, pre14, post15⟩, rfl, rfl⟩
  refine wpL_opg rfl rfl rfl rfl rfl rfl (OpA.mv rfl (by with_reducible conv => lhs; whnf) ?_)
  refine wpL_opg rfl rfl rfl rfl rfl rfl (OpA.callH rfl rfl rfl en17 (h1 := [(c3, .cells 54 [.agg (arrC 25 (D.k .u64) (((clF ((wrF newF ([a] : List ByteArray)).2)).2).state) ++ ([.own c10 1 pre11.length (((clF ((wrF newF ([a] : List ByteArray)).2)).2).rest).length, D.i (((clF ((wrF newF ([a] : List ByteArray)).2)).2).taken)] ++ (arrC 25 (D.k .u64) (((clF ((wrF newF ([a] : List ByteArray)).2)).2).seen) ++ ([D.s (((clF ((wrF newF ([a] : List ByteArray)).2)).2).tail), D.s (((clF ((wrF newF ([a] : List ByteArray)).2)).2).sum)]))))]), (c10, .cells 1 (winL (D.k .u8) pre11 (((clF ((wrF newF ([a] : List ByteArray)).2)).2).rest) post12))]) (h2 := [(c8, .cells 54 [.agg (arrC 25 (D.k .u64) (((ssF ((clF ((wrF newF ([a] : List ByteArray)).2)).1)).2).state) ++ ([.own c13 1 pre14.length (((ssF ((clF ((wrF newF ([a] : List ByteArray)).2)).1)).2).rest).length, D.i (((ssF ((clF ((wrF newF ([a] : List ByteArray)).2)).1)).2).taken)] ++ (arrC 25 (D.k .u64) (((ssF ((clF ((wrF newF ([a] : List ByteArray)).2)).1)).2).seen) ++ ([D.s (((ssF ((clF ((wrF newF ([a] : List ByteArray)).2)).1)).2).tail), D.s (((ssF ((clF ((wrF newF ([a] : List ByteArray)).2)).1)).2).sum)]))))]), (c13, .cells 1 (winL (D.k .u8) pre14 (((ssF ((clF ((wrF newF ([a] : List ByteArray)).2)).1)).2).rest) post15))]) (pull2.trans (.cons _ pull2)) (ss_c ((clF ((wrF newF ([a] : List ByteArray)).2)).2) c3 c10 pre11 post12 q3 q4) ?_)
  rintro _ _ ⟨⟨c16, pre17, post18⟩, rfl, rfl⟩
  refine wpL_perm (h' := [(c8, .cells 54 [.agg (arrC 25 (D.k .u64) (((ssF ((clF ((wrF newF ([a] : List ByteArray)).2)).1)).2).state) ++ ([.own c13 1 pre14.length (((ssF ((clF ((wrF newF ([a] : List ByteArray)).2)).1)).2).rest).length, D.i (((ssF ((clF ((wrF newF ([a] : List ByteArray)).2)).1)).2).taken)] ++ (arrC 25 (D.k .u64) (((ssF ((clF ((wrF newF ([a] : List ByteArray)).2)).1)).2).seen) ++ ([D.s (((ssF ((clF ((wrF newF ([a] : List ByteArray)).2)).1)).2).tail), D.s (((ssF ((clF ((wrF newF ([a] : List ByteArray)).2)).1)).2).sum)]))))]), (c13, .cells 1 (winL (D.k .u8) pre14 (((ssF ((clF ((wrF newF ([a] : List ByteArray)).2)).1)).2).rest) post15)), (c3, .cells 54 [.agg (arrC 25 (D.k .u64) (((ssF ((clF ((wrF newF ([a] : List ByteArray)).2)).2)).2).state) ++ ([.own c16 1 pre17.length (((ssF ((clF ((wrF newF ([a] : List ByteArray)).2)).2)).2).rest).length, D.i (((ssF ((clF ((wrF newF ([a] : List ByteArray)).2)).2)).2).taken)] ++ (arrC 25 (D.k .u64) (((ssF ((clF ((wrF newF ([a] : List ByteArray)).2)).2)).2).seen) ++ ([D.s (((ssF ((clF ((wrF newF ([a] : List ByteArray)).2)).2)).2).tail), D.s (((ssF ((clF ((wrF newF ([a] : List ByteArray)).2)).2)).2).sum)]))))]), (c16, .cells 1 (winL (D.k .u8) pre17 (((ssF ((clF ((wrF newF ([a] : List ByteArray)).2)).2)).2).rest) post18))]) (pull2.trans (.cons _ pull2)) ?_
  refine wpL_opg rfl rfl rfl rfl rfl rfl (OpA.sneq rfl rfl rfl ?_)
  refine wpL_op rfl rfl rfl (OpA.pck rfl rfl (by with_reducible conv => lhs; whnf) ?_)
  refine wpL_nil ?_
  refine wpA_cond rfl (fun b19 => ?_) (fun b19 => ?_)
  have h := h.1 (ndecT b19)
  refine wpA_seq ?_
  refine wpA_region ?_
  refine wpL_op rfl rfl rfl (OpA.asn rfl (by with_reducible conv => lhs; whnf) ?_)
  refine wpL_nil ?_
  refine wpA_ret ?_
  exact ⟨_, (.tmp (d := D.b false) rfl .nil), _, (.same rfl .nil), ⟨false, rfl, h⟩⟩
  have h := h.2 (ndecF b19)
  refine wpA_skip ?_
  refine wpA_seq ?_
  obtain ⟨q1, q2, q3, q4, q5, q6, q7, q8, q9, q10, q11, q12, h⟩ := h
  refine wpA_region ?_
  refine wpL_op rfl rfl rfl (OpA.mv rfl (by with_reducible conv => lhs; whnf) ?_)
  refine wpL_op rfl rfl rfl (OpA.mv rfl (by with_reducible conv => lhs; whnf) ?_)
  refine wpL_op rfl rfl rfl (OpA.ibuildSliceO rfl ts33 rfl (.cons (.of (sz := 1) rfl) .nil) (by decide) ?_)
  refine wpL_op rfl rfl rfl (OpA.callH rfl rfl rfl en16 (h1 := [(c3, .cells 54 [.agg (arrC 25 (D.k .u64) (((ssF ((clF ((wrF newF ([a] : List ByteArray)).2)).2)).2).state) ++ ([.own c16 1 pre17.length (((ssF ((clF ((wrF newF ([a] : List ByteArray)).2)).2)).2).rest).length, D.i (((ssF ((clF ((wrF newF ([a] : List ByteArray)).2)).2)).2).taken)] ++ (arrC 25 (D.k .u64) (((ssF ((clF ((wrF newF ([a] : List ByteArray)).2)).2)).2).seen) ++ ([D.s (((ssF ((clF ((wrF newF ([a] : List ByteArray)).2)).2)).2).tail), D.s (((ssF ((clF ((wrF newF ([a] : List ByteArray)).2)).2)).2).sum)]))))]), (c16, .cells 1 (winL (D.k .u8) pre17 (((ssF ((clF ((wrF newF ([a] : List ByteArray)).2)).2)).2).rest) post18))]) (h2 := [(c8, .cells 54 [.agg (arrC 25 (D.k .u64) (((ssF ((clF ((wrF newF ([a] : List ByteArray)).2)).1)).2).state) ++ ([.own c13 1 pre14.length (((ssF ((clF ((wrF newF ([a] : List ByteArray)).2)).1)).2).rest).length, D.i (((ssF ((clF ((wrF newF ([a] : List ByteArray)).2)).1)).2).taken)] ++ (arrC 25 (D.k .u64) (((ssF ((clF ((wrF newF ([a] : List ByteArray)).2)).1)).2).seen) ++ ([D.s (((ssF ((clF ((wrF newF ([a] : List ByteArray)).2)).1)).2).tail), D.s (((ssF ((clF ((wrF newF ([a] : List ByteArray)).2)).1)).2).sum)]))))]), (c13, .cells 1 (winL (D.k .u8) pre14 (((ssF ((clF ((wrF newF ([a] : List ByteArray)).2)).1)).2).rest) post15))]) (pull2.trans (.cons _ pull2)) (wr_c ((ssF ((clF ((wrF newF ([a] : List ByteArray)).2)).2)).2) c3 c16 pre17 post18 ([b] : List ByteArray) q1 q2 q3 q4 q5 q6) ?_)
  rintro _ _ ⟨⟨c20, pre21, post22⟩, rfl, rfl⟩
  refine wpL_perm (h' := [(c8, .cells 54 [.agg (arrC 25 (D.k .u64) (((ssF ((clF ((wrF newF ([a] : List ByteArray)).2)).1)).2).state) ++ ([.own c13 1 pre14.length (((ssF ((clF ((wrF newF ([a] : List ByteArray)).2)).1)).2).rest).length, D.i (((ssF ((clF ((wrF newF ([a] : List ByteArray)).2)).1)).2).taken)] ++ (arrC 25 (D.k .u64) (((ssF ((clF ((wrF newF ([a] : List ByteArray)).2)).1)).2).seen) ++ ([D.s (((ssF ((clF ((wrF newF ([a] : List ByteArray)).2)).1)).2).tail), D.s (((ssF ((clF ((wrF newF ([a] : List ByteArray)).2)).1)).2).sum)]))))]), (c13, .cells 1 (winL (D.k .u8) pre14 (((ssF ((clF ((wrF newF ([a] : List ByteArray)).2)).1)).2).rest) post15)), (c3, .cells 54 [.agg (arrC 25 (D.k .u64) (((wrF ((ssF ((clF ((wrF newF ([a] : List ByteArray)).2)).2)).2) ([b] : List ByteArray)).2).state) ++ ([.own c20 1 pre21.length (((wrF ((ssF ((clF ((wrF newF ([a] : List ByteArray)).2)).2)).2) ([b] : List ByteArray)).2).rest).length, D.i (((wrF ((ssF ((clF ((wrF newF ([a] : List ByteArray)).2)).2)).2) ([b] : List ByteArray)).2).taken)] ++ (arrC 25 (D.k .u64) (((wrF ((ssF ((clF ((wrF newF ([a] : List ByteArray)).2)).2)).2) ([b] : List ByteArray)).2).seen) ++ ([D.s (((wrF ((ssF ((clF ((wrF newF ([a] : List ByteArray)).2)).2)).2) ([b] : List ByteArray)).2).tail), D.s (((wrF ((ssF ((clF ((wrF newF ([a] : List ByteArray)).2)).2)).2) ([b] : List ByteArray)).2).sum)]))))]), (c20, .cells 1 (winL (D.k .u8) pre21 (((wrF ((ssF ((clF ((wrF newF ([a] : List ByteArray)).2)).2)).2) ([b] : List ByteArray)).2).rest) post22))]) (pull2.trans (.cons _ pull2)) ?_
  refine wpL_op rfl rfl rfl (OpA.mv rfl (by with_reducible conv => lhs; whnf) ?_)
  refine wpL_op rfl rfl rfl (OpA.mv rfl (by with_reducible conv => lhs; whnf) ?_)
  refine wpL_op rfl rfl rfl (OpA.mv rfl (by with_reducible conv => lhs; whnf) ?_)
  refine wpL_op rfl rfl rfl (OpA.ibuildSliceO rfl ts33 rfl (.cons (.of (sz := 1) rfl) (.cons (.of (sz := 1) rfl) .nil)) (by decide) ?_)
  refine wpL_op rfl rfl rfl (OpA.callH rfl rfl rfl en16 (h1 := [(c8, .cells 54 [.agg (arrC 25 (D.k .u64) (((ssF ((clF ((wrF newF ([a] : List ByteArray)).2)).1)).2).state) ++ ([.own c13 1 pre14.length (((ssF ((clF ((wrF newF ([a] : List ByteArray)).2)).1)).2).rest).length, D.i (((ssF ((clF ((wrF newF ([a] : List ByteArray)).2)).1)).2).taken)] ++ (arrC 25 (D.k .u64) (((ssF ((clF ((wrF newF ([a] : List ByteArray)).2)).1)).2).seen) ++ ([D.s (((ssF ((clF ((wrF newF ([a] : List ByteArray)).2)).1)).2).tail), D.s (((ssF ((clF ((wrF newF ([a] : List ByteArray)).2)).1)).2).sum)]))))]), (c13, .cells 1 (winL (D.k .u8) pre14 (((ssF ((clF ((wrF newF ([a] : List ByteArray)).2)).1)).2).rest) post15))]) (h2 := [(c3, .cells 54 [.agg (arrC 25 (D.k .u64) (((wrF ((ssF ((clF ((wrF newF ([a] : List ByteArray)).2)).2)).2) ([b] : List ByteArray)).2).state) ++ ([.own c20 1 pre21.length (((wrF ((ssF ((clF ((wrF newF ([a] : List ByteArray)).2)).2)).2) ([b] : List ByteArray)).2).rest).length, D.i (((wrF ((ssF ((clF ((wrF newF ([a] : List ByteArray)).2)).2)).2) ([b] : List ByteArray)).2).taken)] ++ (arrC 25 (D.k .u64) (((wrF ((ssF ((clF ((wrF newF ([a] : List ByteArray)).2)).2)).2) ([b] : List ByteArray)).2).seen) ++ ([D.s (((wrF ((ssF ((clF ((wrF newF ([a] : List ByteArray)).2)).2)).2) ([b] : List ByteArray)).2).tail), D.s (((wrF ((ssF ((clF ((wrF newF ([a] : List ByteArray)).2)).2)).2) ([b] : List ByteArray)).2).sum)]))))]), (c20, .cells 1 (winL (D.k .u8) pre21 (((wrF ((ssF ((clF ((wrF newF ([a] : List ByteArray)).2)).2)).2) ([b] : List ByteArray)).2).rest) post22))]) (.refl _) (wr_c ((ssF ((clF ((wrF newF ([a] : List ByteArray)).2)).1)).2) c8 c13 pre14 post15 ([c, b] : List ByteArray) q7 q8 q9 q10 q11 q12) ?_)
  rintro _ _ ⟨⟨c23, pre24, post25⟩, rfl, rfl⟩
  refine wpL_op rfl rfl rfl (OpA.asn rfl (by with_reducible conv => lhs; whnf) ?_)
  refine wpL_op rfl rfl rfl (OpA.asn rfl (by with_reducible conv => lhs; whnf) ?_)
  refine wpL_nil ?_
  refine wpA_seq ?_
  refine wpA_region ?_
  refine wpL_op rfl rfl rfl (OpA.mv rfl (by with_reducible conv => lhs; whnf) ?_)
  refine wpL_op rfl rfl rfl (OpA.mv rfl (by with_reducible conv => lhs; whnf) ?_)
  refine wpL_op rfl rfl rfl (OpA.slen rfl rfl rfl rfl td9 rfl ?_)
  refine wpL_op rfl rfl rfl (OpA.mv rfl (by with_reducible conv => lhs; whnf) ?_)
  refine wpL_op rfl rfl rfl (OpA.slen rfl rfl rfl rfl td9 rfl ?_)
  obtain ⟨q1, h⟩ := h
  refine wpL_op rfl rfl rfl (OpA.addi rfl rfl rfl q1 ?_)
  refine wpL_op rfl rfl rfl (OpA.eql rfl rfl rfl ?_)
  refine wpL_op rfl rfl rfl (OpA.mv rfl (by with_reducible conv => lhs; whnf) ?_)
  refine wpL_split (s := 60) rfl (fun b32 => ?_) (fun b32 => ?_)
  have h := h.1 (beqT b32)
  refine wpL_opg rfl rfl rfl rfl rfl rfl (OpA.mv rfl (by with_reducible conv => lhs; whnf) ?_)
  refine wpL_opg rfl rfl rfl rfl rfl rfl (OpA.mv rfl (by with_reducible conv => lhs; whnf) ?_)
  refine wpL_opg rfl rfl rfl rfl rfl rfl (OpA.slen rfl rfl rfl rfl td9 rfl ?_)
  refine wpL_opg rfl rfl rfl rfl rfl rfl (OpA.mv rfl (by with_reducible conv => lhs; whnf) ?_)
  refine wpL_opg rfl rfl rfl rfl rfl rfl (OpA.slen rfl rfl rfl rfl td9 rfl ?_)
  obtain ⟨q1, h⟩ := h
  refine wpL_opg rfl rfl rfl rfl rfl rfl (OpA.addi rfl rfl rfl q1 ?_)
  refine wpL_opg rfl rfl rfl rfl rfl rfl (OpA.mv rfl (by with_reducible conv => lhs; whnf) ?_)
  refine wpL_opg rfl rfl rfl rfl rfl rfl (OpA.slen rfl rfl rfl rfl td9 rfl ?_)
  obtain ⟨q1, h⟩ := h
  refine wpL_opg rfl rfl rfl rfl rfl rfl (OpA.addi rfl rfl rfl q1 ?_)
  refine wpL_opg rfl rfl rfl rfl rfl rfl (OpA.eql rfl rfl rfl ?_)
  refine wpL_op rfl rfl rfl (OpA.pck rfl rfl (by with_reducible conv => lhs; whnf) ?_)
  refine wpL_op rfl rfl rfl (OpA.mv rfl (by with_reducible conv => lhs; whnf) ?_)
  refine wpL_split (s := 72) rfl (fun b33 => ?_) (fun b33 => ?_)
  have h := h.1 (beqT b33)
  refine wpL_opg rfl rfl rfl rfl rfl rfl (OpA.mv rfl (by with_reducible conv => lhs; whnf) ?_)
  obtain ⟨q1, q2, h⟩ := h
  refine wpL_opg rfl rfl rfl rfl rfl rfl (OpA.callH rfl rfl rfl en17 (h1 := [(c3, .cells 54 [.agg (arrC 25 (D.k .u64) (((wrF ((ssF ((clF ((wrF newF ([a] : List ByteArray)).2)).2)).2) ([b] : List ByteArray)).2).state) ++ ([.own c20 1 pre21.length (((wrF ((ssF ((clF ((wrF newF ([a] : List ByteArray)).2)).2)).2) ([b] : List ByteArray)).2).rest).length, D.i (((wrF ((ssF ((clF ((wrF newF ([a] : List ByteArray)).2)).2)).2) ([b] : List ByteArray)).2).taken)] ++ (arrC 25 (D.k .u64) (((wrF ((ssF ((clF ((wrF newF ([a] : List ByteArray)).2)).2)).2) ([b] : List ByteArray)).2).seen) ++ ([D.s (((wrF ((ssF ((clF ((wrF newF ([a] : List ByteArray)).2)).2)).2) ([b] : List ByteArray)).2).tail), D.s (((wrF ((ssF ((clF ((wrF newF ([a] : List ByteArray)).2)).2)).2) ([b] : List ByteArray)).2).sum)]))))]), (c20, .cells 1 (winL (D.k .u8) pre21 (((wrF ((ssF ((clF ((wrF newF ([a] : List ByteArray)).2)).2)).2) ([b] : List ByteArray)).2).rest) post22))]) (h2 := [(c8, .cells 54 [.agg (arrC 25 (D.k .u64) (((wrF ((ssF ((clF ((wrF newF ([a] : List ByteArray)).2)).1)).2) ([c, b] : List ByteArray)).2).state) ++ ([.own c23 1 pre24.length (((wrF ((ssF ((clF ((wrF newF ([a] : List ByteArray)).2)).1)).2) ([c, b] : List ByteArray)).2).rest).length, D.i (((wrF ((ssF ((clF ((wrF newF ([a] : List ByteArray)).2)).1)).2) ([c, b] : List ByteArray)).2).taken)] ++ (arrC 25 (D.k .u64) (((wrF ((ssF ((clF ((wrF newF ([a] : List ByteArray)).2)).1)).2) ([c, b] : List ByteArray)).2).seen) ++ ([D.s (((wrF ((ssF ((clF ((wrF newF ([a] : List ByteArray)).2)).1)).2) ([c, b] : List ByteArray)).2).tail), D.s (((wrF ((ssF ((clF ((wrF newF ([a] : List ByteArray)).2)).1)).2) ([c, b] : List ByteArray)).2).sum)]))))]), (c23, .cells 1 (winL (D.k .u8) pre24 (((wrF ((ssF ((clF ((wrF newF ([a] : List ByteArray)).2)).1)).2) ([c, b] : List ByteArray)).2).rest) post25))]) (pull2.trans (.cons _ pull2)) (ss_c ((wrF ((ssF ((clF ((wrF newF ([a] : List ByteArray)).2)).2)).2) ([b] : List ByteArray)).2) c3 c20 pre21 post22 q1 q2) ?_)
  rintro _ _ ⟨⟨c34, pre35, post36⟩, rfl, rfl⟩
  refine wpL_perm (h' := [(c8, .cells 54 [.agg (arrC 25 (D.k .u64) (((wrF ((ssF ((clF ((wrF newF ([a] : List ByteArray)).2)).1)).2) ([c, b] : List ByteArray)).2).state) ++ ([.own c23 1 pre24.length (((wrF ((ssF ((clF ((wrF newF ([a] : List ByteArray)).2)).1)).2) ([c, b] : List ByteArray)).2).rest).length, D.i (((wrF ((ssF ((clF ((wrF newF ([a] : List ByteArray)).2)).1)).2) ([c, b] : List ByteArray)).2).taken)] ++ (arrC 25 (D.k .u64) (((wrF ((ssF ((clF ((wrF newF ([a] : List ByteArray)).2)).1)).2) ([c, b] : List ByteArray)).2).seen) ++ ([D.s (((wrF ((ssF ((clF ((wrF newF ([a] : List ByteArray)).2)).1)).2) ([c, b] : List ByteArray)).2).tail), D.s (((wrF ((ssF ((clF ((wrF newF ([a] : List ByteArray)).2)).1)).2) ([c, b] : List ByteArray)).2).sum)]))))]), (c23, .cells 1 (winL (D.k .u8) pre24 (((wrF ((ssF ((clF ((wrF newF ([a] : List ByteArray)).2)).1)).2) ([c, b] : List ByteArray)).2).rest) post25)), (c3, .cells 54 [.agg (arrC 25 (D.k .u64) (((ssF ((wrF ((ssF ((clF ((wrF newF ([a] : List ByteArray)).2)).2)).2) ([b] : List ByteArray)).2)).2).state) ++ ([.own c34 1 pre35.length (((ssF ((wrF ((ssF ((clF ((wrF newF ([a] : List ByteArray)).2)).2)).2) ([b] : List ByteArray)).2)).2).rest).length, D.i (((ssF ((wrF ((ssF ((clF ((wrF newF ([a] : List ByteArray)).2)).2)).2) ([b] : List ByteArray)).2)).2).taken)] ++ (arrC 25 (D.k .u64) (((ssF ((wrF ((ssF ((clF ((wrF newF ([a] : List ByteArray)).2)).2)).2) ([b] : List ByteArray)).2)).2).seen) ++ ([D.s (((ssF ((wrF ((ssF ((clF ((wrF newF ([a] : List ByteArray)).2)).2)).2) ([b] : List ByteArray)).2)).2).tail), D.s (((ssF ((wrF ((ssF ((clF ((wrF newF ([a] : List ByteArray)).2)).2)).2) ([b] : List ByteArray)).2)).2).sum)]))))]), (c34, .cells 1 (winL (D.k .u8) pre35 (((ssF ((wrF ((ssF ((clF ((wrF newF ([a] : List ByteArray)).2)).2)).2) ([b] : List ByteArray)).2)).2).rest) post36))]) (pull2.trans (.cons _ pull2)) ?_
  refine wpL_opg rfl rfl rfl rfl rfl rfl (OpA.mv rfl (by with_reducible conv => lhs; whnf) ?_)
  refine wpL_opg rfl rfl rfl rfl rfl rfl (OpA.mv rfl (by with_reducible conv => lhs; whnf) ?_)
  obtain ⟨q1, h⟩ := h
  refine wpL_opg rfl rfl rfl rfl rfl rfl (OpA.sadd rfl rfl rfl q1 ?_)
  obtain ⟨q1, h⟩ := h
  refine wpL_opg rfl rfl rfl rfl rfl rfl (OpA.call rfl rfl rfl en11 (sum_c (a ++ b) q1) ?_)
  rintro _ rfl
  refine wpL_opg rfl rfl rfl rfl rfl rfl (OpA.seql rfl rfl rfl ?_)
  refine wpL_op rfl rfl rfl (OpA.pck rfl rfl (by with_reducible conv => lhs; whnf) ?_)
  refine wpL_op rfl rfl rfl (OpA.mv rfl (by with_reducible conv => lhs; whnf) ?_)
  refine wpL_split (s := 81) rfl (fun b37 => ?_) (fun b37 => ?_)
  have h := h.1 (decT b37)
  refine wpL_opg rfl rfl rfl rfl rfl rfl (OpA.mv rfl (by with_reducible conv => lhs; whnf) ?_)
  obtain ⟨q1, q2, h⟩ := h
  refine wpL_opg rfl rfl rfl rfl rfl rfl (OpA.callH rfl rfl rfl en17 (h1 := [(c8, .cells 54 [.agg (arrC 25 (D.k .u64) (((wrF ((ssF ((clF ((wrF newF ([a] : List ByteArray)).2)).1)).2) ([c, b] : List ByteArray)).2).state) ++ ([.own c23 1 pre24.length (((wrF ((ssF ((clF ((wrF newF ([a] : List ByteArray)).2)).1)).2) ([c, b] : List ByteArray)).2).rest).length, D.i (((wrF ((ssF ((clF ((wrF newF ([a] : List ByteArray)).2)).1)).2) ([c, b] : List ByteArray)).2).taken)] ++ (arrC 25 (D.k .u64) (((wrF ((ssF ((clF ((wrF newF ([a] : List ByteArray)).2)).1)).2) ([c, b] : List ByteArray)).2).seen) ++ ([D.s (((wrF ((ssF ((clF ((wrF newF ([a] : List ByteArray)).2)).1)).2) ([c, b] : List ByteArray)).2).tail), D.s (((wrF ((ssF ((clF ((wrF newF ([a] : List ByteArray)).2)).1)).2) ([c, b] : List ByteArray)).2).sum)]))))]), (c23, .cells 1 (winL (D.k .u8) pre24 (((wrF ((ssF ((clF ((wrF newF ([a] : List ByteArray)).2)).1)).2) ([c, b] : List ByteArray)).2).rest) post25))]) (h2 := [(c3, .cells 54 [.agg (arrC 25 (D.k .u64) (((ssF ((wrF ((ssF ((clF ((wrF newF ([a] : List ByteArray)).2)).2)).2) ([b] : List ByteArray)).2)).2).state) ++ ([.own c34 1 pre35.length (((ssF ((wrF ((ssF ((clF ((wrF newF ([a] : List ByteArray)).2)).2)).2) ([b] : List ByteArray)).2)).2).rest).length, D.i (((ssF ((wrF ((ssF ((clF ((wrF newF ([a] : List ByteArray)).2)).2)).2) ([b] : List ByteArray)).2)).2).taken)] ++ (arrC 25 (D.k .u64) (((ssF ((wrF ((ssF ((clF ((wrF newF ([a] : List ByteArray)).2)).2)).2) ([b] : List ByteArray)).2)).2).seen) ++ ([D.s (((ssF ((wrF ((ssF ((clF ((wrF newF ([a] : List ByteArray)).2)).2)).2) ([b] : List ByteArray)).2)).2).tail), D.s (((ssF ((wrF ((ssF ((clF ((wrF newF ([a] : List ByteArray)).2)).2)).2) ([b] : List ByteArray)).2)).2).sum)]))))]), (c34, .cells 1 (winL (D.k .u8) pre35 (((ssF ((wrF ((ssF ((clF ((wrF newF ([a] : List ByteArray)).2)).2)).2) ([b] : List ByteArray)).2)).2).rest) post36))]) (.refl _) (ss_c ((wrF ((ssF ((clF ((wrF newF ([a] : List ByteArray)).2)).1)).2) ([c, b] : List ByteArray)).2) c8 c23 pre24 post25 q1 q2) ?_)
  rintro _ _ ⟨⟨c38, pre39, post40⟩, rfl, rfl⟩
  refine wpL_opg rfl rfl rfl rfl rfl rfl (OpA.mv rfl (by with_reducible conv => lhs; whnf) ?_)
  refine wpL_opg rfl rfl rfl rfl rfl rfl (OpA.mv rfl (by with_reducible conv => lhs; whnf) ?_)
  obtain ⟨q1, h⟩ := h
  refine wpL_opg rfl rfl rfl rfl rfl rfl (OpA.sadd rfl rfl rfl q1 ?_)
  refine wpL_opg rfl rfl rfl rfl rfl rfl (OpA.mv rfl (by with_reducible conv => lhs; whnf) ?_)
  obtain ⟨q1, h⟩ := h
  refine wpL_opg rfl rfl rfl rfl rfl rfl (OpA.sadd rfl rfl rfl q1 ?_)
  obtain ⟨q1, h⟩ := h
  refine wpL_opg rfl rfl rfl rfl rfl rfl (OpA.call rfl rfl rfl en11 (sum_c ((a ++ c) ++ b) q1) ?_)
  rintro _ rfl
  refine wpL_opg rfl rfl rfl rfl rfl rfl (OpA.seql rfl rfl rfl ?_)
  refine wpL_op rfl rfl rfl (OpA.pck rfl rfl (by with_reducible conv => lhs; whnf) ?_)
  refine wpL_op rfl rfl rfl (OpA.asn rfl (by with_reducible conv => lhs; whnf) ?_)
  refine wpL_nil ?_
  refine wpA_ret ?_
  exact ⟨_, (.tmp (d := D.b (decide (((ssF ((wrF ((ssF ((clF ((wrF newF ([a] : List ByteArray)).2)).1)).2) ([c, b] : List ByteArray)).2)).1) = (sumF ((a ++ c) ++ b))))) rfl .nil), _, (.same rfl .nil), ⟨(decide (((ssF ((wrF ((ssF ((clF ((wrF newF ([a] : List ByteArray)).2)).1)).2) ([c, b] : List ByteArray)).2)).1) = (sumF ((a ++ c) ++ b)))), rfl, h⟩⟩
  have h := h.2 (decF b37)
  iterate 9 refine wpL_skip rfl rfl rfl rfl rfl rfl ?_
  refine wpL_op rfl rfl rfl (OpA.pck rfl rfl (by with_reducible conv => lhs; whnf) ?_)
  refine wpL_op rfl rfl rfl (OpA.asn rfl (by with_reducible conv => lhs; whnf) ?_)
  refine wpL_nil ?_
  refine wpA_ret ?_
  exact ⟨_, (.tmp (d := D.b false) rfl .nil), _, (.same rfl .nil), ⟨false, rfl, h⟩⟩
  have h := h.2 (beqF b33)
  iterate 7 refine wpL_skip rfl rfl rfl rfl rfl rfl ?_
  refine wpL_op rfl rfl rfl (OpA.pck rfl rfl (by with_reducible conv => lhs; whnf) ?_)
  refine wpL_op rfl rfl rfl (OpA.mv rfl (by with_reducible conv => lhs; whnf) ?_)
  iterate 9 refine wpL_skip rfl rfl rfl rfl rfl rfl ?_
  refine wpL_op rfl rfl rfl (OpA.pck rfl rfl (by with_reducible conv => lhs; whnf) ?_)
  refine wpL_op rfl rfl rfl (OpA.asn rfl (by with_reducible conv => lhs; whnf) ?_)
  refine wpL_nil ?_
  refine wpA_ret ?_
  exact ⟨_, (.tmp (d := D.b false) rfl .nil), _, (.same rfl .nil), ⟨false, rfl, h⟩⟩
  have h := h.2 (beqF b32)
  iterate 10 refine wpL_skip rfl rfl rfl rfl rfl rfl ?_
  refine wpL_op rfl rfl rfl (OpA.pck rfl rfl (by with_reducible conv => lhs; whnf) ?_)
  refine wpL_op rfl rfl rfl (OpA.mv rfl (by with_reducible conv => lhs; whnf) ?_)
  iterate 7 refine wpL_skip rfl rfl rfl rfl rfl rfl ?_
  refine wpL_op rfl rfl rfl (OpA.pck rfl rfl (by with_reducible conv => lhs; whnf) ?_)
  refine wpL_op rfl rfl rfl (OpA.mv rfl (by with_reducible conv => lhs; whnf) ?_)
  iterate 9 refine wpL_skip rfl rfl rfl rfl rfl rfl ?_
  refine wpL_op rfl rfl rfl (OpA.pck rfl rfl (by with_reducible conv => lhs; whnf) ?_)
  refine wpL_op rfl rfl rfl (OpA.asn rfl (by with_reducible conv => lhs; whnf) ?_)
  refine wpL_nil ?_
  refine wpA_ret ?_
  exact ⟨_, (.tmp (d := D.b false) rfl .nil), _, (.same rfl .nil), ⟨false, rfl, h⟩⟩
theorem lawClones_c (a : ByteArray) (b : ByteArray) (c : ByteArray)   : Fun false Try.prog 7 [D.s a, D.s b, D.s c] (fun d => d = D.b (true)) :=
  Fun.at (enc := fun r => D.b r) (v := true) (lawClones_w a b c  (fun r => r = true) (lawClones_ok a b c _  rfl))
end Go.Proofs.Ytchidogjhgelpaa
