/-
  walks and contracts
-/
import Derived.Test.YthggcjnmodeehaaV2
set_option linter.all false
namespace Go.Proofs.Ythggcjnmodeehaa
open Go Go.Lic



set_option maxHeartbeats 4000000 in
set_option maxRecDepth 10000 in
theorem rbound_w (a : (List Lexeme)) (b : (List Lexeme)) (c : Costs) (p : (List (List Int)))  (Q : Int × Int → Prop) (h : rbound_vc a b c p Q) : Fun false Try.prog 28 [(encL 2 encLex) a, (encL 2 encLex) b, encCosts c, (encL 1 (encL 1 D.i)) p] (fun d => ∃ r, d = .tup [D.i (r.1), D.i (r.2)] ∧ Q r) := by
  unfold rbound_vc at h
  refine Fun.of_body Try.func28 rfl Try.ntmps28 rfl ?_
  refine wpA_seq ?_
  refine wpA_region ?_
  refine wpL_op rfl rfl rfl (OpA.bx (sz := 3) rfl (by with_reducible conv => lhs; whnf) (.of rfl) (fun c1 _ => ?_))
  refine wpL_op rfl rfl rfl (OpA.asn rfl (by with_reducible conv => lhs; whnf) ?_)
  refine wpL_op rfl rfl rfl (OpA.asn rfl (by with_reducible conv => lhs; whnf) ?_)
  refine wpL_nil ?_
  refine wpA_seq ?_
  refine wpA_region ?_
  refine wpL_op rfl rfl rfl (OpA.mv rfl (by with_reducible conv => lhs; whnf) ?_)
  refine wpL_op rfl rfl rfl (OpA.mv rfl (by with_reducible conv => lhs; whnf) ?_)
  refine wpL_op rfl rfl rfl (OpA.load_whole rfl ti24 rfl rfl .head rfl ⟨_, rfl⟩ ?_)
  refine wpL_op rfl rfl rfl (OpA.call rfl rfl rfl en37 (right_fun a b c ) ?_)
  rintro _ rfl
  refine wpL_op rfl rfl rfl (OpA.asn rfl (by with_reducible conv => lhs; whnf) ?_)
  refine wpL_nil ?_
  iterate 2 refine wpA_seq ?_
  refine wpA_region ?_
  refine wpL_op rfl rfl rfl (OpA.mv rfl (by with_reducible conv => lhs; whnf) ?_)
  refine wpL_op rfl rfl rfl (OpA.neq rfl rfl rfl ?_)
  refine wpL_nil ?_
  refine wpA_cond rfl (fun b2 => ?_) (fun b2 => ?_)
  have h := h.1 (bneT b2)
  refine wpA_seq ?_
  refine wpA_region ?_
  refine wpL_op rfl rfl rfl (OpA.mv rfl (by with_reducible conv => lhs; whnf) ?_)
  refine wpL_op rfl rfl rfl (OpA.asn rfl (by with_reducible conv => lhs; whnf) ?_)
  refine wpL_op rfl rfl rfl (OpA.asn rfl (by with_reducible conv => lhs; whnf) ?_)
  refine wpL_nil ?_
  refine wpA_ret ?_
  exact ⟨_, (.tmp (d := D.i 0) rfl (.tmp (d := D.i (checkF a b c)) rfl .nil)), _, (.tup (.same rfl (.same rfl .nil)) .nil), ⟨(0, (checkF a b c)), rfl, h⟩⟩
  have h := h.2 (bneF b2)
  refine wpA_skip ?_
  iterate 2 refine wpA_seq ?_
  obtain ⟨q1, h⟩ := h
  refine wpA_region ?_
  refine wpL_op rfl rfl rfl (OpA.mv rfl (by with_reducible conv => lhs; whnf) ?_)
  refine wpL_op rfl rfl rfl (OpA.len rfl rfl rfl rfl ts48.desc (.inl ⟨_, _, rfl, (List.length_map _).symm⟩) ?_)
  refine wpL_op rfl rfl rfl (OpA.mv rfl (by with_reducible conv => lhs; whnf) ?_)
  refine wpL_op rfl rfl rfl (OpA.len rfl rfl rfl rfl ts22.desc (.inl ⟨_, _, rfl, (List.length_map _).symm⟩) ?_)
  refine wpL_op rfl rfl rfl (OpA.addi rfl rfl rfl q1 ?_)
  refine wpL_op rfl rfl rfl (OpA.neq rfl rfl rfl ?_)
  refine wpL_nil ?_
  refine wpA_cond rfl (fun b3 => ?_) (fun b3 => ?_)
  have h := h.1 (bneT b3)
  refine wpA_seq ?_
  refine wpA_region ?_
  refine wpL_op rfl rfl rfl (OpA.asn rfl (by with_reducible conv => lhs; whnf) ?_)
  refine wpL_op rfl rfl rfl (OpA.asn rfl (by with_reducible conv => lhs; whnf) ?_)
  refine wpL_nil ?_
  refine wpA_ret ?_
  exact ⟨_, (.tmp (d := D.i 0) rfl (.tmp (d := D.i 18) rfl .nil)), _, (.tup (.same rfl (.same rfl .nil)) .nil), ⟨(0, 18), rfl, h⟩⟩
  have h := h.2 (bneF b3)
  refine wpA_skip ?_
  iterate 2 refine wpA_seq ?_
  refine wpA_region ?_
  refine wpL_op rfl rfl rfl (OpA.asn rfl (by with_reducible conv => lhs; whnf) ?_)
  refine wpL_nil ?_
  refine wpA_block ?_
  refine wpA_lfp (S := Int) (G := Unit) () (fun g_ s_ => asg [(0, (encL 2 encLex) a), (1, (encL 2 encLex) b), (3, (encL 1 (encL 1 D.i)) p), (6, .ptr c1 3 0 0), (8, D.i 0), (9, D.i 0), (11, D.i s_)]) (fun g_ s_ => [(c1, .cells 3 [encCosts c])]) h (Cov.asg ⟨rfl, rfl, rfl, rfl, rfl, rfl, rfl, trivial⟩) (.refl _) ?_
  rintro again4 _ i h
  have h : rbound_L1 a b c p Q again4 i := h
  unfold rbound_L1 at h
  show wpA _ _ _ _ (asg [(0, (encL 2 encLex) a), (1, (encL 2 encLex) b), (3, (encL 1 (encL 1 D.i)) p), (6, .ptr c1 3 0 0), (8, D.i 0), (9, D.i 0), (11, D.i i)]) [(c1, .cells 3 [encCosts c])]
  iterate 2 refine wpA_seq ?_
  refine wpA_region ?_
  refine wpL_op rfl rfl rfl (OpA.mv rfl (by with_reducible conv => lhs; whnf) ?_)
  refine wpL_op rfl rfl rfl (OpA.mv rfl (by with_reducible conv => lhs; whnf) ?_)
  refine wpL_op rfl rfl rfl (OpA.len rfl rfl rfl rfl ts22.desc (.inl ⟨_, _, rfl, (List.length_map _).symm⟩) ?_)
  refine wpL_op rfl rfl rfl (OpA.leq rfl rfl rfl ?_)
  refine wpL_nil ?_
  refine wpA_cond rfl (fun b5 => ?_) (fun b5 => ?_)
  have h := h.1 (decT b5)
  refine wpA_skip ?_
  refine wpA_seq ?_
  refine wpA_block ?_
  iterate 2 refine wpA_seq ?_
  obtain ⟨q1, q2, h⟩ := h
  refine wpA_region ?_
  refine wpL_op rfl rfl rfl (OpA.mv rfl (by with_reducible conv => lhs; whnf) ?_)
  refine wpL_op rfl rfl rfl (OpA.mv rfl (by with_reducible conv => lhs; whnf) ?_)
  refine wpL_op rfl rfl rfl (OpA.iixV (enc := (encL 1 D.i)) rfl ts48 rfl rfl rfl q1 ?_)
  refine wpL_op rfl rfl rfl (OpA.iload rfl ti25 rfl rfl ?_)
  refine wpL_op rfl rfl rfl (OpA.len rfl rfl rfl rfl ts25.desc (.inl ⟨_, _, rfl, (List.length_map _).symm⟩) ?_)
  refine wpL_op rfl rfl rfl (OpA.mv rfl (by with_reducible conv => lhs; whnf) ?_)
  refine wpL_op rfl rfl rfl (OpA.len rfl rfl rfl rfl ts22.desc (.inl ⟨_, _, rfl, (List.length_map _).symm⟩) ?_)
  refine wpL_op rfl rfl rfl (OpA.addi rfl rfl rfl q2 ?_)
  refine wpL_op rfl rfl rfl (OpA.neq rfl rfl rfl ?_)
  refine wpL_nil ?_
  refine wpA_cond rfl (fun b6 => ?_) (fun b6 => ?_)
  have h := h.1 (bneT b6)
  refine wpA_seq ?_
  refine wpA_region ?_
  refine wpL_op rfl rfl rfl (OpA.asn rfl (by with_reducible conv => lhs; whnf) ?_)
  refine wpL_op rfl rfl rfl (OpA.asn rfl (by with_reducible conv => lhs; whnf) ?_)
  refine wpL_nil ?_
  refine wpA_ret ?_
  exact ⟨_, (.tmp (d := D.i 0) rfl (.tmp (d := D.i 18) rfl .nil)), _, (.tup (.same rfl (.same rfl .nil)) .nil), ⟨(0, 18), rfl, h⟩⟩
  have h := h.2 (bneF b6)
  refine wpA_skip ?_
  refine wpA_seq ?_
  refine wpA_region ?_
  refine wpL_op rfl rfl rfl (OpA.asn rfl (by with_reducible conv => lhs; whnf) ?_)
  refine wpL_nil ?_
  refine wpA_block ?_
  refine wpA_lfp (S := Int) (G := Unit) () (fun g_ s_ => asg [(0, (encL 2 encLex) a), (1, (encL 2 encLex) b), (3, (encL 1 (encL 1 D.i)) p), (6, .ptr c1 3 0 0), (8, D.i 0), (9, D.i 0), (11, D.i i), (12, D.i s_)]) (fun g_ s_ => [(c1, .cells 3 [encCosts c])]) h (Cov.asg ⟨rfl, rfl, rfl, rfl, rfl, rfl, rfl, rfl, trivial⟩) (.refl _) ?_
  rintro again7 _ j h
  have h : rbound_L2 a b c p i Q again4 again7 j := h
  unfold rbound_L2 at h
  show wpA _ _ _ _ (asg [(0, (encL 2 encLex) a), (1, (encL 2 encLex) b), (3, (encL 1 (encL 1 D.i)) p), (6, .ptr c1 3 0 0), (8, D.i 0), (9, D.i 0), (11, D.i i), (12, D.i j)]) [(c1, .cells 3 [encCosts c])]
  iterate 2 refine wpA_seq ?_
  refine wpA_region ?_
  refine wpL_op rfl rfl rfl (OpA.mv rfl (by with_reducible conv => lhs; whnf) ?_)
  refine wpL_op rfl rfl rfl (OpA.mv rfl (by with_reducible conv => lhs; whnf) ?_)
  refine wpL_op rfl rfl rfl (OpA.len rfl rfl rfl rfl ts22.desc (.inl ⟨_, _, rfl, (List.length_map _).symm⟩) ?_)
  refine wpL_op rfl rfl rfl (OpA.leq rfl rfl rfl ?_)
  refine wpL_nil ?_
  refine wpA_cond rfl (fun b8 => ?_) (fun b8 => ?_)
  have h := h.1 (decT b8)
  refine wpA_skip ?_
  refine wpA_seq ?_
  refine wpA_block ?_
  refine wpA_seq ?_
  obtain ⟨q1, q2, q3, q4, q5, q6, h⟩ := h
  refine wpA_mid (asg [(0, (encL 2 encLex) a), (1, (encL 2 encLex) b), (3, (encL 1 (encL 1 D.i)) p), (6, .ptr c1 3 0 0), (8, D.i 0), (9, D.i 0), (11, D.i i), (12, D.i j), (170, D.b ((((((decide ((gi (gi p i) j) < 0)) || (decide ((gi (gi p i) j) > 1099511627776))) || (((i + j) == 0) && ((gi (gi p i) j) != 0))) || ((decide (i > 0)) && (decide ((gi (gi p i) j) > ((gi (gi p (i - 1)) j) + c.drop))))) || ((decide (j > 0)) && (decide ((gi (gi p i) j) > ((gi (gi p i) (j - 1)) + c.add))))) || (((decide (i > 0)) && (decide (j > 0))) && (decide ((gi (gi p i) j) > ((gi (gi p (i - 1)) (j - 1)) + (pairF (gi a (i - 1)) (gi b (j - 1)) c)))))))]) [(c1, .cells 3 [encCosts c])] ?_ ?_
  refine wpA_draw (m := 124) mo (by kernel_rfl) rfl ?_
  iterate 2 refine DetK.op rfl (OpA.mv rfl (by with_reducible conv => lhs; whnf) ⟨rfl, rfl⟩) ?_
  refine DetK.op rfl (OpA.iixV (enc := (encL 1 D.i)) rfl ts48 rfl rfl rfl q1 ⟨rfl, rfl⟩) ?_
  refine DetK.op rfl (OpA.iload rfl ti25 rfl rfl ⟨rfl, rfl⟩) ?_
  refine DetK.op rfl (OpA.mv rfl (by with_reducible conv => lhs; whnf) ⟨rfl, rfl⟩) ?_
  refine DetK.op rfl (OpA.iixV (enc := D.i) rfl ts25 rfl rfl rfl q2 ⟨rfl, rfl⟩) ?_
  refine DetK.op rfl (OpA.iload rfl ti3 rfl rfl ⟨rfl, rfl⟩) ?_
  refine DetK.op rfl (OpA.lss rfl rfl rfl ⟨rfl, rfl⟩) ?_
  refine DetK.op rfl (OpA.mv rfl (by with_reducible conv => lhs; whnf) ⟨rfl, rfl⟩) ?_
  refine DetK_split (s := 55) rfl (fun b10 => ?_) (fun b10 => ?_)
  iterate 8 refine DetK.skip rfl rfl rfl rfl ?_
  refine DetK.op rfl (OpA.pck rfl rfl (by with_reducible conv => lhs; whnf) ⟨rfl, rfl⟩) ?_
  refine DetK.op rfl (OpA.mv rfl (by with_reducible conv => lhs; whnf) ⟨rfl, rfl⟩) ?_
  iterate 5 refine DetK.skip rfl rfl rfl rfl ?_
  iterate 8 refine DetK.skipU rfl rfl rfl ?_
  refine DetK.skip rfl rfl rfl rfl ?_
  refine DetK.op rfl (OpA.pck rfl rfl (by with_reducible conv => lhs; whnf) ⟨rfl, rfl⟩) ?_
  refine DetK.op rfl (OpA.mv rfl (by with_reducible conv => lhs; whnf) ⟨rfl, rfl⟩) ?_
  iterate 3 refine DetK.skip rfl rfl rfl rfl ?_
  iterate 19 refine DetK.skipU rfl rfl rfl ?_
  refine DetK.skip rfl rfl rfl rfl ?_
  refine DetK.op rfl (OpA.pck rfl rfl (by with_reducible conv => lhs; whnf) ⟨rfl, rfl⟩) ?_
  refine DetK.op rfl (OpA.mv rfl (by with_reducible conv => lhs; whnf) ⟨rfl, rfl⟩) ?_
  iterate 3 refine DetK.skip rfl rfl rfl rfl ?_
  iterate 19 refine DetK.skipU rfl rfl rfl ?_
  refine DetK.skip rfl rfl rfl rfl ?_
  refine DetK.op rfl (OpA.pck rfl rfl (by with_reducible conv => lhs; whnf) ⟨rfl, rfl⟩) ?_
  refine DetK.op rfl (OpA.mv rfl (by with_reducible conv => lhs; whnf) ⟨rfl, rfl⟩) ?_
  iterate 3 refine DetK.skip rfl rfl rfl rfl ?_
  iterate 2 refine DetK.skipU rfl rfl rfl ?_
  iterate 2 refine DetK.skip rfl rfl rfl rfl ?_
  iterate 30 refine DetK.skipU rfl rfl rfl ?_
  refine DetK.skip rfl rfl rfl rfl ?_
  refine DetK.op rfl (OpA.pck rfl rfl (by with_reducible conv => lhs; whnf) ⟨rfl, rfl⟩) ?_
  refine DetK.nil ?_
  refine wpL_nil ?_
  exact ⟨(Cov.asg ⟨rfl, rfl, rfl, rfl, rfl, rfl, rfl, rfl, (congrArg D.b (Eq.symm (orS (orS (orS (orS (orS b10))))))), trivial⟩), (.refl _)⟩
  iterate 2 refine DetK.opg rfl rfl rfl rfl (OpA.mv rfl (by with_reducible conv => lhs; whnf) ⟨rfl, rfl⟩) ?_
  refine DetK.opg rfl rfl rfl rfl (OpA.iixV (enc := (encL 1 D.i)) rfl ts48 rfl rfl rfl q1 ⟨rfl, rfl⟩) ?_
  refine DetK.opg rfl rfl rfl rfl (OpA.iload rfl ti25 rfl rfl ⟨rfl, rfl⟩) ?_
  refine DetK.opg rfl rfl rfl rfl (OpA.mv rfl (by with_reducible conv => lhs; whnf) ⟨rfl, rfl⟩) ?_
  refine DetK.opg rfl rfl rfl rfl (OpA.iixV (enc := D.i) rfl ts25 rfl rfl rfl q2 ⟨rfl, rfl⟩) ?_
  refine DetK.opg rfl rfl rfl rfl (OpA.iload rfl ti3 rfl rfl ⟨rfl, rfl⟩) ?_
  refine DetK.opg rfl rfl rfl rfl (OpA.gtr rfl rfl rfl ⟨rfl, rfl⟩) ?_
  refine DetK.op rfl (OpA.pck rfl rfl (by with_reducible conv => lhs; whnf) ⟨rfl, rfl⟩) ?_
  refine DetK.op rfl (OpA.mv rfl (by with_reducible conv => lhs; whnf) ⟨rfl, rfl⟩) ?_
  refine DetK_split (s := 65) rfl (fun b11 => ?_) (fun b11 => ?_)
  iterate 5 refine DetK.skip rfl rfl rfl rfl ?_
  iterate 8 refine DetK.skipU rfl rfl rfl ?_
  refine DetK.skip rfl rfl rfl rfl ?_
  refine DetK.op rfl (OpA.pck rfl rfl (by with_reducible conv => lhs; whnf) ⟨rfl, rfl⟩) ?_
  refine DetK.op rfl (OpA.mv rfl (by with_reducible conv => lhs; whnf) ⟨rfl, rfl⟩) ?_
  iterate 3 refine DetK.skip rfl rfl rfl rfl ?_
  iterate 19 refine DetK.skipU rfl rfl rfl ?_
  refine DetK.skip rfl rfl rfl rfl ?_
  refine DetK.op rfl (OpA.pck rfl rfl (by with_reducible conv => lhs; whnf) ⟨rfl, rfl⟩) ?_
  refine DetK.op rfl (OpA.mv rfl (by with_reducible conv => lhs; whnf) ⟨rfl, rfl⟩) ?_
  iterate 3 refine DetK.skip rfl rfl rfl rfl ?_
  iterate 19 refine DetK.skipU rfl rfl rfl ?_
  refine DetK.skip rfl rfl rfl rfl ?_
  refine DetK.op rfl (OpA.pck rfl rfl (by with_reducible conv => lhs; whnf) ⟨rfl, rfl⟩) ?_
  refine DetK.op rfl (OpA.mv rfl (by with_reducible conv => lhs; whnf) ⟨rfl, rfl⟩) ?_
  iterate 3 refine DetK.skip rfl rfl rfl rfl ?_
  iterate 2 refine DetK.skipU rfl rfl rfl ?_
  iterate 2 refine DetK.skip rfl rfl rfl rfl ?_
  iterate 30 refine DetK.skipU rfl rfl rfl ?_
  refine DetK.skip rfl rfl rfl rfl ?_
  refine DetK.op rfl (OpA.pck rfl rfl (by with_reducible conv => lhs; whnf) ⟨rfl, rfl⟩) ?_
  refine DetK.nil ?_
  refine wpL_nil ?_
  exact ⟨(Cov.asg ⟨rfl, rfl, rfl, rfl, rfl, rfl, rfl, rfl, (congrArg D.b (Eq.symm (orS (orS (orS (orS (orN b10 b11))))))), trivial⟩), (.refl _)⟩
  iterate 2 refine DetK.opg rfl rfl rfl rfl (OpA.mv rfl (by with_reducible conv => lhs; whnf) ⟨rfl, rfl⟩) ?_
  refine DetK.opg rfl rfl rfl rfl (OpA.addi rfl rfl rfl (q3 ⟨(decF b10), (decF b11)⟩) ⟨rfl, rfl⟩) ?_
  refine DetK.opg rfl rfl rfl rfl (OpA.eql rfl rfl rfl ⟨rfl, rfl⟩) ?_
  refine DetK.opg rfl rfl rfl rfl (OpA.mv rfl (by with_reducible conv => lhs; whnf) ⟨rfl, rfl⟩) ?_
  refine DetK_split (s := 70) rfl (fun b12 => ?_) (fun b12 => ?_)
  iterate 2 refine DetK.opg rfl rfl rfl rfl (OpA.mv rfl (by with_reducible conv => lhs; whnf) ⟨rfl, rfl⟩) ?_
  refine DetK.opg rfl rfl rfl rfl (OpA.iixV (enc := (encL 1 D.i)) rfl ts48 rfl rfl rfl q1 ⟨rfl, rfl⟩) ?_
  refine DetK.opg rfl rfl rfl rfl (OpA.iload rfl ti25 rfl rfl ⟨rfl, rfl⟩) ?_
  refine DetK.opg rfl rfl rfl rfl (OpA.mv rfl (by with_reducible conv => lhs; whnf) ⟨rfl, rfl⟩) ?_
  refine DetK.opg rfl rfl rfl rfl (OpA.iixV (enc := D.i) rfl ts25 rfl rfl rfl q2 ⟨rfl, rfl⟩) ?_
  refine DetK.opg rfl rfl rfl rfl (OpA.iload rfl ti3 rfl rfl ⟨rfl, rfl⟩) ?_
  refine DetK.opg rfl rfl rfl rfl (OpA.neq rfl rfl rfl ⟨rfl, rfl⟩) ?_
  refine DetK.opg rfl rfl rfl rfl (OpA.pck rfl rfl (by with_reducible conv => lhs; whnf) ⟨rfl, rfl⟩) ?_
  refine DetK.op rfl (OpA.pck rfl rfl (by with_reducible conv => lhs; whnf) ⟨rfl, rfl⟩) ?_
  refine DetK.op rfl (OpA.mv rfl (by with_reducible conv => lhs; whnf) ⟨rfl, rfl⟩) ?_
  refine DetK_split (s := 81) rfl (fun b13 => ?_) (fun b13 => ?_)
  iterate 3 refine DetK.skip rfl rfl rfl rfl ?_
  iterate 19 refine DetK.skipU rfl rfl rfl ?_
  refine DetK.skip rfl rfl rfl rfl ?_
  refine DetK.op rfl (OpA.pck rfl rfl (by with_reducible conv => lhs; whnf) ⟨rfl, rfl⟩) ?_
  refine DetK.op rfl (OpA.mv rfl (by with_reducible conv => lhs; whnf) ⟨rfl, rfl⟩) ?_
  iterate 3 refine DetK.skip rfl rfl rfl rfl ?_
  iterate 19 refine DetK.skipU rfl rfl rfl ?_
  refine DetK.skip rfl rfl rfl rfl ?_
  refine DetK.op rfl (OpA.pck rfl rfl (by with_reducible conv => lhs; whnf) ⟨rfl, rfl⟩) ?_
  refine DetK.op rfl (OpA.mv rfl (by with_reducible conv => lhs; whnf) ⟨rfl, rfl⟩) ?_
  iterate 3 refine DetK.skip rfl rfl rfl rfl ?_
  iterate 2 refine DetK.skipU rfl rfl rfl ?_
  iterate 2 refine DetK.skip rfl rfl rfl rfl ?_
  iterate 30 refine DetK.skipU rfl rfl rfl ?_
  refine DetK.skip rfl rfl rfl rfl ?_
  refine DetK.op rfl (OpA.pck rfl rfl (by with_reducible conv => lhs; whnf) ⟨rfl, rfl⟩) ?_
  refine DetK.nil ?_
  refine wpL_nil ?_
  exact ⟨(Cov.asg ⟨rfl, rfl, rfl, rfl, rfl, rfl, rfl, rfl, (congrArg D.b (Eq.symm (orS (orS (orS (orN (orN b10 b11) (andN b12 b13))))))), trivial⟩), (.refl _)⟩
  refine DetK.opg rfl rfl rfl rfl (OpA.mv rfl (by with_reducible conv => lhs; whnf) ⟨rfl, rfl⟩) ?_
  refine DetK.opg rfl rfl rfl rfl (OpA.gtr rfl rfl rfl ⟨rfl, rfl⟩) ?_
  refine DetK.opg rfl rfl rfl rfl (OpA.mv rfl (by with_reducible conv => lhs; whnf) ⟨rfl, rfl⟩) ?_
  refine DetK_split (s := 84) rfl (fun b14 => ?_) (fun b14 => ?_)
  iterate 2 refine DetK.opg rfl rfl rfl rfl (OpA.mv rfl (by with_reducible conv => lhs; whnf) ⟨rfl, rfl⟩) ?_
  refine DetK.opg rfl rfl rfl rfl (OpA.iixV (enc := (encL 1 D.i)) rfl ts48 rfl rfl rfl q1 ⟨rfl, rfl⟩) ?_
  refine DetK.opg rfl rfl rfl rfl (OpA.iload rfl ti25 rfl rfl ⟨rfl, rfl⟩) ?_
  refine DetK.opg rfl rfl rfl rfl (OpA.mv rfl (by with_reducible conv => lhs; whnf) ⟨rfl, rfl⟩) ?_
  refine DetK.opg rfl rfl rfl rfl (OpA.iixV (enc := D.i) rfl ts25 rfl rfl rfl q2 ⟨rfl, rfl⟩) ?_
  refine DetK.opg rfl rfl rfl rfl (OpA.iload rfl ti3 rfl rfl ⟨rfl, rfl⟩) ?_
  iterate 2 refine DetK.opg rfl rfl rfl rfl (OpA.mv rfl (by with_reducible conv => lhs; whnf) ⟨rfl, rfl⟩) ?_
  refine DetK.opg rfl rfl rfl rfl (OpA.subi rfl rfl rfl ((q4 ⟨⟨(decF b10), (decF b11)⟩, (.inr (bneF b13))⟩) (decT b14)).1 ⟨rfl, rfl⟩) ?_
  refine DetK.opg rfl rfl rfl rfl (OpA.iixV (enc := (encL 1 D.i)) rfl ts48 rfl rfl rfl ((q4 ⟨⟨(decF b10), (decF b11)⟩, (.inr (bneF b13))⟩) (decT b14)).2.1 ⟨rfl, rfl⟩) ?_
  refine DetK.opg rfl rfl rfl rfl (OpA.iload rfl ti25 rfl rfl ⟨rfl, rfl⟩) ?_
  refine DetK.opg rfl rfl rfl rfl (OpA.mv rfl (by with_reducible conv => lhs; whnf) ⟨rfl, rfl⟩) ?_
  refine DetK.opg rfl rfl rfl rfl (OpA.iixV (enc := D.i) rfl ts25 rfl rfl rfl ((q4 ⟨⟨(decF b10), (decF b11)⟩, (.inr (bneF b13))⟩) (decT b14)).2.2.1 ⟨rfl, rfl⟩) ?_
  refine DetK.opg rfl rfl rfl rfl (OpA.iload rfl ti3 rfl rfl ⟨rfl, rfl⟩) ?_
  refine DetK.opg rfl rfl rfl rfl (OpA.fieldAddr rfl tf24_1 rfl ⟨rfl, rfl⟩) ?_
  refine DetK.opg rfl rfl rfl rfl (OpA.load rfl ti3 rfl .head rfl rfl ⟨rfl, rfl⟩) ?_
  refine DetK.opg rfl rfl rfl rfl (OpA.addi rfl rfl rfl ((q4 ⟨⟨(decF b10), (decF b11)⟩, (.inr (bneF b13))⟩) (decT b14)).2.2.2 ⟨rfl, rfl⟩) ?_
  refine DetK.opg rfl rfl rfl rfl (OpA.gtr rfl rfl rfl ⟨rfl, rfl⟩) ?_
  refine DetK.opg rfl rfl rfl rfl (OpA.pck rfl rfl (by with_reducible conv => lhs; whnf) ⟨rfl, rfl⟩) ?_
  refine DetK.op rfl (OpA.pck rfl rfl (by with_reducible conv => lhs; whnf) ⟨rfl, rfl⟩) ?_
  refine DetK.op rfl (OpA.mv rfl (by with_reducible conv => lhs; whnf) ⟨rfl, rfl⟩) ?_
  refine DetK_split (s := 106) rfl (fun b15 => ?_) (fun b15 => ?_)
  iterate 3 refine DetK.skip rfl rfl rfl rfl ?_
  iterate 19 refine DetK.skipU rfl rfl rfl ?_
  refine DetK.skip rfl rfl rfl rfl ?_
  refine DetK.op rfl (OpA.pck rfl rfl (by with_reducible conv => lhs; whnf) ⟨rfl, rfl⟩) ?_
  refine DetK.op rfl (OpA.mv rfl (by with_reducible conv => lhs; whnf) ⟨rfl, rfl⟩) ?_
  iterate 3 refine DetK.skip rfl rfl rfl rfl ?_
  iterate 2 refine DetK.skipU rfl rfl rfl ?_
  iterate 2 refine DetK.skip rfl rfl rfl rfl ?_
  iterate 30 refine DetK.skipU rfl rfl rfl ?_
  refine DetK.skip rfl rfl rfl rfl ?_
  refine DetK.op rfl (OpA.pck rfl rfl (by with_reducible conv => lhs; whnf) ⟨rfl, rfl⟩) ?_
  refine DetK.nil ?_
  refine wpL_nil ?_
  exact ⟨(Cov.asg ⟨rfl, rfl, rfl, rfl, rfl, rfl, rfl, rfl, (congrArg D.b (Eq.symm (orS (orS (orN (orN (orN b10 b11) (andN b12 b13)) (andN b14 b15)))))), trivial⟩), (.refl _)⟩
  refine DetK.opg rfl rfl rfl rfl (OpA.mv rfl (by with_reducible conv => lhs; whnf) ⟨rfl, rfl⟩) ?_
  refine DetK.opg rfl rfl rfl rfl (OpA.gtr rfl rfl rfl ⟨rfl, rfl⟩) ?_
  refine DetK.opg rfl rfl rfl rfl (OpA.mv rfl (by with_reducible conv => lhs; whnf) ⟨rfl, rfl⟩) ?_
  refine DetK_split (s := 109) rfl (fun b16 => ?_) (fun b16 => ?_)
  iterate 2 refine DetK.opg rfl rfl rfl rfl (OpA.mv rfl (by with_reducible conv => lhs; whnf) ⟨rfl, rfl⟩) ?_
  refine DetK.opg rfl rfl rfl rfl (OpA.iixV (enc := (encL 1 D.i)) rfl ts48 rfl rfl rfl q1 ⟨rfl, rfl⟩) ?_
  refine DetK.opg rfl rfl rfl rfl (OpA.iload rfl ti25 rfl rfl ⟨rfl, rfl⟩) ?_
  refine DetK.opg rfl rfl rfl rfl (OpA.mv rfl (by with_reducible conv => lhs; whnf) ⟨rfl, rfl⟩) ?_
  refine DetK.opg rfl rfl rfl rfl (OpA.iixV (enc := D.i) rfl ts25 rfl rfl rfl q2 ⟨rfl, rfl⟩) ?_
  refine DetK.opg rfl rfl rfl rfl (OpA.iload rfl ti3 rfl rfl ⟨rfl, rfl⟩) ?_
  iterate 2 refine DetK.opg rfl rfl rfl rfl (OpA.mv rfl (by with_reducible conv => lhs; whnf) ⟨rfl, rfl⟩) ?_
  refine DetK.opg rfl rfl rfl rfl (OpA.iixV (enc := (encL 1 D.i)) rfl ts48 rfl rfl rfl q1 ⟨rfl, rfl⟩) ?_
  refine DetK.opg rfl rfl rfl rfl (OpA.iload rfl ti25 rfl rfl ⟨rfl, rfl⟩) ?_
  refine DetK.opg rfl rfl rfl rfl (OpA.mv rfl (by with_reducible conv => lhs; whnf) ⟨rfl, rfl⟩) ?_
  refine DetK.opg rfl rfl rfl rfl (OpA.subi rfl rfl rfl ((q5 ⟨⟨⟨(decF b10), (decF b11)⟩, (.inr (bneF b13))⟩, (.inr (decF b15))⟩) (decT b16)).1 ⟨rfl, rfl⟩) ?_
  refine DetK.opg rfl rfl rfl rfl (OpA.iixV (enc := D.i) rfl ts25 rfl rfl rfl ((q5 ⟨⟨⟨(decF b10), (decF b11)⟩, (.inr (bneF b13))⟩, (.inr (decF b15))⟩) (decT b16)).2.1 ⟨rfl, rfl⟩) ?_
  refine DetK.opg rfl rfl rfl rfl (OpA.iload rfl ti3 rfl rfl ⟨rfl, rfl⟩) ?_
  refine DetK.opg rfl rfl rfl rfl (OpA.fieldAddr rfl tf24_2 rfl ⟨rfl, rfl⟩) ?_
  refine DetK.opg rfl rfl rfl rfl (OpA.load rfl ti3 rfl .head rfl rfl ⟨rfl, rfl⟩) ?_
  refine DetK.opg rfl rfl rfl rfl (OpA.addi rfl rfl rfl ((q5 ⟨⟨⟨(decF b10), (decF b11)⟩, (.inr (bneF b13))⟩, (.inr (decF b15))⟩) (decT b16)).2.2 ⟨rfl, rfl⟩) ?_
  refine DetK.opg rfl rfl rfl rfl (OpA.gtr rfl rfl rfl ⟨rfl, rfl⟩) ?_
  refine DetK.opg rfl rfl rfl rfl (OpA.pck rfl rfl (by with_reducible conv => lhs; whnf) ⟨rfl, rfl⟩) ?_
  refine DetK.op rfl (OpA.pck rfl rfl (by with_reducible conv => lhs; whnf) ⟨rfl, rfl⟩) ?_
  refine DetK.op rfl (OpA.mv rfl (by with_reducible conv => lhs; whnf) ⟨rfl, rfl⟩) ?_
  refine DetK_split (s := 131) rfl (fun b17 => ?_) (fun b17 => ?_)
  iterate 3 refine DetK.skip rfl rfl rfl rfl ?_
  iterate 2 refine DetK.skipU rfl rfl rfl ?_
  iterate 2 refine DetK.skip rfl rfl rfl rfl ?_
  iterate 30 refine DetK.skipU rfl rfl rfl ?_
  refine DetK.skip rfl rfl rfl rfl ?_
  refine DetK.op rfl (OpA.pck rfl rfl (by with_reducible conv => lhs; whnf) ⟨rfl, rfl⟩) ?_
  refine DetK.nil ?_
  refine wpL_nil ?_
  exact ⟨(Cov.asg ⟨rfl, rfl, rfl, rfl, rfl, rfl, rfl, rfl, (congrArg D.b (Eq.symm (orS (orN (orN (orN (orN b10 b11) (andN b12 b13)) (andN b14 b15)) (andN b16 b17))))), trivial⟩), (.refl _)⟩
  refine DetK.opg rfl rfl rfl rfl (OpA.mv rfl (by with_reducible conv => lhs; whnf) ⟨rfl, rfl⟩) ?_
  refine DetK.opg rfl rfl rfl rfl (OpA.gtr rfl rfl rfl ⟨rfl, rfl⟩) ?_
  refine DetK.opg rfl rfl rfl rfl (OpA.mv rfl (by with_reducible conv => lhs; whnf) ⟨rfl, rfl⟩) ?_
  refine DetK_split (s := 134) rfl (fun b18 => ?_) (fun b18 => ?_)
  refine DetK.opg rfl rfl rfl rfl (OpA.mv rfl (by with_reducible conv => lhs; whnf) ⟨rfl, rfl⟩) ?_
  refine DetK.opg rfl rfl rfl rfl (OpA.gtr rfl rfl rfl ⟨rfl, rfl⟩) ?_
  refine DetK.opg rfl rfl rfl rfl (OpA.pck rfl rfl (by with_reducible conv => lhs; whnf) ⟨rfl, rfl⟩) ?_
  refine DetK.opg rfl rfl rfl rfl (OpA.mv rfl (by with_reducible conv => lhs; whnf) ⟨rfl, rfl⟩) ?_
  refine DetK_split (s := 138) rfl (fun b19 => ?_) (fun b19 => ?_)
  iterate 2 refine DetK.opg rfl rfl rfl rfl (OpA.mv rfl (by with_reducible conv => lhs; whnf) ⟨rfl, rfl⟩) ?_
  refine DetK.opg rfl rfl rfl rfl (OpA.iixV (enc := (encL 1 D.i)) rfl ts48 rfl rfl rfl q1 ⟨rfl, rfl⟩) ?_
  refine DetK.opg rfl rfl rfl rfl (OpA.iload rfl ti25 rfl rfl ⟨rfl, rfl⟩) ?_
  refine DetK.opg rfl rfl rfl rfl (OpA.mv rfl (by with_reducible conv => lhs; whnf) ⟨rfl, rfl⟩) ?_
  refine DetK.opg rfl rfl rfl rfl (OpA.iixV (enc := D.i) rfl ts25 rfl rfl rfl q2 ⟨rfl, rfl⟩) ?_
  refine DetK.opg rfl rfl rfl rfl (OpA.iload rfl ti3 rfl rfl ⟨rfl, rfl⟩) ?_
  iterate 2 refine DetK.opg rfl rfl rfl rfl (OpA.mv rfl (by with_reducible conv => lhs; whnf) ⟨rfl, rfl⟩) ?_
  refine DetK.opg rfl rfl rfl rfl (OpA.subi rfl rfl rfl ((q6 ⟨⟨⟨⟨(decF b10), (decF b11)⟩, (.inr (bneF b13))⟩, (.inr (decF b15))⟩, (.inr (decF b17))⟩) ⟨(decT b18), (decT b19)⟩).1 ⟨rfl, rfl⟩) ?_
  refine DetK.opg rfl rfl rfl rfl (OpA.iixV (enc := (encL 1 D.i)) rfl ts48 rfl rfl rfl ((q6 ⟨⟨⟨⟨(decF b10), (decF b11)⟩, (.inr (bneF b13))⟩, (.inr (decF b15))⟩, (.inr (decF b17))⟩) ⟨(decT b18), (decT b19)⟩).2.1 ⟨rfl, rfl⟩) ?_
  refine DetK.opg rfl rfl rfl rfl (OpA.iload rfl ti25 rfl rfl ⟨rfl, rfl⟩) ?_
  refine DetK.opg rfl rfl rfl rfl (OpA.mv rfl (by with_reducible conv => lhs; whnf) ⟨rfl, rfl⟩) ?_
  refine DetK.opg rfl rfl rfl rfl (OpA.subi rfl rfl rfl ((q6 ⟨⟨⟨⟨(decF b10), (decF b11)⟩, (.inr (bneF b13))⟩, (.inr (decF b15))⟩, (.inr (decF b17))⟩) ⟨(decT b18), (decT b19)⟩).2.2.1 ⟨rfl, rfl⟩) ?_
  refine DetK.opg rfl rfl rfl rfl (OpA.iixV (enc := D.i) rfl ts25 rfl rfl rfl ((q6 ⟨⟨⟨⟨(decF b10), (decF b11)⟩, (.inr (bneF b13))⟩, (.inr (decF b15))⟩, (.inr (decF b17))⟩) ⟨(decT b18), (decT b19)⟩).2.2.2.1 ⟨rfl, rfl⟩) ?_
  refine DetK.opg rfl rfl rfl rfl (OpA.iload rfl ti3 rfl rfl ⟨rfl, rfl⟩) ?_
  iterate 2 refine DetK.opg rfl rfl rfl rfl (OpA.mv rfl (by with_reducible conv => lhs; whnf) ⟨rfl, rfl⟩) ?_
  refine DetK.opg rfl rfl rfl rfl (OpA.subi rfl rfl rfl ((q6 ⟨⟨⟨⟨(decF b10), (decF b11)⟩, (.inr (bneF b13))⟩, (.inr (decF b15))⟩, (.inr (decF b17))⟩) ⟨(decT b18), (decT b19)⟩).1 ⟨rfl, rfl⟩) ?_
  refine DetK.opg rfl rfl rfl rfl (OpA.iixV (enc := encLex) rfl ts22 rfl rfl rfl ((q6 ⟨⟨⟨⟨(decF b10), (decF b11)⟩, (.inr (bneF b13))⟩, (.inr (decF b15))⟩, (.inr (decF b17))⟩) ⟨(decT b18), (decT b19)⟩).2.2.2.2.1 ⟨rfl, rfl⟩) ?_
  refine DetK.opg rfl rfl rfl rfl (OpA.iload_whole rfl ti40 rfl ⟨_, rfl, rfl⟩ ⟨rfl, rfl⟩) ?_
  iterate 2 refine DetK.opg rfl rfl rfl rfl (OpA.mv rfl (by with_reducible conv => lhs; whnf) ⟨rfl, rfl⟩) ?_
  refine DetK.opg rfl rfl rfl rfl (OpA.subi rfl rfl rfl ((q6 ⟨⟨⟨⟨(decF b10), (decF b11)⟩, (.inr (bneF b13))⟩, (.inr (decF b15))⟩, (.inr (decF b17))⟩) ⟨(decT b18), (decT b19)⟩).2.2.1 ⟨rfl, rfl⟩) ?_
  refine DetK.opg rfl rfl rfl rfl (OpA.iixV (enc := encLex) rfl ts22 rfl rfl rfl ((q6 ⟨⟨⟨⟨(decF b10), (decF b11)⟩, (.inr (bneF b13))⟩, (.inr (decF b15))⟩, (.inr (decF b17))⟩) ⟨(decT b18), (decT b19)⟩).2.2.2.2.2.1 ⟨rfl, rfl⟩) ?_
  refine DetK.opg rfl rfl rfl rfl (OpA.iload_whole rfl ti40 rfl ⟨_, rfl, rfl⟩ ⟨rfl, rfl⟩) ?_
  refine DetK.opg rfl rfl rfl rfl (OpA.load_whole rfl ti24 rfl rfl .head rfl ⟨_, rfl⟩ ⟨rfl, rfl⟩) ?_
  refine DetK.opg rfl rfl rfl rfl (OpA.call rfl rfl rfl en38 (price_fun (gi a (i - 1)) (gi b (j - 1)) c ) (by rintro _ rfl; exact ⟨rfl, rfl⟩)) ?_
  refine DetK.opg rfl rfl rfl rfl (OpA.addi rfl rfl rfl ((q6 ⟨⟨⟨⟨(decF b10), (decF b11)⟩, (.inr (bneF b13))⟩, (.inr (decF b15))⟩, (.inr (decF b17))⟩) ⟨(decT b18), (decT b19)⟩).2.2.2.2.2.2 ⟨rfl, rfl⟩) ?_
  refine DetK.opg rfl rfl rfl rfl (OpA.gtr rfl rfl rfl ⟨rfl, rfl⟩) ?_
  refine DetK.opg rfl rfl rfl rfl (OpA.pck rfl rfl (by with_reducible conv => lhs; whnf) ⟨rfl, rfl⟩) ?_
  refine DetK.op rfl (OpA.pck rfl rfl (by with_reducible conv => lhs; whnf) ⟨rfl, rfl⟩) ?_
  refine DetK.nil ?_
  refine wpL_nil ?_
  exact ⟨(Cov.asg ⟨rfl, rfl, rfl, rfl, rfl, rfl, rfl, rfl, (congrArg D.b (Eq.symm (orN (orN (orN (orN (orN b10 b11) (andN b12 b13)) (andN b14 b15)) (andN b16 b17)) (andN (andN b18 b19) rfl)))), trivial⟩), (.refl _)⟩
  iterate 30 refine DetK.skip rfl rfl rfl rfl ?_
  refine DetK.opg rfl rfl rfl rfl (OpA.pck rfl rfl (by with_reducible conv => lhs; whnf) ⟨rfl, rfl⟩) ?_
  refine DetK.op rfl (OpA.pck rfl rfl (by with_reducible conv => lhs; whnf) ⟨rfl, rfl⟩) ?_
  refine DetK.nil ?_
  refine wpL_nil ?_
  exact ⟨(Cov.asg ⟨rfl, rfl, rfl, rfl, rfl, rfl, rfl, rfl, (congrArg D.b (Eq.symm (orN (orN (orN (orN (orN b10 b11) (andN b12 b13)) (andN b14 b15)) (andN b16 b17)) (andS (andN b18 b19))))), trivial⟩), (.refl _)⟩
  iterate 2 refine DetK.skip rfl rfl rfl rfl ?_
  refine DetK.opg rfl rfl rfl rfl (OpA.pck rfl rfl (by with_reducible conv => lhs; whnf) ⟨rfl, rfl⟩) ?_
  refine DetK.opg rfl rfl rfl rfl (OpA.mv rfl (by with_reducible conv => lhs; whnf) ⟨rfl, rfl⟩) ?_
  iterate 30 refine DetK.skip rfl rfl rfl rfl ?_
  refine DetK.opg rfl rfl rfl rfl (OpA.pck rfl rfl (by with_reducible conv => lhs; whnf) ⟨rfl, rfl⟩) ?_
  refine DetK.op rfl (OpA.pck rfl rfl (by with_reducible conv => lhs; whnf) ⟨rfl, rfl⟩) ?_
  refine DetK.nil ?_
  refine wpL_nil ?_
  exact ⟨(Cov.asg ⟨rfl, rfl, rfl, rfl, rfl, rfl, rfl, rfl, (congrArg D.b (Eq.symm (orN (orN (orN (orN (orN b10 b11) (andN b12 b13)) (andN b14 b15)) (andN b16 b17)) (andS (andS b18))))), trivial⟩), (.refl _)⟩
  iterate 19 refine DetK.skip rfl rfl rfl rfl ?_
  refine DetK.opg rfl rfl rfl rfl (OpA.pck rfl rfl (by with_reducible conv => lhs; whnf) ⟨rfl, rfl⟩) ?_
  refine DetK.op rfl (OpA.pck rfl rfl (by with_reducible conv => lhs; whnf) ⟨rfl, rfl⟩) ?_
  refine DetK.op rfl (OpA.mv rfl (by with_reducible conv => lhs; whnf) ⟨rfl, rfl⟩) ?_
  refine DetK.opg rfl rfl rfl rfl (OpA.mv rfl (by with_reducible conv => lhs; whnf) ⟨rfl, rfl⟩) ?_
  refine DetK.opg rfl rfl rfl rfl (OpA.gtr rfl rfl rfl ⟨rfl, rfl⟩) ?_
  refine DetK.opg rfl rfl rfl rfl (OpA.mv rfl (by with_reducible conv => lhs; whnf) ⟨rfl, rfl⟩) ?_
  refine DetK_split (s := 134) rfl (fun b20 => ?_) (fun b20 => ?_)
  refine DetK.opg rfl rfl rfl rfl (OpA.mv rfl (by with_reducible conv => lhs; whnf) ⟨rfl, rfl⟩) ?_
  refine DetK.opg rfl rfl rfl rfl (OpA.gtr rfl rfl rfl ⟨rfl, rfl⟩) ?_
  refine DetK.opg rfl rfl rfl rfl (OpA.pck rfl rfl (by with_reducible conv => lhs; whnf) ⟨rfl, rfl⟩) ?_
  refine DetK.opg rfl rfl rfl rfl (OpA.mv rfl (by with_reducible conv => lhs; whnf) ⟨rfl, rfl⟩) ?_
  refine DetK_split (s := 138) rfl (fun b21 => ?_) (fun b21 => ?_)
  iterate 2 refine DetK.opg rfl rfl rfl rfl (OpA.mv rfl (by with_reducible conv => lhs; whnf) ⟨rfl, rfl⟩) ?_
  refine DetK.opg rfl rfl rfl rfl (OpA.iixV (enc := (encL 1 D.i)) rfl ts48 rfl rfl rfl q1 ⟨rfl, rfl⟩) ?_
  refine DetK.opg rfl rfl rfl rfl (OpA.iload rfl ti25 rfl rfl ⟨rfl, rfl⟩) ?_
  refine DetK.opg rfl rfl rfl rfl (OpA.mv rfl (by with_reducible conv => lhs; whnf) ⟨rfl, rfl⟩) ?_
  refine DetK.opg rfl rfl rfl rfl (OpA.iixV (enc := D.i) rfl ts25 rfl rfl rfl q2 ⟨rfl, rfl⟩) ?_
  refine DetK.opg rfl rfl rfl rfl (OpA.iload rfl ti3 rfl rfl ⟨rfl, rfl⟩) ?_
  iterate 2 refine DetK.opg rfl rfl rfl rfl (OpA.mv rfl (by with_reducible conv => lhs; whnf) ⟨rfl, rfl⟩) ?_
  refine DetK.opg rfl rfl rfl rfl (OpA.subi rfl rfl rfl ((q6 ⟨⟨⟨⟨(decF b10), (decF b11)⟩, (.inr (bneF b13))⟩, (.inr (decF b15))⟩, (.inl (decF b16))⟩) ⟨(decT b20), (decT b21)⟩).1 ⟨rfl, rfl⟩) ?_
  refine DetK.opg rfl rfl rfl rfl (OpA.iixV (enc := (encL 1 D.i)) rfl ts48 rfl rfl rfl ((q6 ⟨⟨⟨⟨(decF b10), (decF b11)⟩, (.inr (bneF b13))⟩, (.inr (decF b15))⟩, (.inl (decF b16))⟩) ⟨(decT b20), (decT b21)⟩).2.1 ⟨rfl, rfl⟩) ?_
  refine DetK.opg rfl rfl rfl rfl (OpA.iload rfl ti25 rfl rfl ⟨rfl, rfl⟩) ?_
  refine DetK.opg rfl rfl rfl rfl (OpA.mv rfl (by with_reducible conv => lhs; whnf) ⟨rfl, rfl⟩) ?_
  refine DetK.opg rfl rfl rfl rfl (OpA.subi rfl rfl rfl ((q6 ⟨⟨⟨⟨(decF b10), (decF b11)⟩, (.inr (bneF b13))⟩, (.inr (decF b15))⟩, (.inl (decF b16))⟩) ⟨(decT b20), (decT b21)⟩).2.2.1 ⟨rfl, rfl⟩) ?_
  refine DetK.opg rfl rfl rfl rfl (OpA.iixV (enc := D.i) rfl ts25 rfl rfl rfl ((q6 ⟨⟨⟨⟨(decF b10), (decF b11)⟩, (.inr (bneF b13))⟩, (.inr (decF b15))⟩, (.inl (decF b16))⟩) ⟨(decT b20), (decT b21)⟩).2.2.2.1 ⟨rfl, rfl⟩) ?_
  refine DetK.opg rfl rfl rfl rfl (OpA.iload rfl ti3 rfl rfl ⟨rfl, rfl⟩) ?_
  iterate 2 refine DetK.opg rfl rfl rfl rfl (OpA.mv rfl (by with_reducible conv => lhs; whnf) ⟨rfl, rfl⟩) ?_
  refine DetK.opg rfl rfl rfl rfl (OpA.subi rfl rfl rfl ((q6 ⟨⟨⟨⟨(decF b10), (decF b11)⟩, (.inr (bneF b13))⟩, (.inr (decF b15))⟩, (.inl (decF b16))⟩) ⟨(decT b20), (decT b21)⟩).1 ⟨rfl, rfl⟩) ?_
  refine DetK.opg rfl rfl rfl rfl (OpA.iixV (enc := encLex) rfl ts22 rfl rfl rfl ((q6 ⟨⟨⟨⟨(decF b10), (decF b11)⟩, (.inr (bneF b13))⟩, (.inr (decF b15))⟩, (.inl (decF b16))⟩) ⟨(decT b20), (decT b21)⟩).2.2.2.2.1 ⟨rfl, rfl⟩) ?_
  refine DetK.opg rfl rfl rfl rfl (OpA.iload_whole rfl ti40 rfl ⟨_, rfl, rfl⟩ ⟨rfl, rfl⟩) ?_
  iterate 2 refine DetK.opg rfl rfl rfl rfl (OpA.mv rfl (by with_reducible conv => lhs; whnf) ⟨rfl, rfl⟩) ?_
  refine DetK.opg rfl rfl rfl rfl (OpA.subi rfl rfl rfl ((q6 ⟨⟨⟨⟨(decF b10), (decF b11)⟩, (.inr (bneF b13))⟩, (.inr (decF b15))⟩, (.inl (decF b16))⟩) ⟨(decT b20), (decT b21)⟩).2.2.1 ⟨rfl, rfl⟩) ?_
  refine DetK.opg rfl rfl rfl rfl (OpA.iixV (enc := encLex) rfl ts22 rfl rfl rfl ((q6 ⟨⟨⟨⟨(decF b10), (decF b11)⟩, (.inr (bneF b13))⟩, (.inr (decF b15))⟩, (.inl (decF b16))⟩) ⟨(decT b20), (decT b21)⟩).2.2.2.2.2.1 ⟨rfl, rfl⟩) ?_
  refine DetK.opg rfl rfl rfl rfl (OpA.iload_whole rfl ti40 rfl ⟨_, rfl, rfl⟩ ⟨rfl, rfl⟩) ?_
  refine DetK.opg rfl rfl rfl rfl (OpA.load_whole rfl ti24 rfl rfl .head rfl ⟨_, rfl⟩ ⟨rfl, rfl⟩) ?_
  refine DetK.opg rfl rfl rfl rfl (OpA.call rfl rfl rfl en38 (price_fun (gi a (i - 1)) (gi b (j - 1)) c ) (by rintro _ rfl; exact ⟨rfl, rfl⟩)) ?_
  refine DetK.opg rfl rfl rfl rfl (OpA.addi rfl rfl rfl ((q6 ⟨⟨⟨⟨(decF b10), (decF b11)⟩, (.inr (bneF b13))⟩, (.inr (decF b15))⟩, (.inl (decF b16))⟩) ⟨(decT b20), (decT b21)⟩).2.2.2.2.2.2 ⟨rfl, rfl⟩) ?_
  refine DetK.opg rfl rfl rfl rfl (OpA.gtr rfl rfl rfl ⟨rfl, rfl⟩) ?_
  refine DetK.opg rfl rfl rfl rfl (OpA.pck rfl rfl (by with_reducible conv => lhs; whnf) ⟨rfl, rfl⟩) ?_
  refine DetK.op rfl (OpA.pck rfl rfl (by with_reducible conv => lhs; whnf) ⟨rfl, rfl⟩) ?_
  refine DetK.nil ?_
  refine wpL_nil ?_
  exact ⟨(Cov.asg ⟨rfl, rfl, rfl, rfl, rfl, rfl, rfl, rfl, (congrArg D.b (Eq.symm (orN (orN (orN (orN (orN b10 b11) (andN b12 b13)) (andN b14 b15)) (andS b16)) (andN (andN b20 b21) rfl)))), trivial⟩), (.refl _)⟩
  iterate 30 refine DetK.skip rfl rfl rfl rfl ?_
  refine DetK.opg rfl rfl rfl rfl (OpA.pck rfl rfl (by with_reducible conv => lhs; whnf) ⟨rfl, rfl⟩) ?_
  refine DetK.op rfl (OpA.pck rfl rfl (by with_reducible conv => lhs; whnf) ⟨rfl, rfl⟩) ?_
  refine DetK.nil ?_
  refine wpL_nil ?_
  exact ⟨(Cov.asg ⟨rfl, rfl, rfl, rfl, rfl, rfl, rfl, rfl, (congrArg D.b (Eq.symm (orN (orN (orN (orN (orN b10 b11) (andN b12 b13)) (andN b14 b15)) (andS b16)) (andS (andN b20 b21))))), trivial⟩), (.refl _)⟩
  iterate 2 refine DetK.skip rfl rfl rfl rfl ?_
  refine DetK.opg rfl rfl rfl rfl (OpA.pck rfl rfl (by with_reducible conv => lhs; whnf) ⟨rfl, rfl⟩) ?_
  refine DetK.opg rfl rfl rfl rfl (OpA.mv rfl (by with_reducible conv => lhs; whnf) ⟨rfl, rfl⟩) ?_
  iterate 30 refine DetK.skip rfl rfl rfl rfl ?_
  refine DetK.opg rfl rfl rfl rfl (OpA.pck rfl rfl (by with_reducible conv => lhs; whnf) ⟨rfl, rfl⟩) ?_
  refine DetK.op rfl (OpA.pck rfl rfl (by with_reducible conv => lhs; whnf) ⟨rfl, rfl⟩) ?_
  refine DetK.nil ?_
  refine wpL_nil ?_
  exact ⟨(Cov.asg ⟨rfl, rfl, rfl, rfl, rfl, rfl, rfl, rfl, (congrArg D.b (Eq.symm (orN (orN (orN (orN (orN b10 b11) (andN b12 b13)) (andN b14 b15)) (andS b16)) (andS (andS b20))))), trivial⟩), (.refl _)⟩
  iterate 19 refine DetK.skip rfl rfl rfl rfl ?_
  refine DetK.opg rfl rfl rfl rfl (OpA.pck rfl rfl (by with_reducible conv => lhs; whnf) ⟨rfl, rfl⟩) ?_
  refine DetK.op rfl (OpA.pck rfl rfl (by with_reducible conv => lhs; whnf) ⟨rfl, rfl⟩) ?_
  refine DetK.op rfl (OpA.mv rfl (by with_reducible conv => lhs; whnf) ⟨rfl, rfl⟩) ?_
  refine DetK.opg rfl rfl rfl rfl (OpA.mv rfl (by with_reducible conv => lhs; whnf) ⟨rfl, rfl⟩) ?_
  refine DetK.opg rfl rfl rfl rfl (OpA.gtr rfl rfl rfl ⟨rfl, rfl⟩) ?_
  refine DetK.opg rfl rfl rfl rfl (OpA.mv rfl (by with_reducible conv => lhs; whnf) ⟨rfl, rfl⟩) ?_
  refine DetK_split (s := 109) rfl (fun b22 => ?_) (fun b22 => ?_)
  iterate 2 refine DetK.opg rfl rfl rfl rfl (OpA.mv rfl (by with_reducible conv => lhs; whnf) ⟨rfl, rfl⟩) ?_
  refine DetK.opg rfl rfl rfl rfl (OpA.iixV (enc := (encL 1 D.i)) rfl ts48 rfl rfl rfl q1 ⟨rfl, rfl⟩) ?_
  refine DetK.opg rfl rfl rfl rfl (OpA.iload rfl ti25 rfl rfl ⟨rfl, rfl⟩) ?_
  refine DetK.opg rfl rfl rfl rfl (OpA.mv rfl (by with_reducible conv => lhs; whnf) ⟨rfl, rfl⟩) ?_
  refine DetK.opg rfl rfl rfl rfl (OpA.iixV (enc := D.i) rfl ts25 rfl rfl rfl q2 ⟨rfl, rfl⟩) ?_
  refine DetK.opg rfl rfl rfl rfl (OpA.iload rfl ti3 rfl rfl ⟨rfl, rfl⟩) ?_
  iterate 2 refine DetK.opg rfl rfl rfl rfl (OpA.mv rfl (by with_reducible conv => lhs; whnf) ⟨rfl, rfl⟩) ?_
  refine DetK.opg rfl rfl rfl rfl (OpA.iixV (enc := (encL 1 D.i)) rfl ts48 rfl rfl rfl q1 ⟨rfl, rfl⟩) ?_
  refine DetK.opg rfl rfl rfl rfl (OpA.iload rfl ti25 rfl rfl ⟨rfl, rfl⟩) ?_
  refine DetK.opg rfl rfl rfl rfl (OpA.mv rfl (by with_reducible conv => lhs; whnf) ⟨rfl, rfl⟩) ?_
  refine DetK.opg rfl rfl rfl rfl (OpA.subi rfl rfl rfl ((q5 ⟨⟨⟨(decF b10), (decF b11)⟩, (.inr (bneF b13))⟩, (.inl (decF b14))⟩) (decT b22)).1 ⟨rfl, rfl⟩) ?_
  refine DetK.opg rfl rfl rfl rfl (OpA.iixV (enc := D.i) rfl ts25 rfl rfl rfl ((q5 ⟨⟨⟨(decF b10), (decF b11)⟩, (.inr (bneF b13))⟩, (.inl (decF b14))⟩) (decT b22)).2.1 ⟨rfl, rfl⟩) ?_
  refine DetK.opg rfl rfl rfl rfl (OpA.iload rfl ti3 rfl rfl ⟨rfl, rfl⟩) ?_
  refine DetK.opg rfl rfl rfl rfl (OpA.fieldAddr rfl tf24_2 rfl ⟨rfl, rfl⟩) ?_
  refine DetK.opg rfl rfl rfl rfl (OpA.load rfl ti3 rfl .head rfl rfl ⟨rfl, rfl⟩) ?_
  refine DetK.opg rfl rfl rfl rfl (OpA.addi rfl rfl rfl ((q5 ⟨⟨⟨(decF b10), (decF b11)⟩, (.inr (bneF b13))⟩, (.inl (decF b14))⟩) (decT b22)).2.2 ⟨rfl, rfl⟩) ?_
  refine DetK.opg rfl rfl rfl rfl (OpA.gtr rfl rfl rfl ⟨rfl, rfl⟩) ?_
  refine DetK.opg rfl rfl rfl rfl (OpA.pck rfl rfl (by with_reducible conv => lhs; whnf) ⟨rfl, rfl⟩) ?_
  refine DetK.op rfl (OpA.pck rfl rfl (by with_reducible conv => lhs; whnf) ⟨rfl, rfl⟩) ?_
  refine DetK.op rfl (OpA.mv rfl (by with_reducible conv => lhs; whnf) ⟨rfl, rfl⟩) ?_
  refine DetK_split (s := 131) rfl (fun b23 => ?_) (fun b23 => ?_)
  iterate 3 refine DetK.skip rfl rfl rfl rfl ?_
  iterate 2 refine DetK.skipU rfl rfl rfl ?_
  iterate 2 refine DetK.skip rfl rfl rfl rfl ?_
  iterate 30 refine DetK.skipU rfl rfl rfl ?_
  refine DetK.skip rfl rfl rfl rfl ?_
  refine DetK.op rfl (OpA.pck rfl rfl (by with_reducible conv => lhs; whnf) ⟨rfl, rfl⟩) ?_
  refine DetK.nil ?_
  refine wpL_nil ?_
  exact ⟨(Cov.asg ⟨rfl, rfl, rfl, rfl, rfl, rfl, rfl, rfl, (congrArg D.b (Eq.symm (orS (orN (orN (orN (orN b10 b11) (andN b12 b13)) (andS b14)) (andN b22 b23))))), trivial⟩), (.refl _)⟩
  refine DetK.opg rfl rfl rfl rfl (OpA.mv rfl (by with_reducible conv => lhs; whnf) ⟨rfl, rfl⟩) ?_
  refine DetK.opg rfl rfl rfl rfl (OpA.gtr rfl rfl rfl ⟨rfl, rfl⟩) ?_
  refine DetK.opg rfl rfl rfl rfl (OpA.mv rfl (by with_reducible conv => lhs; whnf) ⟨rfl, rfl⟩) ?_
  refine DetK_split (s := 134) rfl (fun b24 => ?_) (fun b24 => ?_)
  refine DetK.opg rfl rfl rfl rfl (OpA.mv rfl (by with_reducible conv => lhs; whnf) ⟨rfl, rfl⟩) ?_
  refine DetK.opg rfl rfl rfl rfl (OpA.gtr rfl rfl rfl ⟨rfl, rfl⟩) ?_
  refine DetK.opg rfl rfl rfl rfl (OpA.pck rfl rfl (by with_reducible conv => lhs; whnf) ⟨rfl, rfl⟩) ?_
  refine DetK.opg rfl rfl rfl rfl (OpA.mv rfl (by with_reducible conv => lhs; whnf) ⟨rfl, rfl⟩) ?_
  refine DetK_split (s := 138) rfl (fun b25 => ?_) (fun b25 => ?_)
  iterate 2 refine DetK.opg rfl rfl rfl rfl (OpA.mv rfl (by with_reducible conv => lhs; whnf) ⟨rfl, rfl⟩) ?_
  refine DetK.opg rfl rfl rfl rfl (OpA.iixV (enc := (encL 1 D.i)) rfl ts48 rfl rfl rfl q1 ⟨rfl, rfl⟩) ?_
  refine DetK.opg rfl rfl rfl rfl (OpA.iload rfl ti25 rfl rfl ⟨rfl, rfl⟩) ?_
  refine DetK.opg rfl rfl rfl rfl (OpA.mv rfl (by with_reducible conv => lhs; whnf) ⟨rfl, rfl⟩) ?_
  refine DetK.opg rfl rfl rfl rfl (OpA.iixV (enc := D.i) rfl ts25 rfl rfl rfl q2 ⟨rfl, rfl⟩) ?_
  refine DetK.opg rfl rfl rfl rfl (OpA.iload rfl ti3 rfl rfl ⟨rfl, rfl⟩) ?_
  iterate 2 refine DetK.opg rfl rfl rfl rfl (OpA.mv rfl (by with_reducible conv => lhs; whnf) ⟨rfl, rfl⟩) ?_
  refine DetK.opg rfl rfl rfl rfl (OpA.subi rfl rfl rfl ((q6 ⟨⟨⟨⟨(decF b10), (decF b11)⟩, (.inr (bneF b13))⟩, (.inl (decF b14))⟩, (.inr (decF b23))⟩) ⟨(decT b24), (decT b25)⟩).1 ⟨rfl, rfl⟩) ?_
  refine DetK.opg rfl rfl rfl rfl (OpA.iixV (enc := (encL 1 D.i)) rfl ts48 rfl rfl rfl ((q6 ⟨⟨⟨⟨(decF b10), (decF b11)⟩, (.inr (bneF b13))⟩, (.inl (decF b14))⟩, (.inr (decF b23))⟩) ⟨(decT b24), (decT b25)⟩).2.1 ⟨rfl, rfl⟩) ?_
  refine DetK.opg rfl rfl rfl rfl (OpA.iload rfl ti25 rfl rfl ⟨rfl, rfl⟩) ?_
  refine DetK.opg rfl rfl rfl rfl (OpA.mv rfl (by with_reducible conv => lhs; whnf) ⟨rfl, rfl⟩) ?_
  refine DetK.opg rfl rfl rfl rfl (OpA.subi rfl rfl rfl ((q6 ⟨⟨⟨⟨(decF b10), (decF b11)⟩, (.inr (bneF b13))⟩, (.inl (decF b14))⟩, (.inr (decF b23))⟩) ⟨(decT b24), (decT b25)⟩).2.2.1 ⟨rfl, rfl⟩) ?_
  refine DetK.opg rfl rfl rfl rfl (OpA.iixV (enc := D.i) rfl ts25 rfl rfl rfl ((q6 ⟨⟨⟨⟨(decF b10), (decF b11)⟩, (.inr (bneF b13))⟩, (.inl (decF b14))⟩, (.inr (decF b23))⟩) ⟨(decT b24), (decT b25)⟩).2.2.2.1 ⟨rfl, rfl⟩) ?_
  refine DetK.opg rfl rfl rfl rfl (OpA.iload rfl ti3 rfl rfl ⟨rfl, rfl⟩) ?_
  iterate 2 refine DetK.opg rfl rfl rfl rfl (OpA.mv rfl (by with_reducible conv => lhs; whnf) ⟨rfl, rfl⟩) ?_
  refine DetK.opg rfl rfl rfl rfl (OpA.subi rfl rfl rfl ((q6 ⟨⟨⟨⟨(decF b10), (decF b11)⟩, (.inr (bneF b13))⟩, (.inl (decF b14))⟩, (.inr (decF b23))⟩) ⟨(decT b24), (decT b25)⟩).1 ⟨rfl, rfl⟩) ?_
  refine DetK.opg rfl rfl rfl rfl (OpA.iixV (enc := encLex) rfl ts22 rfl rfl rfl ((q6 ⟨⟨⟨⟨(decF b10), (decF b11)⟩, (.inr (bneF b13))⟩, (.inl (decF b14))⟩, (.inr (decF b23))⟩) ⟨(decT b24), (decT b25)⟩).2.2.2.2.1 ⟨rfl, rfl⟩) ?_
  refine DetK.opg rfl rfl rfl rfl (OpA.iload_whole rfl ti40 rfl ⟨_, rfl, rfl⟩ ⟨rfl, rfl⟩) ?_
  iterate 2 refine DetK.opg rfl rfl rfl rfl (OpA.mv rfl (by with_reducible conv => lhs; whnf) ⟨rfl, rfl⟩) ?_
  refine DetK.opg rfl rfl rfl rfl (OpA.subi rfl rfl rfl ((q6 ⟨⟨⟨⟨(decF b10), (decF b11)⟩, (.inr (bneF b13))⟩, (.inl (decF b14))⟩, (.inr (decF b23))⟩) ⟨(decT b24), (decT b25)⟩).2.2.1 ⟨rfl, rfl⟩) ?_
  refine DetK.opg rfl rfl rfl rfl (OpA.iixV (enc := encLex) rfl ts22 rfl rfl rfl ((q6 ⟨⟨⟨⟨(decF b10), (decF b11)⟩, (.inr (bneF b13))⟩, (.inl (decF b14))⟩, (.inr (decF b23))⟩) ⟨(decT b24), (decT b25)⟩).2.2.2.2.2.1 ⟨rfl, rfl⟩) ?_
  refine DetK.opg rfl rfl rfl rfl (OpA.iload_whole rfl ti40 rfl ⟨_, rfl, rfl⟩ ⟨rfl, rfl⟩) ?_
  refine DetK.opg rfl rfl rfl rfl (OpA.load_whole rfl ti24 rfl rfl .head rfl ⟨_, rfl⟩ ⟨rfl, rfl⟩) ?_
  refine DetK.opg rfl rfl rfl rfl (OpA.call rfl rfl rfl en38 (price_fun (gi a (i - 1)) (gi b (j - 1)) c ) (by rintro _ rfl; exact ⟨rfl, rfl⟩)) ?_
  refine DetK.opg rfl rfl rfl rfl (OpA.addi rfl rfl rfl ((q6 ⟨⟨⟨⟨(decF b10), (decF b11)⟩, (.inr (bneF b13))⟩, (.inl (decF b14))⟩, (.inr (decF b23))⟩) ⟨(decT b24), (decT b25)⟩).2.2.2.2.2.2 ⟨rfl, rfl⟩) ?_
  refine DetK.opg rfl rfl rfl rfl (OpA.gtr rfl rfl rfl ⟨rfl, rfl⟩) ?_
  refine DetK.opg rfl rfl rfl rfl (OpA.pck rfl rfl (by with_reducible conv => lhs; whnf) ⟨rfl, rfl⟩) ?_
  refine DetK.op rfl (OpA.pck rfl rfl (by with_reducible conv => lhs; whnf) ⟨rfl, rfl⟩) ?_
  refine DetK.nil ?_
  refine wpL_nil ?_
  exact ⟨(Cov.asg ⟨rfl, rfl, rfl, rfl, rfl, rfl, rfl, rfl, (congrArg D.b (Eq.symm (orN (orN (orN (orN (orN b10 b11) (andN b12 b13)) (andS b14)) (andN b22 b23)) (andN (andN b24 b25) rfl)))), trivial⟩), (.refl _)⟩
  iterate 30 refine DetK.skip rfl rfl rfl rfl ?_
  refine DetK.opg rfl rfl rfl rfl (OpA.pck rfl rfl (by with_reducible conv => lhs; whnf) ⟨rfl, rfl⟩) ?_
  refine DetK.op rfl (OpA.pck rfl rfl (by with_reducible conv => lhs; whnf) ⟨rfl, rfl⟩) ?_
  refine DetK.nil ?_
  refine wpL_nil ?_
  exact ⟨(Cov.asg ⟨rfl, rfl, rfl, rfl, rfl, rfl, rfl, rfl, (congrArg D.b (Eq.symm (orN (orN (orN (orN (orN b10 b11) (andN b12 b13)) (andS b14)) (andN b22 b23)) (andS (andN b24 b25))))), trivial⟩), (.refl _)⟩
  iterate 2 refine DetK.skip rfl rfl rfl rfl ?_
  refine DetK.opg rfl rfl rfl rfl (OpA.pck rfl rfl (by with_reducible conv => lhs; whnf) ⟨rfl, rfl⟩) ?_
  refine DetK.opg rfl rfl rfl rfl (OpA.mv rfl (by with_reducible conv => lhs; whnf) ⟨rfl, rfl⟩) ?_
  iterate 30 refine DetK.skip rfl rfl rfl rfl ?_
  refine DetK.opg rfl rfl rfl rfl (OpA.pck rfl rfl (by with_reducible conv => lhs; whnf) ⟨rfl, rfl⟩) ?_
  refine DetK.op rfl (OpA.pck rfl rfl (by with_reducible conv => lhs; whnf) ⟨rfl, rfl⟩) ?_
  refine DetK.nil ?_
  refine wpL_nil ?_
  exact ⟨(Cov.asg ⟨rfl, rfl, rfl, rfl, rfl, rfl, rfl, rfl, (congrArg D.b (Eq.symm (orN (orN (orN (orN (orN b10 b11) (andN b12 b13)) (andS b14)) (andN b22 b23)) (andS (andS b24))))), trivial⟩), (.refl _)⟩
  iterate 19 refine DetK.skip rfl rfl rfl rfl ?_
  refine DetK.opg rfl rfl rfl rfl (OpA.pck rfl rfl (by with_reducible conv => lhs; whnf) ⟨rfl, rfl⟩) ?_
  refine DetK.op rfl (OpA.pck rfl rfl (by with_reducible conv => lhs; whnf) ⟨rfl, rfl⟩) ?_
  refine DetK.op rfl (OpA.mv rfl (by with_reducible conv => lhs; whnf) ⟨rfl, rfl⟩) ?_
  refine DetK.opg rfl rfl rfl rfl (OpA.mv rfl (by with_reducible conv => lhs; whnf) ⟨rfl, rfl⟩) ?_
  refine DetK.opg rfl rfl rfl rfl (OpA.gtr rfl rfl rfl ⟨rfl, rfl⟩) ?_
  refine DetK.opg rfl rfl rfl rfl (OpA.mv rfl (by with_reducible conv => lhs; whnf) ⟨rfl, rfl⟩) ?_
  refine DetK_split (s := 134) rfl (fun b26 => ?_) (fun b26 => ?_)
  refine DetK.opg rfl rfl rfl rfl (OpA.mv rfl (by with_reducible conv => lhs; whnf) ⟨rfl, rfl⟩) ?_
  refine DetK.opg rfl rfl rfl rfl (OpA.gtr rfl rfl rfl ⟨rfl, rfl⟩) ?_
  refine DetK.opg rfl rfl rfl rfl (OpA.pck rfl rfl (by with_reducible conv => lhs; whnf) ⟨rfl, rfl⟩) ?_
  refine DetK.opg rfl rfl rfl rfl (OpA.mv rfl (by with_reducible conv => lhs; whnf) ⟨rfl, rfl⟩) ?_
  refine DetK_split (s := 138) rfl (fun b27 => ?_) (fun b27 => ?_)
  iterate 2 refine DetK.opg rfl rfl rfl rfl (OpA.mv rfl (by with_reducible conv => lhs; whnf) ⟨rfl, rfl⟩) ?_
  refine DetK.opg rfl rfl rfl rfl (OpA.iixV (enc := (encL 1 D.i)) rfl ts48 rfl rfl rfl q1 ⟨rfl, rfl⟩) ?_
  refine DetK.opg rfl rfl rfl rfl (OpA.iload rfl ti25 rfl rfl ⟨rfl, rfl⟩) ?_
  refine DetK.opg rfl rfl rfl rfl (OpA.mv rfl (by with_reducible conv => lhs; whnf) ⟨rfl, rfl⟩) ?_
  refine DetK.opg rfl rfl rfl rfl (OpA.iixV (enc := D.i) rfl ts25 rfl rfl rfl q2 ⟨rfl, rfl⟩) ?_
  refine DetK.opg rfl rfl rfl rfl (OpA.iload rfl ti3 rfl rfl ⟨rfl, rfl⟩) ?_
  iterate 2 refine DetK.opg rfl rfl rfl rfl (OpA.mv rfl (by with_reducible conv => lhs; whnf) ⟨rfl, rfl⟩) ?_
  refine DetK.opg rfl rfl rfl rfl (OpA.subi rfl rfl rfl ((q6 ⟨⟨⟨⟨(decF b10), (decF b11)⟩, (.inr (bneF b13))⟩, (.inl (decF b14))⟩, (.inl (decF b22))⟩) ⟨(decT b26), (decT b27)⟩).1 ⟨rfl, rfl⟩) ?_
  refine DetK.opg rfl rfl rfl rfl (OpA.iixV (enc := (encL 1 D.i)) rfl ts48 rfl rfl rfl ((q6 ⟨⟨⟨⟨(decF b10), (decF b11)⟩, (.inr (bneF b13))⟩, (.inl (decF b14))⟩, (.inl (decF b22))⟩) ⟨(decT b26), (decT b27)⟩).2.1 ⟨rfl, rfl⟩) ?_
  refine DetK.opg rfl rfl rfl rfl (OpA.iload rfl ti25 rfl rfl ⟨rfl, rfl⟩) ?_
  refine DetK.opg rfl rfl rfl rfl (OpA.mv rfl (by with_reducible conv => lhs; whnf) ⟨rfl, rfl⟩) ?_
  refine DetK.opg rfl rfl rfl rfl (OpA.subi rfl rfl rfl ((q6 ⟨⟨⟨⟨(decF b10), (decF b11)⟩, (.inr (bneF b13))⟩, (.inl (decF b14))⟩, (.inl (decF b22))⟩) ⟨(decT b26), (decT b27)⟩).2.2.1 ⟨rfl, rfl⟩) ?_
  refine DetK.opg rfl rfl rfl rfl (OpA.iixV (enc := D.i) rfl ts25 rfl rfl rfl ((q6 ⟨⟨⟨⟨(decF b10), (decF b11)⟩, (.inr (bneF b13))⟩, (.inl (decF b14))⟩, (.inl (decF b22))⟩) ⟨(decT b26), (decT b27)⟩).2.2.2.1 ⟨rfl, rfl⟩) ?_
  refine DetK.opg rfl rfl rfl rfl (OpA.iload rfl ti3 rfl rfl ⟨rfl, rfl⟩) ?_
  iterate 2 refine DetK.opg rfl rfl rfl rfl (OpA.mv rfl (by with_reducible conv => lhs; whnf) ⟨rfl, rfl⟩) ?_
  refine DetK.opg rfl rfl rfl rfl (OpA.subi rfl rfl rfl ((q6 ⟨⟨⟨⟨(decF b10), (decF b11)⟩, (.inr (bneF b13))⟩, (.inl (decF b14))⟩, (.inl (decF b22))⟩) ⟨(decT b26), (decT b27)⟩).1 ⟨rfl, rfl⟩) ?_
  refine DetK.opg rfl rfl rfl rfl (OpA.iixV (enc := encLex) rfl ts22 rfl rfl rfl ((q6 ⟨⟨⟨⟨(decF b10), (decF b11)⟩, (.inr (bneF b13))⟩, (.inl (decF b14))⟩, (.inl (decF b22))⟩) ⟨(decT b26), (decT b27)⟩).2.2.2.2.1 ⟨rfl, rfl⟩) ?_
  refine DetK.opg rfl rfl rfl rfl (OpA.iload_whole rfl ti40 rfl ⟨_, rfl, rfl⟩ ⟨rfl, rfl⟩) ?_
  iterate 2 refine DetK.opg rfl rfl rfl rfl (OpA.mv rfl (by with_reducible conv => lhs; whnf) ⟨rfl, rfl⟩) ?_
  refine DetK.opg rfl rfl rfl rfl (OpA.subi rfl rfl rfl ((q6 ⟨⟨⟨⟨(decF b10), (decF b11)⟩, (.inr (bneF b13))⟩, (.inl (decF b14))⟩, (.inl (decF b22))⟩) ⟨(decT b26), (decT b27)⟩).2.2.1 ⟨rfl, rfl⟩) ?_
  refine DetK.opg rfl rfl rfl rfl (OpA.iixV (enc := encLex) rfl ts22 rfl rfl rfl ((q6 ⟨⟨⟨⟨(decF b10), (decF b11)⟩, (.inr (bneF b13))⟩, (.inl (decF b14))⟩, (.inl (decF b22))⟩) ⟨(decT b26), (decT b27)⟩).2.2.2.2.2.1 ⟨rfl, rfl⟩) ?_
  refine DetK.opg rfl rfl rfl rfl (OpA.iload_whole rfl ti40 rfl ⟨_, rfl, rfl⟩ ⟨rfl, rfl⟩) ?_
  refine DetK.opg rfl rfl rfl rfl (OpA.load_whole rfl ti24 rfl rfl .head rfl ⟨_, rfl⟩ ⟨rfl, rfl⟩) ?_
  refine DetK.opg rfl rfl rfl rfl (OpA.call rfl rfl rfl en38 (price_fun (gi a (i - 1)) (gi b (j - 1)) c ) (by rintro _ rfl; exact ⟨rfl, rfl⟩)) ?_
  refine DetK.opg rfl rfl rfl rfl (OpA.addi rfl rfl rfl ((q6 ⟨⟨⟨⟨(decF b10), (decF b11)⟩, (.inr (bneF b13))⟩, (.inl (decF b14))⟩, (.inl (decF b22))⟩) ⟨(decT b26), (decT b27)⟩).2.2.2.2.2.2 ⟨rfl, rfl⟩) ?_
  refine DetK.opg rfl rfl rfl rfl (OpA.gtr rfl rfl rfl ⟨rfl, rfl⟩) ?_
  refine DetK.opg rfl rfl rfl rfl (OpA.pck rfl rfl (by with_reducible conv => lhs; whnf) ⟨rfl, rfl⟩) ?_
  refine DetK.op rfl (OpA.pck rfl rfl (by with_reducible conv => lhs; whnf) ⟨rfl, rfl⟩) ?_
  refine DetK.nil ?_
  refine wpL_nil ?_
  exact ⟨(Cov.asg ⟨rfl, rfl, rfl, rfl, rfl, rfl, rfl, rfl, (congrArg D.b (Eq.symm (orN (orN (orN (orN (orN b10 b11) (andN b12 b13)) (andS b14)) (andS b22)) (andN (andN b26 b27) rfl)))), trivial⟩), (.refl _)⟩
  iterate 30 refine DetK.skip rfl rfl rfl rfl ?_
  refine DetK.opg rfl rfl rfl rfl (OpA.pck rfl rfl (by with_reducible conv => lhs; whnf) ⟨rfl, rfl⟩) ?_
  refine DetK.op rfl (OpA.pck rfl rfl (by with_reducible conv => lhs; whnf) ⟨rfl, rfl⟩) ?_
  refine DetK.nil ?_
  refine wpL_nil ?_
  exact ⟨(Cov.asg ⟨rfl, rfl, rfl, rfl, rfl, rfl, rfl, rfl, (congrArg D.b (Eq.symm (orN (orN (orN (orN (orN b10 b11) (andN b12 b13)) (andS b14)) (andS b22)) (andS (andN b26 b27))))), trivial⟩), (.refl _)⟩
  iterate 2 refine DetK.skip rfl rfl rfl rfl ?_
  refine DetK.opg rfl rfl rfl rfl (OpA.pck rfl rfl (by with_reducible conv => lhs; whnf) ⟨rfl, rfl⟩) ?_
  refine DetK.opg rfl rfl rfl rfl (OpA.mv rfl (by with_reducible conv => lhs; whnf) ⟨rfl, rfl⟩) ?_
  iterate 30 refine DetK.skip rfl rfl rfl rfl ?_
  refine DetK.opg rfl rfl rfl rfl (OpA.pck rfl rfl (by with_reducible conv => lhs; whnf) ⟨rfl, rfl⟩) ?_
  refine DetK.op rfl (OpA.pck rfl rfl (by with_reducible conv => lhs; whnf) ⟨rfl, rfl⟩) ?_
  refine DetK.nil ?_
  refine wpL_nil ?_
  exact ⟨(Cov.asg ⟨rfl, rfl, rfl, rfl, rfl, rfl, rfl, rfl, (congrArg D.b (Eq.symm (orN (orN (orN (orN (orN b10 b11) (andN b12 b13)) (andS b14)) (andS b22)) (andS (andS b26))))), trivial⟩), (.refl _)⟩
  iterate 8 refine DetK.skip rfl rfl rfl rfl ?_
  refine DetK.opg rfl rfl rfl rfl (OpA.pck rfl rfl (by with_reducible conv => lhs; whnf) ⟨rfl, rfl⟩) ?_
  refine DetK.op rfl (OpA.pck rfl rfl (by with_reducible conv => lhs; whnf) ⟨rfl, rfl⟩) ?_
  refine DetK.op rfl (OpA.mv rfl (by with_reducible conv => lhs; whnf) ⟨rfl, rfl⟩) ?_
  refine DetK.opg rfl rfl rfl rfl (OpA.mv rfl (by with_reducible conv => lhs; whnf) ⟨rfl, rfl⟩) ?_
  refine DetK.opg rfl rfl rfl rfl (OpA.gtr rfl rfl rfl ⟨rfl, rfl⟩) ?_
  refine DetK.opg rfl rfl rfl rfl (OpA.mv rfl (by with_reducible conv => lhs; whnf) ⟨rfl, rfl⟩) ?_
  refine DetK_split (s := 84) rfl (fun b28 => ?_) (fun b28 => ?_)
  iterate 2 refine DetK.opg rfl rfl rfl rfl (OpA.mv rfl (by with_reducible conv => lhs; whnf) ⟨rfl, rfl⟩) ?_
  refine DetK.opg rfl rfl rfl rfl (OpA.iixV (enc := (encL 1 D.i)) rfl ts48 rfl rfl rfl q1 ⟨rfl, rfl⟩) ?_
  refine DetK.opg rfl rfl rfl rfl (OpA.iload rfl ti25 rfl rfl ⟨rfl, rfl⟩) ?_
  refine DetK.opg rfl rfl rfl rfl (OpA.mv rfl (by with_reducible conv => lhs; whnf) ⟨rfl, rfl⟩) ?_
  refine DetK.opg rfl rfl rfl rfl (OpA.iixV (enc := D.i) rfl ts25 rfl rfl rfl q2 ⟨rfl, rfl⟩) ?_
  refine DetK.opg rfl rfl rfl rfl (OpA.iload rfl ti3 rfl rfl ⟨rfl, rfl⟩) ?_
  iterate 2 refine DetK.opg rfl rfl rfl rfl (OpA.mv rfl (by with_reducible conv => lhs; whnf) ⟨rfl, rfl⟩) ?_
  refine DetK.opg rfl rfl rfl rfl (OpA.subi rfl rfl rfl ((q4 ⟨⟨(decF b10), (decF b11)⟩, (.inl (beqF b12))⟩) (decT b28)).1 ⟨rfl, rfl⟩) ?_
  refine DetK.opg rfl rfl rfl rfl (OpA.iixV (enc := (encL 1 D.i)) rfl ts48 rfl rfl rfl ((q4 ⟨⟨(decF b10), (decF b11)⟩, (.inl (beqF b12))⟩) (decT b28)).2.1 ⟨rfl, rfl⟩) ?_
  refine DetK.opg rfl rfl rfl rfl (OpA.iload rfl ti25 rfl rfl ⟨rfl, rfl⟩) ?_
  refine DetK.opg rfl rfl rfl rfl (OpA.mv rfl (by with_reducible conv => lhs; whnf) ⟨rfl, rfl⟩) ?_
  refine DetK.opg rfl rfl rfl rfl (OpA.iixV (enc := D.i) rfl ts25 rfl rfl rfl ((q4 ⟨⟨(decF b10), (decF b11)⟩, (.inl (beqF b12))⟩) (decT b28)).2.2.1 ⟨rfl, rfl⟩) ?_
  refine DetK.opg rfl rfl rfl rfl (OpA.iload rfl ti3 rfl rfl ⟨rfl, rfl⟩) ?_
  refine DetK.opg rfl rfl rfl rfl (OpA.fieldAddr rfl tf24_1 rfl ⟨rfl, rfl⟩) ?_
  refine DetK.opg rfl rfl rfl rfl (OpA.load rfl ti3 rfl .head rfl rfl ⟨rfl, rfl⟩) ?_
  refine DetK.opg rfl rfl rfl rfl (OpA.addi rfl rfl rfl ((q4 ⟨⟨(decF b10), (decF b11)⟩, (.inl (beqF b12))⟩) (decT b28)).2.2.2 ⟨rfl, rfl⟩) ?_
  refine DetK.opg rfl rfl rfl rfl (OpA.gtr rfl rfl rfl ⟨rfl, rfl⟩) ?_
  refine DetK.opg rfl rfl rfl rfl (OpA.pck rfl rfl (by with_reducible conv => lhs; whnf) ⟨rfl, rfl⟩) ?_
  refine DetK.op rfl (OpA.pck rfl rfl (by with_reducible conv => lhs; whnf) ⟨rfl, rfl⟩) ?_
  refine DetK.op rfl (OpA.mv rfl (by with_reducible conv => lhs; whnf) ⟨rfl, rfl⟩) ?_
  refine DetK_split (s := 106) rfl (fun b29 => ?_) (fun b29 => ?_)
  iterate 3 refine DetK.skip rfl rfl rfl rfl ?_
  iterate 19 refine DetK.skipU rfl rfl rfl ?_
  refine DetK.skip rfl rfl rfl rfl ?_
  refine DetK.op rfl (OpA.pck rfl rfl (by with_reducible conv => lhs; whnf) ⟨rfl, rfl⟩) ?_
  refine DetK.op rfl (OpA.mv rfl (by with_reducible conv => lhs; whnf) ⟨rfl, rfl⟩) ?_
  iterate 3 refine DetK.skip rfl rfl rfl rfl ?_
  iterate 2 refine DetK.skipU rfl rfl rfl ?_
  iterate 2 refine DetK.skip rfl rfl rfl rfl ?_
  iterate 30 refine DetK.skipU rfl rfl rfl ?_
  refine DetK.skip rfl rfl rfl rfl ?_
  refine DetK.op rfl (OpA.pck rfl rfl (by with_reducible conv => lhs; whnf) ⟨rfl, rfl⟩) ?_
  refine DetK.nil ?_
  refine wpL_nil ?_
  exact ⟨(Cov.asg ⟨rfl, rfl, rfl, rfl, rfl, rfl, rfl, rfl, (congrArg D.b (Eq.symm (orS (orS (orN (orN (orN b10 b11) (andS b12)) (andN b28 b29)))))), trivial⟩), (.refl _)⟩
  refine DetK.opg rfl rfl rfl rfl (OpA.mv rfl (by with_reducible conv => lhs; whnf) ⟨rfl, rfl⟩) ?_
  refine DetK.opg rfl rfl rfl rfl (OpA.gtr rfl rfl rfl ⟨rfl, rfl⟩) ?_
  refine DetK.opg rfl rfl rfl rfl (OpA.mv rfl (by with_reducible conv => lhs; whnf) ⟨rfl, rfl⟩) ?_
  refine DetK_split (s := 109) rfl (fun b30 => ?_) (fun b30 => ?_)
  iterate 2 refine DetK.opg rfl rfl rfl rfl (OpA.mv rfl (by with_reducible conv => lhs; whnf) ⟨rfl, rfl⟩) ?_
  refine DetK.opg rfl rfl rfl rfl (OpA.iixV (enc := (encL 1 D.i)) rfl ts48 rfl rfl rfl q1 ⟨rfl, rfl⟩) ?_
  refine DetK.opg rfl rfl rfl rfl (OpA.iload rfl ti25 rfl rfl ⟨rfl, rfl⟩) ?_
  refine DetK.opg rfl rfl rfl rfl (OpA.mv rfl (by with_reducible conv => lhs; whnf) ⟨rfl, rfl⟩) ?_
  refine DetK.opg rfl rfl rfl rfl (OpA.iixV (enc := D.i) rfl ts25 rfl rfl rfl q2 ⟨rfl, rfl⟩) ?_
  refine DetK.opg rfl rfl rfl rfl (OpA.iload rfl ti3 rfl rfl ⟨rfl, rfl⟩) ?_
  iterate 2 refine DetK.opg rfl rfl rfl rfl (OpA.mv rfl (by with_reducible conv => lhs; whnf) ⟨rfl, rfl⟩) ?_
  refine DetK.opg rfl rfl rfl rfl (OpA.iixV (enc := (encL 1 D.i)) rfl ts48 rfl rfl rfl q1 ⟨rfl, rfl⟩) ?_
  refine DetK.opg rfl rfl rfl rfl (OpA.iload rfl ti25 rfl rfl ⟨rfl, rfl⟩) ?_
  refine DetK.opg rfl rfl rfl rfl (OpA.mv rfl (by with_reducible conv => lhs; whnf) ⟨rfl, rfl⟩) ?_
  refine DetK.opg rfl rfl rfl rfl (OpA.subi rfl rfl rfl ((q5 ⟨⟨⟨(decF b10), (decF b11)⟩, (.inl (beqF b12))⟩, (.inr (decF b29))⟩) (decT b30)).1 ⟨rfl, rfl⟩) ?_
  refine DetK.opg rfl rfl rfl rfl (OpA.iixV (enc := D.i) rfl ts25 rfl rfl rfl ((q5 ⟨⟨⟨(decF b10), (decF b11)⟩, (.inl (beqF b12))⟩, (.inr (decF b29))⟩) (decT b30)).2.1 ⟨rfl, rfl⟩) ?_
  refine DetK.opg rfl rfl rfl rfl (OpA.iload rfl ti3 rfl rfl ⟨rfl, rfl⟩) ?_
  refine DetK.opg rfl rfl rfl rfl (OpA.fieldAddr rfl tf24_2 rfl ⟨rfl, rfl⟩) ?_
  refine DetK.opg rfl rfl rfl rfl (OpA.load rfl ti3 rfl .head rfl rfl ⟨rfl, rfl⟩) ?_
  refine DetK.opg rfl rfl rfl rfl (OpA.addi rfl rfl rfl ((q5 ⟨⟨⟨(decF b10), (decF b11)⟩, (.inl (beqF b12))⟩, (.inr (decF b29))⟩) (decT b30)).2.2 ⟨rfl, rfl⟩) ?_
  refine DetK.opg rfl rfl rfl rfl (OpA.gtr rfl rfl rfl ⟨rfl, rfl⟩) ?_
  refine DetK.opg rfl rfl rfl rfl (OpA.pck rfl rfl (by with_reducible conv => lhs; whnf) ⟨rfl, rfl⟩) ?_
  refine DetK.op rfl (OpA.pck rfl rfl (by with_reducible conv => lhs; whnf) ⟨rfl, rfl⟩) ?_
  refine DetK.op rfl (OpA.mv rfl (by with_reducible conv => lhs; whnf) ⟨rfl, rfl⟩) ?_
  refine DetK_split (s := 131) rfl (fun b31 => ?_) (fun b31 => ?_)
  iterate 3 refine DetK.skip rfl rfl rfl rfl ?_
  iterate 2 refine DetK.skipU rfl rfl rfl ?_
  iterate 2 refine DetK.skip rfl rfl rfl rfl ?_
  iterate 30 refine DetK.skipU rfl rfl rfl ?_
  refine DetK.skip rfl rfl rfl rfl ?_
  refine DetK.op rfl (OpA.pck rfl rfl (by with_reducible conv => lhs; whnf) ⟨rfl, rfl⟩) ?_
  refine DetK.nil ?_
  refine wpL_nil ?_
  exact ⟨(Cov.asg ⟨rfl, rfl, rfl, rfl, rfl, rfl, rfl, rfl, (congrArg D.b (Eq.symm (orS (orN (orN (orN (orN b10 b11) (andS b12)) (andN b28 b29)) (andN b30 b31))))), trivial⟩), (.refl _)⟩
  refine DetK.opg rfl rfl rfl rfl (OpA.mv rfl (by with_reducible conv => lhs; whnf) ⟨rfl, rfl⟩) ?_
  refine DetK.opg rfl rfl rfl rfl (OpA.gtr rfl rfl rfl ⟨rfl, rfl⟩) ?_
  refine DetK.opg rfl rfl rfl rfl (OpA.mv rfl (by with_reducible conv => lhs; whnf) ⟨rfl, rfl⟩) ?_
  refine DetK_split (s := 134) rfl (fun b32 => ?_) (fun b32 => ?_)
  refine DetK.opg rfl rfl rfl rfl (OpA.mv rfl (by with_reducible conv => lhs; whnf) ⟨rfl, rfl⟩) ?_
  refine DetK.opg rfl rfl rfl rfl (OpA.gtr rfl rfl rfl ⟨rfl, rfl⟩) ?_
  refine DetK.opg rfl rfl rfl rfl (OpA.pck rfl rfl (by with_reducible conv => lhs; whnf) ⟨rfl, rfl⟩) ?_
  refine DetK.opg rfl rfl rfl rfl (OpA.mv rfl (by with_reducible conv => lhs; whnf) ⟨rfl, rfl⟩) ?_
  refine DetK_split (s := 138) rfl (fun b33 => ?_) (fun b33 => ?_)
  iterate 2 refine DetK.opg rfl rfl rfl rfl (OpA.mv rfl (by with_reducible conv => lhs; whnf) ⟨rfl, rfl⟩) ?_
  refine DetK.opg rfl rfl rfl rfl (OpA.iixV (enc := (encL 1 D.i)) rfl ts48 rfl rfl rfl q1 ⟨rfl, rfl⟩) ?_
  refine DetK.opg rfl rfl rfl rfl (OpA.iload rfl ti25 rfl rfl ⟨rfl, rfl⟩) ?_
  refine DetK.opg rfl rfl rfl rfl (OpA.mv rfl (by with_reducible conv => lhs; whnf) ⟨rfl, rfl⟩) ?_
  refine DetK.opg rfl rfl rfl rfl (OpA.iixV (enc := D.i) rfl ts25 rfl rfl rfl q2 ⟨rfl, rfl⟩) ?_
  refine DetK.opg rfl rfl rfl rfl (OpA.iload rfl ti3 rfl rfl ⟨rfl, rfl⟩) ?_
  iterate 2 refine DetK.opg rfl rfl rfl rfl (OpA.mv rfl (by with_reducible conv => lhs; whnf) ⟨rfl, rfl⟩) ?_
  refine DetK.opg rfl rfl rfl rfl (OpA.subi rfl rfl rfl ((q6 ⟨⟨⟨⟨(decF b10), (decF b11)⟩, (.inl (beqF b12))⟩, (.inr (decF b29))⟩, (.inr (decF b31))⟩) ⟨(decT b32), (decT b33)⟩).1 ⟨rfl, rfl⟩) ?_
  refine DetK.opg rfl rfl rfl rfl (OpA.iixV (enc := (encL 1 D.i)) rfl ts48 rfl rfl rfl ((q6 ⟨⟨⟨⟨(decF b10), (decF b11)⟩, (.inl (beqF b12))⟩, (.inr (decF b29))⟩, (.inr (decF b31))⟩) ⟨(decT b32), (decT b33)⟩).2.1 ⟨rfl, rfl⟩) ?_
  refine DetK.opg rfl rfl rfl rfl (OpA.iload rfl ti25 rfl rfl ⟨rfl, rfl⟩) ?_
  refine DetK.opg rfl rfl rfl rfl (OpA.mv rfl (by with_reducible conv => lhs; whnf) ⟨rfl, rfl⟩) ?_
  refine DetK.opg rfl rfl rfl rfl (OpA.subi rfl rfl rfl ((q6 ⟨⟨⟨⟨(decF b10), (decF b11)⟩, (.inl (beqF b12))⟩, (.inr (decF b29))⟩, (.inr (decF b31))⟩) ⟨(decT b32), (decT b33)⟩).2.2.1 ⟨rfl, rfl⟩) ?_
  refine DetK.opg rfl rfl rfl rfl (OpA.iixV (enc := D.i) rfl ts25 rfl rfl rfl ((q6 ⟨⟨⟨⟨(decF b10), (decF b11)⟩, (.inl (beqF b12))⟩, (.inr (decF b29))⟩, (.inr (decF b31))⟩) ⟨(decT b32), (decT b33)⟩).2.2.2.1 ⟨rfl, rfl⟩) ?_
  refine DetK.opg rfl rfl rfl rfl (OpA.iload rfl ti3 rfl rfl ⟨rfl, rfl⟩) ?_
  iterate 2 refine DetK.opg rfl rfl rfl rfl (OpA.mv rfl (by with_reducible conv => lhs; whnf) ⟨rfl, rfl⟩) ?_
  refine DetK.opg rfl rfl rfl rfl (OpA.subi rfl rfl rfl ((q6 ⟨⟨⟨⟨(decF b10), (decF b11)⟩, (.inl (beqF b12))⟩, (.inr (decF b29))⟩, (.inr (decF b31))⟩) ⟨(decT b32), (decT b33)⟩).1 ⟨rfl, rfl⟩) ?_
  refine DetK.opg rfl rfl rfl rfl (OpA.iixV (enc := encLex) rfl ts22 rfl rfl rfl ((q6 ⟨⟨⟨⟨(decF b10), (decF b11)⟩, (.inl (beqF b12))⟩, (.inr (decF b29))⟩, (.inr (decF b31))⟩) ⟨(decT b32), (decT b33)⟩).2.2.2.2.1 ⟨rfl, rfl⟩) ?_
  refine DetK.opg rfl rfl rfl rfl (OpA.iload_whole rfl ti40 rfl ⟨_, rfl, rfl⟩ ⟨rfl, rfl⟩) ?_
  iterate 2 refine DetK.opg rfl rfl rfl rfl (OpA.mv rfl (by with_reducible conv => lhs; whnf) ⟨rfl, rfl⟩) ?_
  refine DetK.opg rfl rfl rfl rfl (OpA.subi rfl rfl rfl ((q6 ⟨⟨⟨⟨(decF b10), (decF b11)⟩, (.inl (beqF b12))⟩, (.inr (decF b29))⟩, (.inr (decF b31))⟩) ⟨(decT b32), (decT b33)⟩).2.2.1 ⟨rfl, rfl⟩) ?_
  refine DetK.opg rfl rfl rfl rfl (OpA.iixV (enc := encLex) rfl ts22 rfl rfl rfl ((q6 ⟨⟨⟨⟨(decF b10), (decF b11)⟩, (.inl (beqF b12))⟩, (.inr (decF b29))⟩, (.inr (decF b31))⟩) ⟨(decT b32), (decT b33)⟩).2.2.2.2.2.1 ⟨rfl, rfl⟩) ?_
  refine DetK.opg rfl rfl rfl rfl (OpA.iload_whole rfl ti40 rfl ⟨_, rfl, rfl⟩ ⟨rfl, rfl⟩) ?_
  refine DetK.opg rfl rfl rfl rfl (OpA.load_whole rfl ti24 rfl rfl .head rfl ⟨_, rfl⟩ ⟨rfl, rfl⟩) ?_
  refine DetK.opg rfl rfl rfl rfl (OpA.call rfl rfl rfl en38 (price_fun (gi a (i - 1)) (gi b (j - 1)) c ) (by rintro _ rfl; exact ⟨rfl, rfl⟩)) ?_
  refine DetK.opg rfl rfl rfl rfl (OpA.addi rfl rfl rfl ((q6 ⟨⟨⟨⟨(decF b10), (decF b11)⟩, (.inl (beqF b12))⟩, (.inr (decF b29))⟩, (.inr (decF b31))⟩) ⟨(decT b32), (decT b33)⟩).2.2.2.2.2.2 ⟨rfl, rfl⟩) ?_
  refine DetK.opg rfl rfl rfl rfl (OpA.gtr rfl rfl rfl ⟨rfl, rfl⟩) ?_
  refine DetK.opg rfl rfl rfl rfl (OpA.pck rfl rfl (by with_reducible conv => lhs; whnf) ⟨rfl, rfl⟩) ?_
  refine DetK.op rfl (OpA.pck rfl rfl (by with_reducible conv => lhs; whnf) ⟨rfl, rfl⟩) ?_
  refine DetK.nil ?_
  refine wpL_nil ?_
  exact ⟨(Cov.asg ⟨rfl, rfl, rfl, rfl, rfl, rfl, rfl, rfl, (congrArg D.b (Eq.symm (orN (orN (orN (orN (orN b10 b11) (andS b12)) (andN b28 b29)) (andN b30 b31)) (andN (andN b32 b33) rfl)))), trivial⟩), (.refl _)⟩
  iterate 30 refine DetK.skip rfl rfl rfl rfl ?_
  refine DetK.opg rfl rfl rfl rfl (OpA.pck rfl rfl (by with_reducible conv => lhs; whnf) ⟨rfl, rfl⟩) ?_
  refine DetK.op rfl (OpA.pck rfl rfl (by with_reducible conv => lhs; whnf) ⟨rfl, rfl⟩) ?_
  refine DetK.nil ?_
  refine wpL_nil ?_
  exact ⟨(Cov.asg ⟨rfl, rfl, rfl, rfl, rfl, rfl, rfl, rfl, (congrArg D.b (Eq.symm (orN (orN (orN (orN (orN b10 b11) (andS b12)) (andN b28 b29)) (andN b30 b31)) (andS (andN b32 b33))))), trivial⟩), (.refl _)⟩
  iterate 2 refine DetK.skip rfl rfl rfl rfl ?_
  refine DetK.opg rfl rfl rfl rfl (OpA.pck rfl rfl (by with_reducible conv => lhs; whnf) ⟨rfl, rfl⟩) ?_
  refine DetK.opg rfl rfl rfl rfl (OpA.mv rfl (by with_reducible conv => lhs; whnf) ⟨rfl, rfl⟩) ?_
  iterate 30 refine DetK.skip rfl rfl rfl rfl ?_
  refine DetK.opg rfl rfl rfl rfl (OpA.pck rfl rfl (by with_reducible conv => lhs; whnf) ⟨rfl, rfl⟩) ?_
  refine DetK.op rfl (OpA.pck rfl rfl (by with_reducible conv => lhs; whnf) ⟨rfl, rfl⟩) ?_
  refine DetK.nil ?_
  refine wpL_nil ?_
  exact ⟨(Cov.asg ⟨rfl, rfl, rfl, rfl, rfl, rfl, rfl, rfl, (congrArg D.b (Eq.symm (orN (orN (orN (orN (orN b10 b11) (andS b12)) (andN b28 b29)) (andN b30 b31)) (andS (andS b32))))), trivial⟩), (.refl _)⟩
  iterate 19 refine DetK.skip rfl rfl rfl rfl ?_
  refine DetK.opg rfl rfl rfl rfl (OpA.pck rfl rfl (by with_reducible conv => lhs; whnf) ⟨rfl, rfl⟩) ?_
  refine DetK.op rfl (OpA.pck rfl rfl (by with_reducible conv => lhs; whnf) ⟨rfl, rfl⟩) ?_
  refine DetK.op rfl (OpA.mv rfl (by with_reducible conv => lhs; whnf) ⟨rfl, rfl⟩) ?_
  refine DetK.opg rfl rfl rfl rfl (OpA.mv rfl (by with_reducible conv => lhs; whnf) ⟨rfl, rfl⟩) ?_
  refine DetK.opg rfl rfl rfl rfl (OpA.gtr rfl rfl rfl ⟨rfl, rfl⟩) ?_
  refine DetK.opg rfl rfl rfl rfl (OpA.mv rfl (by with_reducible conv => lhs; whnf) ⟨rfl, rfl⟩) ?_
  refine DetK_split (s := 134) rfl (fun b34 => ?_) (fun b34 => ?_)
  refine DetK.opg rfl rfl rfl rfl (OpA.mv rfl (by with_reducible conv => lhs; whnf) ⟨rfl, rfl⟩) ?_
  refine DetK.opg rfl rfl rfl rfl (OpA.gtr rfl rfl rfl ⟨rfl, rfl⟩) ?_
  refine DetK.opg rfl rfl rfl rfl (OpA.pck rfl rfl (by with_reducible conv => lhs; whnf) ⟨rfl, rfl⟩) ?_
  refine DetK.opg rfl rfl rfl rfl (OpA.mv rfl (by with_reducible conv => lhs; whnf) ⟨rfl, rfl⟩) ?_
  refine DetK_split (s := 138) rfl (fun b35 => ?_) (fun b35 => ?_)
  iterate 2 refine DetK.opg rfl rfl rfl rfl (OpA.mv rfl (by with_reducible conv => lhs; whnf) ⟨rfl, rfl⟩) ?_
  refine DetK.opg rfl rfl rfl rfl (OpA.iixV (enc := (encL 1 D.i)) rfl ts48 rfl rfl rfl q1 ⟨rfl, rfl⟩) ?_
  refine DetK.opg rfl rfl rfl rfl (OpA.iload rfl ti25 rfl rfl ⟨rfl, rfl⟩) ?_
  refine DetK.opg rfl rfl rfl rfl (OpA.mv rfl (by with_reducible conv => lhs; whnf) ⟨rfl, rfl⟩) ?_
  refine DetK.opg rfl rfl rfl rfl (OpA.iixV (enc := D.i) rfl ts25 rfl rfl rfl q2 ⟨rfl, rfl⟩) ?_
  refine DetK.opg rfl rfl rfl rfl (OpA.iload rfl ti3 rfl rfl ⟨rfl, rfl⟩) ?_
  iterate 2 refine DetK.opg rfl rfl rfl rfl (OpA.mv rfl (by with_reducible conv => lhs; whnf) ⟨rfl, rfl⟩) ?_
  refine DetK.opg rfl rfl rfl rfl (OpA.subi rfl rfl rfl ((q6 ⟨⟨⟨⟨(decF b10), (decF b11)⟩, (.inl (beqF b12))⟩, (.inr (decF b29))⟩, (.inl (decF b30))⟩) ⟨(decT b34), (decT b35)⟩).1 ⟨rfl, rfl⟩) ?_
  refine DetK.opg rfl rfl rfl rfl (OpA.iixV (enc := (encL 1 D.i)) rfl ts48 rfl rfl rfl ((q6 ⟨⟨⟨⟨(decF b10), (decF b11)⟩, (.inl (beqF b12))⟩, (.inr (decF b29))⟩, (.inl (decF b30))⟩) ⟨(decT b34), (decT b35)⟩).2.1 ⟨rfl, rfl⟩) ?_
  refine DetK.opg rfl rfl rfl rfl (OpA.iload rfl ti25 rfl rfl ⟨rfl, rfl⟩) ?_
  refine DetK.opg rfl rfl rfl rfl (OpA.mv rfl (by with_reducible conv => lhs; whnf) ⟨rfl, rfl⟩) ?_
  refine DetK.opg rfl rfl rfl rfl (OpA.subi rfl rfl rfl ((q6 ⟨⟨⟨⟨(decF b10), (decF b11)⟩, (.inl (beqF b12))⟩, (.inr (decF b29))⟩, (.inl (decF b30))⟩) ⟨(decT b34), (decT b35)⟩).2.2.1 ⟨rfl, rfl⟩) ?_
  refine DetK.opg rfl rfl rfl rfl (OpA.iixV (enc := D.i) rfl ts25 rfl rfl rfl ((q6 ⟨⟨⟨⟨(decF b10), (decF b11)⟩, (.inl (beqF b12))⟩, (.inr (decF b29))⟩, (.inl (decF b30))⟩) ⟨(decT b34), (decT b35)⟩).2.2.2.1 ⟨rfl, rfl⟩) ?_
  refine DetK.opg rfl rfl rfl rfl (OpA.iload rfl ti3 rfl rfl ⟨rfl, rfl⟩) ?_
  iterate 2 refine DetK.opg rfl rfl rfl rfl (OpA.mv rfl (by with_reducible conv => lhs; whnf) ⟨rfl, rfl⟩) ?_
  refine DetK.opg rfl rfl rfl rfl (OpA.subi rfl rfl rfl ((q6 ⟨⟨⟨⟨(decF b10), (decF b11)⟩, (.inl (beqF b12))⟩, (.inr (decF b29))⟩, (.inl (decF b30))⟩) ⟨(decT b34), (decT b35)⟩).1 ⟨rfl, rfl⟩) ?_
  refine DetK.opg rfl rfl rfl rfl (OpA.iixV (enc := encLex) rfl ts22 rfl rfl rfl ((q6 ⟨⟨⟨⟨(decF b10), (decF b11)⟩, (.inl (beqF b12))⟩, (.inr (decF b29))⟩, (.inl (decF b30))⟩) ⟨(decT b34), (decT b35)⟩).2.2.2.2.1 ⟨rfl, rfl⟩) ?_
  refine DetK.opg rfl rfl rfl rfl (OpA.iload_whole rfl ti40 rfl ⟨_, rfl, rfl⟩ ⟨rfl, rfl⟩) ?_
  iterate 2 refine DetK.opg rfl rfl rfl rfl (OpA.mv rfl (by with_reducible conv => lhs; whnf) ⟨rfl, rfl⟩) ?_
  refine DetK.opg rfl rfl rfl rfl (OpA.subi rfl rfl rfl ((q6 ⟨⟨⟨⟨(decF b10), (decF b11)⟩, (.inl (beqF b12))⟩, (.inr (decF b29))⟩, (.inl (decF b30))⟩) ⟨(decT b34), (decT b35)⟩).2.2.1 ⟨rfl, rfl⟩) ?_
  refine DetK.opg rfl rfl rfl rfl (OpA.iixV (enc := encLex) rfl ts22 rfl rfl rfl ((q6 ⟨⟨⟨⟨(decF b10), (decF b11)⟩, (.inl (beqF b12))⟩, (.inr (decF b29))⟩, (.inl (decF b30))⟩) ⟨(decT b34), (decT b35)⟩).2.2.2.2.2.1 ⟨rfl, rfl⟩) ?_
  refine DetK.opg rfl rfl rfl rfl (OpA.iload_whole rfl ti40 rfl ⟨_, rfl, rfl⟩ ⟨rfl, rfl⟩) ?_
  refine DetK.opg rfl rfl rfl rfl (OpA.load_whole rfl ti24 rfl rfl .head rfl ⟨_, rfl⟩ ⟨rfl, rfl⟩) ?_
  refine DetK.opg rfl rfl rfl rfl (OpA.call rfl rfl rfl en38 (price_fun (gi a (i - 1)) (gi b (j - 1)) c ) (by rintro _ rfl; exact ⟨rfl, rfl⟩)) ?_
  refine DetK.opg rfl rfl rfl rfl (OpA.addi rfl rfl rfl ((q6 ⟨⟨⟨⟨(decF b10), (decF b11)⟩, (.inl (beqF b12))⟩, (.inr (decF b29))⟩, (.inl (decF b30))⟩) ⟨(decT b34), (decT b35)⟩).2.2.2.2.2.2 ⟨rfl, rfl⟩) ?_
  refine DetK.opg rfl rfl rfl rfl (OpA.gtr rfl rfl rfl ⟨rfl, rfl⟩) ?_
  refine DetK.opg rfl rfl rfl rfl (OpA.pck rfl rfl (by with_reducible conv => lhs; whnf) ⟨rfl, rfl⟩) ?_
  refine DetK.op rfl (OpA.pck rfl rfl (by with_reducible conv => lhs; whnf) ⟨rfl, rfl⟩) ?_
  refine DetK.nil ?_
  refine wpL_nil ?_
  exact ⟨(Cov.asg ⟨rfl, rfl, rfl, rfl, rfl, rfl, rfl, rfl, (congrArg D.b (Eq.symm (orN (orN (orN (orN (orN b10 b11) (andS b12)) (andN b28 b29)) (andS b30)) (andN (andN b34 b35) rfl)))), trivial⟩), (.refl _)⟩
  iterate 30 refine DetK.skip rfl rfl rfl rfl ?_
  refine DetK.opg rfl rfl rfl rfl (OpA.pck rfl rfl (by with_reducible conv => lhs; whnf) ⟨rfl, rfl⟩) ?_
  refine DetK.op rfl (OpA.pck rfl rfl (by with_reducible conv => lhs; whnf) ⟨rfl, rfl⟩) ?_
  refine DetK.nil ?_
  refine wpL_nil ?_
  exact ⟨(Cov.asg ⟨rfl, rfl, rfl, rfl, rfl, rfl, rfl, rfl, (congrArg D.b (Eq.symm (orN (orN (orN (orN (orN b10 b11) (andS b12)) (andN b28 b29)) (andS b30)) (andS (andN b34 b35))))), trivial⟩), (.refl _)⟩
  iterate 2 refine DetK.skip rfl rfl rfl rfl ?_
  refine DetK.opg rfl rfl rfl rfl (OpA.pck rfl rfl (by with_reducible conv => lhs; whnf) ⟨rfl, rfl⟩) ?_
  refine DetK.opg rfl rfl rfl rfl (OpA.mv rfl (by with_reducible conv => lhs; whnf) ⟨rfl, rfl⟩) ?_
  iterate 30 refine DetK.skip rfl rfl rfl rfl ?_
  refine DetK.opg rfl rfl rfl rfl (OpA.pck rfl rfl (by with_reducible conv => lhs; whnf) ⟨rfl, rfl⟩) ?_
  refine DetK.op rfl (OpA.pck rfl rfl (by with_reducible conv => lhs; whnf) ⟨rfl, rfl⟩) ?_
  refine DetK.nil ?_
  refine wpL_nil ?_
  exact ⟨(Cov.asg ⟨rfl, rfl, rfl, rfl, rfl, rfl, rfl, rfl, (congrArg D.b (Eq.symm (orN (orN (orN (orN (orN b10 b11) (andS b12)) (andN b28 b29)) (andS b30)) (andS (andS b34))))), trivial⟩), (.refl _)⟩
  iterate 19 refine DetK.skip rfl rfl rfl rfl ?_
  refine DetK.opg rfl rfl rfl rfl (OpA.pck rfl rfl (by with_reducible conv => lhs; whnf) ⟨rfl, rfl⟩) ?_
  refine DetK.op rfl (OpA.pck rfl rfl (by with_reducible conv => lhs; whnf) ⟨rfl, rfl⟩) ?_
  refine DetK.op rfl (OpA.mv rfl (by with_reducible conv => lhs; whnf) ⟨rfl, rfl⟩) ?_
  refine DetK.opg rfl rfl rfl rfl (OpA.mv rfl (by with_reducible conv => lhs; whnf) ⟨rfl, rfl⟩) ?_
  refine DetK.opg rfl rfl rfl rfl (OpA.gtr rfl rfl rfl ⟨rfl, rfl⟩) ?_
  refine DetK.opg rfl rfl rfl rfl (OpA.mv rfl (by with_reducible conv => lhs; whnf) ⟨rfl, rfl⟩) ?_
  refine DetK_split (s := 109) rfl (fun b36 => ?_) (fun b36 => ?_)
  iterate 2 refine DetK.opg rfl rfl rfl rfl (OpA.mv rfl (by with_reducible conv => lhs; whnf) ⟨rfl, rfl⟩) ?_
  refine DetK.opg rfl rfl rfl rfl (OpA.iixV (enc := (encL 1 D.i)) rfl ts48 rfl rfl rfl q1 ⟨rfl, rfl⟩) ?_
  refine DetK.opg rfl rfl rfl rfl (OpA.iload rfl ti25 rfl rfl ⟨rfl, rfl⟩) ?_
  refine DetK.opg rfl rfl rfl rfl (OpA.mv rfl (by with_reducible conv => lhs; whnf) ⟨rfl, rfl⟩) ?_
  refine DetK.opg rfl rfl rfl rfl (OpA.iixV (enc := D.i) rfl ts25 rfl rfl rfl q2 ⟨rfl, rfl⟩) ?_
  refine DetK.opg rfl rfl rfl rfl (OpA.iload rfl ti3 rfl rfl ⟨rfl, rfl⟩) ?_
  iterate 2 refine DetK.opg rfl rfl rfl rfl (OpA.mv rfl (by with_reducible conv => lhs; whnf) ⟨rfl, rfl⟩) ?_
  refine DetK.opg rfl rfl rfl rfl (OpA.iixV (enc := (encL 1 D.i)) rfl ts48 rfl rfl rfl q1 ⟨rfl, rfl⟩) ?_
  refine DetK.opg rfl rfl rfl rfl (OpA.iload rfl ti25 rfl rfl ⟨rfl, rfl⟩) ?_
  refine DetK.opg rfl rfl rfl rfl (OpA.mv rfl (by with_reducible conv => lhs; whnf) ⟨rfl, rfl⟩) ?_
  refine DetK.opg rfl rfl rfl rfl (OpA.subi rfl rfl rfl ((q5 ⟨⟨⟨(decF b10), (decF b11)⟩, (.inl (beqF b12))⟩, (.inl (decF b28))⟩) (decT b36)).1 ⟨rfl, rfl⟩) ?_
  refine DetK.opg rfl rfl rfl rfl (OpA.iixV (enc := D.i) rfl ts25 rfl rfl rfl ((q5 ⟨⟨⟨(decF b10), (decF b11)⟩, (.inl (beqF b12))⟩, (.inl (decF b28))⟩) (decT b36)).2.1 ⟨rfl, rfl⟩) ?_
  refine DetK.opg rfl rfl rfl rfl (OpA.iload rfl ti3 rfl rfl ⟨rfl, rfl⟩) ?_
  refine DetK.opg rfl rfl rfl rfl (OpA.fieldAddr rfl tf24_2 rfl ⟨rfl, rfl⟩) ?_
  refine DetK.opg rfl rfl rfl rfl (OpA.load rfl ti3 rfl .head rfl rfl ⟨rfl, rfl⟩) ?_
  refine DetK.opg rfl rfl rfl rfl (OpA.addi rfl rfl rfl ((q5 ⟨⟨⟨(decF b10), (decF b11)⟩, (.inl (beqF b12))⟩, (.inl (decF b28))⟩) (decT b36)).2.2 ⟨rfl, rfl⟩) ?_
  refine DetK.opg rfl rfl rfl rfl (OpA.gtr rfl rfl rfl ⟨rfl, rfl⟩) ?_
  refine DetK.opg rfl rfl rfl rfl (OpA.pck rfl rfl (by with_reducible conv => lhs; whnf) ⟨rfl, rfl⟩) ?_
  refine DetK.op rfl (OpA.pck rfl rfl (by with_reducible conv => lhs; whnf) ⟨rfl, rfl⟩) ?_
  refine DetK.op rfl (OpA.mv rfl (by with_reducible conv => lhs; whnf) ⟨rfl, rfl⟩) ?_
  refine DetK_split (s := 131) rfl (fun b37 => ?_) (fun b37 => ?_)
  iterate 3 refine DetK.skip rfl rfl rfl rfl ?_
  iterate 2 refine DetK.skipU rfl rfl rfl ?_
  iterate 2 refine DetK.skip rfl rfl rfl rfl ?_
  iterate 30 refine DetK.skipU rfl rfl rfl ?_
  refine DetK.skip rfl rfl rfl rfl ?_
  refine DetK.op rfl (OpA.pck rfl rfl (by with_reducible conv => lhs; whnf) ⟨rfl, rfl⟩) ?_
  refine DetK.nil ?_
  refine wpL_nil ?_
  exact ⟨(Cov.asg ⟨rfl, rfl, rfl, rfl, rfl, rfl, rfl, rfl, (congrArg D.b (Eq.symm (orS (orN (orN (orN (orN b10 b11) (andS b12)) (andS b28)) (andN b36 b37))))), trivial⟩), (.refl _)⟩
  refine DetK.opg rfl rfl rfl rfl (OpA.mv rfl (by with_reducible conv => lhs; whnf) ⟨rfl, rfl⟩) ?_
  refine DetK.opg rfl rfl rfl rfl (OpA.gtr rfl rfl rfl ⟨rfl, rfl⟩) ?_
  refine DetK.opg rfl rfl rfl rfl (OpA.mv rfl (by with_reducible conv => lhs; whnf) ⟨rfl, rfl⟩) ?_
  refine DetK_split (s := 134) rfl (fun b38 => ?_) (fun b38 => ?_)
  refine DetK.opg rfl rfl rfl rfl (OpA.mv rfl (by with_reducible conv => lhs; whnf) ⟨rfl, rfl⟩) ?_
  refine DetK.opg rfl rfl rfl rfl (OpA.gtr rfl rfl rfl ⟨rfl, rfl⟩) ?_
  refine DetK.opg rfl rfl rfl rfl (OpA.pck rfl rfl (by with_reducible conv => lhs; whnf) ⟨rfl, rfl⟩) ?_
  refine DetK.opg rfl rfl rfl rfl (OpA.mv rfl (by with_reducible conv => lhs; whnf) ⟨rfl, rfl⟩) ?_
  refine DetK_split (s := 138) rfl (fun b39 => ?_) (fun b39 => ?_)
  iterate 2 refine DetK.opg rfl rfl rfl rfl (OpA.mv rfl (by with_reducible conv => lhs; whnf) ⟨rfl, rfl⟩) ?_
  refine DetK.opg rfl rfl rfl rfl (OpA.iixV (enc := (encL 1 D.i)) rfl ts48 rfl rfl rfl q1 ⟨rfl, rfl⟩) ?_
  refine DetK.opg rfl rfl rfl rfl (OpA.iload rfl ti25 rfl rfl ⟨rfl, rfl⟩) ?_
  refine DetK.opg rfl rfl rfl rfl (OpA.mv rfl (by with_reducible conv => lhs; whnf) ⟨rfl, rfl⟩) ?_
  refine DetK.opg rfl rfl rfl rfl (OpA.iixV (enc := D.i) rfl ts25 rfl rfl rfl q2 ⟨rfl, rfl⟩) ?_
  refine DetK.opg rfl rfl rfl rfl (OpA.iload rfl ti3 rfl rfl ⟨rfl, rfl⟩) ?_
  iterate 2 refine DetK.opg rfl rfl rfl rfl (OpA.mv rfl (by with_reducible conv => lhs; whnf) ⟨rfl, rfl⟩) ?_
  refine DetK.opg rfl rfl rfl rfl (OpA.subi rfl rfl rfl ((q6 ⟨⟨⟨⟨(decF b10), (decF b11)⟩, (.inl (beqF b12))⟩, (.inl (decF b28))⟩, (.inr (decF b37))⟩) ⟨(decT b38), (decT b39)⟩).1 ⟨rfl, rfl⟩) ?_
  refine DetK.opg rfl rfl rfl rfl (OpA.iixV (enc := (encL 1 D.i)) rfl ts48 rfl rfl rfl ((q6 ⟨⟨⟨⟨(decF b10), (decF b11)⟩, (.inl (beqF b12))⟩, (.inl (decF b28))⟩, (.inr (decF b37))⟩) ⟨(decT b38), (decT b39)⟩).2.1 ⟨rfl, rfl⟩) ?_
  refine DetK.opg rfl rfl rfl rfl (OpA.iload rfl ti25 rfl rfl ⟨rfl, rfl⟩) ?_
  refine DetK.opg rfl rfl rfl rfl (OpA.mv rfl (by with_reducible conv => lhs; whnf) ⟨rfl, rfl⟩) ?_
  refine DetK.opg rfl rfl rfl rfl (OpA.subi rfl rfl rfl ((q6 ⟨⟨⟨⟨(decF b10), (decF b11)⟩, (.inl (beqF b12))⟩, (.inl (decF b28))⟩, (.inr (decF b37))⟩) ⟨(decT b38), (decT b39)⟩).2.2.1 ⟨rfl, rfl⟩) ?_
  refine DetK.opg rfl rfl rfl rfl (OpA.iixV (enc := D.i) rfl ts25 rfl rfl rfl ((q6 ⟨⟨⟨⟨(decF b10), (decF b11)⟩, (.inl (beqF b12))⟩, (.inl (decF b28))⟩, (.inr (decF b37))⟩) ⟨(decT b38), (decT b39)⟩).2.2.2.1 ⟨rfl, rfl⟩) ?_
  refine DetK.opg rfl rfl rfl rfl (OpA.iload rfl ti3 rfl rfl ⟨rfl, rfl⟩) ?_
  iterate 2 refine DetK.opg rfl rfl rfl rfl (OpA.mv rfl (by with_reducible conv => lhs; whnf) ⟨rfl, rfl⟩) ?_
  refine DetK.opg rfl rfl rfl rfl (OpA.subi rfl rfl rfl ((q6 ⟨⟨⟨⟨(decF b10), (decF b11)⟩, (.inl (beqF b12))⟩, (.inl (decF b28))⟩, (.inr (decF b37))⟩) ⟨(decT b38), (decT b39)⟩).1 ⟨rfl, rfl⟩) ?_
  refine DetK.opg rfl rfl rfl rfl (OpA.iixV (enc := encLex) rfl ts22 rfl rfl rfl ((q6 ⟨⟨⟨⟨(decF b10), (decF b11)⟩, (.inl (beqF b12))⟩, (.inl (decF b28))⟩, (.inr (decF b37))⟩) ⟨(decT b38), (decT b39)⟩).2.2.2.2.1 ⟨rfl, rfl⟩) ?_
  refine DetK.opg rfl rfl rfl rfl (OpA.iload_whole rfl ti40 rfl ⟨_, rfl, rfl⟩ ⟨rfl, rfl⟩) ?_
  iterate 2 refine DetK.opg rfl rfl rfl rfl (OpA.mv rfl (by with_reducible conv => lhs; whnf) ⟨rfl, rfl⟩) ?_
  refine DetK.opg rfl rfl rfl rfl (OpA.subi rfl rfl rfl ((q6 ⟨⟨⟨⟨(decF b10), (decF b11)⟩, (.inl (beqF b12))⟩, (.inl (decF b28))⟩, (.inr (decF b37))⟩) ⟨(decT b38), (decT b39)⟩).2.2.1 ⟨rfl, rfl⟩) ?_
  refine DetK.opg rfl rfl rfl rfl (OpA.iixV (enc := encLex) rfl ts22 rfl rfl rfl ((q6 ⟨⟨⟨⟨(decF b10), (decF b11)⟩, (.inl (beqF b12))⟩, (.inl (decF b28))⟩, (.inr (decF b37))⟩) ⟨(decT b38), (decT b39)⟩).2.2.2.2.2.1 ⟨rfl, rfl⟩) ?_
  refine DetK.opg rfl rfl rfl rfl (OpA.iload_whole rfl ti40 rfl ⟨_, rfl, rfl⟩ ⟨rfl, rfl⟩) ?_
  refine DetK.opg rfl rfl rfl rfl (OpA.load_whole rfl ti24 rfl rfl .head rfl ⟨_, rfl⟩ ⟨rfl, rfl⟩) ?_
  refine DetK.opg rfl rfl rfl rfl (OpA.call rfl rfl rfl en38 (price_fun (gi a (i - 1)) (gi b (j - 1)) c ) (by rintro _ rfl; exact ⟨rfl, rfl⟩)) ?_
  refine DetK.opg rfl rfl rfl rfl (OpA.addi rfl rfl rfl ((q6 ⟨⟨⟨⟨(decF b10), (decF b11)⟩, (.inl (beqF b12))⟩, (.inl (decF b28))⟩, (.inr (decF b37))⟩) ⟨(decT b38), (decT b39)⟩).2.2.2.2.2.2 ⟨rfl, rfl⟩) ?_
  refine DetK.opg rfl rfl rfl rfl (OpA.gtr rfl rfl rfl ⟨rfl, rfl⟩) ?_
  refine DetK.opg rfl rfl rfl rfl (OpA.pck rfl rfl (by with_reducible conv => lhs; whnf) ⟨rfl, rfl⟩) ?_
  refine DetK.op rfl (OpA.pck rfl rfl (by with_reducible conv => lhs; whnf) ⟨rfl, rfl⟩) ?_
  refine DetK.nil ?_
  refine wpL_nil ?_
  exact ⟨(Cov.asg ⟨rfl, rfl, rfl, rfl, rfl, rfl, rfl, rfl, (congrArg D.b (Eq.symm (orN (orN (orN (orN (orN b10 b11) (andS b12)) (andS b28)) (andN b36 b37)) (andN (andN b38 b39) rfl)))), trivial⟩), (.refl _)⟩
  iterate 30 refine DetK.skip rfl rfl rfl rfl ?_
  refine DetK.opg rfl rfl rfl rfl (OpA.pck rfl rfl (by with_reducible conv => lhs; whnf) ⟨rfl, rfl⟩) ?_
  refine DetK.op rfl (OpA.pck rfl rfl (by with_reducible conv => lhs; whnf) ⟨rfl, rfl⟩) ?_
  refine DetK.nil ?_
  refine wpL_nil ?_
  exact ⟨(Cov.asg ⟨rfl, rfl, rfl, rfl, rfl, rfl, rfl, rfl, (congrArg D.b (Eq.symm (orN (orN (orN (orN (orN b10 b11) (andS b12)) (andS b28)) (andN b36 b37)) (andS (andN b38 b39))))), trivial⟩), (.refl _)⟩
  iterate 2 refine DetK.skip rfl rfl rfl rfl ?_
  refine DetK.opg rfl rfl rfl rfl (OpA.pck rfl rfl (by with_reducible conv => lhs; whnf) ⟨rfl, rfl⟩) ?_
  refine DetK.opg rfl rfl rfl rfl (OpA.mv rfl (by with_reducible conv => lhs; whnf) ⟨rfl, rfl⟩) ?_
  iterate 30 refine DetK.skip rfl rfl rfl rfl ?_
  refine DetK.opg rfl rfl rfl rfl (OpA.pck rfl rfl (by with_reducible conv => lhs; whnf) ⟨rfl, rfl⟩) ?_
  refine DetK.op rfl (OpA.pck rfl rfl (by with_reducible conv => lhs; whnf) ⟨rfl, rfl⟩) ?_
  refine DetK.nil ?_
  refine wpL_nil ?_
  exact ⟨(Cov.asg ⟨rfl, rfl, rfl, rfl, rfl, rfl, rfl, rfl, (congrArg D.b (Eq.symm (orN (orN (orN (orN (orN b10 b11) (andS b12)) (andS b28)) (andN b36 b37)) (andS (andS b38))))), trivial⟩), (.refl _)⟩
  iterate 19 refine DetK.skip rfl rfl rfl rfl ?_
  refine DetK.opg rfl rfl rfl rfl (OpA.pck rfl rfl (by with_reducible conv => lhs; whnf) ⟨rfl, rfl⟩) ?_
  refine DetK.op rfl (OpA.pck rfl rfl (by with_reducible conv => lhs; whnf) ⟨rfl, rfl⟩) ?_
  refine DetK.op rfl (OpA.mv rfl (by with_reducible conv => lhs; whnf) ⟨rfl, rfl⟩) ?_
  refine DetK.opg rfl rfl rfl rfl (OpA.mv rfl (by with_reducible conv => lhs; whnf) ⟨rfl, rfl⟩) ?_
  refine DetK.opg rfl rfl rfl rfl (OpA.gtr rfl rfl rfl ⟨rfl, rfl⟩) ?_
  refine DetK.opg rfl rfl rfl rfl (OpA.mv rfl (by with_reducible conv => lhs; whnf) ⟨rfl, rfl⟩) ?_
  refine DetK_split (s := 134) rfl (fun b40 => ?_) (fun b40 => ?_)
  refine DetK.opg rfl rfl rfl rfl (OpA.mv rfl (by with_reducible conv => lhs; whnf) ⟨rfl, rfl⟩) ?_
  refine DetK.opg rfl rfl rfl rfl (OpA.gtr rfl rfl rfl ⟨rfl, rfl⟩) ?_
  refine DetK.opg rfl rfl rfl rfl (OpA.pck rfl rfl (by with_reducible conv => lhs; whnf) ⟨rfl, rfl⟩) ?_
  refine DetK.opg rfl rfl rfl rfl (OpA.mv rfl (by with_reducible conv => lhs; whnf) ⟨rfl, rfl⟩) ?_
  refine DetK_split (s := 138) rfl (fun b41 => ?_) (fun b41 => ?_)
  iterate 2 refine DetK.opg rfl rfl rfl rfl (OpA.mv rfl (by with_reducible conv => lhs; whnf) ⟨rfl, rfl⟩) ?_
  refine DetK.opg rfl rfl rfl rfl (OpA.iixV (enc := (encL 1 D.i)) rfl ts48 rfl rfl rfl q1 ⟨rfl, rfl⟩) ?_
  refine DetK.opg rfl rfl rfl rfl (OpA.iload rfl ti25 rfl rfl ⟨rfl, rfl⟩) ?_
  refine DetK.opg rfl rfl rfl rfl (OpA.mv rfl (by with_reducible conv => lhs; whnf) ⟨rfl, rfl⟩) ?_
  refine DetK.opg rfl rfl rfl rfl (OpA.iixV (enc := D.i) rfl ts25 rfl rfl rfl q2 ⟨rfl, rfl⟩) ?_
  refine DetK.opg rfl rfl rfl rfl (OpA.iload rfl ti3 rfl rfl ⟨rfl, rfl⟩) ?_
  iterate 2 refine DetK.opg rfl rfl rfl rfl (OpA.mv rfl (by with_reducible conv => lhs; whnf) ⟨rfl, rfl⟩) ?_
  refine DetK.opg rfl rfl rfl rfl (OpA.subi rfl rfl rfl ((q6 ⟨⟨⟨⟨(decF b10), (decF b11)⟩, (.inl (beqF b12))⟩, (.inl (decF b28))⟩, (.inl (decF b36))⟩) ⟨(decT b40), (decT b41)⟩).1 ⟨rfl, rfl⟩) ?_
  refine DetK.opg rfl rfl rfl rfl (OpA.iixV (enc := (encL 1 D.i)) rfl ts48 rfl rfl rfl ((q6 ⟨⟨⟨⟨(decF b10), (decF b11)⟩, (.inl (beqF b12))⟩, (.inl (decF b28))⟩, (.inl (decF b36))⟩) ⟨(decT b40), (decT b41)⟩).2.1 ⟨rfl, rfl⟩) ?_
  refine DetK.opg rfl rfl rfl rfl (OpA.iload rfl ti25 rfl rfl ⟨rfl, rfl⟩) ?_
  refine DetK.opg rfl rfl rfl rfl (OpA.mv rfl (by with_reducible conv => lhs; whnf) ⟨rfl, rfl⟩) ?_
  refine DetK.opg rfl rfl rfl rfl (OpA.subi rfl rfl rfl ((q6 ⟨⟨⟨⟨(decF b10), (decF b11)⟩, (.inl (beqF b12))⟩, (.inl (decF b28))⟩, (.inl (decF b36))⟩) ⟨(decT b40), (decT b41)⟩).2.2.1 ⟨rfl, rfl⟩) ?_
  refine DetK.opg rfl rfl rfl rfl (OpA.iixV (enc := D.i) rfl ts25 rfl rfl rfl ((q6 ⟨⟨⟨⟨(decF b10), (decF b11)⟩, (.inl (beqF b12))⟩, (.inl (decF b28))⟩, (.inl (decF b36))⟩) ⟨(decT b40), (decT b41)⟩).2.2.2.1 ⟨rfl, rfl⟩) ?_
  refine DetK.opg rfl rfl rfl rfl (OpA.iload rfl ti3 rfl rfl ⟨rfl, rfl⟩) ?_
  iterate 2 refine DetK.opg rfl rfl rfl rfl (OpA.mv rfl (by with_reducible conv => lhs; whnf) ⟨rfl, rfl⟩) ?_
  refine DetK.opg rfl rfl rfl rfl (OpA.subi rfl rfl rfl ((q6 ⟨⟨⟨⟨(decF b10), (decF b11)⟩, (.inl (beqF b12))⟩, (.inl (decF b28))⟩, (.inl (decF b36))⟩) ⟨(decT b40), (decT b41)⟩).1 ⟨rfl, rfl⟩) ?_
  refine DetK.opg rfl rfl rfl rfl (OpA.iixV (enc := encLex) rfl ts22 rfl rfl rfl ((q6 ⟨⟨⟨⟨(decF b10), (decF b11)⟩, (.inl (beqF b12))⟩, (.inl (decF b28))⟩, (.inl (decF b36))⟩) ⟨(decT b40), (decT b41)⟩).2.2.2.2.1 ⟨rfl, rfl⟩) ?_
  refine DetK.opg rfl rfl rfl rfl (OpA.iload_whole rfl ti40 rfl ⟨_, rfl, rfl⟩ ⟨rfl, rfl⟩) ?_
  iterate 2 refine DetK.opg rfl rfl rfl rfl (OpA.mv rfl (by with_reducible conv => lhs; whnf) ⟨rfl, rfl⟩) ?_
  refine DetK.opg rfl rfl rfl rfl (OpA.subi rfl rfl rfl ((q6 ⟨⟨⟨⟨(decF b10), (decF b11)⟩, (.inl (beqF b12))⟩, (.inl (decF b28))⟩, (.inl (decF b36))⟩) ⟨(decT b40), (decT b41)⟩).2.2.1 ⟨rfl, rfl⟩) ?_
  refine DetK.opg rfl rfl rfl rfl (OpA.iixV (enc := encLex) rfl ts22 rfl rfl rfl ((q6 ⟨⟨⟨⟨(decF b10), (decF b11)⟩, (.inl (beqF b12))⟩, (.inl (decF b28))⟩, (.inl (decF b36))⟩) ⟨(decT b40), (decT b41)⟩).2.2.2.2.2.1 ⟨rfl, rfl⟩) ?_
  refine DetK.opg rfl rfl rfl rfl (OpA.iload_whole rfl ti40 rfl ⟨_, rfl, rfl⟩ ⟨rfl, rfl⟩) ?_
  refine DetK.opg rfl rfl rfl rfl (OpA.load_whole rfl ti24 rfl rfl .head rfl ⟨_, rfl⟩ ⟨rfl, rfl⟩) ?_
  refine DetK.opg rfl rfl rfl rfl (OpA.call rfl rfl rfl en38 (price_fun (gi a (i - 1)) (gi b (j - 1)) c ) (by rintro _ rfl; exact ⟨rfl, rfl⟩)) ?_
  refine DetK.opg rfl rfl rfl rfl (OpA.addi rfl rfl rfl ((q6 ⟨⟨⟨⟨(decF b10), (decF b11)⟩, (.inl (beqF b12))⟩, (.inl (decF b28))⟩, (.inl (decF b36))⟩) ⟨(decT b40), (decT b41)⟩).2.2.2.2.2.2 ⟨rfl, rfl⟩) ?_
  refine DetK.opg rfl rfl rfl rfl (OpA.gtr rfl rfl rfl ⟨rfl, rfl⟩) ?_
  refine DetK.opg rfl rfl rfl rfl (OpA.pck rfl rfl (by with_reducible conv => lhs; whnf) ⟨rfl, rfl⟩) ?_
  refine DetK.op rfl (OpA.pck rfl rfl (by with_reducible conv => lhs; whnf) ⟨rfl, rfl⟩) ?_
  refine DetK.nil ?_
  refine wpL_nil ?_
  exact ⟨(Cov.asg ⟨rfl, rfl, rfl, rfl, rfl, rfl, rfl, rfl, (congrArg D.b (Eq.symm (orN (orN (orN (orN (orN b10 b11) (andS b12)) (andS b28)) (andS b36)) (andN (andN b40 b41) rfl)))), trivial⟩), (.refl _)⟩
  iterate 30 refine DetK.skip rfl rfl rfl rfl ?_
  refine DetK.opg rfl rfl rfl rfl (OpA.pck rfl rfl (by with_reducible conv => lhs; whnf) ⟨rfl, rfl⟩) ?_
  refine DetK.op rfl (OpA.pck rfl rfl (by with_reducible conv => lhs; whnf) ⟨rfl, rfl⟩) ?_
  refine DetK.nil ?_
  refine wpL_nil ?_
  exact ⟨(Cov.asg ⟨rfl, rfl, rfl, rfl, rfl, rfl, rfl, rfl, (congrArg D.b (Eq.symm (orN (orN (orN (orN (orN b10 b11) (andS b12)) (andS b28)) (andS b36)) (andS (andN b40 b41))))), trivial⟩), (.refl _)⟩
  iterate 2 refine DetK.skip rfl rfl rfl rfl ?_
  refine DetK.opg rfl rfl rfl rfl (OpA.pck rfl rfl (by with_reducible conv => lhs; whnf) ⟨rfl, rfl⟩) ?_
  refine DetK.opg rfl rfl rfl rfl (OpA.mv rfl (by with_reducible conv => lhs; whnf) ⟨rfl, rfl⟩) ?_
  iterate 30 refine DetK.skip rfl rfl rfl rfl ?_
  refine DetK.opg rfl rfl rfl rfl (OpA.pck rfl rfl (by with_reducible conv => lhs; whnf) ⟨rfl, rfl⟩) ?_
  refine DetK.op rfl (OpA.pck rfl rfl (by with_reducible conv => lhs; whnf) ⟨rfl, rfl⟩) ?_
  refine DetK.nil ?_
  refine wpL_nil ?_
  exact ⟨(Cov.asg ⟨rfl, rfl, rfl, rfl, rfl, rfl, rfl, rfl, (congrArg D.b (Eq.symm (orN (orN (orN (orN (orN b10 b11) (andS b12)) (andS b28)) (andS b36)) (andS (andS b40))))), trivial⟩), (.refl _)⟩
  show wpA _ _ _ _ (asg [(0, (encL 2 encLex) a), (1, (encL 2 encLex) b), (3, (encL 1 (encL 1 D.i)) p), (6, .ptr c1 3 0 0), (8, D.i 0), (9, D.i 0), (11, D.i i), (12, D.i j), (170, D.b ((((((decide ((gi (gi p i) j) < 0)) || (decide ((gi (gi p i) j) > 1099511627776))) || (((i + j) == 0) && ((gi (gi p i) j) != 0))) || ((decide (i > 0)) && (decide ((gi (gi p i) j) > ((gi (gi p (i - 1)) j) + c.drop))))) || ((decide (j > 0)) && (decide ((gi (gi p i) j) > ((gi (gi p i) (j - 1)) + c.add))))) || (((decide (i > 0)) && (decide (j > 0))) && (decide ((gi (gi p i) j) > ((gi (gi p (i - 1)) (j - 1)) + (pairF (gi a (i - 1)) (gi b (j - 1)) c)))))))]) [(c1, .cells 3 [encCosts c])]
  refine wpA_cond rfl (fun b9 => ?_) (fun b9 => ?_)
  have h := h.1 ((or0 b9).imp (fun hh => ((or0 hh).imp (fun hh => ((or0 hh).imp (fun hh => ((or0 hh).imp (fun hh => ((or0 hh).imp (fun hh => (decT hh)) (fun hh => (decT hh)))) (fun hh => ⟨(beqT (and1 hh)), (bneT (and2 hh))⟩))) (fun hh => ⟨(decT (and1 hh)), (decT (and2 hh))⟩))) (fun hh => ⟨(decT (and1 hh)), (decT (and2 hh))⟩))) (fun hh => ⟨⟨(decT (and1 (and1 hh))), (decT (and2 (and1 hh)))⟩, (decT (and2 hh))⟩))
  refine wpA_seq ?_
  refine wpA_region ?_
  refine wpL_op rfl rfl rfl (OpA.asn rfl (by with_reducible conv => lhs; whnf) ?_)
  refine wpL_op rfl rfl rfl (OpA.asn rfl (by with_reducible conv => lhs; whnf) ?_)
  refine wpL_nil ?_
  refine wpA_ret ?_
  exact ⟨_, (.tmp (d := D.i 0) rfl (.tmp (d := D.i 18) rfl .nil)), _, (.tup (.same rfl (.same rfl .nil)) .nil), ⟨(0, 18), rfl, h⟩⟩
  have h := h.2 ⟨⟨⟨⟨⟨(decF (or1 (or1 (or1 (or1 (or1 b9)))))), (decF (or2 (or1 (or1 (or1 (or1 b9))))))⟩, ((and0 (or2 (or1 (or1 (or1 b9))))).imp (fun hh => (beqF hh)) (fun hh => (bneF hh)))⟩, ((and0 (or2 (or1 (or1 b9)))).imp (fun hh => (decF hh)) (fun hh => (decF hh)))⟩, ((and0 (or2 (or1 b9))).imp (fun hh => (decF hh)) (fun hh => (decF hh)))⟩, ((and0 (or2 b9)).imp (fun hh => ((and0 hh).imp (fun hh => (decF hh)) (fun hh => (decF hh)))) (fun hh => (decF hh)))⟩
  refine wpA_skip ?_
  obtain ⟨q1, h⟩ := h
  refine wpA_region ?_
  refine wpL_op rfl rfl rfl (OpA.mv rfl (by with_reducible conv => lhs; whnf) ?_)
  refine wpL_op rfl rfl rfl (OpA.addi rfl rfl rfl q1 ?_)
  refine wpL_op rfl rfl rfl (OpA.asn rfl (by with_reducible conv => lhs; whnf) ?_)
  refine wpL_nil ?_
  exact ⟨(), (j + 1), h, (Cov.asg ⟨rfl, rfl, rfl, rfl, rfl, rfl, rfl, rfl, trivial⟩), (.refl _)⟩
  have h := h.2 (decF b8)
  refine wpA_exit ?_
  obtain ⟨q1, h⟩ := h
  refine wpA_region ?_
  refine wpL_op rfl rfl rfl (OpA.mv rfl (by with_reducible conv => lhs; whnf) ?_)
  refine wpL_op rfl rfl rfl (OpA.addi rfl rfl rfl q1 ?_)
  refine wpL_op rfl rfl rfl (OpA.asn rfl (by with_reducible conv => lhs; whnf) ?_)
  refine wpL_nil ?_
  exact ⟨(), (i + 1), h, (Cov.asg ⟨rfl, rfl, rfl, rfl, rfl, rfl, rfl, trivial⟩), (.refl _)⟩
  have h := h.2 (decF b5)
  refine wpA_exit ?_
  refine wpA_seq ?_
  obtain ⟨q1, q2, h⟩ := h
  refine wpA_region ?_
  refine wpL_op rfl rfl rfl (OpA.mv rfl (by with_reducible conv => lhs; whnf) ?_)
  refine wpL_op rfl rfl rfl (OpA.mv rfl (by with_reducible conv => lhs; whnf) ?_)
  refine wpL_op rfl rfl rfl (OpA.len rfl rfl rfl rfl ts22.desc (.inl ⟨_, _, rfl, (List.length_map _).symm⟩) ?_)
  refine wpL_op rfl rfl rfl (OpA.iixV (enc := (encL 1 D.i)) rfl ts48 rfl rfl rfl q1 ?_)
  refine wpL_op rfl rfl rfl (OpA.iload rfl ti25 rfl rfl ?_)
  refine wpL_op rfl rfl rfl (OpA.mv rfl (by with_reducible conv => lhs; whnf) ?_)
  refine wpL_op rfl rfl rfl (OpA.len rfl rfl rfl rfl ts22.desc (.inl ⟨_, _, rfl, (List.length_map _).symm⟩) ?_)
  refine wpL_op rfl rfl rfl (OpA.iixV (enc := D.i) rfl ts25 rfl rfl rfl q2 ?_)
  refine wpL_op rfl rfl rfl (OpA.iload rfl ti3 rfl rfl ?_)
  refine wpL_op rfl rfl rfl (OpA.asn rfl (by with_reducible conv => lhs; whnf) ?_)
  refine wpL_op rfl rfl rfl (OpA.asn rfl (by with_reducible conv => lhs; whnf) ?_)
  refine wpL_nil ?_
  refine wpA_ret ?_
  exact ⟨_, (.tmp (d := D.i (gi (gi p (a.length : Int)) (b.length : Int))) rfl (.tmp (d := D.i 0) rfl .nil)), _, (.tup (.same rfl (.same rfl .nil)) .nil), ⟨((gi (gi p (a.length : Int)) (b.length : Int)), 0), rfl, h⟩⟩
theorem rbound_c (a : (List Lexeme)) (b : (List Lexeme)) (c : Costs) (p : (List (List Int)))  (hp0 : (p).length ≤ 42) (hp1 : ∀ r ∈ p, r.length ≤ 42) : Fun false Try.prog 28 [(encL 2 encLex) a, (encL 2 encLex) b, encCosts c, (encL 1 (encL 1 D.i)) p] (fun d => d = .tup [D.i ((boundF a b c p).1), D.i ((boundF a b c p).2)]) :=
  Fun.at (enc := fun r => .tup [D.i (r.1), D.i (r.2)]) (v := boundF a b c p) (rbound_w a b c p  (fun r => r = boundF a b c p) (rbound_ok a b c p _ hp0 hp1 rfl))
end Go.Proofs.Ythggcjnmodeehaa
