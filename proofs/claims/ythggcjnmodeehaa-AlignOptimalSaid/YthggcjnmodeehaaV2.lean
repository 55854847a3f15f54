/-
  walks and contracts
-/
import Derived.Test.YthggcjnmodeehaaV1
set_option linter.all false
namespace Go.Proofs.Ythggcjnmodeehaa
open Go Go.Lic



set_option maxHeartbeats 4000000 in
set_option maxRecDepth 10000 in
theorem bound_w (a : (List Lexeme)) (b : (List Lexeme)) (c : Costs) (p : (List (List Int)))  (Q : Int × Int → Prop) (h : bound_vc a b c p Q) : Fun false Try.prog 27 [(encL 2 encLex) a, (encL 2 encLex) b, encCosts c, (encL 1 (encL 1 D.i)) p] (fun d => ∃ r, d = .tup [D.i (r.1), D.i (r.2)] ∧ Q r) := by
  unfold bound_vc at h
  refine Fun.of_body Try.func27 rfl Try.ntmps27 rfl ?_
  refine wpA_seq ?_
  refine wpA_region ?_
  refine wpL_op rfl rfl rfl (OpA.bx (sz := 3) rfl (by with_reducible conv => lhs; whnf) (.of rfl) (fun c1 _ => ?_))
  refine wpL_op rfl rfl rfl (OpA.asn rfl (by with_reducible conv => lhs; whnf) ?_)
  refine wpL_op rfl rfl rfl (OpA.asn rfl (by with_reducible conv => lhs; whnf) ?_)
  refine wpL_nil ?_
  iterate 2 refine wpA_seq ?_
  refine wpA_region ?_
  refine wpL_op rfl rfl rfl (OpA.mv rfl (by with_reducible conv => lhs; whnf) ?_)
  refine wpL_op rfl rfl rfl (OpA.mv rfl (by with_reducible conv => lhs; whnf) ?_)
  refine wpL_op rfl rfl rfl (OpA.load_whole rfl ti24 rfl rfl .head rfl ⟨_, rfl⟩ ?_)
  refine wpL_op rfl rfl rfl (OpA.call rfl rfl rfl en36 (check_fun a b c ) ?_)
  rintro _ rfl
  refine wpL_op rfl rfl rfl (OpA.asn rfl (by with_reducible conv => lhs; whnf) ?_)
  refine wpL_nil ?_
  refine wpA_seq ?_
  refine wpA_region ?_
  refine wpL_op rfl rfl rfl (OpA.mv rfl (by with_reducible conv => lhs; whnf) ?_)
  refine wpL_op rfl rfl rfl (OpA.neq rfl rfl rfl ?_)
  refine wpL_nil ?_
  refine wpA_cond rfl (fun b2 => ?_) (fun b2 => ?_)
  have h := h.1 (bneT b2)
  refine wpA_seq ?_
  refine wpA_region ?_
  refine wpL_op rfl rfl rfl (OpA.mv rfl (by with_reducible conv => lhs; whnf) ?_)
  refine wpL_op rfl rfl rfl (OpA.asn rfl (by with_reducible conv => lhs; whnf) ?_)
  refine wpL_op rfl rfl rfl (OpA.asn rfl (by with_reducible conv => lhs; whnf) ?_)
  refine wpL_nil ?_
  refine wpA_ret ?_
  exact ⟨_, (.tmp (d := D.i 0) rfl (.tmp (d := D.i (checkF a b c)) rfl .nil)), _, (.tup (.same rfl (.same rfl .nil)) .nil), ⟨(0, (checkF a b c)), rfl, h⟩⟩
  have h := h.2 (bneF b2)
  refine wpA_skip ?_
  iterate 2 refine wpA_seq ?_
  obtain ⟨q1, h⟩ := h
  refine wpA_region ?_
  refine wpL_op rfl rfl rfl (OpA.mv rfl (by with_reducible conv => lhs; whnf) ?_)
  refine wpL_op rfl rfl rfl (OpA.len rfl rfl rfl rfl ts48.desc (.inl ⟨_, _, rfl, (List.length_map _).symm⟩) ?_)
  refine wpL_op rfl rfl rfl (OpA.mv rfl (by with_reducible conv => lhs; whnf) ?_)
  refine wpL_op rfl rfl rfl (OpA.len rfl rfl rfl rfl ts22.desc (.inl ⟨_, _, rfl, (List.length_map _).symm⟩) ?_)
  refine wpL_op rfl rfl rfl (OpA.addi rfl rfl rfl q1 ?_)
  refine wpL_op rfl rfl rfl (OpA.neq rfl rfl rfl ?_)
  refine wpL_nil ?_
  refine wpA_cond rfl (fun b3 => ?_) (fun b3 => ?_)
  have h := h.1 (bneT b3)
  refine wpA_seq ?_
  refine wpA_region ?_
  refine wpL_op rfl rfl rfl (OpA.asn rfl (by with_reducible conv => lhs; whnf) ?_)
  refine wpL_op rfl rfl rfl (OpA.asn rfl (by with_reducible conv => lhs; whnf) ?_)
  refine wpL_nil ?_
  refine wpA_ret ?_
  exact ⟨_, (.tmp (d := D.i 0) rfl (.tmp (d := D.i 18) rfl .nil)), _, (.tup (.same rfl (.same rfl .nil)) .nil), ⟨(0, 18), rfl, h⟩⟩
  have h := h.2 (bneF b3)
  refine wpA_skip ?_
  iterate 2 refine wpA_seq ?_
  refine wpA_region ?_
  refine wpL_op rfl rfl rfl (OpA.mv rfl (by with_reducible conv => lhs; whnf) ?_)
  refine wpL_op rfl rfl rfl (OpA.len rfl rfl rfl rfl ts48.desc (.inl ⟨_, _, rfl, (List.length_map _).symm⟩) ?_)
  refine wpL_op rfl rfl rfl (OpA.mv rfl (by with_reducible conv => lhs; whnf) ?_)
  refine wpL_nil ?_
  refine wpA_block ?_
  refine wpA_lfp (S := Int) (G := Unit) () (fun g_ s_ => asg [(0, (encL 2 encLex) a), (1, (encL 2 encLex) b), (3, (encL 1 (encL 1 D.i)) p), (6, .ptr c1 3 0 0), (8, D.i 0), (9, D.i 0), (31, (encL 1 (encL 1 D.i)) p), (32, D.i (p.length : Int)), (33, D.i s_)]) (fun g_ s_ => [(c1, .cells 3 [encCosts c])]) h (Cov.asg ⟨rfl, rfl, rfl, rfl, rfl, rfl, rfl, rfl, rfl, trivial⟩) (.refl _) ?_
  rintro again4 _ x h
  have h : bound_L1 a b c p Q again4 x := h
  unfold bound_L1 at h
  show wpA _ _ _ _ (asg [(0, (encL 2 encLex) a), (1, (encL 2 encLex) b), (3, (encL 1 (encL 1 D.i)) p), (6, .ptr c1 3 0 0), (8, D.i 0), (9, D.i 0), (31, (encL 1 (encL 1 D.i)) p), (32, D.i (p.length : Int)), (33, D.i x)]) [(c1, .cells 3 [encCosts c])]
  refine wpA_seq ?_
  refine wpA_region ?_
  refine wpL_op rfl rfl rfl (OpA.lss rfl rfl rfl ?_)
  refine wpL_nil ?_
  refine wpA_seq ?_
  refine wpA_cond rfl (fun b5 => ?_) (fun b5 => ?_)
  have h := h.1 (decT b5)
  refine wpA_skip ?_
  refine wpA_seq ?_
  refine wpA_block ?_
  refine wpA_seq ?_
  obtain ⟨q1, h⟩ := h
  refine wpA_region ?_
  refine wpL_op rfl rfl rfl (OpA.iixV (enc := (encL 1 D.i)) rfl ts48 rfl rfl rfl q1 ?_)
  refine wpL_op rfl rfl rfl (OpA.iload rfl ti25 rfl rfl ?_)
  refine wpL_op rfl rfl rfl (OpA.asn rfl (by with_reducible conv => lhs; whnf) ?_)
  refine wpL_nil ?_
  refine wpA_seq ?_
  obtain ⟨q1, h⟩ := h
  refine wpA_region ?_
  refine wpL_op rfl rfl rfl (OpA.mv rfl (by with_reducible conv => lhs; whnf) ?_)
  refine wpL_op rfl rfl rfl (OpA.len rfl rfl rfl rfl ts25.desc (.inl ⟨_, _, rfl, (List.length_map _).symm⟩) ?_)
  refine wpL_op rfl rfl rfl (OpA.mv rfl (by with_reducible conv => lhs; whnf) ?_)
  refine wpL_op rfl rfl rfl (OpA.len rfl rfl rfl rfl ts22.desc (.inl ⟨_, _, rfl, (List.length_map _).symm⟩) ?_)
  refine wpL_op rfl rfl rfl (OpA.addi rfl rfl rfl q1 ?_)
  refine wpL_op rfl rfl rfl (OpA.neq rfl rfl rfl ?_)
  refine wpL_nil ?_
  refine wpA_cond rfl (fun b6 => ?_) (fun b6 => ?_)
  have h := h.1 (bneT b6)
  refine wpA_seq ?_
  refine wpA_region ?_
  refine wpL_op rfl rfl rfl (OpA.asn rfl (by with_reducible conv => lhs; whnf) ?_)
  refine wpL_op rfl rfl rfl (OpA.asn rfl (by with_reducible conv => lhs; whnf) ?_)
  refine wpL_nil ?_
  refine wpA_ret ?_
  exact ⟨_, (.tmp (d := D.i 0) rfl (.tmp (d := D.i 18) rfl .nil)), _, (.tup (.same rfl (.same rfl .nil)) .nil), ⟨(0, 18), rfl, h⟩⟩
  have h := h.2 (bneF b6)
  refine wpA_skip ?_
  obtain ⟨q1, h⟩ := h
  refine wpA_region ?_
  refine wpL_op rfl rfl rfl (OpA.addi rfl rfl rfl q1 ?_)
  refine wpL_op rfl rfl rfl (OpA.mv rfl (by with_reducible conv => lhs; whnf) ?_)
  refine wpL_nil ?_
  exact ⟨(), (x + 1), h, (Cov.asg ⟨rfl, rfl, rfl, rfl, rfl, rfl, rfl, rfl, rfl, trivial⟩), (.refl _)⟩
  have h := h.2 (decF b5)
  refine wpA_exit ?_
  iterate 2 refine wpA_seq ?_
  refine wpA_region ?_
  refine wpL_op rfl rfl rfl (OpA.mv rfl (by with_reducible conv => lhs; whnf) ?_)
  refine wpL_op rfl rfl rfl (OpA.len rfl rfl rfl rfl ts48.desc (.inl ⟨_, _, rfl, (List.length_map _).symm⟩) ?_)
  refine wpL_op rfl rfl rfl (OpA.mv rfl (by with_reducible conv => lhs; whnf) ?_)
  refine wpL_nil ?_
  refine wpA_block ?_
  refine wpA_lfp (S := Int) (G := Unit) () (fun g_ s_ => asg [(0, (encL 2 encLex) a), (1, (encL 2 encLex) b), (3, (encL 1 (encL 1 D.i)) p), (6, .ptr c1 3 0 0), (8, D.i 0), (9, D.i 0), (44, (encL 1 (encL 1 D.i)) p), (45, D.i (p.length : Int)), (46, D.i s_)]) (fun g_ s_ => [(c1, .cells 3 [encCosts c])]) h (Cov.asg ⟨rfl, rfl, rfl, rfl, rfl, rfl, rfl, rfl, rfl, trivial⟩) (.refl _) ?_
  rintro again7 _ x1 h
  have h : bound_L2 a b c p Q again7 x1 := h
  unfold bound_L2 at h
  show wpA _ _ _ _ (asg [(0, (encL 2 encLex) a), (1, (encL 2 encLex) b), (3, (encL 1 (encL 1 D.i)) p), (6, .ptr c1 3 0 0), (8, D.i 0), (9, D.i 0), (44, (encL 1 (encL 1 D.i)) p), (45, D.i (p.length : Int)), (46, D.i x1)]) [(c1, .cells 3 [encCosts c])]
  refine wpA_seq ?_
  refine wpA_region ?_
  refine wpL_op rfl rfl rfl (OpA.lss rfl rfl rfl ?_)
  refine wpL_nil ?_
  refine wpA_seq ?_
  refine wpA_cond rfl (fun b8 => ?_) (fun b8 => ?_)
  have h := h.1 (decT b8)
  refine wpA_skip ?_
  refine wpA_seq ?_
  refine wpA_block ?_
  refine wpA_seq ?_
  obtain ⟨q1, h⟩ := h
  refine wpA_region ?_
  refine wpL_op rfl rfl rfl (OpA.mv rfl (by with_reducible conv => lhs; whnf) ?_)
  refine wpL_op rfl rfl rfl (OpA.iixV (enc := (encL 1 D.i)) rfl ts48 rfl rfl rfl q1 ?_)
  refine wpL_op rfl rfl rfl (OpA.iload rfl ti25 rfl rfl ?_)
  refine wpL_op rfl rfl rfl (OpA.asn rfl (by with_reducible conv => lhs; whnf) ?_)
  refine wpL_op rfl rfl rfl (OpA.asn rfl (by with_reducible conv => lhs; whnf) ?_)
  refine wpL_nil ?_
  refine wpA_seq ?_
  refine wpA_region ?_
  refine wpL_op rfl rfl rfl (OpA.mv rfl (by with_reducible conv => lhs; whnf) ?_)
  refine wpL_op rfl rfl rfl (OpA.len rfl rfl rfl rfl ts25.desc (.inl ⟨_, _, rfl, (List.length_map _).symm⟩) ?_)
  refine wpL_op rfl rfl rfl (OpA.mv rfl (by with_reducible conv => lhs; whnf) ?_)
  refine wpL_nil ?_
  refine wpA_block ?_
  refine wpA_lfp (S := Int) (G := Unit) () (fun g_ s_ => asg [(0, (encL 2 encLex) a), (1, (encL 2 encLex) b), (3, (encL 1 (encL 1 D.i)) p), (6, .ptr c1 3 0 0), (8, D.i 0), (9, D.i 0), (13, D.i x1), (14, (encL 1 D.i) (gi p x1)), (44, (encL 1 (encL 1 D.i)) p), (45, D.i (p.length : Int)), (46, D.i x1), (51, (encL 1 D.i) (gi p x1)), (52, D.i ((gi p x1).length : Int)), (53, D.i s_)]) (fun g_ s_ => [(c1, .cells 3 [encCosts c])]) h (Cov.asg ⟨rfl, rfl, rfl, rfl, rfl, rfl, rfl, rfl, rfl, rfl, rfl, rfl, rfl, rfl, trivial⟩) (.refl _) ?_
  rintro again9 _ x2 h
  have h : bound_L3 a b c p x1 Q again7 again9 x2 := h
  unfold bound_L3 at h
  show wpA _ _ _ _ (asg [(0, (encL 2 encLex) a), (1, (encL 2 encLex) b), (3, (encL 1 (encL 1 D.i)) p), (6, .ptr c1 3 0 0), (8, D.i 0), (9, D.i 0), (13, D.i x1), (14, (encL 1 D.i) (gi p x1)), (44, (encL 1 (encL 1 D.i)) p), (45, D.i (p.length : Int)), (46, D.i x1), (51, (encL 1 D.i) (gi p x1)), (52, D.i ((gi p x1).length : Int)), (53, D.i x2)]) [(c1, .cells 3 [encCosts c])]
  refine wpA_seq ?_
  refine wpA_region ?_
  refine wpL_op rfl rfl rfl (OpA.lss rfl rfl rfl ?_)
  refine wpL_nil ?_
  refine wpA_seq ?_
  refine wpA_cond rfl (fun b10 => ?_) (fun b10 => ?_)
  have h := h.1 (decT b10)
  refine wpA_skip ?_
  refine wpA_seq ?_
  refine wpA_block ?_
  refine wpA_seq ?_
  obtain ⟨q1, h⟩ := h
  refine wpA_region ?_
  refine wpL_op rfl rfl rfl (OpA.mv rfl (by with_reducible conv => lhs; whnf) ?_)
  refine wpL_op rfl rfl rfl (OpA.iixV (enc := D.i) rfl ts25 rfl rfl rfl q1 ?_)
  refine wpL_op rfl rfl rfl (OpA.iload rfl ti3 rfl rfl ?_)
  refine wpL_op rfl rfl rfl (OpA.asn rfl (by with_reducible conv => lhs; whnf) ?_)
  refine wpL_op rfl rfl rfl (OpA.asn rfl (by with_reducible conv => lhs; whnf) ?_)
  refine wpL_nil ?_
  refine wpA_seq ?_
  obtain ⟨q1, h⟩ := h
  refine wpA_mid (asg [(0, (encL 2 encLex) a), (1, (encL 2 encLex) b), (3, (encL 1 (encL 1 D.i)) p), (6, .ptr c1 3 0 0), (8, D.i 0), (9, D.i 0), (13, D.i x1), (14, (encL 1 D.i) (gi p x1)), (15, D.i x2), (16, D.i (gi (gi p x1) x2)), (17, D.b (((decide ((gi (gi p x1) x2) ≥ 0)) && (decide ((gi (gi p x1) x2) ≤ 1099511627776))) && ((decide ((x1 + x2) > 0)) || ((gi (gi p x1) x2) == 0)))), (44, (encL 1 (encL 1 D.i)) p), (45, D.i (p.length : Int)), (46, D.i x1), (51, (encL 1 D.i) (gi p x1)), (52, D.i ((gi p x1).length : Int)), (53, D.i x2)]) [(c1, .cells 3 [encCosts c])] ?_ ?_
  refine wpA_region ?_
  refine wpL_op rfl rfl rfl (OpA.mv rfl (by with_reducible conv => lhs; whnf) ?_)
  refine wpL_op rfl rfl rfl (OpA.geq rfl rfl rfl ?_)
  refine wpL_op rfl rfl rfl (OpA.mv rfl (by with_reducible conv => lhs; whnf) ?_)
  refine wpL_split (s := 60) rfl (fun b20 => ?_) (fun b20 => ?_)
  refine wpL_opg rfl rfl rfl rfl rfl rfl (OpA.mv rfl (by with_reducible conv => lhs; whnf) ?_)
  refine wpL_opg rfl rfl rfl rfl rfl rfl (OpA.leq rfl rfl rfl ?_)
  refine wpL_op rfl rfl rfl (OpA.pck rfl rfl (by with_reducible conv => lhs; whnf) ?_)
  refine wpL_op rfl rfl rfl (OpA.mv rfl (by with_reducible conv => lhs; whnf) ?_)
  refine wpL_split (s := 64) rfl (fun b21 => ?_) (fun b21 => ?_)
  refine wpL_opg rfl rfl rfl rfl rfl rfl (OpA.mv rfl (by with_reducible conv => lhs; whnf) ?_)
  refine wpL_opg rfl rfl rfl rfl rfl rfl (OpA.mv rfl (by with_reducible conv => lhs; whnf) ?_)
  refine wpL_opg rfl rfl rfl rfl rfl rfl (OpA.addi rfl rfl rfl (q1 ⟨(decT b20), (decT b21)⟩) ?_)
  refine wpL_opg rfl rfl rfl rfl rfl rfl (OpA.gtr rfl rfl rfl ?_)
  refine wpL_opg rfl rfl rfl rfl rfl rfl (OpA.mv rfl (by with_reducible conv => lhs; whnf) ?_)
  refine wpL_split (s := 69) rfl (fun b22 => ?_) (fun b22 => ?_)
  iterate 2 refine wpL_skip rfl rfl rfl rfl rfl rfl ?_
  refine wpL_opg rfl rfl rfl rfl rfl rfl (OpA.pck rfl rfl (by with_reducible conv => lhs; whnf) ?_)
  refine wpL_op rfl rfl rfl (OpA.pck rfl rfl (by with_reducible conv => lhs; whnf) ?_)
  refine wpL_op rfl rfl rfl (OpA.asn rfl (by with_reducible conv => lhs; whnf) ?_)
  refine wpL_nil ?_
  exact ⟨(Cov.asg ⟨rfl, rfl, rfl, rfl, rfl, rfl, rfl, rfl, rfl, rfl, (congrArg D.b (Eq.symm (andN (andN b20 b21) (orS b22)))), rfl, rfl, rfl, rfl, rfl, rfl, trivial⟩), (.refl _)⟩
  refine wpL_opg rfl rfl rfl rfl rfl rfl (OpA.mv rfl (by with_reducible conv => lhs; whnf) ?_)
  refine wpL_opg rfl rfl rfl rfl rfl rfl (OpA.eql rfl rfl rfl ?_)
  refine wpL_opg rfl rfl rfl rfl rfl rfl (OpA.pck rfl rfl (by with_reducible conv => lhs; whnf) ?_)
  refine wpL_op rfl rfl rfl (OpA.pck rfl rfl (by with_reducible conv => lhs; whnf) ?_)
  refine wpL_op rfl rfl rfl (OpA.asn rfl (by with_reducible conv => lhs; whnf) ?_)
  refine wpL_nil ?_
  exact ⟨(Cov.asg ⟨rfl, rfl, rfl, rfl, rfl, rfl, rfl, rfl, rfl, rfl, (congrArg D.b (Eq.symm (andN (andN b20 b21) (orN b22 rfl)))), rfl, rfl, rfl, rfl, rfl, rfl, trivial⟩), (.refl _)⟩
  iterate 5 refine wpL_skip rfl rfl rfl rfl rfl rfl ?_
  iterate 2 refine wpL_skipU rfl rfl rfl rfl rfl ?_
  refine wpL_skip rfl rfl rfl rfl rfl rfl ?_
  refine wpL_op rfl rfl rfl (OpA.pck rfl rfl (by with_reducible conv => lhs; whnf) ?_)
  refine wpL_op rfl rfl rfl (OpA.asn rfl (by with_reducible conv => lhs; whnf) ?_)
  refine wpL_nil ?_
  exact ⟨(Cov.asg ⟨rfl, rfl, rfl, rfl, rfl, rfl, rfl, rfl, rfl, rfl, (congrArg D.b (Eq.symm (andS (andN b20 b21)))), rfl, rfl, rfl, rfl, rfl, rfl, trivial⟩), (.refl _)⟩
  iterate 2 refine wpL_skip rfl rfl rfl rfl rfl rfl ?_
  refine wpL_op rfl rfl rfl (OpA.pck rfl rfl (by with_reducible conv => lhs; whnf) ?_)
  refine wpL_op rfl rfl rfl (OpA.mv rfl (by with_reducible conv => lhs; whnf) ?_)
  iterate 5 refine wpL_skip rfl rfl rfl rfl rfl rfl ?_
  iterate 2 refine wpL_skipU rfl rfl rfl rfl rfl ?_
  refine wpL_skip rfl rfl rfl rfl rfl rfl ?_
  refine wpL_op rfl rfl rfl (OpA.pck rfl rfl (by with_reducible conv => lhs; whnf) ?_)
  refine wpL_op rfl rfl rfl (OpA.asn rfl (by with_reducible conv => lhs; whnf) ?_)
  refine wpL_nil ?_
  exact ⟨(Cov.asg ⟨rfl, rfl, rfl, rfl, rfl, rfl, rfl, rfl, rfl, rfl, (congrArg D.b (Eq.symm (andS (andS b20)))), rfl, rfl, rfl, rfl, rfl, rfl, trivial⟩), (.refl _)⟩
  show wpA _ _ _ _ (asg [(0, (encL 2 encLex) a), (1, (encL 2 encLex) b), (3, (encL 1 (encL 1 D.i)) p), (6, .ptr c1 3 0 0), (8, D.i 0), (9, D.i 0), (13, D.i x1), (14, (encL 1 D.i) (gi p x1)), (15, D.i x2), (16, D.i (gi (gi p x1) x2)), (17, D.b (((decide ((gi (gi p x1) x2) ≥ 0)) && (decide ((gi (gi p x1) x2) ≤ 1099511627776))) && ((decide ((x1 + x2) > 0)) || ((gi (gi p x1) x2) == 0)))), (44, (encL 1 (encL 1 D.i)) p), (45, D.i (p.length : Int)), (46, D.i x1), (51, (encL 1 D.i) (gi p x1)), (52, D.i ((gi p x1).length : Int)), (53, D.i x2)]) [(c1, .cells 3 [encCosts c])]
  refine wpA_seq ?_
  obtain ⟨q1, q2, h⟩ := h
  refine wpA_mid (asg [(0, (encL 2 encLex) a), (1, (encL 2 encLex) b), (3, (encL 1 (encL 1 D.i)) p), (6, .ptr c1 3 0 0), (8, D.i 0), (9, D.i 0), (13, D.i x1), (14, (encL 1 D.i) (gi p x1)), (15, D.i x2), (16, D.i (gi (gi p x1) x2)), (17, D.b (((((decide ((gi (gi p x1) x2) ≥ 0)) && (decide ((gi (gi p x1) x2) ≤ 1099511627776))) && ((decide ((x1 + x2) > 0)) || ((gi (gi p x1) x2) == 0))) && ((x1 == 0) || (decide ((gi (gi p x1) x2) ≤ ((gi (gi p (x1 - 1)) x2) + c.drop))))) && ((x2 == 0) || (decide ((gi (gi p x1) x2) ≤ ((gi (gi p x1) (x2 - 1)) + c.add)))))), (44, (encL 1 (encL 1 D.i)) p), (45, D.i (p.length : Int)), (46, D.i x1), (51, (encL 1 D.i) (gi p x1)), (52, D.i ((gi p x1).length : Int)), (53, D.i x2)]) [(c1, .cells 3 [encCosts c])] ?_ ?_
  refine wpA_draw (m := 37) mo (by kernel_rfl) rfl ?_
  iterate 2 refine DetK.op rfl (OpA.mv rfl (by with_reducible conv => lhs; whnf) ⟨rfl, rfl⟩) ?_
  refine DetK_split (s := 75) rfl (fun b15 => ?_) (fun b15 => ?_)
  refine DetK.opg rfl rfl rfl rfl (OpA.mv rfl (by with_reducible conv => lhs; whnf) ⟨rfl, rfl⟩) ?_
  refine DetK.opg rfl rfl rfl rfl (OpA.eql rfl rfl rfl ⟨rfl, rfl⟩) ?_
  refine DetK.opg rfl rfl rfl rfl (OpA.mv rfl (by with_reducible conv => lhs; whnf) ⟨rfl, rfl⟩) ?_
  refine DetK_split (s := 78) rfl (fun b16 => ?_) (fun b16 => ?_)
  iterate 13 refine DetK.skip rfl rfl rfl rfl ?_
  refine DetK.opg rfl rfl rfl rfl (OpA.pck rfl rfl (by with_reducible conv => lhs; whnf) ⟨rfl, rfl⟩) ?_
  refine DetK.op rfl (OpA.pck rfl rfl (by with_reducible conv => lhs; whnf) ⟨rfl, rfl⟩) ?_
  refine DetK.op rfl (OpA.mv rfl (by with_reducible conv => lhs; whnf) ⟨rfl, rfl⟩) ?_
  refine DetK.opg rfl rfl rfl rfl (OpA.mv rfl (by with_reducible conv => lhs; whnf) ⟨rfl, rfl⟩) ?_
  refine DetK.opg rfl rfl rfl rfl (OpA.eql rfl rfl rfl ⟨rfl, rfl⟩) ?_
  refine DetK.opg rfl rfl rfl rfl (OpA.mv rfl (by with_reducible conv => lhs; whnf) ⟨rfl, rfl⟩) ?_
  refine DetK_split (s := 97) rfl (fun b17 => ?_) (fun b17 => ?_)
  iterate 10 refine DetK.skip rfl rfl rfl rfl ?_
  refine DetK.opg rfl rfl rfl rfl (OpA.pck rfl rfl (by with_reducible conv => lhs; whnf) ⟨rfl, rfl⟩) ?_
  refine DetK.op rfl (OpA.pck rfl rfl (by with_reducible conv => lhs; whnf) ⟨rfl, rfl⟩) ?_
  refine DetK.op rfl (OpA.asn rfl (by with_reducible conv => lhs; whnf) ⟨rfl, rfl⟩) ?_
  refine DetK.nil ?_
  refine wpL_nil ?_
  exact ⟨(Cov.asg ⟨rfl, rfl, rfl, rfl, rfl, rfl, rfl, rfl, rfl, rfl, (congrArg D.b (Eq.symm (andN (andN b15 (orS b16)) (orS b17)))), rfl, rfl, rfl, rfl, rfl, rfl, trivial⟩), (.refl _)⟩
  iterate 3 refine DetK.opg rfl rfl rfl rfl (OpA.mv rfl (by with_reducible conv => lhs; whnf) ⟨rfl, rfl⟩) ?_
  refine DetK.opg rfl rfl rfl rfl (OpA.subi rfl rfl rfl ((q2 ⟨⟨⟨(decT (and1 (and1 b15))), (decT (and2 (and1 b15)))⟩, ((or0 (and2 b15)).imp (fun hh => (decT hh)) (fun hh => (beqT hh)))⟩, (.inl (beqT b16))⟩) (beqF b17)).1 ⟨rfl, rfl⟩) ?_
  refine DetK.opg rfl rfl rfl rfl (OpA.iixV (enc := D.i) rfl ts25 rfl rfl rfl ((q2 ⟨⟨⟨(decT (and1 (and1 b15))), (decT (and2 (and1 b15)))⟩, ((or0 (and2 b15)).imp (fun hh => (decT hh)) (fun hh => (beqT hh)))⟩, (.inl (beqT b16))⟩) (beqF b17)).2.1 ⟨rfl, rfl⟩) ?_
  refine DetK.opg rfl rfl rfl rfl (OpA.iload rfl ti3 rfl rfl ⟨rfl, rfl⟩) ?_
  refine DetK.opg rfl rfl rfl rfl (OpA.fieldAddr rfl tf24_2 rfl ⟨rfl, rfl⟩) ?_
  refine DetK.opg rfl rfl rfl rfl (OpA.load rfl ti3 rfl .head rfl rfl ⟨rfl, rfl⟩) ?_
  refine DetK.opg rfl rfl rfl rfl (OpA.addi rfl rfl rfl ((q2 ⟨⟨⟨(decT (and1 (and1 b15))), (decT (and2 (and1 b15)))⟩, ((or0 (and2 b15)).imp (fun hh => (decT hh)) (fun hh => (beqT hh)))⟩, (.inl (beqT b16))⟩) (beqF b17)).2.2 ⟨rfl, rfl⟩) ?_
  refine DetK.opg rfl rfl rfl rfl (OpA.leq rfl rfl rfl ⟨rfl, rfl⟩) ?_
  refine DetK.opg rfl rfl rfl rfl (OpA.pck rfl rfl (by with_reducible conv => lhs; whnf) ⟨rfl, rfl⟩) ?_
  refine DetK.op rfl (OpA.pck rfl rfl (by with_reducible conv => lhs; whnf) ⟨rfl, rfl⟩) ?_
  refine DetK.op rfl (OpA.asn rfl (by with_reducible conv => lhs; whnf) ⟨rfl, rfl⟩) ?_
  refine DetK.nil ?_
  refine wpL_nil ?_
  exact ⟨(Cov.asg ⟨rfl, rfl, rfl, rfl, rfl, rfl, rfl, rfl, rfl, rfl, (congrArg D.b (Eq.symm (andN (andN b15 (orS b16)) (orN b17 rfl)))), rfl, rfl, rfl, rfl, rfl, rfl, trivial⟩), (.refl _)⟩
  iterate 3 refine DetK.opg rfl rfl rfl rfl (OpA.mv rfl (by with_reducible conv => lhs; whnf) ⟨rfl, rfl⟩) ?_
  refine DetK.opg rfl rfl rfl rfl (OpA.subi rfl rfl rfl ((q1 ⟨⟨(decT (and1 (and1 b15))), (decT (and2 (and1 b15)))⟩, ((or0 (and2 b15)).imp (fun hh => (decT hh)) (fun hh => (beqT hh)))⟩) (beqF b16)).1 ⟨rfl, rfl⟩) ?_
  refine DetK.opg rfl rfl rfl rfl (OpA.iixV (enc := (encL 1 D.i)) rfl ts48 rfl rfl rfl ((q1 ⟨⟨(decT (and1 (and1 b15))), (decT (and2 (and1 b15)))⟩, ((or0 (and2 b15)).imp (fun hh => (decT hh)) (fun hh => (beqT hh)))⟩) (beqF b16)).2.1 ⟨rfl, rfl⟩) ?_
  refine DetK.opg rfl rfl rfl rfl (OpA.iload rfl ti25 rfl rfl ⟨rfl, rfl⟩) ?_
  refine DetK.opg rfl rfl rfl rfl (OpA.mv rfl (by with_reducible conv => lhs; whnf) ⟨rfl, rfl⟩) ?_
  refine DetK.opg rfl rfl rfl rfl (OpA.iixV (enc := D.i) rfl ts25 rfl rfl rfl ((q1 ⟨⟨(decT (and1 (and1 b15))), (decT (and2 (and1 b15)))⟩, ((or0 (and2 b15)).imp (fun hh => (decT hh)) (fun hh => (beqT hh)))⟩) (beqF b16)).2.2.1 ⟨rfl, rfl⟩) ?_
  refine DetK.opg rfl rfl rfl rfl (OpA.iload rfl ti3 rfl rfl ⟨rfl, rfl⟩) ?_
  refine DetK.opg rfl rfl rfl rfl (OpA.fieldAddr rfl tf24_1 rfl ⟨rfl, rfl⟩) ?_
  refine DetK.opg rfl rfl rfl rfl (OpA.load rfl ti3 rfl .head rfl rfl ⟨rfl, rfl⟩) ?_
  refine DetK.opg rfl rfl rfl rfl (OpA.addi rfl rfl rfl ((q1 ⟨⟨(decT (and1 (and1 b15))), (decT (and2 (and1 b15)))⟩, ((or0 (and2 b15)).imp (fun hh => (decT hh)) (fun hh => (beqT hh)))⟩) (beqF b16)).2.2.2 ⟨rfl, rfl⟩) ?_
  refine DetK.opg rfl rfl rfl rfl (OpA.leq rfl rfl rfl ⟨rfl, rfl⟩) ?_
  refine DetK.opg rfl rfl rfl rfl (OpA.pck rfl rfl (by with_reducible conv => lhs; whnf) ⟨rfl, rfl⟩) ?_
  refine DetK.op rfl (OpA.pck rfl rfl (by with_reducible conv => lhs; whnf) ⟨rfl, rfl⟩) ?_
  refine DetK.op rfl (OpA.mv rfl (by with_reducible conv => lhs; whnf) ⟨rfl, rfl⟩) ?_
  refine DetK_split (s := 94) rfl (fun b18 => ?_) (fun b18 => ?_)
  refine DetK.opg rfl rfl rfl rfl (OpA.mv rfl (by with_reducible conv => lhs; whnf) ⟨rfl, rfl⟩) ?_
  refine DetK.opg rfl rfl rfl rfl (OpA.eql rfl rfl rfl ⟨rfl, rfl⟩) ?_
  refine DetK.opg rfl rfl rfl rfl (OpA.mv rfl (by with_reducible conv => lhs; whnf) ⟨rfl, rfl⟩) ?_
  refine DetK_split (s := 97) rfl (fun b19 => ?_) (fun b19 => ?_)
  iterate 10 refine DetK.skip rfl rfl rfl rfl ?_
  refine DetK.opg rfl rfl rfl rfl (OpA.pck rfl rfl (by with_reducible conv => lhs; whnf) ⟨rfl, rfl⟩) ?_
  refine DetK.op rfl (OpA.pck rfl rfl (by with_reducible conv => lhs; whnf) ⟨rfl, rfl⟩) ?_
  refine DetK.op rfl (OpA.asn rfl (by with_reducible conv => lhs; whnf) ⟨rfl, rfl⟩) ?_
  refine DetK.nil ?_
  refine wpL_nil ?_
  exact ⟨(Cov.asg ⟨rfl, rfl, rfl, rfl, rfl, rfl, rfl, rfl, rfl, rfl, (congrArg D.b (Eq.symm (andN (andN b15 (orN b16 b18)) (orS b19)))), rfl, rfl, rfl, rfl, rfl, rfl, trivial⟩), (.refl _)⟩
  iterate 3 refine DetK.opg rfl rfl rfl rfl (OpA.mv rfl (by with_reducible conv => lhs; whnf) ⟨rfl, rfl⟩) ?_
  refine DetK.opg rfl rfl rfl rfl (OpA.subi rfl rfl rfl ((q2 ⟨⟨⟨(decT (and1 (and1 b15))), (decT (and2 (and1 b15)))⟩, ((or0 (and2 b15)).imp (fun hh => (decT hh)) (fun hh => (beqT hh)))⟩, (.inr (decT b18))⟩) (beqF b19)).1 ⟨rfl, rfl⟩) ?_
  refine DetK.opg rfl rfl rfl rfl (OpA.iixV (enc := D.i) rfl ts25 rfl rfl rfl ((q2 ⟨⟨⟨(decT (and1 (and1 b15))), (decT (and2 (and1 b15)))⟩, ((or0 (and2 b15)).imp (fun hh => (decT hh)) (fun hh => (beqT hh)))⟩, (.inr (decT b18))⟩) (beqF b19)).2.1 ⟨rfl, rfl⟩) ?_
  refine DetK.opg rfl rfl rfl rfl (OpA.iload rfl ti3 rfl rfl ⟨rfl, rfl⟩) ?_
  refine DetK.opg rfl rfl rfl rfl (OpA.fieldAddr rfl tf24_2 rfl ⟨rfl, rfl⟩) ?_
  refine DetK.opg rfl rfl rfl rfl (OpA.load rfl ti3 rfl .head rfl rfl ⟨rfl, rfl⟩) ?_
  refine DetK.opg rfl rfl rfl rfl (OpA.addi rfl rfl rfl ((q2 ⟨⟨⟨(decT (and1 (and1 b15))), (decT (and2 (and1 b15)))⟩, ((or0 (and2 b15)).imp (fun hh => (decT hh)) (fun hh => (beqT hh)))⟩, (.inr (decT b18))⟩) (beqF b19)).2.2 ⟨rfl, rfl⟩) ?_
  refine DetK.opg rfl rfl rfl rfl (OpA.leq rfl rfl rfl ⟨rfl, rfl⟩) ?_
  refine DetK.opg rfl rfl rfl rfl (OpA.pck rfl rfl (by with_reducible conv => lhs; whnf) ⟨rfl, rfl⟩) ?_
  refine DetK.op rfl (OpA.pck rfl rfl (by with_reducible conv => lhs; whnf) ⟨rfl, rfl⟩) ?_
  refine DetK.op rfl (OpA.asn rfl (by with_reducible conv => lhs; whnf) ⟨rfl, rfl⟩) ?_
  refine DetK.nil ?_
  refine wpL_nil ?_
  exact ⟨(Cov.asg ⟨rfl, rfl, rfl, rfl, rfl, rfl, rfl, rfl, rfl, rfl, (congrArg D.b (Eq.symm (andN (andN b15 (orN b16 b18)) (orN b19 rfl)))), rfl, rfl, rfl, rfl, rfl, rfl, trivial⟩), (.refl _)⟩
  iterate 3 refine DetK.skip rfl rfl rfl rfl ?_
  iterate 10 refine DetK.skipU rfl rfl rfl ?_
  refine DetK.skip rfl rfl rfl rfl ?_
  refine DetK.op rfl (OpA.pck rfl rfl (by with_reducible conv => lhs; whnf) ⟨rfl, rfl⟩) ?_
  refine DetK.op rfl (OpA.asn rfl (by with_reducible conv => lhs; whnf) ⟨rfl, rfl⟩) ?_
  refine DetK.nil ?_
  refine wpL_nil ?_
  exact ⟨(Cov.asg ⟨rfl, rfl, rfl, rfl, rfl, rfl, rfl, rfl, rfl, rfl, (congrArg D.b (Eq.symm (andS (andN b15 (orN b16 b18))))), rfl, rfl, rfl, rfl, rfl, rfl, trivial⟩), (.refl _)⟩
  iterate 3 refine DetK.skip rfl rfl rfl rfl ?_
  iterate 13 refine DetK.skipU rfl rfl rfl ?_
  refine DetK.skip rfl rfl rfl rfl ?_
  refine DetK.op rfl (OpA.pck rfl rfl (by with_reducible conv => lhs; whnf) ⟨rfl, rfl⟩) ?_
  refine DetK.op rfl (OpA.mv rfl (by with_reducible conv => lhs; whnf) ⟨rfl, rfl⟩) ?_
  iterate 3 refine DetK.skip rfl rfl rfl rfl ?_
  iterate 10 refine DetK.skipU rfl rfl rfl ?_
  refine DetK.skip rfl rfl rfl rfl ?_
  refine DetK.op rfl (OpA.pck rfl rfl (by with_reducible conv => lhs; whnf) ⟨rfl, rfl⟩) ?_
  refine DetK.op rfl (OpA.asn rfl (by with_reducible conv => lhs; whnf) ⟨rfl, rfl⟩) ?_
  refine DetK.nil ?_
  refine wpL_nil ?_
  exact ⟨(Cov.asg ⟨rfl, rfl, rfl, rfl, rfl, rfl, rfl, rfl, rfl, rfl, (congrArg D.b (Eq.symm (andS (andS b15)))), rfl, rfl, rfl, rfl, rfl, rfl, trivial⟩), (.refl _)⟩
  show wpA _ _ _ _ (asg [(0, (encL 2 encLex) a), (1, (encL 2 encLex) b), (3, (encL 1 (encL 1 D.i)) p), (6, .ptr c1 3 0 0), (8, D.i 0), (9, D.i 0), (13, D.i x1), (14, (encL 1 D.i) (gi p x1)), (15, D.i x2), (16, D.i (gi (gi p x1) x2)), (17, D.b (((((decide ((gi (gi p x1) x2) ≥ 0)) && (decide ((gi (gi p x1) x2) ≤ 1099511627776))) && ((decide ((x1 + x2) > 0)) || ((gi (gi p x1) x2) == 0))) && ((x1 == 0) || (decide ((gi (gi p x1) x2) ≤ ((gi (gi p (x1 - 1)) x2) + c.drop))))) && ((x2 == 0) || (decide ((gi (gi p x1) x2) ≤ ((gi (gi p x1) (x2 - 1)) + c.add)))))), (44, (encL 1 (encL 1 D.i)) p), (45, D.i (p.length : Int)), (46, D.i x1), (51, (encL 1 D.i) (gi p x1)), (52, D.i ((gi p x1).length : Int)), (53, D.i x2)]) [(c1, .cells 3 [encCosts c])]
  refine wpA_seq ?_
  obtain ⟨q1, h⟩ := h
  refine wpA_mid (asg [(0, (encL 2 encLex) a), (1, (encL 2 encLex) b), (3, (encL 1 (encL 1 D.i)) p), (6, .ptr c1 3 0 0), (8, D.i 0), (9, D.i 0), (13, D.i x1), (14, (encL 1 D.i) (gi p x1)), (44, (encL 1 (encL 1 D.i)) p), (45, D.i (p.length : Int)), (46, D.i x1), (51, (encL 1 D.i) (gi p x1)), (52, D.i ((gi p x1).length : Int)), (53, D.i x2), (145, D.b ((!(((((decide ((gi (gi p x1) x2) ≥ 0)) && (decide ((gi (gi p x1) x2) ≤ 1099511627776))) && ((decide ((x1 + x2) > 0)) || ((gi (gi p x1) x2) == 0))) && ((x1 == 0) || (decide ((gi (gi p x1) x2) ≤ ((gi (gi p (x1 - 1)) x2) + c.drop))))) && ((x2 == 0) || (decide ((gi (gi p x1) x2) ≤ ((gi (gi p x1) (x2 - 1)) + c.add)))))) || (((decide (x1 > 0)) && (decide (x2 > 0))) && (decide ((gi (gi p x1) x2) > ((gi (gi p (x1 - 1)) (x2 - 1)) + (pairF (gi a (x1 - 1)) (gi b (x2 - 1)) c)))))))]) [(c1, .cells 3 [encCosts c])] ?_ ?_
  refine wpA_draw (m := 36) mo (by kernel_rfl) rfl ?_
  refine DetK.op rfl (OpA.mv rfl (by with_reducible conv => lhs; whnf) ⟨rfl, rfl⟩) ?_
  refine DetK.op rfl (OpA.not rfl rfl ⟨rfl, rfl⟩) ?_
  refine DetK.op rfl (OpA.mv rfl (by with_reducible conv => lhs; whnf) ⟨rfl, rfl⟩) ?_
  refine DetK_split (s := 112) rfl (fun b12 => ?_) (fun b12 => ?_)
  iterate 3 refine DetK.skip rfl rfl rfl rfl ?_
  iterate 2 refine DetK.skipU rfl rfl rfl ?_
  iterate 2 refine DetK.skip rfl rfl rfl rfl ?_
  iterate 24 refine DetK.skipU rfl rfl rfl ?_
  refine DetK.skip rfl rfl rfl rfl ?_
  refine DetK.op rfl (OpA.pck rfl rfl (by with_reducible conv => lhs; whnf) ⟨rfl, rfl⟩) ?_
  refine DetK.nil ?_
  refine wpL_nil ?_
  exact ⟨(Cov.asg ⟨rfl, rfl, rfl, rfl, rfl, rfl, rfl, rfl, rfl, rfl, rfl, rfl, rfl, rfl, (congrArg D.b (Eq.symm (orS b12))), trivial⟩), (.refl _)⟩
  refine DetK.opg rfl rfl rfl rfl (OpA.mv rfl (by with_reducible conv => lhs; whnf) ⟨rfl, rfl⟩) ?_
  refine DetK.opg rfl rfl rfl rfl (OpA.gtr rfl rfl rfl ⟨rfl, rfl⟩) ?_
  refine DetK.opg rfl rfl rfl rfl (OpA.mv rfl (by with_reducible conv => lhs; whnf) ⟨rfl, rfl⟩) ?_
  refine DetK_split (s := 115) rfl (fun b13 => ?_) (fun b13 => ?_)
  refine DetK.opg rfl rfl rfl rfl (OpA.mv rfl (by with_reducible conv => lhs; whnf) ⟨rfl, rfl⟩) ?_
  refine DetK.opg rfl rfl rfl rfl (OpA.gtr rfl rfl rfl ⟨rfl, rfl⟩) ?_
  refine DetK.opg rfl rfl rfl rfl (OpA.pck rfl rfl (by with_reducible conv => lhs; whnf) ⟨rfl, rfl⟩) ?_
  refine DetK.opg rfl rfl rfl rfl (OpA.mv rfl (by with_reducible conv => lhs; whnf) ⟨rfl, rfl⟩) ?_
  refine DetK_split (s := 119) rfl (fun b14 => ?_) (fun b14 => ?_)
  iterate 3 refine DetK.opg rfl rfl rfl rfl (OpA.mv rfl (by with_reducible conv => lhs; whnf) ⟨rfl, rfl⟩) ?_
  refine DetK.opg rfl rfl rfl rfl (OpA.subi rfl rfl rfl ((q1 ⟨⟨⟨⟨(decT (and1 (and1 (and1 (and1 (notF b12)))))), (decT (and2 (and1 (and1 (and1 (notF b12))))))⟩, ((or0 (and2 (and1 (and1 (notF b12))))).imp (fun hh => (decT hh)) (fun hh => (beqT hh)))⟩, ((or0 (and2 (and1 (notF b12)))).imp (fun hh => (beqT hh)) (fun hh => (decT hh)))⟩, ((or0 (and2 (notF b12))).imp (fun hh => (beqT hh)) (fun hh => (decT hh)))⟩) ⟨(decT b13), (decT b14)⟩).1 ⟨rfl, rfl⟩) ?_
  refine DetK.opg rfl rfl rfl rfl (OpA.iixV (enc := (encL 1 D.i)) rfl ts48 rfl rfl rfl ((q1 ⟨⟨⟨⟨(decT (and1 (and1 (and1 (and1 (notF b12)))))), (decT (and2 (and1 (and1 (and1 (notF b12))))))⟩, ((or0 (and2 (and1 (and1 (notF b12))))).imp (fun hh => (decT hh)) (fun hh => (beqT hh)))⟩, ((or0 (and2 (and1 (notF b12)))).imp (fun hh => (beqT hh)) (fun hh => (decT hh)))⟩, ((or0 (and2 (notF b12))).imp (fun hh => (beqT hh)) (fun hh => (decT hh)))⟩) ⟨(decT b13), (decT b14)⟩).2.1 ⟨rfl, rfl⟩) ?_
  refine DetK.opg rfl rfl rfl rfl (OpA.iload rfl ti25 rfl rfl ⟨rfl, rfl⟩) ?_
  refine DetK.opg rfl rfl rfl rfl (OpA.mv rfl (by with_reducible conv => lhs; whnf) ⟨rfl, rfl⟩) ?_
  refine DetK.opg rfl rfl rfl rfl (OpA.subi rfl rfl rfl ((q1 ⟨⟨⟨⟨(decT (and1 (and1 (and1 (and1 (notF b12)))))), (decT (and2 (and1 (and1 (and1 (notF b12))))))⟩, ((or0 (and2 (and1 (and1 (notF b12))))).imp (fun hh => (decT hh)) (fun hh => (beqT hh)))⟩, ((or0 (and2 (and1 (notF b12)))).imp (fun hh => (beqT hh)) (fun hh => (decT hh)))⟩, ((or0 (and2 (notF b12))).imp (fun hh => (beqT hh)) (fun hh => (decT hh)))⟩) ⟨(decT b13), (decT b14)⟩).2.2.1 ⟨rfl, rfl⟩) ?_
  refine DetK.opg rfl rfl rfl rfl (OpA.iixV (enc := D.i) rfl ts25 rfl rfl rfl ((q1 ⟨⟨⟨⟨(decT (and1 (and1 (and1 (and1 (notF b12)))))), (decT (and2 (and1 (and1 (and1 (notF b12))))))⟩, ((or0 (and2 (and1 (and1 (notF b12))))).imp (fun hh => (decT hh)) (fun hh => (beqT hh)))⟩, ((or0 (and2 (and1 (notF b12)))).imp (fun hh => (beqT hh)) (fun hh => (decT hh)))⟩, ((or0 (and2 (notF b12))).imp (fun hh => (beqT hh)) (fun hh => (decT hh)))⟩) ⟨(decT b13), (decT b14)⟩).2.2.2.1 ⟨rfl, rfl⟩) ?_
  refine DetK.opg rfl rfl rfl rfl (OpA.iload rfl ti3 rfl rfl ⟨rfl, rfl⟩) ?_
  iterate 2 refine DetK.opg rfl rfl rfl rfl (OpA.mv rfl (by with_reducible conv => lhs; whnf) ⟨rfl, rfl⟩) ?_
  refine DetK.opg rfl rfl rfl rfl (OpA.subi rfl rfl rfl ((q1 ⟨⟨⟨⟨(decT (and1 (and1 (and1 (and1 (notF b12)))))), (decT (and2 (and1 (and1 (and1 (notF b12))))))⟩, ((or0 (and2 (and1 (and1 (notF b12))))).imp (fun hh => (decT hh)) (fun hh => (beqT hh)))⟩, ((or0 (and2 (and1 (notF b12)))).imp (fun hh => (beqT hh)) (fun hh => (decT hh)))⟩, ((or0 (and2 (notF b12))).imp (fun hh => (beqT hh)) (fun hh => (decT hh)))⟩) ⟨(decT b13), (decT b14)⟩).1 ⟨rfl, rfl⟩) ?_
  refine DetK.opg rfl rfl rfl rfl (OpA.iixV (enc := encLex) rfl ts22 rfl rfl rfl ((q1 ⟨⟨⟨⟨(decT (and1 (and1 (and1 (and1 (notF b12)))))), (decT (and2 (and1 (and1 (and1 (notF b12))))))⟩, ((or0 (and2 (and1 (and1 (notF b12))))).imp (fun hh => (decT hh)) (fun hh => (beqT hh)))⟩, ((or0 (and2 (and1 (notF b12)))).imp (fun hh => (beqT hh)) (fun hh => (decT hh)))⟩, ((or0 (and2 (notF b12))).imp (fun hh => (beqT hh)) (fun hh => (decT hh)))⟩) ⟨(decT b13), (decT b14)⟩).2.2.2.2.1 ⟨rfl, rfl⟩) ?_
  refine DetK.opg rfl rfl rfl rfl (OpA.iload_whole rfl ti40 rfl ⟨_, rfl, rfl⟩ ⟨rfl, rfl⟩) ?_
  iterate 2 refine DetK.opg rfl rfl rfl rfl (OpA.mv rfl (by with_reducible conv => lhs; whnf) ⟨rfl, rfl⟩) ?_
  refine DetK.opg rfl rfl rfl rfl (OpA.subi rfl rfl rfl ((q1 ⟨⟨⟨⟨(decT (and1 (and1 (and1 (and1 (notF b12)))))), (decT (and2 (and1 (and1 (and1 (notF b12))))))⟩, ((or0 (and2 (and1 (and1 (notF b12))))).imp (fun hh => (decT hh)) (fun hh => (beqT hh)))⟩, ((or0 (and2 (and1 (notF b12)))).imp (fun hh => (beqT hh)) (fun hh => (decT hh)))⟩, ((or0 (and2 (notF b12))).imp (fun hh => (beqT hh)) (fun hh => (decT hh)))⟩) ⟨(decT b13), (decT b14)⟩).2.2.1 ⟨rfl, rfl⟩) ?_
  refine DetK.opg rfl rfl rfl rfl (OpA.iixV (enc := encLex) rfl ts22 rfl rfl rfl ((q1 ⟨⟨⟨⟨(decT (and1 (and1 (and1 (and1 (notF b12)))))), (decT (and2 (and1 (and1 (and1 (notF b12))))))⟩, ((or0 (and2 (and1 (and1 (notF b12))))).imp (fun hh => (decT hh)) (fun hh => (beqT hh)))⟩, ((or0 (and2 (and1 (notF b12)))).imp (fun hh => (beqT hh)) (fun hh => (decT hh)))⟩, ((or0 (and2 (notF b12))).imp (fun hh => (beqT hh)) (fun hh => (decT hh)))⟩) ⟨(decT b13), (decT b14)⟩).2.2.2.2.2.1 ⟨rfl, rfl⟩) ?_
  refine DetK.opg rfl rfl rfl rfl (OpA.iload_whole rfl ti40 rfl ⟨_, rfl, rfl⟩ ⟨rfl, rfl⟩) ?_
  refine DetK.opg rfl rfl rfl rfl (OpA.load_whole rfl ti24 rfl rfl .head rfl ⟨_, rfl⟩ ⟨rfl, rfl⟩) ?_
  refine DetK.opg rfl rfl rfl rfl (OpA.call rfl rfl rfl en40 (pair_fun (gi a (x1 - 1)) (gi b (x2 - 1)) c ) (by rintro _ rfl; exact ⟨rfl, rfl⟩)) ?_
  refine DetK.opg rfl rfl rfl rfl (OpA.addi rfl rfl rfl ((q1 ⟨⟨⟨⟨(decT (and1 (and1 (and1 (and1 (notF b12)))))), (decT (and2 (and1 (and1 (and1 (notF b12))))))⟩, ((or0 (and2 (and1 (and1 (notF b12))))).imp (fun hh => (decT hh)) (fun hh => (beqT hh)))⟩, ((or0 (and2 (and1 (notF b12)))).imp (fun hh => (beqT hh)) (fun hh => (decT hh)))⟩, ((or0 (and2 (notF b12))).imp (fun hh => (beqT hh)) (fun hh => (decT hh)))⟩) ⟨(decT b13), (decT b14)⟩).2.2.2.2.2.2 ⟨rfl, rfl⟩) ?_
  refine DetK.opg rfl rfl rfl rfl (OpA.gtr rfl rfl rfl ⟨rfl, rfl⟩) ?_
  refine DetK.opg rfl rfl rfl rfl (OpA.pck rfl rfl (by with_reducible conv => lhs; whnf) ⟨rfl, rfl⟩) ?_
  refine DetK.op rfl (OpA.pck rfl rfl (by with_reducible conv => lhs; whnf) ⟨rfl, rfl⟩) ?_
  refine DetK.nil ?_
  refine wpL_nil ?_
  exact ⟨(Cov.asg ⟨rfl, rfl, rfl, rfl, rfl, rfl, rfl, rfl, rfl, rfl, rfl, rfl, rfl, rfl, (congrArg D.b (Eq.symm (orN b12 (andN (andN b13 b14) rfl)))), trivial⟩), (.refl _)⟩
  iterate 24 refine DetK.skip rfl rfl rfl rfl ?_
  refine DetK.opg rfl rfl rfl rfl (OpA.pck rfl rfl (by with_reducible conv => lhs; whnf) ⟨rfl, rfl⟩) ?_
  refine DetK.op rfl (OpA.pck rfl rfl (by with_reducible conv => lhs; whnf) ⟨rfl, rfl⟩) ?_
  refine DetK.nil ?_
  refine wpL_nil ?_
  exact ⟨(Cov.asg ⟨rfl, rfl, rfl, rfl, rfl, rfl, rfl, rfl, rfl, rfl, rfl, rfl, rfl, rfl, (congrArg D.b (Eq.symm (orN b12 (andS (andN b13 b14))))), trivial⟩), (.refl _)⟩
  iterate 2 refine DetK.skip rfl rfl rfl rfl ?_
  refine DetK.opg rfl rfl rfl rfl (OpA.pck rfl rfl (by with_reducible conv => lhs; whnf) ⟨rfl, rfl⟩) ?_
  refine DetK.opg rfl rfl rfl rfl (OpA.mv rfl (by with_reducible conv => lhs; whnf) ⟨rfl, rfl⟩) ?_
  iterate 24 refine DetK.skip rfl rfl rfl rfl ?_
  refine DetK.opg rfl rfl rfl rfl (OpA.pck rfl rfl (by with_reducible conv => lhs; whnf) ⟨rfl, rfl⟩) ?_
  refine DetK.op rfl (OpA.pck rfl rfl (by with_reducible conv => lhs; whnf) ⟨rfl, rfl⟩) ?_
  refine DetK.nil ?_
  refine wpL_nil ?_
  exact ⟨(Cov.asg ⟨rfl, rfl, rfl, rfl, rfl, rfl, rfl, rfl, rfl, rfl, rfl, rfl, rfl, rfl, (congrArg D.b (Eq.symm (orN b12 (andS (andS b13))))), trivial⟩), (.refl _)⟩
  show wpA _ _ _ _ (asg [(0, (encL 2 encLex) a), (1, (encL 2 encLex) b), (3, (encL 1 (encL 1 D.i)) p), (6, .ptr c1 3 0 0), (8, D.i 0), (9, D.i 0), (13, D.i x1), (14, (encL 1 D.i) (gi p x1)), (44, (encL 1 (encL 1 D.i)) p), (45, D.i (p.length : Int)), (46, D.i x1), (51, (encL 1 D.i) (gi p x1)), (52, D.i ((gi p x1).length : Int)), (53, D.i x2), (145, D.b ((!(((((decide ((gi (gi p x1) x2) ≥ 0)) && (decide ((gi (gi p x1) x2) ≤ 1099511627776))) && ((decide ((x1 + x2) > 0)) || ((gi (gi p x1) x2) == 0))) && ((x1 == 0) || (decide ((gi (gi p x1) x2) ≤ ((gi (gi p (x1 - 1)) x2) + c.drop))))) && ((x2 == 0) || (decide ((gi (gi p x1) x2) ≤ ((gi (gi p x1) (x2 - 1)) + c.add)))))) || (((decide (x1 > 0)) && (decide (x2 > 0))) && (decide ((gi (gi p x1) x2) > ((gi (gi p (x1 - 1)) (x2 - 1)) + (pairF (gi a (x1 - 1)) (gi b (x2 - 1)) c)))))))]) [(c1, .cells 3 [encCosts c])]
  refine wpA_cond rfl (fun b11 => ?_) (fun b11 => ?_)
  have h := h.1 ((or0 b11).imp (fun hh => ((and0 (notT hh)).imp (fun hh => ((and0 hh).imp (fun hh => ((and0 hh).imp (fun hh => ((and0 hh).imp (fun hh => (decF hh)) (fun hh => (decF hh)))) (fun hh => ⟨(decF (or1 hh)), (beqF (or2 hh))⟩))) (fun hh => ⟨(beqF (or1 hh)), (decF (or2 hh))⟩))) (fun hh => ⟨(beqF (or1 hh)), (decF (or2 hh))⟩))) (fun hh => ⟨⟨(decT (and1 (and1 hh))), (decT (and2 (and1 hh)))⟩, (decT (and2 hh))⟩))
  refine wpA_seq ?_
  refine wpA_region ?_
  refine wpL_op rfl rfl rfl (OpA.asn rfl (by with_reducible conv => lhs; whnf) ?_)
  refine wpL_op rfl rfl rfl (OpA.asn rfl (by with_reducible conv => lhs; whnf) ?_)
  refine wpL_nil ?_
  refine wpA_ret ?_
  exact ⟨_, (.tmp (d := D.i 0) rfl (.tmp (d := D.i 18) rfl .nil)), _, (.tup (.same rfl (.same rfl .nil)) .nil), ⟨(0, 18), rfl, h⟩⟩
  have h := h.2 ⟨⟨⟨⟨⟨(decT (and1 (and1 (and1 (and1 (notF (or1 b11))))))), (decT (and2 (and1 (and1 (and1 (notF (or1 b11)))))))⟩, ((or0 (and2 (and1 (and1 (notF (or1 b11)))))).imp (fun hh => (decT hh)) (fun hh => (beqT hh)))⟩, ((or0 (and2 (and1 (notF (or1 b11))))).imp (fun hh => (beqT hh)) (fun hh => (decT hh)))⟩, ((or0 (and2 (notF (or1 b11)))).imp (fun hh => (beqT hh)) (fun hh => (decT hh)))⟩, ((and0 (or2 b11)).imp (fun hh => ((and0 hh).imp (fun hh => (decF hh)) (fun hh => (decF hh)))) (fun hh => (decF hh)))⟩
  refine wpA_skip ?_
  obtain ⟨q1, h⟩ := h
  refine wpA_region ?_
  refine wpL_op rfl rfl rfl (OpA.addi rfl rfl rfl q1 ?_)
  refine wpL_op rfl rfl rfl (OpA.mv rfl (by with_reducible conv => lhs; whnf) ?_)
  refine wpL_nil ?_
  exact ⟨(), (x2 + 1), h, (Cov.asg ⟨rfl, rfl, rfl, rfl, rfl, rfl, rfl, rfl, rfl, rfl, rfl, rfl, rfl, rfl, trivial⟩), (.refl _)⟩
  have h := h.2 (decF b10)
  refine wpA_exit ?_
  obtain ⟨q1, h⟩ := h
  refine wpA_region ?_
  refine wpL_op rfl rfl rfl (OpA.addi rfl rfl rfl q1 ?_)
  refine wpL_op rfl rfl rfl (OpA.mv rfl (by with_reducible conv => lhs; whnf) ?_)
  refine wpL_nil ?_
  exact ⟨(), (x1 + 1), h, (Cov.asg ⟨rfl, rfl, rfl, rfl, rfl, rfl, rfl, rfl, rfl, trivial⟩), (.refl _)⟩
  have h := h.2 (decF b8)
  refine wpA_exit ?_
  refine wpA_seq ?_
  obtain ⟨q1, q2, h⟩ := h
  refine wpA_region ?_
  refine wpL_op rfl rfl rfl (OpA.mv rfl (by with_reducible conv => lhs; whnf) ?_)
  refine wpL_op rfl rfl rfl (OpA.mv rfl (by with_reducible conv => lhs; whnf) ?_)
  refine wpL_op rfl rfl rfl (OpA.len rfl rfl rfl rfl ts22.desc (.inl ⟨_, _, rfl, (List.length_map _).symm⟩) ?_)
  refine wpL_op rfl rfl rfl (OpA.iixV (enc := (encL 1 D.i)) rfl ts48 rfl rfl rfl q1 ?_)
  refine wpL_op rfl rfl rfl (OpA.iload rfl ti25 rfl rfl ?_)
  refine wpL_op rfl rfl rfl (OpA.mv rfl (by with_reducible conv => lhs; whnf) ?_)
  refine wpL_op rfl rfl rfl (OpA.len rfl rfl rfl rfl ts22.desc (.inl ⟨_, _, rfl, (List.length_map _).symm⟩) ?_)
  refine wpL_op rfl rfl rfl (OpA.iixV (enc := D.i) rfl ts25 rfl rfl rfl q2 ?_)
  refine wpL_op rfl rfl rfl (OpA.iload rfl ti3 rfl rfl ?_)
  refine wpL_op rfl rfl rfl (OpA.asn rfl (by with_reducible conv => lhs; whnf) ?_)
  refine wpL_op rfl rfl rfl (OpA.asn rfl (by with_reducible conv => lhs; whnf) ?_)
  refine wpL_nil ?_
  refine wpA_ret ?_
  exact ⟨_, (.tmp (d := D.i (gi (gi p (a.length : Int)) (b.length : Int))) rfl (.tmp (d := D.i 0) rfl .nil)), _, (.tup (.same rfl (.same rfl .nil)) .nil), ⟨((gi (gi p (a.length : Int)) (b.length : Int)), 0), rfl, h⟩⟩
theorem bound_c (a : (List Lexeme)) (b : (List Lexeme)) (c : Costs) (p : (List (List Int)))  (hp0 : (p).length ≤ 42) (hp1 : ∀ r ∈ p, r.length ≤ 42) : Fun false Try.prog 27 [(encL 2 encLex) a, (encL 2 encLex) b, encCosts c, (encL 1 (encL 1 D.i)) p] (fun d => d = .tup [D.i ((boundF a b c p).1), D.i ((boundF a b c p).2)]) :=
  Fun.at (enc := fun r => .tup [D.i (r.1), D.i (r.2)]) (v := boundF a b c p) (bound_w a b c p  (fun r => r = boundF a b c p) (bound_ok a b c p _ hp0 hp1 rfl))
end Go.Proofs.Ythggcjnmodeehaa
