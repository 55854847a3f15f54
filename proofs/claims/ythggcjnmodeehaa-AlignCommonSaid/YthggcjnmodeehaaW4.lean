/-
  walks
-/
import Derived.Test.YthggcjnmodeehaaW3
set_option linter.all false
namespace Go.Proofs.Ythggcjnmodeehaa
open Go Go.Lic

theorem kept_fun (x : Alignment) (hlen : x.steps.length ≤ 1000000) : Fun false Try.prog 15 [encAl x] (fun d => d = encPairs (keptF x)) := by
  refine Fun.of_body Try.func15 rfl Try.ntmps15 rfl ?_
  refine wpA_seq ?_
  refine wpA_region ?_
  refine wpL_op rfl rfl rfl (OpA.bx (sz := 2) rfl (by with_reducible conv => lhs; whnf) (.of rfl) (fun c1 _ => ?_))
  refine wpL_op rfl rfl rfl (OpA.asn rfl (by with_reducible conv => lhs; whnf) ?_)
  refine wpL_nil ?_
  refine wpA_seq ?_
  refine wpA_region ?_
  refine wpL_op rfl rfl rfl (OpA.asn rfl (by with_reducible conv => lhs; whnf) ?_)
  refine wpL_nil ?_
  refine wpA_seq ?_
  refine wpA_region ?_
  refine wpL_op rfl rfl rfl (OpA.asn rfl (by with_reducible conv => lhs; whnf) ?_)
  refine wpL_op rfl rfl rfl (OpA.asn rfl (by with_reducible conv => lhs; whnf) ?_)
  refine wpL_nil ?_
  refine wpA_seq ?_
  refine wpA_seq ?_
  refine wpA_region ?_
  refine wpL_op rfl rfl rfl (OpA.fieldAddr rfl tf27_1 rfl ?_)
  refine wpL_op rfl rfl rfl (OpA.load rfl ti25 rfl .head (by first | rfl | exact getM _ _ _ (by omega) | exact getO (by omega) | exact getL _ _ (by omega) | (simp; done)) (by first | rfl | exact getM _ _ _ (by omega) | exact getO (by omega) | exact getL _ _ (by omega) | (simp; done)) ?_)
  first
    | refine wpL_op rfl rfl rfl (OpA.len rfl rfl rfl rfl ts25.desc (.inl ⟨_, _, rfl, (List.length_map _).symm⟩) ?_)
    | refine wpL_op rfl rfl rfl (OpA.len rfl rfl rfl rfl ts25.desc (.inl ⟨_, _, rfl, rfl⟩) ?_)
    | refine wpL_op rfl rfl rfl (OpA.len rfl rfl rfl rfl ts25.desc (.inr (.inl ⟨_, _, _, rfl⟩)) ?_)
    | refine wpL_op rfl rfl rfl (OpA.len rfl rfl rfl rfl ts25.desc (.inr (.inr ⟨rfl, rfl⟩)) ?_)
  refine wpL_op rfl rfl rfl (OpA.mv rfl (by with_reducible conv => lhs; whnf) ?_)
  refine wpL_nil ?_
  refine wpA_block ?_
  refine wpA_ghost (s := 3) (sz := 2) rfl rfl (fun g3 => ?_)
  refine wpA_loopE (fun mm fr h => ∃ (k0 : Nat) (i : Nat) (j : Nat) (o : List (Int × Int)) (g : Nat) (pre : List D) (xs : List D) (n : Nat), mm = x.steps.length - k0 ∧ (k0 ≤ x.steps.length ∧ keptR (x.steps.take k0) = some (i, j, o) ∧ i ≤ k0 ∧ j ≤ k0 ∧ xs = o.map encPair ∧ xs.length = n ∧ n ≤ k0) ∧ fr = asg [(2, .v (.slice none 0 0)), (3, .own g 2 pre.length n), (4, .i i), (5, .i j), (9, encInts x.steps), (10, .i x.steps.length), (11, .i k0)] ∧ h = [(g, .cells 2 (pre ++ xs)), (c1, .cells 2 [encAl x])]) ⟨_, _, ⟨0, 0, 0, [], _, [], [], 0, rfl, ⟨by omega, rfl, by omega, by omega, rfl, rfl, by omega⟩, rfl, rfl⟩, Cov.asg ⟨rfl, rfl, rfl, rfl, rfl, rfl, rfl, trivial⟩⟩ ?_
  rintro k fr h ⟨k0, i, j, o, g, pre, xs, n, rfl, ⟨hk0, hst, hi, hj, hxs, hn, hnk⟩, rfl, rfl⟩
  refine wpA_seq ?_
  refine wpA_region ?_
  refine wpL_op rfl rfl rfl (OpA.lss rfl rfl rfl ?_)
  refine wpL_nil ?_
  refine wpA_seq ?_
  refine wpA_cond rfl (fun b1 => ?_) (fun b1 => ?_)
  try simp only [decide_eq_true_eq, decide_eq_false_iff_not, beq_iff_eq, bne_iff_ne, beq_eq_false_iff_ne, bne_eq_false_iff_eq, Bool.not_eq_true', Bool.not_eq_false', Int.not_lt, Int.not_le, gt_iff_lt, ge_iff_le, ne_eq] at b1
  first
    | (exfalso; (first | contradiction | omega); trace "PRUNED kept_fun L0T .")
    | (refine wpA_skip ?_
       refine wpA_seq ?_
       refine wpA_block ?_
       refine wpA_seq ?_
       refine wpA_region ?_
       first
         | refine wpL_op rfl rfl rfl (OpA.iixN rfl ts25 rfl rfl rfl (by first | exact nat_lit0 | exact nat_lit1 | exact nat_lit2 | exact nat_add1 _ | exact nat_add _ _ | exact rfl | exact nat_sub1 (by omega) | exact nat_sub (by omega) | exact natp1 (nat_sub (by omega)) | exact nat_of (by omega)) (by first | rfl | exact getM _ _ _ (by omega) | exact getO (by omega) | exact getL _ _ (by omega) | (simp; done)) ?_)
         | refine wpL_op rfl rfl rfl (OpA.ixN rfl ts25 rfl rfl (by first | exact nat_lit0 | exact nat_lit1 | exact nat_lit2 | exact nat_add1 _ | exact nat_add _ _ | exact rfl | exact nat_sub1 (by omega) | exact nat_sub (by omega) | exact natp1 (nat_sub (by omega)) | exact nat_of (by omega)) (by omega) ?_)
       first
         | refine wpL_op rfl rfl rfl (OpA.load rfl ti3 rfl (by first | exact .head | exact .tail .head | exact .tail (.tail .head) | exact .tail (.tail (.tail .head)) | exact .tail (.tail (.tail (.tail .head)))) (by first | rfl | exact getM _ _ _ (by omega) | exact getO (by omega) | exact getL _ _ (by omega) | (simp; done)) (by first | rfl | exact getM _ _ _ (by omega) | exact getO (by omega) | exact getL _ _ (by omega) | (simp; done)) ?_)
         | refine wpL_op rfl rfl rfl (OpA.iload rfl ti3 rfl (by first | rfl | exact getM _ _ _ (by omega) | exact getO (by omega) | exact getL _ _ (by omega) | (simp; done)) ?_)
       refine wpL_op rfl rfl rfl (OpA.asn rfl (by with_reducible conv => lhs; whnf) ?_)
       refine wpL_nil ?_
       refine wpA_seq ?_
       refine wpA_region ?_
       refine wpL_op rfl rfl rfl (OpA.mv rfl (by with_reducible conv => lhs; whnf) ?_)
       refine wpL_nil ?_
       refine wpA_block ?_
       refine wpA_seq ?_
       refine wpA_region ?_
       refine wpL_op rfl rfl rfl (OpA.eql rfl rfl rfl ?_)
       refine wpL_op rfl rfl rfl (OpA.asn rfl (by with_reducible conv => lhs; whnf) ?_)
       refine wpL_nil ?_
       refine wpA_cond rfl (fun b2 => ?_) (fun b2 => ?_)
       try simp only [decide_eq_true_eq, decide_eq_false_iff_not, beq_iff_eq, bne_iff_ne, beq_eq_false_iff_ne, bne_eq_false_iff_eq, Bool.not_eq_true', Bool.not_eq_false', Int.not_lt, Int.not_le, gt_iff_lt, ge_iff_le, ne_eq] at b2
       first
         | (exfalso; (first | contradiction | omega); trace "PRUNED kept_fun L0TT .")
         | (refine wpA_seq ?_
            refine wpA_region ?_
            refine wpL_op rfl rfl rfl (OpA.mv rfl (by with_reducible conv => lhs; whnf) ?_)
            refine wpL_op rfl rfl rfl (OpA.mv rfl (by with_reducible conv => lhs; whnf) ?_)
            refine wpL_op rfl rfl rfl (OpA.mv rfl (by with_reducible conv => lhs; whnf) ?_)
            refine wpL_op rfl rfl rfl (OpA.buildArr (zs := [.v (.int .i64 0), .v (.int .i64 0)]) rfl td34 ti3 tz34 (fun _ _ => (.cons (.v _) (.cons (.v _) .nil))) (.cons (.of (sz := 1) rfl) (.cons (.of (sz := 1) rfl) .nil)) rfl ?_)
            refine wpL_op rfl rfl rfl (OpA.ibuildSliceO rfl ts33 rfl (.cons (.of (sz := 2) rfl) .nil) (by decide) ?_)
            first
              | refine wpL_op rfl rfl rfl (OpA.appendV rfl rfl rfl rfl ts33 rfl (fun _ _ => .head) (by first | exact .list | exact .nil | exact .own .head (by omega)) (by first | omega | (simp; omega)) (by first | omega | (simp; omega)) (by first | omega | (simp; omega)) (fun c23 p23 => ?_))
              | refine wpL_op rfl rfl rfl (OpA.appendV (pre := []) rfl rfl rfl rfl ts33 rfl (fun _ _ => .head) (by first | exact .list | exact .nil | exact .own .head (by omega)) (by first | omega | (simp; omega)) (by first | omega | (simp; omega)) (by first | omega | (simp; omega)) (fun c23 p23 => ?_))
            refine wpL_op rfl rfl rfl (OpA.asn rfl (by with_reducible conv => lhs; whnf) ?_)
            refine wpL_nil ?_
            refine wpA_region ?_
            refine wpL_op rfl rfl rfl (OpA.mv rfl (by with_reducible conv => lhs; whnf) ?_)
            refine wpL_op rfl rfl rfl (OpA.addi rfl rfl rfl (by omega) ?_)
            refine wpL_op rfl rfl rfl (OpA.mv rfl (by with_reducible conv => lhs; whnf) ?_)
            refine wpL_op rfl rfl rfl (OpA.addi rfl rfl rfl (by omega) ?_)
            refine wpL_op rfl rfl rfl (OpA.asn rfl (by with_reducible conv => lhs; whnf) ?_)
            refine wpL_op rfl rfl rfl (OpA.asn rfl (by with_reducible conv => lhs; whnf) ?_)
            refine wpL_nil ?_
            refine wpA_region ?_
            refine wpL_op rfl rfl rfl (OpA.addi rfl rfl rfl (by omega) ?_)
            refine wpL_op rfl rfl rfl (OpA.mv rfl (by with_reducible conv => lhs; whnf) ?_)
            refine wpL_nil ?_
            first
              | exact ⟨_, _, by omega, ⟨k0 + 1, i + 1, j + 1, o ++ [((i : Int), (j : Int))], _, _, xs ++ [.agg [.i (i : Int), .i (j : Int)]], n + 1, rfl, ⟨by omega, keptR_succ (by omega) hst (by first | exact kept1 (by omega) | exact kept2 (by omega) | exact kept3 (by omega) | exact kept4 (by omega)), by omega, by omega, by first | exact snoc_pair hxs | exact hxs, by (simp at *; omega), by omega⟩, rfl, rfl⟩, Cov.asg ⟨rfl, rfl, rfl, rfl, rfl, rfl, rfl, trivial⟩⟩
              | exact ⟨_, _, by omega, ⟨k0 + 1, i + 1, j + 1, o, _, _, xs, n, rfl, ⟨by omega, keptR_succ (by omega) hst (by first | exact kept1 (by omega) | exact kept2 (by omega) | exact kept3 (by omega) | exact kept4 (by omega)), by omega, by omega, by first | exact snoc_pair hxs | exact hxs, by (simp at *; omega), by omega⟩, rfl, rfl⟩, Cov.asg ⟨rfl, rfl, rfl, rfl, rfl, rfl, rfl, trivial⟩⟩
              | exact ⟨_, _, by omega, ⟨k0 + 1, i + 1, j, o, _, _, xs, n, rfl, ⟨by omega, keptR_succ (by omega) hst (by first | exact kept1 (by omega) | exact kept2 (by omega) | exact kept3 (by omega) | exact kept4 (by omega)), by omega, by omega, by first | exact snoc_pair hxs | exact hxs, by (simp at *; omega), by omega⟩, rfl, rfl⟩, Cov.asg ⟨rfl, rfl, rfl, rfl, rfl, rfl, rfl, trivial⟩⟩
              | exact ⟨_, _, by omega, ⟨k0 + 1, i, j + 1, o, _, _, xs, n, rfl, ⟨by omega, keptR_succ (by omega) hst (by first | exact kept1 (by omega) | exact kept2 (by omega) | exact kept3 (by omega) | exact kept4 (by omega)), by omega, by omega, by first | exact snoc_pair hxs | exact hxs, by (simp at *; omega), by omega⟩, rfl, rfl⟩, Cov.asg ⟨rfl, rfl, rfl, rfl, rfl, rfl, rfl, trivial⟩⟩)
       try simp only [decide_eq_true_eq, decide_eq_false_iff_not, beq_iff_eq, bne_iff_ne, beq_eq_false_iff_ne, bne_eq_false_iff_eq, Bool.not_eq_true', Bool.not_eq_false', Int.not_lt, Int.not_le, gt_iff_lt, ge_iff_le, ne_eq] at b2
       first
         | (exfalso; (first | contradiction | omega); trace "PRUNED kept_fun L0TF .")
         | (refine wpA_seq ?_
            refine wpA_region ?_
            refine wpL_op rfl rfl rfl (OpA.eql rfl rfl rfl ?_)
            refine wpL_op rfl rfl rfl (OpA.asn rfl (by with_reducible conv => lhs; whnf) ?_)
            refine wpL_nil ?_
            refine wpA_cond rfl (fun b3 => ?_) (fun b3 => ?_)
            try simp only [decide_eq_true_eq, decide_eq_false_iff_not, beq_iff_eq, bne_iff_ne, beq_eq_false_iff_ne, bne_eq_false_iff_eq, Bool.not_eq_true', Bool.not_eq_false', Int.not_lt, Int.not_le, gt_iff_lt, ge_iff_le, ne_eq] at b3
            first
              | (exfalso; (first | contradiction | omega); trace "PRUNED kept_fun L0TFT .")
              | (refine wpA_region ?_
                 refine wpL_op rfl rfl rfl (OpA.mv rfl (by with_reducible conv => lhs; whnf) ?_)
                 refine wpL_op rfl rfl rfl (OpA.addi rfl rfl rfl (by omega) ?_)
                 refine wpL_op rfl rfl rfl (OpA.mv rfl (by with_reducible conv => lhs; whnf) ?_)
                 refine wpL_op rfl rfl rfl (OpA.addi rfl rfl rfl (by omega) ?_)
                 refine wpL_op rfl rfl rfl (OpA.asn rfl (by with_reducible conv => lhs; whnf) ?_)
                 refine wpL_op rfl rfl rfl (OpA.asn rfl (by with_reducible conv => lhs; whnf) ?_)
                 refine wpL_nil ?_
                 refine wpA_region ?_
                 refine wpL_op rfl rfl rfl (OpA.addi rfl rfl rfl (by omega) ?_)
                 refine wpL_op rfl rfl rfl (OpA.mv rfl (by with_reducible conv => lhs; whnf) ?_)
                 refine wpL_nil ?_
                 first
                   | exact ⟨_, _, by omega, ⟨k0 + 1, i + 1, j + 1, o ++ [((i : Int), (j : Int))], _, _, xs ++ [.agg [.i (i : Int), .i (j : Int)]], n + 1, rfl, ⟨by omega, keptR_succ (by omega) hst (by first | exact kept1 (by omega) | exact kept2 (by omega) | exact kept3 (by omega) | exact kept4 (by omega)), by omega, by omega, by first | exact snoc_pair hxs | exact hxs, by (simp at *; omega), by omega⟩, rfl, rfl⟩, Cov.asg ⟨rfl, rfl, rfl, rfl, rfl, rfl, rfl, trivial⟩⟩
                   | exact ⟨_, _, by omega, ⟨k0 + 1, i + 1, j + 1, o, _, _, xs, n, rfl, ⟨by omega, keptR_succ (by omega) hst (by first | exact kept1 (by omega) | exact kept2 (by omega) | exact kept3 (by omega) | exact kept4 (by omega)), by omega, by omega, by first | exact snoc_pair hxs | exact hxs, by (simp at *; omega), by omega⟩, rfl, rfl⟩, Cov.asg ⟨rfl, rfl, rfl, rfl, rfl, rfl, rfl, trivial⟩⟩
                   | exact ⟨_, _, by omega, ⟨k0 + 1, i + 1, j, o, _, _, xs, n, rfl, ⟨by omega, keptR_succ (by omega) hst (by first | exact kept1 (by omega) | exact kept2 (by omega) | exact kept3 (by omega) | exact kept4 (by omega)), by omega, by omega, by first | exact snoc_pair hxs | exact hxs, by (simp at *; omega), by omega⟩, rfl, rfl⟩, Cov.asg ⟨rfl, rfl, rfl, rfl, rfl, rfl, rfl, trivial⟩⟩
                   | exact ⟨_, _, by omega, ⟨k0 + 1, i, j + 1, o, _, _, xs, n, rfl, ⟨by omega, keptR_succ (by omega) hst (by first | exact kept1 (by omega) | exact kept2 (by omega) | exact kept3 (by omega) | exact kept4 (by omega)), by omega, by omega, by first | exact snoc_pair hxs | exact hxs, by (simp at *; omega), by omega⟩, rfl, rfl⟩, Cov.asg ⟨rfl, rfl, rfl, rfl, rfl, rfl, rfl, trivial⟩⟩)
            try simp only [decide_eq_true_eq, decide_eq_false_iff_not, beq_iff_eq, bne_iff_ne, beq_eq_false_iff_ne, bne_eq_false_iff_eq, Bool.not_eq_true', Bool.not_eq_false', Int.not_lt, Int.not_le, gt_iff_lt, ge_iff_le, ne_eq] at b3
            first
              | (exfalso; (first | contradiction | omega); trace "PRUNED kept_fun L0TFF .")
              | (refine wpA_seq ?_
                 refine wpA_region ?_
                 refine wpL_op rfl rfl rfl (OpA.eql rfl rfl rfl ?_)
                 refine wpL_op rfl rfl rfl (OpA.asn rfl (by with_reducible conv => lhs; whnf) ?_)
                 refine wpL_nil ?_
                 refine wpA_cond rfl (fun b4 => ?_) (fun b4 => ?_)
                 try simp only [decide_eq_true_eq, decide_eq_false_iff_not, beq_iff_eq, bne_iff_ne, beq_eq_false_iff_ne, bne_eq_false_iff_eq, Bool.not_eq_true', Bool.not_eq_false', Int.not_lt, Int.not_le, gt_iff_lt, ge_iff_le, ne_eq] at b4
                 first
                   | (exfalso; (first | contradiction | omega); trace "PRUNED kept_fun L0TFFT .")
                   | (refine wpA_region ?_
                      refine wpL_op rfl rfl rfl (OpA.mv rfl (by with_reducible conv => lhs; whnf) ?_)
                      refine wpL_op rfl rfl rfl (OpA.addi rfl rfl rfl (by omega) ?_)
                      refine wpL_op rfl rfl rfl (OpA.asn rfl (by with_reducible conv => lhs; whnf) ?_)
                      refine wpL_nil ?_
                      refine wpA_region ?_
                      refine wpL_op rfl rfl rfl (OpA.addi rfl rfl rfl (by omega) ?_)
                      refine wpL_op rfl rfl rfl (OpA.mv rfl (by with_reducible conv => lhs; whnf) ?_)
                      refine wpL_nil ?_
                      first
                        | exact ⟨_, _, by omega, ⟨k0 + 1, i + 1, j + 1, o ++ [((i : Int), (j : Int))], _, _, xs ++ [.agg [.i (i : Int), .i (j : Int)]], n + 1, rfl, ⟨by omega, keptR_succ (by omega) hst (by first | exact kept1 (by omega) | exact kept2 (by omega) | exact kept3 (by omega) | exact kept4 (by omega)), by omega, by omega, by first | exact snoc_pair hxs | exact hxs, by (simp at *; omega), by omega⟩, rfl, rfl⟩, Cov.asg ⟨rfl, rfl, rfl, rfl, rfl, rfl, rfl, trivial⟩⟩
                        | exact ⟨_, _, by omega, ⟨k0 + 1, i + 1, j + 1, o, _, _, xs, n, rfl, ⟨by omega, keptR_succ (by omega) hst (by first | exact kept1 (by omega) | exact kept2 (by omega) | exact kept3 (by omega) | exact kept4 (by omega)), by omega, by omega, by first | exact snoc_pair hxs | exact hxs, by (simp at *; omega), by omega⟩, rfl, rfl⟩, Cov.asg ⟨rfl, rfl, rfl, rfl, rfl, rfl, rfl, trivial⟩⟩
                        | exact ⟨_, _, by omega, ⟨k0 + 1, i + 1, j, o, _, _, xs, n, rfl, ⟨by omega, keptR_succ (by omega) hst (by first | exact kept1 (by omega) | exact kept2 (by omega) | exact kept3 (by omega) | exact kept4 (by omega)), by omega, by omega, by first | exact snoc_pair hxs | exact hxs, by (simp at *; omega), by omega⟩, rfl, rfl⟩, Cov.asg ⟨rfl, rfl, rfl, rfl, rfl, rfl, rfl, trivial⟩⟩
                        | exact ⟨_, _, by omega, ⟨k0 + 1, i, j + 1, o, _, _, xs, n, rfl, ⟨by omega, keptR_succ (by omega) hst (by first | exact kept1 (by omega) | exact kept2 (by omega) | exact kept3 (by omega) | exact kept4 (by omega)), by omega, by omega, by first | exact snoc_pair hxs | exact hxs, by (simp at *; omega), by omega⟩, rfl, rfl⟩, Cov.asg ⟨rfl, rfl, rfl, rfl, rfl, rfl, rfl, trivial⟩⟩)
                 try simp only [decide_eq_true_eq, decide_eq_false_iff_not, beq_iff_eq, bne_iff_ne, beq_eq_false_iff_ne, bne_eq_false_iff_eq, Bool.not_eq_true', Bool.not_eq_false', Int.not_lt, Int.not_le, gt_iff_lt, ge_iff_le, ne_eq] at b4
                 first
                   | (exfalso; (first | contradiction | omega); trace "PRUNED kept_fun L0TFFF .")
                   | (refine wpA_seq ?_
                      refine wpA_region ?_
                      refine wpL_op rfl rfl rfl (OpA.eql rfl rfl rfl ?_)
                      refine wpL_op rfl rfl rfl (OpA.asn rfl (by with_reducible conv => lhs; whnf) ?_)
                      refine wpL_nil ?_
                      refine wpA_cond rfl (fun b5 => ?_) (fun b5 => ?_)
                      try simp only [decide_eq_true_eq, decide_eq_false_iff_not, beq_iff_eq, bne_iff_ne, beq_eq_false_iff_ne, bne_eq_false_iff_eq, Bool.not_eq_true', Bool.not_eq_false', Int.not_lt, Int.not_le, gt_iff_lt, ge_iff_le, ne_eq] at b5
                      first
                        | (exfalso; (first | contradiction | omega); trace "PRUNED kept_fun L0TFFFT .")
                        | (refine wpA_region ?_
                           refine wpL_op rfl rfl rfl (OpA.mv rfl (by with_reducible conv => lhs; whnf) ?_)
                           refine wpL_op rfl rfl rfl (OpA.addi rfl rfl rfl (by omega) ?_)
                           refine wpL_op rfl rfl rfl (OpA.asn rfl (by with_reducible conv => lhs; whnf) ?_)
                           refine wpL_nil ?_
                           refine wpA_region ?_
                           refine wpL_op rfl rfl rfl (OpA.addi rfl rfl rfl (by omega) ?_)
                           refine wpL_op rfl rfl rfl (OpA.mv rfl (by with_reducible conv => lhs; whnf) ?_)
                           refine wpL_nil ?_
                           first
                             | exact ⟨_, _, by omega, ⟨k0 + 1, i + 1, j + 1, o ++ [((i : Int), (j : Int))], _, _, xs ++ [.agg [.i (i : Int), .i (j : Int)]], n + 1, rfl, ⟨by omega, keptR_succ (by omega) hst (by first | exact kept1 (by omega) | exact kept2 (by omega) | exact kept3 (by omega) | exact kept4 (by omega)), by omega, by omega, by first | exact snoc_pair hxs | exact hxs, by (simp at *; omega), by omega⟩, rfl, rfl⟩, Cov.asg ⟨rfl, rfl, rfl, rfl, rfl, rfl, rfl, trivial⟩⟩
                             | exact ⟨_, _, by omega, ⟨k0 + 1, i + 1, j + 1, o, _, _, xs, n, rfl, ⟨by omega, keptR_succ (by omega) hst (by first | exact kept1 (by omega) | exact kept2 (by omega) | exact kept3 (by omega) | exact kept4 (by omega)), by omega, by omega, by first | exact snoc_pair hxs | exact hxs, by (simp at *; omega), by omega⟩, rfl, rfl⟩, Cov.asg ⟨rfl, rfl, rfl, rfl, rfl, rfl, rfl, trivial⟩⟩
                             | exact ⟨_, _, by omega, ⟨k0 + 1, i + 1, j, o, _, _, xs, n, rfl, ⟨by omega, keptR_succ (by omega) hst (by first | exact kept1 (by omega) | exact kept2 (by omega) | exact kept3 (by omega) | exact kept4 (by omega)), by omega, by omega, by first | exact snoc_pair hxs | exact hxs, by (simp at *; omega), by omega⟩, rfl, rfl⟩, Cov.asg ⟨rfl, rfl, rfl, rfl, rfl, rfl, rfl, trivial⟩⟩
                             | exact ⟨_, _, by omega, ⟨k0 + 1, i, j + 1, o, _, _, xs, n, rfl, ⟨by omega, keptR_succ (by omega) hst (by first | exact kept1 (by omega) | exact kept2 (by omega) | exact kept3 (by omega) | exact kept4 (by omega)), by omega, by omega, by first | exact snoc_pair hxs | exact hxs, by (simp at *; omega), by omega⟩, rfl, rfl⟩, Cov.asg ⟨rfl, rfl, rfl, rfl, rfl, rfl, rfl, trivial⟩⟩)
                      try simp only [decide_eq_true_eq, decide_eq_false_iff_not, beq_iff_eq, bne_iff_ne, beq_eq_false_iff_ne, bne_eq_false_iff_eq, Bool.not_eq_true', Bool.not_eq_false', Int.not_lt, Int.not_le, gt_iff_lt, ge_iff_le, ne_eq] at b5
                      first
                        | (exfalso; (first | contradiction | omega); trace "PRUNED kept_fun L0TFFFF .")
                        | (refine wpA_seq ?_
                           refine wpA_region ?_
                           refine wpL_op rfl rfl rfl (OpA.asn rfl (by with_reducible conv => lhs; whnf) ?_)
                           refine wpL_nil ?_
                           refine wpA_ret ?_
                           refine ⟨_, (.tmp (by with_reducible conv => lhs; whnf) .nil), _, (.nilv (sz := 2) .nil), ?_⟩
                           (try simp only [tupD]) <;> (rw [keptF_none (keptR_none (by omega) hst (keptNone (by omega)))]; rfl))))))
  try simp only [decide_eq_true_eq, decide_eq_false_iff_not, beq_iff_eq, bne_iff_ne, beq_eq_false_iff_ne, bne_eq_false_iff_eq, Bool.not_eq_true', Bool.not_eq_false', Int.not_lt, Int.not_le, gt_iff_lt, ge_iff_le, ne_eq] at b1
  first
    | (exfalso; (first | contradiction | omega); trace "PRUNED kept_fun L0F .")
    | (refine wpA_exit ?_
       refine wpA_seq ?_
       refine wpA_region ?_
       refine wpL_op rfl rfl rfl (OpA.mv rfl (by with_reducible conv => lhs; whnf) ?_)
       refine wpL_op rfl rfl rfl (OpA.asn rfl (by with_reducible conv => lhs; whnf) ?_)
       refine wpL_nil ?_
       refine wpA_ret ?_
       refine ⟨_, (.tmp (by with_reducible conv => lhs; whnf) .nil), _, (.vec (by first | exact .head | exact .tail .head) hn (by intro hf; cases hf) .nil), ?_⟩
       (try simp only [tupD]) <;> (rw [keptF_some (by omega) hst, hxs]; rfl))

theorem rkept_fun (x : Alignment) (hlen : x.steps.length ≤ 1000000) : Fun false Try.prog 16 [encAl x] (fun d => d = encPairs (keptF x)) := by
  refine Fun.of_body Try.func16 rfl Try.ntmps16 rfl ?_
  refine wpA_seq ?_
  refine wpA_region ?_
  refine wpL_op rfl rfl rfl (OpA.bx (sz := 2) rfl (by with_reducible conv => lhs; whnf) (.of rfl) (fun c1 _ => ?_))
  refine wpL_op rfl rfl rfl (OpA.asn rfl (by with_reducible conv => lhs; whnf) ?_)
  refine wpL_nil ?_
  refine wpA_seq ?_
  refine wpA_region ?_
  refine wpL_op rfl rfl rfl (OpA.buildSliceO rfl ts33 rfl .nil (by decide) (fun c8 => ?_))
  refine wpL_op rfl rfl rfl (OpA.asn rfl (by with_reducible conv => lhs; whnf) ?_)
  refine wpL_nil ?_
  refine wpA_seq ?_
  refine wpA_region ?_
  refine wpL_op rfl rfl rfl (OpA.asn rfl (by with_reducible conv => lhs; whnf) ?_)
  refine wpL_op rfl rfl rfl (OpA.asn rfl (by with_reducible conv => lhs; whnf) ?_)
  refine wpL_nil ?_
  refine wpA_seq ?_
  refine wpA_seq ?_
  refine wpA_region ?_
  refine wpL_op rfl rfl rfl (OpA.asn rfl (by with_reducible conv => lhs; whnf) ?_)
  refine wpL_nil ?_
  refine wpA_block ?_
  refine wpA_loopE (fun mm fr h => ∃ (k0 : Nat) (i : Nat) (j : Nat) (o : List (Int × Int)) (g : Nat) (pre : List D) (xs : List D) (n : Nat), mm = x.steps.length - k0 ∧ (k0 ≤ x.steps.length ∧ keptR (x.steps.take k0) = some (i, j, o) ∧ i ≤ k0 ∧ j ≤ k0 ∧ xs = o.map encPair ∧ xs.length = n ∧ n ≤ k0) ∧ fr = asg [(1, .ptr c1 2 0 0), (2, .v (.slice none 0 0)), (3, .own g 2 pre.length n), (4, .i i), (5, .i j), (6, .i k0)] ∧ h = [(g, .cells 2 (pre ++ xs)), (c1, .cells 2 [encAl x])]) ⟨_, _, ⟨0, 0, 0, [], _, [], [], 0, rfl, ⟨by omega, rfl, by omega, by omega, rfl, rfl, by omega⟩, rfl, rfl⟩, Cov.asg ⟨rfl, rfl, rfl, rfl, rfl, rfl, trivial⟩⟩ ?_
  rintro k fr h ⟨k0, i, j, o, g, pre, xs, n, rfl, ⟨hk0, hst, hi, hj, hxs, hn, hnk⟩, rfl, rfl⟩
  refine wpA_seq ?_
  refine wpA_seq ?_
  refine wpA_region ?_
  refine wpL_op rfl rfl rfl (OpA.mv rfl (by with_reducible conv => lhs; whnf) ?_)
  refine wpL_op rfl rfl rfl (OpA.fieldAddr rfl tf27_1 rfl ?_)
  refine wpL_op rfl rfl rfl (OpA.load rfl ti25 rfl (.tail .head) (by first | rfl | exact getM _ _ _ (by omega) | exact getO (by omega) | exact getL _ _ (by omega) | (simp; done)) (by first | rfl | exact getM _ _ _ (by omega) | exact getO (by omega) | exact getL _ _ (by omega) | (simp; done)) ?_)
  first
    | refine wpL_op rfl rfl rfl (OpA.len rfl rfl rfl rfl ts25.desc (.inl ⟨_, _, rfl, (List.length_map _).symm⟩) ?_)
    | refine wpL_op rfl rfl rfl (OpA.len rfl rfl rfl rfl ts25.desc (.inl ⟨_, _, rfl, rfl⟩) ?_)
    | refine wpL_op rfl rfl rfl (OpA.len rfl rfl rfl rfl ts25.desc (.inr (.inl ⟨_, _, _, rfl⟩)) ?_)
    | refine wpL_op rfl rfl rfl (OpA.len rfl rfl rfl rfl ts25.desc (.inr (.inr ⟨rfl, rfl⟩)) ?_)
  refine wpL_op rfl rfl rfl (OpA.lss rfl rfl rfl ?_)
  refine wpL_nil ?_
  refine wpA_cond rfl (fun b1 => ?_) (fun b1 => ?_)
  try simp only [decide_eq_true_eq, decide_eq_false_iff_not, beq_iff_eq, bne_iff_ne, beq_eq_false_iff_ne, bne_eq_false_iff_eq, Bool.not_eq_true', Bool.not_eq_false', Int.not_lt, Int.not_le, gt_iff_lt, ge_iff_le, ne_eq] at b1
  refine wpA_skip ?_
  refine wpA_seq ?_
  refine wpA_block ?_
  refine wpA_seq ?_
  refine wpA_region ?_
  refine wpL_op rfl rfl rfl (OpA.fieldAddr rfl tf27_1 rfl ?_)
  refine wpL_op rfl rfl rfl (OpA.load rfl ti25 rfl (.tail .head) (by first | rfl | exact getM _ _ _ (by omega) | exact getO (by omega) | exact getL _ _ (by omega) | (simp; done)) (by first | rfl | exact getM _ _ _ (by omega) | exact getO (by omega) | exact getL _ _ (by omega) | (simp; done)) ?_)
  refine wpL_op rfl rfl rfl (OpA.mv rfl (by with_reducible conv => lhs; whnf) ?_)
  first
    | refine wpL_op rfl rfl rfl (OpA.iixN rfl ts25 rfl rfl rfl (by first | exact nat_lit0 | exact nat_lit1 | exact nat_lit2 | exact nat_add1 _ | exact nat_add _ _ | exact rfl | exact nat_sub1 (by omega) | exact nat_sub (by omega) | exact natp1 (nat_sub (by omega)) | exact nat_of (by omega)) (by first | rfl | exact getM _ _ _ (by omega) | exact getO (by omega) | exact getL _ _ (by omega) | (simp; done)) ?_)
    | refine wpL_op rfl rfl rfl (OpA.ixN rfl ts25 rfl rfl (by first | exact nat_lit0 | exact nat_lit1 | exact nat_lit2 | exact nat_add1 _ | exact nat_add _ _ | exact rfl | exact nat_sub1 (by omega) | exact nat_sub (by omega) | exact natp1 (nat_sub (by omega)) | exact nat_of (by omega)) (by omega) ?_)
  first
    | refine wpL_op rfl rfl rfl (OpA.load rfl ti3 rfl (by first | exact .head | exact .tail .head | exact .tail (.tail .head) | exact .tail (.tail (.tail .head)) | exact .tail (.tail (.tail (.tail .head)))) (by first | rfl | exact getM _ _ _ (by omega) | exact getO (by omega) | exact getL _ _ (by omega) | (simp; done)) (by first | rfl | exact getM _ _ _ (by omega) | exact getO (by omega) | exact getL _ _ (by omega) | (simp; done)) ?_)
    | refine wpL_op rfl rfl rfl (OpA.iload rfl ti3 rfl (by first | rfl | exact getM _ _ _ (by omega) | exact getO (by omega) | exact getL _ _ (by omega) | (simp; done)) ?_)
  refine wpL_op rfl rfl rfl (OpA.asn rfl (by with_reducible conv => lhs; whnf) ?_)
  refine wpL_nil ?_
  refine wpA_seq ?_
  refine wpA_seq ?_
  refine wpA_region ?_
  refine wpL_op rfl rfl rfl (OpA.mv rfl (by with_reducible conv => lhs; whnf) ?_)
  refine wpL_op rfl rfl rfl (OpA.lss rfl rfl rfl ?_)
  refine wpL_op rfl rfl rfl (OpA.mv rfl (by with_reducible conv => lhs; whnf) ?_)
  refine wpL_split (s := 23) rfl (fun b2 => ?_) (fun b2 => ?_)
  try simp only [decide_eq_true_eq, decide_eq_false_iff_not, beq_iff_eq, bne_iff_ne, beq_eq_false_iff_ne, bne_eq_false_iff_eq, Bool.not_eq_true', Bool.not_eq_false', Int.not_lt, Int.not_le, gt_iff_lt, ge_iff_le, ne_eq] at b2
  refine wpL_skip rfl rfl rfl rfl rfl rfl ?_
  refine wpL_skip rfl rfl rfl rfl rfl rfl ?_
  refine wpL_op rfl rfl rfl (OpA.pck rfl rfl (by with_reducible conv => lhs; whnf) ?_)
  refine wpL_nil ?_
  refine wpA_condT rfl ?_
  refine wpA_seq ?_
  refine wpA_region ?_
  refine wpL_op rfl rfl rfl (OpA.asn rfl (by with_reducible conv => lhs; whnf) ?_)
  refine wpL_nil ?_
  refine wpA_ret ?_
  refine ⟨_, (.tmp (by with_reducible conv => lhs; whnf) .nil), _, (.nilv (sz := 2) .nil), ?_⟩
  (try simp only [tupD]) <;> (rw [keptF_none (keptR_none (by omega) hst (keptNone (by omega)))]; rfl)
  try simp only [decide_eq_true_eq, decide_eq_false_iff_not, beq_iff_eq, bne_iff_ne, beq_eq_false_iff_ne, bne_eq_false_iff_eq, Bool.not_eq_true', Bool.not_eq_false', Int.not_lt, Int.not_le, gt_iff_lt, ge_iff_le, ne_eq] at b2
  refine wpL_opg rfl rfl rfl rfl rfl rfl (OpA.mv rfl (by with_reducible conv => lhs; whnf) ?_)
  refine wpL_opg rfl rfl rfl rfl rfl rfl (OpA.gtr rfl rfl rfl ?_)
  refine wpL_op rfl rfl rfl (OpA.pck rfl rfl (by with_reducible conv => lhs; whnf) ?_)
  refine wpL_nil ?_
  refine wpA_cond rfl (fun b3 => ?_) (fun b3 => ?_)
  try simp only [decide_eq_true_eq, decide_eq_false_iff_not, beq_iff_eq, bne_iff_ne, beq_eq_false_iff_ne, bne_eq_false_iff_eq, Bool.not_eq_true', Bool.not_eq_false', Int.not_lt, Int.not_le, gt_iff_lt, ge_iff_le, ne_eq] at b3
  refine wpA_seq ?_
  refine wpA_region ?_
  refine wpL_op rfl rfl rfl (OpA.asn rfl (by with_reducible conv => lhs; whnf) ?_)
  refine wpL_nil ?_
  refine wpA_ret ?_
  refine ⟨_, (.tmp (by with_reducible conv => lhs; whnf) .nil), _, (.nilv (sz := 2) .nil), ?_⟩
  (try simp only [tupD]) <;> (rw [keptF_none (keptR_none (by omega) hst (keptNone (by omega)))]; rfl)
  try simp only [decide_eq_true_eq, decide_eq_false_iff_not, beq_iff_eq, bne_iff_ne, beq_eq_false_iff_ne, bne_eq_false_iff_eq, Bool.not_eq_true', Bool.not_eq_false', Int.not_lt, Int.not_le, gt_iff_lt, ge_iff_le, ne_eq] at b3
  refine wpA_skip ?_
  refine wpA_seq ?_
  refine wpA_seq ?_
  refine wpA_region ?_
  refine wpL_op rfl rfl rfl (OpA.mv rfl (by with_reducible conv => lhs; whnf) ?_)
  refine wpL_op rfl rfl rfl (OpA.eql rfl rfl rfl ?_)
  refine wpL_nil ?_
  refine wpA_cond rfl (fun b4 => ?_) (fun b4 => ?_)
  try simp only [decide_eq_true_eq, decide_eq_false_iff_not, beq_iff_eq, bne_iff_ne, beq_eq_false_iff_ne, bne_eq_false_iff_eq, Bool.not_eq_true', Bool.not_eq_false', Int.not_lt, Int.not_le, gt_iff_lt, ge_iff_le, ne_eq] at b4
  refine wpA_region ?_
  refine wpL_op rfl rfl rfl (OpA.mv rfl (by with_reducible conv => lhs; whnf) ?_)
  refine wpL_op rfl rfl rfl (OpA.mv rfl (by with_reducible conv => lhs; whnf) ?_)
  refine wpL_op rfl rfl rfl (OpA.mv rfl (by with_reducible conv => lhs; whnf) ?_)
  refine wpL_op rfl rfl rfl (OpA.buildArr (zs := [.v (.int .i64 0), .v (.int .i64 0)]) rfl td34 ti3 tz34 (fun _ _ => (.cons (.v _) (.cons (.v _) .nil))) (.cons (.of (sz := 1) rfl) (.cons (.of (sz := 1) rfl) .nil)) rfl ?_)
  refine wpL_op rfl rfl rfl (OpA.ibuildSliceO rfl ts33 rfl (.cons (.of (sz := 2) rfl) .nil) (by decide) ?_)
  first
    | refine wpL_op rfl rfl rfl (OpA.appendV rfl rfl rfl rfl ts33 rfl (fun _ _ => .head) (by first | exact .list | exact .nil | exact .own .head (by omega)) (by first | omega | (simp; omega)) (by first | omega | (simp; omega)) (by first | omega | (simp; omega)) (fun c34 p34 => ?_))
    | refine wpL_op rfl rfl rfl (OpA.appendV (pre := []) rfl rfl rfl rfl ts33 rfl (fun _ _ => .head) (by first | exact .list | exact .nil | exact .own .head (by omega)) (by first | omega | (simp; omega)) (by first | omega | (simp; omega)) (by first | omega | (simp; omega)) (fun c34 p34 => ?_))
  refine wpL_op rfl rfl rfl (OpA.asn rfl (by with_reducible conv => lhs; whnf) ?_)
  refine wpL_nil ?_
  refine wpA_seq ?_
  refine wpA_seq ?_
  refine wpA_region ?_
  refine wpL_op rfl rfl rfl (OpA.mv rfl (by with_reducible conv => lhs; whnf) ?_)
  refine wpL_op rfl rfl rfl (OpA.neq rfl rfl rfl ?_)
  refine wpL_nil ?_
  refine wpA_cond rfl (fun b5 => ?_) (fun b5 => ?_)
  try simp only [decide_eq_true_eq, decide_eq_false_iff_not, beq_iff_eq, bne_iff_ne, beq_eq_false_iff_ne, bne_eq_false_iff_eq, Bool.not_eq_true', Bool.not_eq_false', Int.not_lt, Int.not_le, gt_iff_lt, ge_iff_le, ne_eq] at b5
  refine wpA_region ?_
  refine wpL_op rfl rfl rfl (OpA.mv rfl (by with_reducible conv => lhs; whnf) ?_)
  refine wpL_op rfl rfl rfl (OpA.addi rfl rfl rfl (by omega) ?_)
  refine wpL_op rfl rfl rfl (OpA.asn rfl (by with_reducible conv => lhs; whnf) ?_)
  refine wpL_nil ?_
  refine wpA_seq ?_
  refine wpA_region ?_
  refine wpL_op rfl rfl rfl (OpA.mv rfl (by with_reducible conv => lhs; whnf) ?_)
  refine wpL_op rfl rfl rfl (OpA.neq rfl rfl rfl ?_)
  refine wpL_nil ?_
  refine wpA_cond rfl (fun b6 => ?_) (fun b6 => ?_)
  try simp only [decide_eq_true_eq, decide_eq_false_iff_not, beq_iff_eq, bne_iff_ne, beq_eq_false_iff_ne, bne_eq_false_iff_eq, Bool.not_eq_true', Bool.not_eq_false', Int.not_lt, Int.not_le, gt_iff_lt, ge_iff_le, ne_eq] at b6
  refine wpA_region ?_
  refine wpL_op rfl rfl rfl (OpA.mv rfl (by with_reducible conv => lhs; whnf) ?_)
  refine wpL_op rfl rfl rfl (OpA.addi rfl rfl rfl (by omega) ?_)
  refine wpL_op rfl rfl rfl (OpA.asn rfl (by with_reducible conv => lhs; whnf) ?_)
  refine wpL_nil ?_
  refine wpA_region ?_
  refine wpL_op rfl rfl rfl (OpA.mv rfl (by with_reducible conv => lhs; whnf) ?_)
  refine wpL_op rfl rfl rfl (OpA.addi rfl rfl rfl (by omega) ?_)
  refine wpL_op rfl rfl rfl (OpA.asn rfl (by with_reducible conv => lhs; whnf) ?_)
  refine wpL_nil ?_
  first
    | exact ⟨_, _, by omega, ⟨k0 + 1, i + 1, j + 1, o ++ [((i : Int), (j : Int))], _, _, xs ++ [.agg [.i (i : Int), .i (j : Int)]], n + 1, rfl, ⟨by omega, keptR_succ (by omega) hst (by first | exact kept1 (by omega) | exact kept2 (by omega) | exact kept3 (by omega) | exact kept4 (by omega)), by omega, by omega, by first | exact snoc_pair hxs | exact hxs, by (simp at *; omega), by omega⟩, rfl, rfl⟩, Cov.asg ⟨rfl, rfl, rfl, rfl, rfl, rfl, trivial⟩⟩
    | exact ⟨_, _, by omega, ⟨k0 + 1, i + 1, j + 1, o, _, _, xs, n, rfl, ⟨by omega, keptR_succ (by omega) hst (by first | exact kept1 (by omega) | exact kept2 (by omega) | exact kept3 (by omega) | exact kept4 (by omega)), by omega, by omega, by first | exact snoc_pair hxs | exact hxs, by (simp at *; omega), by omega⟩, rfl, rfl⟩, Cov.asg ⟨rfl, rfl, rfl, rfl, rfl, rfl, trivial⟩⟩
    | exact ⟨_, _, by omega, ⟨k0 + 1, i + 1, j, o, _, _, xs, n, rfl, ⟨by omega, keptR_succ (by omega) hst (by first | exact kept1 (by omega) | exact kept2 (by omega) | exact kept3 (by omega) | exact kept4 (by omega)), by omega, by omega, by first | exact snoc_pair hxs | exact hxs, by (simp at *; omega), by omega⟩, rfl, rfl⟩, Cov.asg ⟨rfl, rfl, rfl, rfl, rfl, rfl, trivial⟩⟩
    | exact ⟨_, _, by omega, ⟨k0 + 1, i, j + 1, o, _, _, xs, n, rfl, ⟨by omega, keptR_succ (by omega) hst (by first | exact kept1 (by omega) | exact kept2 (by omega) | exact kept3 (by omega) | exact kept4 (by omega)), by omega, by omega, by first | exact snoc_pair hxs | exact hxs, by (simp at *; omega), by omega⟩, rfl, rfl⟩, Cov.asg ⟨rfl, rfl, rfl, rfl, rfl, rfl, trivial⟩⟩
  try simp only [decide_eq_true_eq, decide_eq_false_iff_not, beq_iff_eq, bne_iff_ne, beq_eq_false_iff_ne, bne_eq_false_iff_eq, Bool.not_eq_true', Bool.not_eq_false', Int.not_lt, Int.not_le, gt_iff_lt, ge_iff_le, ne_eq] at b6
  exfalso; first | contradiction | omega
  try simp only [decide_eq_true_eq, decide_eq_false_iff_not, beq_iff_eq, bne_iff_ne, beq_eq_false_iff_ne, bne_eq_false_iff_eq, Bool.not_eq_true', Bool.not_eq_false', Int.not_lt, Int.not_le, gt_iff_lt, ge_iff_le, ne_eq] at b5
  exfalso; first | contradiction | omega
  try simp only [decide_eq_true_eq, decide_eq_false_iff_not, beq_iff_eq, bne_iff_ne, beq_eq_false_iff_ne, bne_eq_false_iff_eq, Bool.not_eq_true', Bool.not_eq_false', Int.not_lt, Int.not_le, gt_iff_lt, ge_iff_le, ne_eq] at b4
  refine wpA_skip ?_
  refine wpA_seq ?_
  refine wpA_seq ?_
  refine wpA_region ?_
  refine wpL_op rfl rfl rfl (OpA.mv rfl (by with_reducible conv => lhs; whnf) ?_)
  refine wpL_op rfl rfl rfl (OpA.neq rfl rfl rfl ?_)
  refine wpL_nil ?_
  refine wpA_cond rfl (fun b7 => ?_) (fun b7 => ?_)
  try simp only [decide_eq_true_eq, decide_eq_false_iff_not, beq_iff_eq, bne_iff_ne, beq_eq_false_iff_ne, bne_eq_false_iff_eq, Bool.not_eq_true', Bool.not_eq_false', Int.not_lt, Int.not_le, gt_iff_lt, ge_iff_le, ne_eq] at b7
  refine wpA_region ?_
  refine wpL_op rfl rfl rfl (OpA.mv rfl (by with_reducible conv => lhs; whnf) ?_)
  refine wpL_op rfl rfl rfl (OpA.addi rfl rfl rfl (by omega) ?_)
  refine wpL_op rfl rfl rfl (OpA.asn rfl (by with_reducible conv => lhs; whnf) ?_)
  refine wpL_nil ?_
  refine wpA_seq ?_
  refine wpA_region ?_
  refine wpL_op rfl rfl rfl (OpA.mv rfl (by with_reducible conv => lhs; whnf) ?_)
  refine wpL_op rfl rfl rfl (OpA.neq rfl rfl rfl ?_)
  refine wpL_nil ?_
  refine wpA_cond rfl (fun b8 => ?_) (fun b8 => ?_)
  try simp only [decide_eq_true_eq, decide_eq_false_iff_not, beq_iff_eq, bne_iff_ne, beq_eq_false_iff_ne, bne_eq_false_iff_eq, Bool.not_eq_true', Bool.not_eq_false', Int.not_lt, Int.not_le, gt_iff_lt, ge_iff_le, ne_eq] at b8
  refine wpA_region ?_
  refine wpL_op rfl rfl rfl (OpA.mv rfl (by with_reducible conv => lhs; whnf) ?_)
  refine wpL_op rfl rfl rfl (OpA.addi rfl rfl rfl (by omega) ?_)
  refine wpL_op rfl rfl rfl (OpA.asn rfl (by with_reducible conv => lhs; whnf) ?_)
  refine wpL_nil ?_
  refine wpA_region ?_
  refine wpL_op rfl rfl rfl (OpA.mv rfl (by with_reducible conv => lhs; whnf) ?_)
  refine wpL_op rfl rfl rfl (OpA.addi rfl rfl rfl (by omega) ?_)
  refine wpL_op rfl rfl rfl (OpA.asn rfl (by with_reducible conv => lhs; whnf) ?_)
  refine wpL_nil ?_
  first
    | exact ⟨_, _, by omega, ⟨k0 + 1, i + 1, j + 1, o ++ [((i : Int), (j : Int))], _, _, xs ++ [.agg [.i (i : Int), .i (j : Int)]], n + 1, rfl, ⟨by omega, keptR_succ (by omega) hst (by first | exact kept1 (by omega) | exact kept2 (by omega) | exact kept3 (by omega) | exact kept4 (by omega)), by omega, by omega, by first | exact snoc_pair hxs | exact hxs, by (simp at *; omega), by omega⟩, rfl, rfl⟩, Cov.asg ⟨rfl, rfl, rfl, rfl, rfl, rfl, trivial⟩⟩
    | exact ⟨_, _, by omega, ⟨k0 + 1, i + 1, j + 1, o, _, _, xs, n, rfl, ⟨by omega, keptR_succ (by omega) hst (by first | exact kept1 (by omega) | exact kept2 (by omega) | exact kept3 (by omega) | exact kept4 (by omega)), by omega, by omega, by first | exact snoc_pair hxs | exact hxs, by (simp at *; omega), by omega⟩, rfl, rfl⟩, Cov.asg ⟨rfl, rfl, rfl, rfl, rfl, rfl, trivial⟩⟩
    | exact ⟨_, _, by omega, ⟨k0 + 1, i + 1, j, o, _, _, xs, n, rfl, ⟨by omega, keptR_succ (by omega) hst (by first | exact kept1 (by omega) | exact kept2 (by omega) | exact kept3 (by omega) | exact kept4 (by omega)), by omega, by omega, by first | exact snoc_pair hxs | exact hxs, by (simp at *; omega), by omega⟩, rfl, rfl⟩, Cov.asg ⟨rfl, rfl, rfl, rfl, rfl, rfl, trivial⟩⟩
    | exact ⟨_, _, by omega, ⟨k0 + 1, i, j + 1, o, _, _, xs, n, rfl, ⟨by omega, keptR_succ (by omega) hst (by first | exact kept1 (by omega) | exact kept2 (by omega) | exact kept3 (by omega) | exact kept4 (by omega)), by omega, by omega, by first | exact snoc_pair hxs | exact hxs, by (simp at *; omega), by omega⟩, rfl, rfl⟩, Cov.asg ⟨rfl, rfl, rfl, rfl, rfl, rfl, trivial⟩⟩
  try simp only [decide_eq_true_eq, decide_eq_false_iff_not, beq_iff_eq, bne_iff_ne, beq_eq_false_iff_ne, bne_eq_false_iff_eq, Bool.not_eq_true', Bool.not_eq_false', Int.not_lt, Int.not_le, gt_iff_lt, ge_iff_le, ne_eq] at b8
  refine wpA_skip ?_
  refine wpA_region ?_
  refine wpL_op rfl rfl rfl (OpA.mv rfl (by with_reducible conv => lhs; whnf) ?_)
  refine wpL_op rfl rfl rfl (OpA.addi rfl rfl rfl (by omega) ?_)
  refine wpL_op rfl rfl rfl (OpA.asn rfl (by with_reducible conv => lhs; whnf) ?_)
  refine wpL_nil ?_
  first
    | exact ⟨_, _, by omega, ⟨k0 + 1, i + 1, j + 1, o ++ [((i : Int), (j : Int))], _, _, xs ++ [.agg [.i (i : Int), .i (j : Int)]], n + 1, rfl, ⟨by omega, keptR_succ (by omega) hst (by first | exact kept1 (by omega) | exact kept2 (by omega) | exact kept3 (by omega) | exact kept4 (by omega)), by omega, by omega, by first | exact snoc_pair hxs | exact hxs, by (simp at *; omega), by omega⟩, rfl, rfl⟩, Cov.asg ⟨rfl, rfl, rfl, rfl, rfl, rfl, trivial⟩⟩
    | exact ⟨_, _, by omega, ⟨k0 + 1, i + 1, j + 1, o, _, _, xs, n, rfl, ⟨by omega, keptR_succ (by omega) hst (by first | exact kept1 (by omega) | exact kept2 (by omega) | exact kept3 (by omega) | exact kept4 (by omega)), by omega, by omega, by first | exact snoc_pair hxs | exact hxs, by (simp at *; omega), by omega⟩, rfl, rfl⟩, Cov.asg ⟨rfl, rfl, rfl, rfl, rfl, rfl, trivial⟩⟩
    | exact ⟨_, _, by omega, ⟨k0 + 1, i + 1, j, o, _, _, xs, n, rfl, ⟨by omega, keptR_succ (by omega) hst (by first | exact kept1 (by omega) | exact kept2 (by omega) | exact kept3 (by omega) | exact kept4 (by omega)), by omega, by omega, by first | exact snoc_pair hxs | exact hxs, by (simp at *; omega), by omega⟩, rfl, rfl⟩, Cov.asg ⟨rfl, rfl, rfl, rfl, rfl, rfl, trivial⟩⟩
    | exact ⟨_, _, by omega, ⟨k0 + 1, i, j + 1, o, _, _, xs, n, rfl, ⟨by omega, keptR_succ (by omega) hst (by first | exact kept1 (by omega) | exact kept2 (by omega) | exact kept3 (by omega) | exact kept4 (by omega)), by omega, by omega, by first | exact snoc_pair hxs | exact hxs, by (simp at *; omega), by omega⟩, rfl, rfl⟩, Cov.asg ⟨rfl, rfl, rfl, rfl, rfl, rfl, trivial⟩⟩
  try simp only [decide_eq_true_eq, decide_eq_false_iff_not, beq_iff_eq, bne_iff_ne, beq_eq_false_iff_ne, bne_eq_false_iff_eq, Bool.not_eq_true', Bool.not_eq_false', Int.not_lt, Int.not_le, gt_iff_lt, ge_iff_le, ne_eq] at b7
  refine wpA_skip ?_
  refine wpA_seq ?_
  refine wpA_region ?_
  refine wpL_op rfl rfl rfl (OpA.mv rfl (by with_reducible conv => lhs; whnf) ?_)
  refine wpL_op rfl rfl rfl (OpA.neq rfl rfl rfl ?_)
  refine wpL_nil ?_
  refine wpA_cond rfl (fun b9 => ?_) (fun b9 => ?_)
  try simp only [decide_eq_true_eq, decide_eq_false_iff_not, beq_iff_eq, bne_iff_ne, beq_eq_false_iff_ne, bne_eq_false_iff_eq, Bool.not_eq_true', Bool.not_eq_false', Int.not_lt, Int.not_le, gt_iff_lt, ge_iff_le, ne_eq] at b9
  refine wpA_region ?_
  refine wpL_op rfl rfl rfl (OpA.mv rfl (by with_reducible conv => lhs; whnf) ?_)
  refine wpL_op rfl rfl rfl (OpA.addi rfl rfl rfl (by omega) ?_)
  refine wpL_op rfl rfl rfl (OpA.asn rfl (by with_reducible conv => lhs; whnf) ?_)
  refine wpL_nil ?_
  refine wpA_region ?_
  refine wpL_op rfl rfl rfl (OpA.mv rfl (by with_reducible conv => lhs; whnf) ?_)
  refine wpL_op rfl rfl rfl (OpA.addi rfl rfl rfl (by omega) ?_)
  refine wpL_op rfl rfl rfl (OpA.asn rfl (by with_reducible conv => lhs; whnf) ?_)
  refine wpL_nil ?_
  first
    | exact ⟨_, _, by omega, ⟨k0 + 1, i + 1, j + 1, o ++ [((i : Int), (j : Int))], _, _, xs ++ [.agg [.i (i : Int), .i (j : Int)]], n + 1, rfl, ⟨by omega, keptR_succ (by omega) hst (by first | exact kept1 (by omega) | exact kept2 (by omega) | exact kept3 (by omega) | exact kept4 (by omega)), by omega, by omega, by first | exact snoc_pair hxs | exact hxs, by (simp at *; omega), by omega⟩, rfl, rfl⟩, Cov.asg ⟨rfl, rfl, rfl, rfl, rfl, rfl, trivial⟩⟩
    | exact ⟨_, _, by omega, ⟨k0 + 1, i + 1, j + 1, o, _, _, xs, n, rfl, ⟨by omega, keptR_succ (by omega) hst (by first | exact kept1 (by omega) | exact kept2 (by omega) | exact kept3 (by omega) | exact kept4 (by omega)), by omega, by omega, by first | exact snoc_pair hxs | exact hxs, by (simp at *; omega), by omega⟩, rfl, rfl⟩, Cov.asg ⟨rfl, rfl, rfl, rfl, rfl, rfl, trivial⟩⟩
    | exact ⟨_, _, by omega, ⟨k0 + 1, i + 1, j, o, _, _, xs, n, rfl, ⟨by omega, keptR_succ (by omega) hst (by first | exact kept1 (by omega) | exact kept2 (by omega) | exact kept3 (by omega) | exact kept4 (by omega)), by omega, by omega, by first | exact snoc_pair hxs | exact hxs, by (simp at *; omega), by omega⟩, rfl, rfl⟩, Cov.asg ⟨rfl, rfl, rfl, rfl, rfl, rfl, trivial⟩⟩
    | exact ⟨_, _, by omega, ⟨k0 + 1, i, j + 1, o, _, _, xs, n, rfl, ⟨by omega, keptR_succ (by omega) hst (by first | exact kept1 (by omega) | exact kept2 (by omega) | exact kept3 (by omega) | exact kept4 (by omega)), by omega, by omega, by first | exact snoc_pair hxs | exact hxs, by (simp at *; omega), by omega⟩, rfl, rfl⟩, Cov.asg ⟨rfl, rfl, rfl, rfl, rfl, rfl, trivial⟩⟩
  try simp only [decide_eq_true_eq, decide_eq_false_iff_not, beq_iff_eq, bne_iff_ne, beq_eq_false_iff_ne, bne_eq_false_iff_eq, Bool.not_eq_true', Bool.not_eq_false', Int.not_lt, Int.not_le, gt_iff_lt, ge_iff_le, ne_eq] at b9
  exfalso; first | contradiction | omega
  try simp only [decide_eq_true_eq, decide_eq_false_iff_not, beq_iff_eq, bne_iff_ne, beq_eq_false_iff_ne, bne_eq_false_iff_eq, Bool.not_eq_true', Bool.not_eq_false', Int.not_lt, Int.not_le, gt_iff_lt, ge_iff_le, ne_eq] at b1
  refine wpA_exit ?_
  refine wpA_seq ?_
  refine wpA_region ?_
  refine wpL_op rfl rfl rfl (OpA.mv rfl (by with_reducible conv => lhs; whnf) ?_)
  refine wpL_op rfl rfl rfl (OpA.asn rfl (by with_reducible conv => lhs; whnf) ?_)
  refine wpL_nil ?_
  refine wpA_ret ?_
  refine ⟨_, (.tmp (by with_reducible conv => lhs; whnf) .nil), _, (.vec (by first | exact .head | exact .tail .head) hn (by intro hf; cases hf) .nil), ?_⟩
  (try simp only [tupD]) <;> (rw [keptF_some (by omega) hst, hxs]; rfl)
end Go.Proofs.Ythggcjnmodeehaa
