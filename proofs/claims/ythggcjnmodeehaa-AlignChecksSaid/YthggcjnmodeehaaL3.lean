/-
  walks
-/
import Derived.Test.YthggcjnmodeehaaW11
import Derived.Test.YthggcjnmodeehaaRows
set_option linter.unusedSimpArgs false
set_option linter.unusedVariables false
namespace Go.Proofs.Ythggcjnmodeehaa
open Go Go.Lic

theorem alignChecks_fun (a b : List Lexeme) (c : Costs) (x : Alignment) : Fun false Try.prog 3 [encWords a, encWords b, encCosts c, encAl x] (fun d => d = .b true) := by
  refine Fun.of_body Try.func3 rfl Try.ntmps3 rfl ?_
  refine wpA_seq ?_
  refine wpA_region ?_
  refine wpL_op rfl rfl rfl (OpA.bx (sz := 3) rfl (by with_reducible conv => lhs; whnf) (.of rfl) (fun c6 _ => ?_))
  refine wpL_op rfl rfl rfl (OpA.bx (sz := 2) rfl (by with_reducible conv => lhs; whnf) (.of rfl) (fun c7 _ => ?_))
  refine wpL_op rfl rfl rfl (OpA.asn rfl (by with_reducible conv => lhs; whnf) ?_)
  refine wpL_nil ?_
  refine wpA_seq ?_
  refine wpA_seq ?_
  refine wpA_region ?_
  refine wpL_op rfl rfl rfl (OpA.call rfl rfl rfl en10 (awake_fun) ?_)
  rintro _ rfl
  refine wpL_op rfl rfl rfl (OpA.not rfl rfl ?_)
  refine wpL_nil ?_
  refine wpA_cond rfl (fun b1 => ?_) (fun b1 => ?_)
  try simp only [decide_eq_true_eq, decide_eq_false_iff_not, beq_iff_eq, bne_iff_ne, beq_eq_false_iff_ne, bne_eq_false_iff_eq, Bool.not_eq_true', Bool.not_eq_false', Int.not_lt, Int.not_le, gt_iff_lt, ge_iff_le, ne_eq] at b1
  first
    | (exfalso; (first | contradiction | omega); trace "PRUNED alignChecks_fun T .")
    | (refine wpA_seq ?_
       refine wpA_region ?_
       refine wpL_op rfl rfl rfl (OpA.asn rfl (by with_reducible conv => lhs; whnf) ?_)
       refine wpL_nil ?_
       refine wpA_ret ?_
       refine ⟨_, (.tmp (by with_reducible conv => lhs; whnf) .nil), _, (.same rfl .nil), ?_⟩
       (try simp only [tupD]) <;> (first | rfl | simp_all))
  try simp only [decide_eq_true_eq, decide_eq_false_iff_not, beq_iff_eq, bne_iff_ne, beq_eq_false_iff_ne, bne_eq_false_iff_eq, Bool.not_eq_true', Bool.not_eq_false', Int.not_lt, Int.not_le, gt_iff_lt, ge_iff_le, ne_eq] at b1
  first
    | (exfalso; (first | contradiction | omega); trace "PRUNED alignChecks_fun F .")
    | (refine wpA_skip ?_
       refine wpA_seq ?_
       refine wpA_seq ?_
       refine wpA_region ?_
       refine wpL_op rfl rfl rfl (OpA.mv rfl (by with_reducible conv => lhs; whnf) ?_)
       refine wpL_op rfl rfl rfl (OpA.mv rfl (by with_reducible conv => lhs; whnf) ?_)
       refine wpL_op rfl rfl rfl (OpA.ibuildSliceO rfl ts60 rfl (.cons (.of (sz := 1) rfl) (.cons (.of (sz := 1) rfl) .nil)) (by decide) ?_)
       refine wpL_op rfl rfl rfl (OpA.call rfl rfl rfl en11 (few_fun [a, b] (by simp)) ?_)
       rintro _ rfl
       refine wpL_op rfl rfl rfl (OpA.not rfl rfl ?_)
       refine wpL_op rfl rfl rfl (OpA.mv rfl (by with_reducible conv => lhs; whnf) ?_)
       refine wpL_split (s := 16) rfl (fun b2 => ?_) (fun b2 => ?_)
       try simp only [decide_eq_true_eq, decide_eq_false_iff_not, beq_iff_eq, bne_iff_ne, beq_eq_false_iff_ne, bne_eq_false_iff_eq, Bool.not_eq_true', Bool.not_eq_false', Int.not_lt, Int.not_le, gt_iff_lt, ge_iff_le, ne_eq] at b2
       first
         | (exfalso; (first | contradiction | omega); trace "PRUNED alignChecks_fun FT .")
         | (refine wpL_skip rfl rfl rfl rfl rfl rfl ?_
            refine wpL_skip rfl rfl rfl rfl rfl rfl ?_
            refine wpL_skip rfl rfl rfl rfl rfl rfl ?_
            refine wpL_skip rfl rfl rfl rfl rfl rfl ?_
            refine wpL_op rfl rfl rfl (OpA.pck rfl rfl (by with_reducible conv => lhs; whnf) ?_)
            refine wpL_nil ?_
            refine wpA_condT rfl ?_
            refine wpA_seq ?_
            refine wpA_region ?_
            refine wpL_op rfl rfl rfl (OpA.asn rfl (by with_reducible conv => lhs; whnf) ?_)
            refine wpL_nil ?_
            refine wpA_ret ?_
            refine ⟨_, (.tmp (by with_reducible conv => lhs; whnf) .nil), _, (.same rfl .nil), ?_⟩
            (try simp only [tupD]) <;> (first | rfl | simp_all))
       try simp only [decide_eq_true_eq, decide_eq_false_iff_not, beq_iff_eq, bne_iff_ne, beq_eq_false_iff_ne, bne_eq_false_iff_eq, Bool.not_eq_true', Bool.not_eq_false', Int.not_lt, Int.not_le, gt_iff_lt, ge_iff_le, ne_eq] at b2
       first
         | (exfalso; (first | contradiction | omega); trace "PRUNED alignChecks_fun FF .")
         | (refine wpL_opg rfl rfl rfl rfl rfl rfl (OpA.fieldAddr rfl tf27_1 rfl ?_)
            refine wpL_opg rfl rfl rfl rfl rfl rfl (OpA.load rfl ti25 rfl .head (by first | rfl | exact getM _ _ _ (by omega) | exact getO (by omega) | exact getL _ _ (by omega) | (simp; done)) (by first | rfl | exact getM _ _ _ (by omega) | exact getO (by omega) | exact getL _ _ (by omega) | (simp; done)) ?_)
            first
              | refine wpL_opg rfl rfl rfl rfl rfl rfl (OpA.len rfl rfl rfl rfl ts25.desc (.inl ⟨_, _, rfl, (List.length_map _).symm⟩) ?_)
              | refine wpL_opg rfl rfl rfl rfl rfl rfl (OpA.len rfl rfl rfl rfl ts25.desc (.inl ⟨_, _, rfl, rfl⟩) ?_)
              | refine wpL_opg rfl rfl rfl rfl rfl rfl (OpA.len rfl rfl rfl rfl ts25.desc (.inr (.inl ⟨_, _, _, rfl⟩)) ?_)
              | refine wpL_opg rfl rfl rfl rfl rfl rfl (OpA.len rfl rfl rfl rfl ts25.desc (.inr (.inr ⟨rfl, rfl⟩)) ?_)
            refine wpL_opg rfl rfl rfl rfl rfl rfl (OpA.gtr rfl rfl rfl ?_)
            refine wpL_op rfl rfl rfl (OpA.pck rfl rfl (by with_reducible conv => lhs; whnf) ?_)
            refine wpL_nil ?_
            refine wpA_cond rfl (fun b3 => ?_) (fun b3 => ?_)
            try simp only [decide_eq_true_eq, decide_eq_false_iff_not, beq_iff_eq, bne_iff_ne, beq_eq_false_iff_ne, bne_eq_false_iff_eq, Bool.not_eq_true', Bool.not_eq_false', Int.not_lt, Int.not_le, gt_iff_lt, ge_iff_le, ne_eq] at b3
            first
              | (exfalso; (first | contradiction | omega); trace "PRUNED alignChecks_fun FFT .")
              | (refine wpA_seq ?_
                 refine wpA_region ?_
                 refine wpL_op rfl rfl rfl (OpA.asn rfl (by with_reducible conv => lhs; whnf) ?_)
                 refine wpL_nil ?_
                 refine wpA_ret ?_
                 refine ⟨_, (.tmp (by with_reducible conv => lhs; whnf) .nil), _, (.same rfl .nil), ?_⟩
                 (try simp only [tupD]) <;> (first | rfl | simp_all))
            try simp only [decide_eq_true_eq, decide_eq_false_iff_not, beq_iff_eq, bne_iff_ne, beq_eq_false_iff_ne, bne_eq_false_iff_eq, Bool.not_eq_true', Bool.not_eq_false', Int.not_lt, Int.not_le, gt_iff_lt, ge_iff_le, ne_eq] at b3
            first
              | (exfalso; (first | contradiction | omega); trace "PRUNED alignChecks_fun FFF .")
              | (refine wpA_skip ?_
                 refine wpA_seq ?_
                 refine wpA_draw (m := 19) mo (by kernel_rfl) rfl ?_
                 refine DetK.op rfl (OpA.mv rfl (by with_reducible conv => lhs; whnf) ⟨rfl, rfl⟩) ?_
                 refine DetK.op rfl (OpA.mv rfl (by with_reducible conv => lhs; whnf) ⟨rfl, rfl⟩) ?_
                 first
                   | refine DetK.op rfl (OpA.load_whole rfl ti24 rfl rfl (.tail .head) (by first | rfl | exact getM _ _ _ (by omega) | exact getO (by omega) | exact getL _ _ (by omega) | (simp; done)) ⟨_, rfl⟩ ⟨rfl, rfl⟩) ?_
                   | refine DetK.op rfl (OpA.load_agg rfl ti24 rfl (.tail .head) (by first | rfl | exact getM _ _ _ (by omega) | exact getO (by omega) | exact getL _ _ (by omega) | (simp; done)) rfl rfl ⟨rfl, rfl⟩) ?_
                 first
                   | refine DetK.op rfl (OpA.load_whole rfl ti27 rfl rfl .head (by first | rfl | exact getM _ _ _ (by omega) | exact getO (by omega) | exact getL _ _ (by omega) | (simp; done)) ⟨_, rfl⟩ ⟨rfl, rfl⟩) ?_
                   | refine DetK.op rfl (OpA.load_agg rfl ti27 rfl .head (by first | rfl | exact getM _ _ _ (by omega) | exact getO (by omega) | exact getL _ _ (by omega) | (simp; done)) rfl rfl ⟨rfl, rfl⟩) ?_
                 refine DetK.op rfl (OpA.call rfl rfl rfl en12 (checkAl_fun a b c x (by omega)) (by rintro _ rfl; exact ⟨rfl, rfl⟩)) ?_
                 refine DetK.op rfl (OpA.mv rfl (by with_reducible conv => lhs; whnf) ⟨rfl, rfl⟩) ?_
                 refine DetK.op rfl (OpA.mv rfl (by with_reducible conv => lhs; whnf) ⟨rfl, rfl⟩) ?_
                 first
                   | refine DetK.op rfl (OpA.load_whole rfl ti24 rfl rfl (.tail .head) (by first | rfl | exact getM _ _ _ (by omega) | exact getO (by omega) | exact getL _ _ (by omega) | (simp; done)) ⟨_, rfl⟩ ⟨rfl, rfl⟩) ?_
                   | refine DetK.op rfl (OpA.load_agg rfl ti24 rfl (.tail .head) (by first | rfl | exact getM _ _ _ (by omega) | exact getO (by omega) | exact getL _ _ (by omega) | (simp; done)) rfl rfl ⟨rfl, rfl⟩) ?_
                 first
                   | refine DetK.op rfl (OpA.load_whole rfl ti27 rfl rfl .head (by first | rfl | exact getM _ _ _ (by omega) | exact getO (by omega) | exact getL _ _ (by omega) | (simp; done)) ⟨_, rfl⟩ ⟨rfl, rfl⟩) ?_
                   | refine DetK.op rfl (OpA.load_agg rfl ti27 rfl .head (by first | rfl | exact getM _ _ _ (by omega) | exact getO (by omega) | exact getL _ _ (by omega) | (simp; done)) rfl rfl ⟨rfl, rfl⟩) ?_
                 refine DetK.op rfl (OpA.call rfl rfl rfl en13 (rcheckAl_fun a b c x (by omega)) (by rintro _ rfl; exact ⟨rfl, rfl⟩)) ?_
                 refine DetK.op rfl (OpA.eql rfl rfl rfl ⟨rfl, rfl⟩) ?_
                 refine DetK.op rfl (OpA.mv rfl (by with_reducible conv => lhs; whnf) ⟨rfl, rfl⟩) ?_
                 refine DetK_split (s := 33) rfl (fun b4 => ?_) (fun b4 => ?_)
                 try simp only [decide_eq_true_eq, decide_eq_false_iff_not, beq_iff_eq, bne_iff_ne, beq_eq_false_iff_ne, bne_eq_false_iff_eq, Bool.not_eq_true', Bool.not_eq_false', Int.not_lt, Int.not_le, gt_iff_lt, ge_iff_le, ne_eq] at b4
                 first
                   | (exfalso; (first | contradiction | omega); trace "PRUNED alignChecks_fun FFFT .")
                   | (first
                        | refine DetK.opg rfl rfl rfl rfl (OpA.load_whole rfl ti27 rfl rfl .head (by first | rfl | exact getM _ _ _ (by omega) | exact getO (by omega) | exact getL _ _ (by omega) | (simp; done)) ⟨_, rfl⟩ ⟨rfl, rfl⟩) ?_
                        | refine DetK.opg rfl rfl rfl rfl (OpA.load_agg rfl ti27 rfl .head (by first | rfl | exact getM _ _ _ (by omega) | exact getO (by omega) | exact getL _ _ (by omega) | (simp; done)) rfl rfl ⟨rfl, rfl⟩) ?_
                      refine DetK.opg rfl rfl rfl rfl (OpA.call rfl rfl rfl en15 (kept_fun x (by omega)) (by rintro _ rfl; exact ⟨rfl, rfl⟩)) ?_
                      first
                        | refine DetK.opg rfl rfl rfl rfl (OpA.load_whole rfl ti27 rfl rfl .head (by first | rfl | exact getM _ _ _ (by omega) | exact getO (by omega) | exact getL _ _ (by omega) | (simp; done)) ⟨_, rfl⟩ ⟨rfl, rfl⟩) ?_
                        | refine DetK.opg rfl rfl rfl rfl (OpA.load_agg rfl ti27 rfl .head (by first | rfl | exact getM _ _ _ (by omega) | exact getO (by omega) | exact getL _ _ (by omega) | (simp; done)) rfl rfl ⟨rfl, rfl⟩) ?_
                      refine DetK.opg rfl rfl rfl rfl (OpA.call rfl rfl rfl en16 (rkept_fun x (by omega)) (by rintro _ rfl; exact ⟨rfl, rfl⟩)) ?_
                      refine DetK.opg rfl rfl rfl rfl (OpA.call rfl rfl rfl en14 (equal_pairs (keptF x) (keptF x) (by have := keptF_len x; omega)) (by rintro _ rfl; exact ⟨rfl, rfl⟩)) ?_
                      refine DetK.op rfl (OpA.pck rfl rfl (by with_reducible conv => lhs; whnf) ⟨rfl, rfl⟩) ?_
                      refine DetK.op rfl (OpA.asn rfl (by with_reducible conv => lhs; whnf) ⟨rfl, rfl⟩) ?_
                      refine DetK.nil ?_
                      refine wpL_nil ?_
                      refine wpA_ret ?_
                      refine ⟨_, (.tmp (by with_reducible conv => lhs; whnf) .nil), _, (.same rfl .nil), ?_⟩
                      (try simp only [tupD]) <;> (first | rfl | simp_all))
                 try simp only [decide_eq_true_eq, decide_eq_false_iff_not, beq_iff_eq, bne_iff_ne, beq_eq_false_iff_ne, bne_eq_false_iff_eq, Bool.not_eq_true', Bool.not_eq_false', Int.not_lt, Int.not_le, gt_iff_lt, ge_iff_le, ne_eq] at b4
                 first
                   | (exfalso; (first | contradiction | omega); trace "PRUNED alignChecks_fun FFFF .")
                   | (refine DetK.skip rfl rfl rfl rfl ?_
                      refine DetK.skip rfl rfl rfl rfl ?_
                      refine DetK.skip rfl rfl rfl rfl ?_
                      refine DetK.skip rfl rfl rfl rfl ?_
                      refine DetK.skip rfl rfl rfl rfl ?_
                      refine DetK.op rfl (OpA.pck rfl rfl (by with_reducible conv => lhs; whnf) ⟨rfl, rfl⟩) ?_
                      refine DetK.op rfl (OpA.asn rfl (by with_reducible conv => lhs; whnf) ⟨rfl, rfl⟩) ?_
                      refine DetK.nil ?_
                      refine wpL_nil ?_
                      refine wpA_ret ?_
                      refine ⟨_, (.tmp (by with_reducible conv => lhs; whnf) .nil), _, (.same rfl .nil), ?_⟩
                      (try simp only [tupD]) <;> (first | rfl | simp_all)))))
end Go.Proofs.Ythggcjnmodeehaa
