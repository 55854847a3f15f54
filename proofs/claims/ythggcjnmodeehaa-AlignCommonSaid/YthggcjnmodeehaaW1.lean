/-
  walks
-/
import Derived.Test.YthggcjnmodeehaaSpec
import Derived.Test.YthggcjnmodeehaaFacts
set_option linter.all false
namespace Go.Proofs.Ythggcjnmodeehaa
open Go Go.Lic

theorem cost_fun (n : Int) : Fun false Try.prog 46 [.i n] (fun d => d = .b (costB n)) := by
  refine Fun.of_body Try.func46 rfl Try.ntmps46 rfl ?_
  refine wpA_seq ?_
  refine wpA_region ?_
  refine wpL_op rfl rfl rfl (OpA.asn rfl (by with_reducible conv => lhs; whnf) ?_)
  refine wpL_nil ?_
  refine wpA_seq ?_
  refine wpA_region ?_
  refine wpL_op rfl rfl rfl (OpA.mv rfl (by with_reducible conv => lhs; whnf) ?_)
  refine wpL_op rfl rfl rfl (OpA.geq rfl rfl rfl ?_)
  refine wpL_op rfl rfl rfl (OpA.mv rfl (by with_reducible conv => lhs; whnf) ?_)
  refine wpL_split (s := 5) rfl (fun b1 => ?_) (fun b1 => ?_)
  try simp only [decide_eq_true_eq, decide_eq_false_iff_not, beq_iff_eq, bne_iff_ne, beq_eq_false_iff_ne, bne_eq_false_iff_eq, Bool.not_eq_true', Bool.not_eq_false', Int.not_lt, Int.not_le, gt_iff_lt, ge_iff_le, ne_eq] at b1
  refine wpL_opg rfl rfl rfl rfl rfl rfl (OpA.mv rfl (by with_reducible conv => lhs; whnf) ?_)
  refine wpL_opg rfl rfl rfl rfl rfl rfl (OpA.leq rfl rfl rfl ?_)
  refine wpL_op rfl rfl rfl (OpA.pck rfl rfl (by with_reducible conv => lhs; whnf) ?_)
  refine wpL_op rfl rfl rfl (OpA.asn rfl (by with_reducible conv => lhs; whnf) ?_)
  refine wpL_nil ?_
  refine wpA_ret ?_
  refine ⟨_, (.tmp (by with_reducible conv => lhs; whnf) .nil), _, (.same rfl .nil), ?_⟩
  (try simp only [tupD]) <;> (first | (simp_all [costB]; done) | (simp_all [costB]; omega))
  try simp only [decide_eq_true_eq, decide_eq_false_iff_not, beq_iff_eq, bne_iff_ne, beq_eq_false_iff_ne, bne_eq_false_iff_eq, Bool.not_eq_true', Bool.not_eq_false', Int.not_lt, Int.not_le, gt_iff_lt, ge_iff_le, ne_eq] at b1
  refine wpL_skip rfl rfl rfl rfl rfl rfl ?_
  refine wpL_skip rfl rfl rfl rfl rfl rfl ?_
  refine wpL_op rfl rfl rfl (OpA.pck rfl rfl (by with_reducible conv => lhs; whnf) ?_)
  refine wpL_op rfl rfl rfl (OpA.asn rfl (by with_reducible conv => lhs; whnf) ?_)
  refine wpL_nil ?_
  refine wpA_ret ?_
  refine ⟨_, (.tmp (by with_reducible conv => lhs; whnf) .nil), _, (.same rfl .nil), ?_⟩
  (try simp only [tupD]) <;> (first | (simp_all [costB]; done) | (simp_all [costB]; omega))

theorem rcost_fun (n : Int) : Fun false Try.prog 47 [.i n] (fun d => d = .b (costB n)) := by
  refine Fun.of_body Try.func47 rfl Try.ntmps47 rfl ?_
  refine wpA_seq ?_
  refine wpA_region ?_
  refine wpL_op rfl rfl rfl (OpA.asn rfl (by with_reducible conv => lhs; whnf) ?_)
  refine wpL_nil ?_
  refine wpA_seq ?_
  refine wpA_region ?_
  refine wpL_op rfl rfl rfl (OpA.mv rfl (by with_reducible conv => lhs; whnf) ?_)
  refine wpL_op rfl rfl rfl (OpA.geq rfl rfl rfl ?_)
  refine wpL_op rfl rfl rfl (OpA.mv rfl (by with_reducible conv => lhs; whnf) ?_)
  refine wpL_split (s := 5) rfl (fun b1 => ?_) (fun b1 => ?_)
  try simp only [decide_eq_true_eq, decide_eq_false_iff_not, beq_iff_eq, bne_iff_ne, beq_eq_false_iff_ne, bne_eq_false_iff_eq, Bool.not_eq_true', Bool.not_eq_false', Int.not_lt, Int.not_le, gt_iff_lt, ge_iff_le, ne_eq] at b1
  refine wpL_opg rfl rfl rfl rfl rfl rfl (OpA.mv rfl (by with_reducible conv => lhs; whnf) ?_)
  refine wpL_opg rfl rfl rfl rfl rfl rfl (OpA.leq rfl rfl rfl ?_)
  refine wpL_op rfl rfl rfl (OpA.pck rfl rfl (by with_reducible conv => lhs; whnf) ?_)
  refine wpL_op rfl rfl rfl (OpA.asn rfl (by with_reducible conv => lhs; whnf) ?_)
  refine wpL_nil ?_
  refine wpA_ret ?_
  refine ⟨_, (.tmp (by with_reducible conv => lhs; whnf) .nil), _, (.same rfl .nil), ?_⟩
  (try simp only [tupD]) <;> (first | (simp_all [costB]; done) | (simp_all [costB]; omega))
  try simp only [decide_eq_true_eq, decide_eq_false_iff_not, beq_iff_eq, bne_iff_ne, beq_eq_false_iff_ne, bne_eq_false_iff_eq, Bool.not_eq_true', Bool.not_eq_false', Int.not_lt, Int.not_le, gt_iff_lt, ge_iff_le, ne_eq] at b1
  refine wpL_skip rfl rfl rfl rfl rfl rfl ?_
  refine wpL_skip rfl rfl rfl rfl rfl rfl ?_
  refine wpL_op rfl rfl rfl (OpA.pck rfl rfl (by with_reducible conv => lhs; whnf) ?_)
  refine wpL_op rfl rfl rfl (OpA.asn rfl (by with_reducible conv => lhs; whnf) ?_)
  refine wpL_nil ?_
  refine wpA_ret ?_
  refine ⟨_, (.tmp (by with_reducible conv => lhs; whnf) .nil), _, (.same rfl .nil), ?_⟩
  (try simp only [tupD]) <;> (first | (simp_all [costB]; done) | (simp_all [costB]; omega))

theorem pair_fun (a b : Lexeme) (c : Costs) : Fun false Try.prog 40 [encLex a, encLex b, encCosts c] (fun d => d = .i (pairF a b c)) := by
  refine Fun.of_body Try.func40 rfl Try.ntmps40 rfl ?_
  refine wpA_seq ?_
  refine wpA_region ?_
  refine wpL_op rfl rfl rfl (OpA.bx (sz := 2) rfl (by with_reducible conv => lhs; whnf) (.of rfl) (fun c3 _ => ?_))
  refine wpL_op rfl rfl rfl (OpA.bx (sz := 2) rfl (by with_reducible conv => lhs; whnf) (.of rfl) (fun c4 _ => ?_))
  refine wpL_op rfl rfl rfl (OpA.bx (sz := 3) rfl (by with_reducible conv => lhs; whnf) (.of rfl) (fun c5 _ => ?_))
  refine wpL_op rfl rfl rfl (OpA.asn rfl (by with_reducible conv => lhs; whnf) ?_)
  refine wpL_nil ?_
  refine wpA_seq ?_
  refine wpA_seq ?_
  refine wpA_region ?_
  refine wpL_op rfl rfl rfl (OpA.fieldAddr rfl tf40_0 rfl ?_)
  refine wpL_op rfl rfl rfl (OpA.load rfl ti9 rfl (.tail (.tail .head)) (by first | rfl | exact getM _ _ _ (by omega) | exact getO (by omega) | exact getL _ _ (by omega) | (simp; done)) (by first | rfl | exact getM _ _ _ (by omega) | exact getO (by omega) | exact getL _ _ (by omega) | (simp; done)) ?_)
  refine wpL_op rfl rfl rfl (OpA.fieldAddr rfl tf40_0 rfl ?_)
  refine wpL_op rfl rfl rfl (OpA.load rfl ti9 rfl (.tail .head) (by first | rfl | exact getM _ _ _ (by omega) | exact getO (by omega) | exact getL _ _ (by omega) | (simp; done)) (by first | rfl | exact getM _ _ _ (by omega) | exact getO (by omega) | exact getL _ _ (by omega) | (simp; done)) ?_)
  refine wpL_op rfl rfl rfl (OpA.seql rfl rfl rfl ?_)
  refine wpL_nil ?_
  refine wpA_cond rfl (fun b1 => ?_) (fun b1 => ?_)
  try simp only [decide_eq_true_eq, decide_eq_false_iff_not, beq_iff_eq, bne_iff_ne, beq_eq_false_iff_ne, bne_eq_false_iff_eq, Bool.not_eq_true', Bool.not_eq_false', Int.not_lt, Int.not_le, gt_iff_lt, ge_iff_le, ne_eq] at b1
  refine wpA_seq ?_
  refine wpA_region ?_
  refine wpL_op rfl rfl rfl (OpA.asn rfl (by with_reducible conv => lhs; whnf) ?_)
  refine wpL_nil ?_
  refine wpA_ret ?_
  refine ⟨_, (.tmp (by with_reducible conv => lhs; whnf) .nil), _, (.same rfl .nil), ?_⟩
  (try simp only [tupD]) <;> (first | (simp_all [pairF]; done) | (simp_all [pairF]; omega))
  try simp only [decide_eq_true_eq, decide_eq_false_iff_not, beq_iff_eq, bne_iff_ne, beq_eq_false_iff_ne, bne_eq_false_iff_eq, Bool.not_eq_true', Bool.not_eq_false', Int.not_lt, Int.not_le, gt_iff_lt, ge_iff_le, ne_eq] at b1
  refine wpA_skip ?_
  refine wpA_seq ?_
  refine wpA_region ?_
  refine wpL_op rfl rfl rfl (OpA.fieldAddr rfl tf24_0 rfl ?_)
  refine wpL_op rfl rfl rfl (OpA.load rfl ti3 rfl .head (by first | rfl | exact getM _ _ _ (by omega) | exact getO (by omega) | exact getL _ _ (by omega) | (simp; done)) (by first | rfl | exact getM _ _ _ (by omega) | exact getO (by omega) | exact getL _ _ (by omega) | (simp; done)) ?_)
  refine wpL_op rfl rfl rfl (OpA.asn rfl (by with_reducible conv => lhs; whnf) ?_)
  refine wpL_nil ?_
  refine wpA_ret ?_
  refine ⟨_, (.tmp (by with_reducible conv => lhs; whnf) .nil), _, (.same rfl .nil), ?_⟩
  (try simp only [tupD]) <;> (first | (simp_all [pairF]; done) | (simp_all [pairF]; omega))

theorem price_fun (a b : Lexeme) (c : Costs) : Fun false Try.prog 38 [encLex a, encLex b, encCosts c] (fun d => d = .i (pairF a b c)) := by
  refine Fun.of_body Try.func38 rfl Try.ntmps38 rfl ?_
  refine wpA_seq ?_
  refine wpA_region ?_
  refine wpL_op rfl rfl rfl (OpA.bx (sz := 2) rfl (by with_reducible conv => lhs; whnf) (.of rfl) (fun c3 _ => ?_))
  refine wpL_op rfl rfl rfl (OpA.bx (sz := 2) rfl (by with_reducible conv => lhs; whnf) (.of rfl) (fun c4 _ => ?_))
  refine wpL_op rfl rfl rfl (OpA.bx (sz := 3) rfl (by with_reducible conv => lhs; whnf) (.of rfl) (fun c5 _ => ?_))
  refine wpL_op rfl rfl rfl (OpA.asn rfl (by with_reducible conv => lhs; whnf) ?_)
  refine wpL_nil ?_
  refine wpA_seq ?_
  refine wpA_seq ?_
  refine wpA_region ?_
  refine wpL_op rfl rfl rfl (OpA.fieldAddr rfl tf40_0 rfl ?_)
  refine wpL_op rfl rfl rfl (OpA.load rfl ti9 rfl (.tail (.tail .head)) (by first | rfl | exact getM _ _ _ (by omega) | exact getO (by omega) | exact getL _ _ (by omega) | (simp; done)) (by first | rfl | exact getM _ _ _ (by omega) | exact getO (by omega) | exact getL _ _ (by omega) | (simp; done)) ?_)
  refine wpL_op rfl rfl rfl (OpA.fieldAddr rfl tf40_0 rfl ?_)
  refine wpL_op rfl rfl rfl (OpA.load rfl ti9 rfl (.tail .head) (by first | rfl | exact getM _ _ _ (by omega) | exact getO (by omega) | exact getL _ _ (by omega) | (simp; done)) (by first | rfl | exact getM _ _ _ (by omega) | exact getO (by omega) | exact getL _ _ (by omega) | (simp; done)) ?_)
  refine wpL_op rfl rfl rfl (OpA.seql rfl rfl rfl ?_)
  refine wpL_nil ?_
  refine wpA_cond rfl (fun b1 => ?_) (fun b1 => ?_)
  try simp only [decide_eq_true_eq, decide_eq_false_iff_not, beq_iff_eq, bne_iff_ne, beq_eq_false_iff_ne, bne_eq_false_iff_eq, Bool.not_eq_true', Bool.not_eq_false', Int.not_lt, Int.not_le, gt_iff_lt, ge_iff_le, ne_eq] at b1
  refine wpA_seq ?_
  refine wpA_region ?_
  refine wpL_op rfl rfl rfl (OpA.asn rfl (by with_reducible conv => lhs; whnf) ?_)
  refine wpL_nil ?_
  refine wpA_ret ?_
  refine ⟨_, (.tmp (by with_reducible conv => lhs; whnf) .nil), _, (.same rfl .nil), ?_⟩
  (try simp only [tupD]) <;> (first | (simp_all [pairF]; done) | (simp_all [pairF]; omega))
  try simp only [decide_eq_true_eq, decide_eq_false_iff_not, beq_iff_eq, bne_iff_ne, beq_eq_false_iff_ne, bne_eq_false_iff_eq, Bool.not_eq_true', Bool.not_eq_false', Int.not_lt, Int.not_le, gt_iff_lt, ge_iff_le, ne_eq] at b1
  refine wpA_skip ?_
  refine wpA_seq ?_
  refine wpA_region ?_
  refine wpL_op rfl rfl rfl (OpA.fieldAddr rfl tf24_0 rfl ?_)
  refine wpL_op rfl rfl rfl (OpA.load rfl ti3 rfl .head (by first | rfl | exact getM _ _ _ (by omega) | exact getO (by omega) | exact getL _ _ (by omega) | (simp; done)) (by first | rfl | exact getM _ _ _ (by omega) | exact getO (by omega) | exact getL _ _ (by omega) | (simp; done)) ?_)
  refine wpL_op rfl rfl rfl (OpA.asn rfl (by with_reducible conv => lhs; whnf) ?_)
  refine wpL_nil ?_
  refine wpA_ret ?_
  refine ⟨_, (.tmp (by with_reducible conv => lhs; whnf) .nil), _, (.same rfl .nil), ?_⟩
  (try simp only [tupD]) <;> (first | (simp_all [pairF]; done) | (simp_all [pairF]; omega))

theorem check_fun (a b : List Lexeme) (c : Costs) : Fun false Try.prog 36 [encWords a, encWords b, encCosts c] (fun d => d = .i (checkF a b c)) := by
  refine Fun.of_body Try.func36 rfl Try.ntmps36 rfl ?_
  refine wpA_seq ?_
  refine wpA_region ?_
  refine wpL_op rfl rfl rfl (OpA.bx (sz := 3) rfl (by with_reducible conv => lhs; whnf) (.of rfl) (fun c5 _ => ?_))
  refine wpL_op rfl rfl rfl (OpA.asn rfl (by with_reducible conv => lhs; whnf) ?_)
  refine wpL_nil ?_
  refine wpA_seq ?_
  refine wpA_block ?_
  refine wpA_seq ?_
  refine wpA_region ?_
  refine wpL_op rfl rfl rfl (OpA.fieldAddr rfl tf24_0 rfl ?_)
  refine wpL_op rfl rfl rfl (OpA.load rfl ti3 rfl .head (by first | rfl | exact getM _ _ _ (by omega) | exact getO (by omega) | exact getL _ _ (by omega) | (simp; done)) (by first | rfl | exact getM _ _ _ (by omega) | exact getO (by omega) | exact getL _ _ (by omega) | (simp; done)) ?_)
  refine wpL_op rfl rfl rfl (OpA.call rfl rfl rfl en46 (cost_fun _) ?_)
  rintro _ rfl
  refine wpL_op rfl rfl rfl (OpA.not rfl rfl ?_)
  refine wpL_op rfl rfl rfl (OpA.mv rfl (by with_reducible conv => lhs; whnf) ?_)
  refine wpL_split (s := 12) rfl (fun b1 => ?_) (fun b1 => ?_)
  try simp only [decide_eq_true_eq, decide_eq_false_iff_not, beq_iff_eq, bne_iff_ne, beq_eq_false_iff_ne, bne_eq_false_iff_eq, Bool.not_eq_true', Bool.not_eq_false', Int.not_lt, Int.not_le, gt_iff_lt, ge_iff_le, ne_eq] at b1
  refine wpL_skip rfl rfl rfl rfl rfl rfl ?_
  refine wpL_skip rfl rfl rfl rfl rfl rfl ?_
  refine wpL_skip rfl rfl rfl rfl rfl rfl ?_
  refine wpL_skip rfl rfl rfl rfl rfl rfl ?_
  refine wpL_op rfl rfl rfl (OpA.pck rfl rfl (by with_reducible conv => lhs; whnf) ?_)
  refine wpL_op rfl rfl rfl (OpA.mv rfl (by with_reducible conv => lhs; whnf) ?_)
  refine wpL_skip rfl rfl rfl rfl rfl rfl ?_
  refine wpL_skip rfl rfl rfl rfl rfl rfl ?_
  refine wpL_skip rfl rfl rfl rfl rfl rfl ?_
  refine wpL_skip rfl rfl rfl rfl rfl rfl ?_
  refine wpL_op rfl rfl rfl (OpA.pck rfl rfl (by with_reducible conv => lhs; whnf) ?_)
  refine wpL_op rfl rfl rfl (OpA.asn rfl (by with_reducible conv => lhs; whnf) ?_)
  refine wpL_nil ?_
  refine wpA_condT rfl ?_
  refine wpA_seq ?_
  refine wpA_region ?_
  refine wpL_op rfl rfl rfl (OpA.asn rfl (by with_reducible conv => lhs; whnf) ?_)
  refine wpL_nil ?_
  refine wpA_ret ?_
  refine ⟨_, (.tmp (by with_reducible conv => lhs; whnf) .nil), _, (.same rfl .nil), ?_⟩
  (try simp only [tupD]) <;> (first | (simp_all [checkF]; done) | (simp_all [checkF]; omega))
  try simp only [decide_eq_true_eq, decide_eq_false_iff_not, beq_iff_eq, bne_iff_ne, beq_eq_false_iff_ne, bne_eq_false_iff_eq, Bool.not_eq_true', Bool.not_eq_false', Int.not_lt, Int.not_le, gt_iff_lt, ge_iff_le, ne_eq] at b1
  refine wpL_opg rfl rfl rfl rfl rfl rfl (OpA.fieldAddr rfl tf24_1 rfl ?_)
  refine wpL_opg rfl rfl rfl rfl rfl rfl (OpA.load rfl ti3 rfl .head (by first | rfl | exact getM _ _ _ (by omega) | exact getO (by omega) | exact getL _ _ (by omega) | (simp; done)) (by first | rfl | exact getM _ _ _ (by omega) | exact getO (by omega) | exact getL _ _ (by omega) | (simp; done)) ?_)
  refine wpL_opg rfl rfl rfl rfl rfl rfl (OpA.call rfl rfl rfl en46 (cost_fun _) ?_)
  rintro _ rfl
  refine wpL_opg rfl rfl rfl rfl rfl rfl (OpA.not rfl rfl ?_)
  refine wpL_op rfl rfl rfl (OpA.pck rfl rfl (by with_reducible conv => lhs; whnf) ?_)
  refine wpL_op rfl rfl rfl (OpA.mv rfl (by with_reducible conv => lhs; whnf) ?_)
  refine wpL_split (s := 18) rfl (fun b2 => ?_) (fun b2 => ?_)
  try simp only [decide_eq_true_eq, decide_eq_false_iff_not, beq_iff_eq, bne_iff_ne, beq_eq_false_iff_ne, bne_eq_false_iff_eq, Bool.not_eq_true', Bool.not_eq_false', Int.not_lt, Int.not_le, gt_iff_lt, ge_iff_le, ne_eq] at b2
  refine wpL_skip rfl rfl rfl rfl rfl rfl ?_
  refine wpL_skip rfl rfl rfl rfl rfl rfl ?_
  refine wpL_skip rfl rfl rfl rfl rfl rfl ?_
  refine wpL_skip rfl rfl rfl rfl rfl rfl ?_
  refine wpL_op rfl rfl rfl (OpA.pck rfl rfl (by with_reducible conv => lhs; whnf) ?_)
  refine wpL_op rfl rfl rfl (OpA.asn rfl (by with_reducible conv => lhs; whnf) ?_)
  refine wpL_nil ?_
  refine wpA_condT rfl ?_
  refine wpA_seq ?_
  refine wpA_region ?_
  refine wpL_op rfl rfl rfl (OpA.asn rfl (by with_reducible conv => lhs; whnf) ?_)
  refine wpL_nil ?_
  refine wpA_ret ?_
  refine ⟨_, (.tmp (by with_reducible conv => lhs; whnf) .nil), _, (.same rfl .nil), ?_⟩
  (try simp only [tupD]) <;> (first | (simp_all [checkF]; done) | (simp_all [checkF]; omega))
  try simp only [decide_eq_true_eq, decide_eq_false_iff_not, beq_iff_eq, bne_iff_ne, beq_eq_false_iff_ne, bne_eq_false_iff_eq, Bool.not_eq_true', Bool.not_eq_false', Int.not_lt, Int.not_le, gt_iff_lt, ge_iff_le, ne_eq] at b2
  refine wpL_opg rfl rfl rfl rfl rfl rfl (OpA.fieldAddr rfl tf24_2 rfl ?_)
  refine wpL_opg rfl rfl rfl rfl rfl rfl (OpA.load rfl ti3 rfl .head (by first | rfl | exact getM _ _ _ (by omega) | exact getO (by omega) | exact getL _ _ (by omega) | (simp; done)) (by first | rfl | exact getM _ _ _ (by omega) | exact getO (by omega) | exact getL _ _ (by omega) | (simp; done)) ?_)
  refine wpL_opg rfl rfl rfl rfl rfl rfl (OpA.call rfl rfl rfl en46 (cost_fun _) ?_)
  rintro _ rfl
  refine wpL_opg rfl rfl rfl rfl rfl rfl (OpA.not rfl rfl ?_)
  refine wpL_op rfl rfl rfl (OpA.pck rfl rfl (by with_reducible conv => lhs; whnf) ?_)
  refine wpL_op rfl rfl rfl (OpA.asn rfl (by with_reducible conv => lhs; whnf) ?_)
  refine wpL_nil ?_
  refine wpA_cond rfl (fun b3 => ?_) (fun b3 => ?_)
  try simp only [decide_eq_true_eq, decide_eq_false_iff_not, beq_iff_eq, bne_iff_ne, beq_eq_false_iff_ne, bne_eq_false_iff_eq, Bool.not_eq_true', Bool.not_eq_false', Int.not_lt, Int.not_le, gt_iff_lt, ge_iff_le, ne_eq] at b3
  refine wpA_seq ?_
  refine wpA_region ?_
  refine wpL_op rfl rfl rfl (OpA.asn rfl (by with_reducible conv => lhs; whnf) ?_)
  refine wpL_nil ?_
  refine wpA_ret ?_
  refine ⟨_, (.tmp (by with_reducible conv => lhs; whnf) .nil), _, (.same rfl .nil), ?_⟩
  (try simp only [tupD]) <;> (first | (simp_all [checkF]; done) | (simp_all [checkF]; omega))
  try simp only [decide_eq_true_eq, decide_eq_false_iff_not, beq_iff_eq, bne_iff_ne, beq_eq_false_iff_ne, bne_eq_false_iff_eq, Bool.not_eq_true', Bool.not_eq_false', Int.not_lt, Int.not_le, gt_iff_lt, ge_iff_le, ne_eq] at b3
  refine wpA_seq ?_
  refine wpA_region ?_
  refine wpL_op rfl rfl rfl (OpA.mv rfl (by with_reducible conv => lhs; whnf) ?_)
  first
    | refine wpL_op rfl rfl rfl (OpA.len rfl rfl rfl rfl ts22.desc (.inl ⟨_, _, rfl, (List.length_map _).symm⟩) ?_)
    | refine wpL_op rfl rfl rfl (OpA.len rfl rfl rfl rfl ts22.desc (.inl ⟨_, _, rfl, rfl⟩) ?_)
    | refine wpL_op rfl rfl rfl (OpA.len rfl rfl rfl rfl ts22.desc (.inr (.inl ⟨_, _, _, rfl⟩)) ?_)
    | refine wpL_op rfl rfl rfl (OpA.len rfl rfl rfl rfl ts22.desc (.inr (.inr ⟨rfl, rfl⟩)) ?_)
  refine wpL_op rfl rfl rfl (OpA.gtr rfl rfl rfl ?_)
  refine wpL_op rfl rfl rfl (OpA.mv rfl (by with_reducible conv => lhs; whnf) ?_)
  refine wpL_split (s := 28) rfl (fun b4 => ?_) (fun b4 => ?_)
  try simp only [decide_eq_true_eq, decide_eq_false_iff_not, beq_iff_eq, bne_iff_ne, beq_eq_false_iff_ne, bne_eq_false_iff_eq, Bool.not_eq_true', Bool.not_eq_false', Int.not_lt, Int.not_le, gt_iff_lt, ge_iff_le, ne_eq] at b4
  refine wpL_skip rfl rfl rfl rfl rfl rfl ?_
  refine wpL_skip rfl rfl rfl rfl rfl rfl ?_
  refine wpL_skip rfl rfl rfl rfl rfl rfl ?_
  refine wpL_op rfl rfl rfl (OpA.pck rfl rfl (by with_reducible conv => lhs; whnf) ?_)
  refine wpL_op rfl rfl rfl (OpA.asn rfl (by with_reducible conv => lhs; whnf) ?_)
  refine wpL_nil ?_
  refine wpA_condT rfl ?_
  refine wpA_seq ?_
  refine wpA_region ?_
  refine wpL_op rfl rfl rfl (OpA.asn rfl (by with_reducible conv => lhs; whnf) ?_)
  refine wpL_nil ?_
  refine wpA_ret ?_
  refine ⟨_, (.tmp (by with_reducible conv => lhs; whnf) .nil), _, (.same rfl .nil), ?_⟩
  (try simp only [tupD]) <;> (first | (simp_all [checkF]; done) | (simp_all [checkF]; omega))
  try simp only [decide_eq_true_eq, decide_eq_false_iff_not, beq_iff_eq, bne_iff_ne, beq_eq_false_iff_ne, bne_eq_false_iff_eq, Bool.not_eq_true', Bool.not_eq_false', Int.not_lt, Int.not_le, gt_iff_lt, ge_iff_le, ne_eq] at b4
  refine wpL_opg rfl rfl rfl rfl rfl rfl (OpA.mv rfl (by with_reducible conv => lhs; whnf) ?_)
  first
    | refine wpL_opg rfl rfl rfl rfl rfl rfl (OpA.len rfl rfl rfl rfl ts22.desc (.inl ⟨_, _, rfl, (List.length_map _).symm⟩) ?_)
    | refine wpL_opg rfl rfl rfl rfl rfl rfl (OpA.len rfl rfl rfl rfl ts22.desc (.inl ⟨_, _, rfl, rfl⟩) ?_)
    | refine wpL_opg rfl rfl rfl rfl rfl rfl (OpA.len rfl rfl rfl rfl ts22.desc (.inr (.inl ⟨_, _, _, rfl⟩)) ?_)
    | refine wpL_opg rfl rfl rfl rfl rfl rfl (OpA.len rfl rfl rfl rfl ts22.desc (.inr (.inr ⟨rfl, rfl⟩)) ?_)
  refine wpL_opg rfl rfl rfl rfl rfl rfl (OpA.gtr rfl rfl rfl ?_)
  refine wpL_op rfl rfl rfl (OpA.pck rfl rfl (by with_reducible conv => lhs; whnf) ?_)
  refine wpL_op rfl rfl rfl (OpA.asn rfl (by with_reducible conv => lhs; whnf) ?_)
  refine wpL_nil ?_
  refine wpA_cond rfl (fun b5 => ?_) (fun b5 => ?_)
  try simp only [decide_eq_true_eq, decide_eq_false_iff_not, beq_iff_eq, bne_iff_ne, beq_eq_false_iff_ne, bne_eq_false_iff_eq, Bool.not_eq_true', Bool.not_eq_false', Int.not_lt, Int.not_le, gt_iff_lt, ge_iff_le, ne_eq] at b5
  refine wpA_seq ?_
  refine wpA_region ?_
  refine wpL_op rfl rfl rfl (OpA.asn rfl (by with_reducible conv => lhs; whnf) ?_)
  refine wpL_nil ?_
  refine wpA_ret ?_
  refine ⟨_, (.tmp (by with_reducible conv => lhs; whnf) .nil), _, (.same rfl .nil), ?_⟩
  (try simp only [tupD]) <;> (first | (simp_all [checkF]; done) | (simp_all [checkF]; omega))
  try simp only [decide_eq_true_eq, decide_eq_false_iff_not, beq_iff_eq, bne_iff_ne, beq_eq_false_iff_ne, bne_eq_false_iff_eq, Bool.not_eq_true', Bool.not_eq_false', Int.not_lt, Int.not_le, gt_iff_lt, ge_iff_le, ne_eq] at b5
  refine wpA_skip ?_
  refine wpA_seq ?_
  refine wpA_region ?_
  refine wpL_op rfl rfl rfl (OpA.asn rfl (by with_reducible conv => lhs; whnf) ?_)
  refine wpL_nil ?_
  refine wpA_ret ?_
  refine ⟨_, (.tmp (by with_reducible conv => lhs; whnf) .nil), _, (.same rfl .nil), ?_⟩
  (try simp only [tupD]) <;> (first | (simp_all [checkF]; done) | (simp_all [checkF]; omega))

theorem right_fun (a b : List Lexeme) (c : Costs) : Fun false Try.prog 37 [encWords a, encWords b, encCosts c] (fun d => d = .i (checkF a b c)) := by
  refine Fun.of_body Try.func37 rfl Try.ntmps37 rfl ?_
  refine wpA_seq ?_
  refine wpA_region ?_
  refine wpL_op rfl rfl rfl (OpA.bx (sz := 3) rfl (by with_reducible conv => lhs; whnf) (.of rfl) (fun c5 _ => ?_))
  refine wpL_op rfl rfl rfl (OpA.asn rfl (by with_reducible conv => lhs; whnf) ?_)
  refine wpL_nil ?_
  refine wpA_seq ?_
  refine wpA_seq ?_
  refine wpA_region ?_
  refine wpL_op rfl rfl rfl (OpA.fieldAddr rfl tf24_0 rfl ?_)
  refine wpL_op rfl rfl rfl (OpA.load rfl ti3 rfl .head (by first | rfl | exact getM _ _ _ (by omega) | exact getO (by omega) | exact getL _ _ (by omega) | (simp; done)) (by first | rfl | exact getM _ _ _ (by omega) | exact getO (by omega) | exact getL _ _ (by omega) | (simp; done)) ?_)
  refine wpL_op rfl rfl rfl (OpA.call rfl rfl rfl en47 (rcost_fun _) ?_)
  rintro _ rfl
  refine wpL_op rfl rfl rfl (OpA.not rfl rfl ?_)
  refine wpL_op rfl rfl rfl (OpA.mv rfl (by with_reducible conv => lhs; whnf) ?_)
  refine wpL_split (s := 11) rfl (fun b1 => ?_) (fun b1 => ?_)
  try simp only [decide_eq_true_eq, decide_eq_false_iff_not, beq_iff_eq, bne_iff_ne, beq_eq_false_iff_ne, bne_eq_false_iff_eq, Bool.not_eq_true', Bool.not_eq_false', Int.not_lt, Int.not_le, gt_iff_lt, ge_iff_le, ne_eq] at b1
  refine wpL_skip rfl rfl rfl rfl rfl rfl ?_
  refine wpL_skip rfl rfl rfl rfl rfl rfl ?_
  refine wpL_skip rfl rfl rfl rfl rfl rfl ?_
  refine wpL_skip rfl rfl rfl rfl rfl rfl ?_
  refine wpL_op rfl rfl rfl (OpA.pck rfl rfl (by with_reducible conv => lhs; whnf) ?_)
  refine wpL_op rfl rfl rfl (OpA.mv rfl (by with_reducible conv => lhs; whnf) ?_)
  refine wpL_skip rfl rfl rfl rfl rfl rfl ?_
  refine wpL_skip rfl rfl rfl rfl rfl rfl ?_
  refine wpL_skip rfl rfl rfl rfl rfl rfl ?_
  refine wpL_skip rfl rfl rfl rfl rfl rfl ?_
  refine wpL_op rfl rfl rfl (OpA.pck rfl rfl (by with_reducible conv => lhs; whnf) ?_)
  refine wpL_nil ?_
  refine wpA_condT rfl ?_
  refine wpA_seq ?_
  refine wpA_region ?_
  refine wpL_op rfl rfl rfl (OpA.asn rfl (by with_reducible conv => lhs; whnf) ?_)
  refine wpL_nil ?_
  refine wpA_ret ?_
  refine ⟨_, (.tmp (by with_reducible conv => lhs; whnf) .nil), _, (.same rfl .nil), ?_⟩
  (try simp only [tupD]) <;> (first | (simp_all [checkF]; done) | (simp_all [checkF]; omega))
  try simp only [decide_eq_true_eq, decide_eq_false_iff_not, beq_iff_eq, bne_iff_ne, beq_eq_false_iff_ne, bne_eq_false_iff_eq, Bool.not_eq_true', Bool.not_eq_false', Int.not_lt, Int.not_le, gt_iff_lt, ge_iff_le, ne_eq] at b1
  refine wpL_opg rfl rfl rfl rfl rfl rfl (OpA.fieldAddr rfl tf24_1 rfl ?_)
  refine wpL_opg rfl rfl rfl rfl rfl rfl (OpA.load rfl ti3 rfl .head (by first | rfl | exact getM _ _ _ (by omega) | exact getO (by omega) | exact getL _ _ (by omega) | (simp; done)) (by first | rfl | exact getM _ _ _ (by omega) | exact getO (by omega) | exact getL _ _ (by omega) | (simp; done)) ?_)
  refine wpL_opg rfl rfl rfl rfl rfl rfl (OpA.call rfl rfl rfl en47 (rcost_fun _) ?_)
  rintro _ rfl
  refine wpL_opg rfl rfl rfl rfl rfl rfl (OpA.not rfl rfl ?_)
  refine wpL_op rfl rfl rfl (OpA.pck rfl rfl (by with_reducible conv => lhs; whnf) ?_)
  refine wpL_op rfl rfl rfl (OpA.mv rfl (by with_reducible conv => lhs; whnf) ?_)
  refine wpL_split (s := 17) rfl (fun b2 => ?_) (fun b2 => ?_)
  try simp only [decide_eq_true_eq, decide_eq_false_iff_not, beq_iff_eq, bne_iff_ne, beq_eq_false_iff_ne, bne_eq_false_iff_eq, Bool.not_eq_true', Bool.not_eq_false', Int.not_lt, Int.not_le, gt_iff_lt, ge_iff_le, ne_eq] at b2
  refine wpL_skip rfl rfl rfl rfl rfl rfl ?_
  refine wpL_skip rfl rfl rfl rfl rfl rfl ?_
  refine wpL_skip rfl rfl rfl rfl rfl rfl ?_
  refine wpL_skip rfl rfl rfl rfl rfl rfl ?_
  refine wpL_op rfl rfl rfl (OpA.pck rfl rfl (by with_reducible conv => lhs; whnf) ?_)
  refine wpL_nil ?_
  refine wpA_condT rfl ?_
  refine wpA_seq ?_
  refine wpA_region ?_
  refine wpL_op rfl rfl rfl (OpA.asn rfl (by with_reducible conv => lhs; whnf) ?_)
  refine wpL_nil ?_
  refine wpA_ret ?_
  refine ⟨_, (.tmp (by with_reducible conv => lhs; whnf) .nil), _, (.same rfl .nil), ?_⟩
  (try simp only [tupD]) <;> (first | (simp_all [checkF]; done) | (simp_all [checkF]; omega))
  try simp only [decide_eq_true_eq, decide_eq_false_iff_not, beq_iff_eq, bne_iff_ne, beq_eq_false_iff_ne, bne_eq_false_iff_eq, Bool.not_eq_true', Bool.not_eq_false', Int.not_lt, Int.not_le, gt_iff_lt, ge_iff_le, ne_eq] at b2
  refine wpL_opg rfl rfl rfl rfl rfl rfl (OpA.fieldAddr rfl tf24_2 rfl ?_)
  refine wpL_opg rfl rfl rfl rfl rfl rfl (OpA.load rfl ti3 rfl .head (by first | rfl | exact getM _ _ _ (by omega) | exact getO (by omega) | exact getL _ _ (by omega) | (simp; done)) (by first | rfl | exact getM _ _ _ (by omega) | exact getO (by omega) | exact getL _ _ (by omega) | (simp; done)) ?_)
  refine wpL_opg rfl rfl rfl rfl rfl rfl (OpA.call rfl rfl rfl en47 (rcost_fun _) ?_)
  rintro _ rfl
  refine wpL_opg rfl rfl rfl rfl rfl rfl (OpA.not rfl rfl ?_)
  refine wpL_op rfl rfl rfl (OpA.pck rfl rfl (by with_reducible conv => lhs; whnf) ?_)
  refine wpL_nil ?_
  refine wpA_cond rfl (fun b3 => ?_) (fun b3 => ?_)
  try simp only [decide_eq_true_eq, decide_eq_false_iff_not, beq_iff_eq, bne_iff_ne, beq_eq_false_iff_ne, bne_eq_false_iff_eq, Bool.not_eq_true', Bool.not_eq_false', Int.not_lt, Int.not_le, gt_iff_lt, ge_iff_le, ne_eq] at b3
  refine wpA_seq ?_
  refine wpA_region ?_
  refine wpL_op rfl rfl rfl (OpA.asn rfl (by with_reducible conv => lhs; whnf) ?_)
  refine wpL_nil ?_
  refine wpA_ret ?_
  refine ⟨_, (.tmp (by with_reducible conv => lhs; whnf) .nil), _, (.same rfl .nil), ?_⟩
  (try simp only [tupD]) <;> (first | (simp_all [checkF]; done) | (simp_all [checkF]; omega))
  try simp only [decide_eq_true_eq, decide_eq_false_iff_not, beq_iff_eq, bne_iff_ne, beq_eq_false_iff_ne, bne_eq_false_iff_eq, Bool.not_eq_true', Bool.not_eq_false', Int.not_lt, Int.not_le, gt_iff_lt, ge_iff_le, ne_eq] at b3
  refine wpA_skip ?_
  refine wpA_seq ?_
  refine wpA_seq ?_
  refine wpA_region ?_
  refine wpL_op rfl rfl rfl (OpA.mv rfl (by with_reducible conv => lhs; whnf) ?_)
  first
    | refine wpL_op rfl rfl rfl (OpA.len rfl rfl rfl rfl ts22.desc (.inl ⟨_, _, rfl, (List.length_map _).symm⟩) ?_)
    | refine wpL_op rfl rfl rfl (OpA.len rfl rfl rfl rfl ts22.desc (.inl ⟨_, _, rfl, rfl⟩) ?_)
    | refine wpL_op rfl rfl rfl (OpA.len rfl rfl rfl rfl ts22.desc (.inr (.inl ⟨_, _, _, rfl⟩)) ?_)
    | refine wpL_op rfl rfl rfl (OpA.len rfl rfl rfl rfl ts22.desc (.inr (.inr ⟨rfl, rfl⟩)) ?_)
  refine wpL_op rfl rfl rfl (OpA.gtr rfl rfl rfl ?_)
  refine wpL_op rfl rfl rfl (OpA.mv rfl (by with_reducible conv => lhs; whnf) ?_)
  refine wpL_split (s := 26) rfl (fun b4 => ?_) (fun b4 => ?_)
  try simp only [decide_eq_true_eq, decide_eq_false_iff_not, beq_iff_eq, bne_iff_ne, beq_eq_false_iff_ne, bne_eq_false_iff_eq, Bool.not_eq_true', Bool.not_eq_false', Int.not_lt, Int.not_le, gt_iff_lt, ge_iff_le, ne_eq] at b4
  refine wpL_skip rfl rfl rfl rfl rfl rfl ?_
  refine wpL_skip rfl rfl rfl rfl rfl rfl ?_
  refine wpL_skip rfl rfl rfl rfl rfl rfl ?_
  refine wpL_op rfl rfl rfl (OpA.pck rfl rfl (by with_reducible conv => lhs; whnf) ?_)
  refine wpL_nil ?_
  refine wpA_condT rfl ?_
  refine wpA_seq ?_
  refine wpA_region ?_
  refine wpL_op rfl rfl rfl (OpA.asn rfl (by with_reducible conv => lhs; whnf) ?_)
  refine wpL_nil ?_
  refine wpA_ret ?_
  refine ⟨_, (.tmp (by with_reducible conv => lhs; whnf) .nil), _, (.same rfl .nil), ?_⟩
  (try simp only [tupD]) <;> (first | (simp_all [checkF]; done) | (simp_all [checkF]; omega))
  try simp only [decide_eq_true_eq, decide_eq_false_iff_not, beq_iff_eq, bne_iff_ne, beq_eq_false_iff_ne, bne_eq_false_iff_eq, Bool.not_eq_true', Bool.not_eq_false', Int.not_lt, Int.not_le, gt_iff_lt, ge_iff_le, ne_eq] at b4
  refine wpL_opg rfl rfl rfl rfl rfl rfl (OpA.mv rfl (by with_reducible conv => lhs; whnf) ?_)
  first
    | refine wpL_opg rfl rfl rfl rfl rfl rfl (OpA.len rfl rfl rfl rfl ts22.desc (.inl ⟨_, _, rfl, (List.length_map _).symm⟩) ?_)
    | refine wpL_opg rfl rfl rfl rfl rfl rfl (OpA.len rfl rfl rfl rfl ts22.desc (.inl ⟨_, _, rfl, rfl⟩) ?_)
    | refine wpL_opg rfl rfl rfl rfl rfl rfl (OpA.len rfl rfl rfl rfl ts22.desc (.inr (.inl ⟨_, _, _, rfl⟩)) ?_)
    | refine wpL_opg rfl rfl rfl rfl rfl rfl (OpA.len rfl rfl rfl rfl ts22.desc (.inr (.inr ⟨rfl, rfl⟩)) ?_)
  refine wpL_opg rfl rfl rfl rfl rfl rfl (OpA.gtr rfl rfl rfl ?_)
  refine wpL_op rfl rfl rfl (OpA.pck rfl rfl (by with_reducible conv => lhs; whnf) ?_)
  refine wpL_nil ?_
  refine wpA_cond rfl (fun b5 => ?_) (fun b5 => ?_)
  try simp only [decide_eq_true_eq, decide_eq_false_iff_not, beq_iff_eq, bne_iff_ne, beq_eq_false_iff_ne, bne_eq_false_iff_eq, Bool.not_eq_true', Bool.not_eq_false', Int.not_lt, Int.not_le, gt_iff_lt, ge_iff_le, ne_eq] at b5
  refine wpA_seq ?_
  refine wpA_region ?_
  refine wpL_op rfl rfl rfl (OpA.asn rfl (by with_reducible conv => lhs; whnf) ?_)
  refine wpL_nil ?_
  refine wpA_ret ?_
  refine ⟨_, (.tmp (by with_reducible conv => lhs; whnf) .nil), _, (.same rfl .nil), ?_⟩
  (try simp only [tupD]) <;> (first | (simp_all [checkF]; done) | (simp_all [checkF]; omega))
  try simp only [decide_eq_true_eq, decide_eq_false_iff_not, beq_iff_eq, bne_iff_ne, beq_eq_false_iff_ne, bne_eq_false_iff_eq, Bool.not_eq_true', Bool.not_eq_false', Int.not_lt, Int.not_le, gt_iff_lt, ge_iff_le, ne_eq] at b5
  refine wpA_skip ?_
  refine wpA_seq ?_
  refine wpA_region ?_
  refine wpL_op rfl rfl rfl (OpA.asn rfl (by with_reducible conv => lhs; whnf) ?_)
  refine wpL_nil ?_
  refine wpA_ret ?_
  refine ⟨_, (.tmp (by with_reducible conv => lhs; whnf) .nil), _, (.same rfl .nil), ?_⟩
  (try simp only [tupD]) <;> (first | (simp_all [checkF]; done) | (simp_all [checkF]; omega))
end Go.Proofs.Ythggcjnmodeehaa
