/-
  walks
-/
import Derived.Test.YthggcjnmodeehaaW5
import Derived.Test.YthggcjnmodeehaaRule3
set_option linter.all false
namespace Go.Proofs.Ythggcjnmodeehaa
open Go Go.Lic

theorem table_h (n m : Nat) (hn : n ≤ 1025) (hm : m ≤ 1025) : CallH Try.prog 48 [.i (n : Int), .i (m : Int)] [] (fun d h => ∃ r c, d = .own r 1 0 n ∧ h = [(c, .cells 1 ((List.replicate (n * m) (0 : Int)).map D.i)), (r, .cells 1 (rowsD c n m))]) := by
  have e4 : (n : Int) * (m : Int) ≤ 1025 * 1025 := Int.mul_le_mul (by omega) (by omega) (by omega) (by omega)
  have e5 : 0 ≤ (n : Int) * (m : Int) := Int.mul_nonneg (by omega) (by omega)
  refine CallH.of_body Try.func48 rfl Try.ntmps48 rfl ?_
  refine wpA_seq ?_
  refine wpA_region ?_
  refine wpL_op rfl rfl rfl (OpA.asn rfl (by with_reducible conv => lhs; whnf) ?_)
  refine wpL_nil ?_
  refine wpA_seq ?_
  refine wpA_region ?_
  refine wpL_op rfl rfl rfl (OpA.mv rfl (by with_reducible conv => lhs; whnf) ?_)
  refine wpL_op rfl rfl rfl (OpA.makeSlice (d := .v (.slice none 0 0)) rfl ts48 rfl rfl tz25 (fun _ _ => .v _) (.of rfl) (by omega) (by omega) (by omega) (by omega) (fun c9 => ?_))
  refine wpL_op rfl rfl rfl (OpA.asn rfl (by with_reducible conv => lhs; whnf) ?_)
  refine wpL_nil ?_
  refine wpA_seq ?_
  refine wpA_region ?_
  refine wpL_op rfl rfl rfl (OpA.mv rfl (by with_reducible conv => lhs; whnf) ?_)
  refine wpL_op rfl rfl rfl (OpA.mv rfl (by with_reducible conv => lhs; whnf) ?_)
  refine wpL_op rfl rfl rfl (OpA.muli rfl rfl rfl (by omega) ?_)
  refine wpL_op rfl rfl rfl (OpA.makeSlice (d := .v (.int .i64 0)) rfl ts25 rfl rfl tz3 (fun _ _ => .v _) (.of rfl) (by omega) (by omega) (by omega) (by omega) (fun c13 => ?_))
  refine wpL_op rfl rfl rfl (OpA.asn rfl (by with_reducible conv => lhs; whnf) ?_)
  refine wpL_nil ?_
  refine wpA_seq ?_
  refine wpA_seq ?_
  refine wpA_region ?_
  refine wpL_op rfl rfl rfl (OpA.mv rfl (by with_reducible conv => lhs; whnf) ?_)
  refine wpL_op rfl rfl rfl (OpA.mv rfl (by with_reducible conv => lhs; whnf) ?_)
  refine wpL_nil ?_
  refine wpA_block ?_
  refine wpA_loopE (fun mm fr h => ∃ (k : Nat), mm = n - k ∧ (k ≤ n) ∧ fr = asg [(1, .i (m : Int)), (4, .v (.slice none 0 0)), (5, .own c9 1 0 n), (6, .own c13 1 0 (n * m)), (14, .i (n : Int)), (15, .i k)] ∧ h = [(c13, .cells 1 ((List.replicate (n * m) (0 : Int)).map D.i)), (c9, .cells 1 (rowsTo c13 n m k))]) ⟨_, _, ⟨0, rfl, by omega, rfl, (by rw [rowsTo_zero, List.map_replicate]; rfl)⟩, Cov.asg ⟨rfl, rfl, rfl, rfl, rfl, rfl, trivial⟩⟩ ?_
  rintro k fr h ⟨k, rfl, hk, rfl, rfl⟩
  refine wpA_seq ?_
  refine wpA_region ?_
  refine wpL_op rfl rfl rfl (OpA.lss rfl rfl rfl ?_)
  refine wpL_nil ?_
  refine wpA_seq ?_
  refine wpA_cond rfl (fun b1 => ?_) (fun b1 => ?_)
  try simp only [decide_eq_true_eq, decide_eq_false_iff_not, beq_iff_eq, bne_iff_ne, beq_eq_false_iff_ne, bne_eq_false_iff_eq, Bool.not_eq_true', Bool.not_eq_false', Int.not_lt, Int.not_le, gt_iff_lt, ge_iff_le, ne_eq] at b1
  have e1 : ((k : Int) + 1) * (m : Int) = (k : Int) * (m : Int) + (m : Int) := by rw [Int.add_mul, Int.one_mul]
  have e2 : 0 ≤ (k : Int) * (m : Int) := Int.mul_nonneg (by omega) (by omega)
  have e3 : (k : Int) * (m : Int) + (m : Int) ≤ (n : Int) * (m : Int) := by rw [← e1]; exact Int.mul_le_mul_of_nonneg_right (by omega) (by omega)
  have e4 : (n : Int) * (m : Int) ≤ 1025 * 1025 := Int.mul_le_mul (by omega) (by omega) (by omega) (by omega)
  refine wpA_skip ?_
  refine wpA_seq ?_
  refine wpA_block ?_
  refine wpA_seq ?_
  refine wpA_region ?_
  refine wpL_op rfl rfl rfl (OpA.mv rfl (by with_reducible conv => lhs; whnf) ?_)
  refine wpL_op rfl rfl rfl (OpA.asn rfl (by with_reducible conv => lhs; whnf) ?_)
  refine wpL_nil ?_
  refine wpA_region ?_
  refine wpL_op rfl rfl rfl (OpA.mv rfl (by with_reducible conv => lhs; whnf) ?_)
  refine wpL_op rfl rfl rfl (OpA.mv rfl (by with_reducible conv => lhs; whnf) ?_)
  refine wpL_op rfl rfl rfl (OpA.mv rfl (by with_reducible conv => lhs; whnf) ?_)
  refine wpL_op rfl rfl rfl (OpA.mv rfl (by with_reducible conv => lhs; whnf) ?_)
  refine wpL_op rfl rfl rfl (OpA.mv rfl (by with_reducible conv => lhs; whnf) ?_)
  refine wpL_op rfl rfl rfl (OpA.muli rfl rfl rfl (by omega) ?_)
  refine wpL_op rfl rfl rfl (OpA.mv rfl (by with_reducible conv => lhs; whnf) ?_)
  refine wpL_op rfl rfl rfl (OpA.addi rfl rfl rfl (by omega) ?_)
  refine wpL_op rfl rfl rfl (OpA.mv rfl (by with_reducible conv => lhs; whnf) ?_)
  refine wpL_op rfl rfl rfl (OpA.muli rfl rfl rfl (by omega) ?_)
  refine wpL_op rfl rfl rfl (OpA.mv rfl (by with_reducible conv => lhs; whnf) ?_)
  refine wpL_op rfl rfl rfl (OpA.addi rfl rfl rfl (by omega) ?_)
  refine wpL_op rfl rfl rfl (OpA.mv rfl (by with_reducible conv => lhs; whnf) ?_)
  refine wpL_op rfl rfl rfl (OpA.muli rfl rfl rfl (by omega) ?_)
  refine wpL_op rfl rfl rfl (OpA.slice3 rfl ts25 rfl (.some rfl (by omega)) ⟨rfl, by omega⟩ ⟨rfl, by omega⟩ (by omega) (by omega) (by omega) ?_)
  refine wpL_op rfl rfl rfl (OpA.ixN rfl ts48 rfl rfl (by first | exact nat_lit0 | exact nat_lit1 | exact nat_lit2 | exact nat_add1 _ | exact nat_add _ _ | exact rfl | exact nat_sub1 (by omega) | exact nat_sub (by omega) | exact natp1 (nat_sub (by omega)) | exact nat_of (by omega)) (by omega) ?_)
  refine wpL_eff rfl rfl (OpA.storeR rfl ti25 rfl rfl rfl (.of rfl) (by rw [rowsTo_length (by omega)]; omega) rowsTo_flat (.tail .head) ?_)
  refine wpL_nil ?_
  refine wpA_region ?_
  refine wpL_op rfl rfl rfl (OpA.addi rfl rfl rfl (by omega) ?_)
  refine wpL_op rfl rfl rfl (OpA.mv rfl (by with_reducible conv => lhs; whnf) ?_)
  refine wpL_nil ?_
  exact ⟨_, _, by omega, ⟨k + 1, rfl, by omega, rfl, (by rw [rowsTo_succ (by omega) (rows_val _ _ _)])⟩, Cov.asg ⟨rfl, rfl, rfl, rfl, rfl, rfl, trivial⟩⟩
  try simp only [decide_eq_true_eq, decide_eq_false_iff_not, beq_iff_eq, bne_iff_ne, beq_eq_false_iff_ne, bne_eq_false_iff_eq, Bool.not_eq_true', Bool.not_eq_false', Int.not_lt, Int.not_le, gt_iff_lt, ge_iff_le, ne_eq] at b1
  refine wpA_exit ?_
  refine wpA_seq ?_
  refine wpA_region ?_
  refine wpL_op rfl rfl rfl (OpA.mv rfl (by with_reducible conv => lhs; whnf) ?_)
  refine wpL_op rfl rfl rfl (OpA.asn rfl (by with_reducible conv => lhs; whnf) ?_)
  refine wpL_nil ?_
  refine wpA_ret ?_
  refine ⟨_, (.tmp (by with_reducible conv => lhs; whnf) .nil), ?_⟩
  (have hk : k = n := by omega); subst hk; exact ⟨c9, c13, rfl, by rw [rowsTo_all]⟩
end Go.Proofs.Ythggcjnmodeehaa
