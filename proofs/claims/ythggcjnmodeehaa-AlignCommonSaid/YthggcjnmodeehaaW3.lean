/-
  walks
-/
import Derived.Test.YthggcjnmodeehaaW2
import Derived.Test.YthggcjnmodeehaaSpec
set_option linter.all false
namespace Go.Proofs.Ythggcjnmodeehaa
open Go Go.Lic

theorem info3 : (Try.prog.info? 3).isSome = true := by kernel_rfl
theorem c3 : Try.prog.cellsOf 3 = 1 := by kernel_rfl
theorem tdi3 : Try.prog.underlying 3 = some (.int .i64) := by kernel_rfl
theorem tda34 : Try.prog.underlying 34 = some (.array 2 3) := by kernel_rfl
theorem se34 (a b c d : Value) {a' b' c' d' : Int} (ha : a = .int .i64 a') (hb : b = .int .i64 b') (hc : c = .int .i64 c') (hd : d = .int .i64 d') (w : World) : (Op.equalIn 10000 34 (.agg #[a, b]) (.agg #[c, d])).run Try.prog w = .ok (a' == c' && b' == d') w := by
  subst ha; subst hb; subst hc; subst hd
  have hp : ∀ xs i w, (part 3 xs i).run Try.prog w = (match xs[i]? with | some v => .ok v w | none => .halt (.stuck "part: no such cell") w) := by
    intro xs i w
    simp only [part, Sem.run_bind, ti3.isAgg, Result.andThen_ok, Bool.false_eq_true, if_false]
    cases xs[i]? <;> simp
  have h3 : ∀ n a c w, (Op.equalIn (n + 1) 3 (.int .i64 a) (.int .i64 c)).run Try.prog w = .ok (a == c) w := by
    intro n a c w
    simp [Op.equalIn, run_underlying tdi3]
  obtain ⟨i3, hi3⟩ := Option.isSome_iff_exists.1 info3
  rw [run_equalIn_array w 9999 _ _ tda34 hi3, c3]
  simp [Op.eqItems, List.range_succ, hp, h3 9998]
  cases h : (a' == c') <;> cases h2 : (b' == d') <;> simp_all

theorem checkAl_fun (a b : List Lexeme) (c : Costs) (x : Alignment) (hn : x.steps.length ≤ 1000000) : Fun false Try.prog 12 [encWords a, encWords b, encCosts c, encAl x] (fun d => d = .i (checkAlF a b c x)) := by
  refine Fun.of_body Try.func12 rfl Try.ntmps12 rfl ?_
  refine wpA_seq ?_
  refine wpA_region ?_
  refine wpL_op rfl rfl rfl (OpA.bx (sz := 3) rfl (by with_reducible conv => lhs; whnf) (.of rfl) (fun c6 _ => ?_))
  refine wpL_op rfl rfl rfl (OpA.bx (sz := 2) rfl (by with_reducible conv => lhs; whnf) (.of rfl) (fun c7 _ => ?_))
  refine wpL_op rfl rfl rfl (OpA.asn rfl (by with_reducible conv => lhs; whnf) ?_)
  refine wpL_nil ?_
  refine wpA_seq ?_
  refine wpA_seq ?_
  refine wpA_region ?_
  refine wpL_op rfl rfl rfl (OpA.mv rfl (by with_reducible conv => lhs; whnf) ?_)
  refine wpL_op rfl rfl rfl (OpA.mv rfl (by with_reducible conv => lhs; whnf) ?_)
  first
    | refine wpL_op rfl rfl rfl (OpA.load_whole rfl ti24 rfl rfl (.tail .head) (by first | rfl | exact getM _ _ _ (by omega) | exact getO (by omega) | exact getL _ _ (by omega) | (simp; done)) ⟨_, rfl⟩ ?_)
    | refine wpL_op rfl rfl rfl (OpA.load_agg rfl ti24 rfl (.tail .head) (by first | rfl | exact getM _ _ _ (by omega) | exact getO (by omega) | exact getL _ _ (by omega) | (simp; done)) rfl rfl ?_)
  refine wpL_op rfl rfl rfl (OpA.call rfl rfl rfl en36 (check_fun _ _ _) ?_)
  rintro _ rfl
  refine wpL_op rfl rfl rfl (OpA.asn rfl (by with_reducible conv => lhs; whnf) ?_)
  refine wpL_nil ?_
  refine wpA_seq ?_
  refine wpA_region ?_
  refine wpL_op rfl rfl rfl (OpA.mv rfl (by with_reducible conv => lhs; whnf) ?_)
  refine wpL_op rfl rfl rfl (OpA.neq rfl rfl rfl ?_)
  refine wpL_nil ?_
  refine wpA_cond rfl (fun b1 => ?_) (fun b1 => ?_)
  try simp only [decide_eq_true_eq, decide_eq_false_iff_not, beq_iff_eq, bne_iff_ne, beq_eq_false_iff_ne, bne_eq_false_iff_eq, Bool.not_eq_true', Bool.not_eq_false', Int.not_lt, Int.not_le, gt_iff_lt, ge_iff_le, ne_eq] at b1
  refine wpA_seq ?_
  refine wpA_region ?_
  refine wpL_op rfl rfl rfl (OpA.mv rfl (by with_reducible conv => lhs; whnf) ?_)
  refine wpL_op rfl rfl rfl (OpA.asn rfl (by with_reducible conv => lhs; whnf) ?_)
  refine wpL_nil ?_
  refine wpA_ret ?_
  refine ⟨_, (.tmp (by with_reducible conv => lhs; whnf) .nil), _, (.same rfl .nil), ?_⟩
  (try simp only [tupD]) <;> (rw [checkAlF_err (by assumption)])
  try simp only [decide_eq_true_eq, decide_eq_false_iff_not, beq_iff_eq, bne_iff_ne, beq_eq_false_iff_ne, bne_eq_false_iff_eq, Bool.not_eq_true', Bool.not_eq_false', Int.not_lt, Int.not_le, gt_iff_lt, ge_iff_le, ne_eq] at b1
  refine wpA_skip ?_
  refine wpA_seq ?_
  refine wpA_region ?_
  refine wpL_op rfl rfl rfl (OpA.asn rfl (by with_reducible conv => lhs; whnf) ?_)
  refine wpL_op rfl rfl rfl (OpA.asn rfl (by with_reducible conv => lhs; whnf) ?_)
  refine wpL_op rfl rfl rfl (OpA.asn rfl (by with_reducible conv => lhs; whnf) ?_)
  refine wpL_nil ?_
  refine wpA_seq ?_
  refine wpA_seq ?_
  refine wpA_region ?_
  refine wpL_op rfl rfl rfl (OpA.fieldAddr rfl tf27_1 rfl ?_)
  refine wpL_op rfl rfl rfl (OpA.load rfl ti25 rfl .head (by first | rfl | exact getM _ _ _ (by omega) | exact getO (by omega) | exact getL _ _ (by omega) | (simp; done)) (by first | rfl | exact getM _ _ _ (by omega) | exact getO (by omega) | exact getL _ _ (by omega) | (simp; done)) ?_)
  first
    | refine wpL_op rfl rfl rfl (OpA.len rfl rfl rfl rfl ts25.desc (.inl ⟨_, _, rfl, (List.length_map _).symm⟩) ?_)
    | refine wpL_op rfl rfl rfl (OpA.len rfl rfl rfl rfl ts25.desc (.inl ⟨_, _, rfl, rfl⟩) ?_)
    | refine wpL_op rfl rfl rfl (OpA.len rfl rfl rfl rfl ts25.desc (.inr (.inl ⟨_, _, _, rfl⟩)) ?_)
    | refine wpL_op rfl rfl rfl (OpA.len rfl rfl rfl rfl ts25.desc (.inr (.inr ⟨rfl, rfl⟩)) ?_)
  refine wpL_op rfl rfl rfl (OpA.mv rfl (by with_reducible conv => lhs; whnf) ?_)
  refine wpL_nil ?_
  refine wpA_block ?_
  refine wpA_loopE (fun mm fr h => ∃ (k0 : Nat) (i : Nat) (j : Nat) (sum : Int), mm = x.steps.length - k0 ∧ (k0 ≤ x.steps.length ∧ checkF a b c = 0 ∧ stepsF a b c (0, 0, 0) (x.steps.take k0) = some (i, j, sum) ∧ i ≤ a.length ∧ j ≤ b.length ∧ 0 ≤ sum ∧ sum ≤ 1000 * k0) ∧ fr = asg [(0, encWords a), (1, encWords b), (6, .ptr c6 3 0 0), (7, .ptr c7 2 0 0), (8, .v (.int .i64 0)), (10, .i i), (11, .i j), (12, .i sum), (24, encInts x.steps), (25, .i x.steps.length), (26, .i k0)] ∧ h = [(c7, .cells 2 [encAl x]), (c6, .cells 3 [encCosts c])]) ⟨_, _, ⟨0, 0, 0, 0, rfl, ⟨by omega, by omega, rfl, by omega, by omega, by omega, by omega⟩, rfl, rfl⟩, Cov.asg ⟨rfl, rfl, rfl, rfl, rfl, rfl, rfl, rfl, rfl, rfl, rfl, trivial⟩⟩ ?_
  rintro k fr h ⟨k0, i, j, sum, rfl, ⟨hk0, hc0, hst, hi, hj, hs0, hs1⟩, rfl, rfl⟩
  have hcc := checkF_zero hc0
  refine wpA_seq ?_
  refine wpA_region ?_
  refine wpL_op rfl rfl rfl (OpA.lss rfl rfl rfl ?_)
  refine wpL_nil ?_
  refine wpA_seq ?_
  refine wpA_cond rfl (fun b2 => ?_) (fun b2 => ?_)
  try simp only [decide_eq_true_eq, decide_eq_false_iff_not, beq_iff_eq, bne_iff_ne, beq_eq_false_iff_ne, bne_eq_false_iff_eq, Bool.not_eq_true', Bool.not_eq_false', Int.not_lt, Int.not_le, gt_iff_lt, ge_iff_le, ne_eq] at b2
  refine wpA_skip ?_
  refine wpA_seq ?_
  refine wpA_block ?_
  refine wpA_seq ?_
  refine wpA_region ?_
  first
    | refine wpL_op rfl rfl rfl (OpA.iixN rfl ts25 rfl rfl rfl (by first | exact nat_lit0 | exact nat_lit1 | exact nat_lit2 | exact nat_add1 _ | exact nat_add _ _ | exact rfl | exact nat_sub1 (by omega) | exact nat_sub (by omega) | exact natp1 (nat_sub (by omega)) | exact nat_of (by omega)) (by first | rfl | exact getM _ _ _ (by omega) | exact getO (by omega) | exact getL _ _ (by omega) | (simp; done)) ?_)
    | refine wpL_op rfl rfl rfl (OpA.ixN rfl ts25 rfl rfl (by first | exact nat_lit0 | exact nat_lit1 | exact nat_lit2 | exact nat_add1 _ | exact nat_add _ _ | exact rfl | exact nat_sub1 (by omega) | exact nat_sub (by omega) | exact natp1 (nat_sub (by omega)) | exact nat_of (by omega)) (by omega) ?_)
  first
    | refine wpL_op rfl rfl rfl (OpA.load rfl ti3 rfl (by first | exact .head | exact .tail .head | exact .tail (.tail .head) | exact .tail (.tail (.tail .head)) | exact .tail (.tail (.tail (.tail .head)))) (by first | rfl | exact getM _ _ _ (by omega) | exact getO (by omega) | exact getL _ _ (by omega) | (simp; done)) (by first | rfl | exact getM _ _ _ (by omega) | exact getO (by omega) | exact getL _ _ (by omega) | (simp; done)) ?_)
    | refine wpL_op rfl rfl rfl (OpA.iload rfl ti3 rfl (by first | rfl | exact getM _ _ _ (by omega) | exact getO (by omega) | exact getL _ _ (by omega) | (simp; done)) ?_)
  refine wpL_op rfl rfl rfl (OpA.asn rfl (by with_reducible conv => lhs; whnf) ?_)
  refine wpL_nil ?_
  refine wpA_seq ?_
  refine wpA_region ?_
  refine wpL_op rfl rfl rfl (OpA.mv rfl (by with_reducible conv => lhs; whnf) ?_)
  refine wpL_op rfl rfl rfl (OpA.mv rfl (by with_reducible conv => lhs; whnf) ?_)
  first
    | refine wpL_op rfl rfl rfl (OpA.len rfl rfl rfl rfl ts22.desc (.inl ⟨_, _, rfl, (List.length_map _).symm⟩) ?_)
    | refine wpL_op rfl rfl rfl (OpA.len rfl rfl rfl rfl ts22.desc (.inl ⟨_, _, rfl, rfl⟩) ?_)
    | refine wpL_op rfl rfl rfl (OpA.len rfl rfl rfl rfl ts22.desc (.inr (.inl ⟨_, _, _, rfl⟩)) ?_)
    | refine wpL_op rfl rfl rfl (OpA.len rfl rfl rfl rfl ts22.desc (.inr (.inr ⟨rfl, rfl⟩)) ?_)
  refine wpL_op rfl rfl rfl (OpA.lss rfl rfl rfl ?_)
  refine wpL_op rfl rfl rfl (OpA.mv rfl (by with_reducible conv => lhs; whnf) ?_)
  refine wpL_split (s := 34) rfl (fun b3 => ?_) (fun b3 => ?_)
  try simp only [decide_eq_true_eq, decide_eq_false_iff_not, beq_iff_eq, bne_iff_ne, beq_eq_false_iff_ne, bne_eq_false_iff_eq, Bool.not_eq_true', Bool.not_eq_false', Int.not_lt, Int.not_le, gt_iff_lt, ge_iff_le, ne_eq] at b3
  refine wpL_opg rfl rfl rfl rfl rfl rfl (OpA.mv rfl (by with_reducible conv => lhs; whnf) ?_)
  refine wpL_opg rfl rfl rfl rfl rfl rfl (OpA.mv rfl (by with_reducible conv => lhs; whnf) ?_)
  first
    | refine wpL_opg rfl rfl rfl rfl rfl rfl (OpA.len rfl rfl rfl rfl ts22.desc (.inl ⟨_, _, rfl, (List.length_map _).symm⟩) ?_)
    | refine wpL_opg rfl rfl rfl rfl rfl rfl (OpA.len rfl rfl rfl rfl ts22.desc (.inl ⟨_, _, rfl, rfl⟩) ?_)
    | refine wpL_opg rfl rfl rfl rfl rfl rfl (OpA.len rfl rfl rfl rfl ts22.desc (.inr (.inl ⟨_, _, _, rfl⟩)) ?_)
    | refine wpL_opg rfl rfl rfl rfl rfl rfl (OpA.len rfl rfl rfl rfl ts22.desc (.inr (.inr ⟨rfl, rfl⟩)) ?_)
  refine wpL_opg rfl rfl rfl rfl rfl rfl (OpA.lss rfl rfl rfl ?_)
  refine wpL_op rfl rfl rfl (OpA.pck rfl rfl (by with_reducible conv => lhs; whnf) ?_)
  refine wpL_op rfl rfl rfl (OpA.asn rfl (by with_reducible conv => lhs; whnf) ?_)
  refine wpL_nil ?_
  refine wpA_block ?_
  refine wpA_seq ?_
  refine wpA_draw (m := 19) mo (by kernel_rfl) rfl ?_
  refine DetK.op rfl (OpA.mv rfl (by with_reducible conv => lhs; whnf) ⟨rfl, rfl⟩) ?_
  refine DetK.op rfl (OpA.eql rfl rfl rfl ⟨rfl, rfl⟩) ?_
  refine DetK.op rfl (OpA.mv rfl (by with_reducible conv => lhs; whnf) ⟨rfl, rfl⟩) ?_
  refine DetK_split (s := 43) rfl (fun b4 => ?_) (fun b4 => ?_)
  try simp only [decide_eq_true_eq, decide_eq_false_iff_not, beq_iff_eq, bne_iff_ne, beq_eq_false_iff_ne, bne_eq_false_iff_eq, Bool.not_eq_true', Bool.not_eq_false', Int.not_lt, Int.not_le, gt_iff_lt, ge_iff_le, ne_eq] at b4
  refine DetK.opg rfl rfl rfl rfl (OpA.mv rfl (by with_reducible conv => lhs; whnf) ⟨rfl, rfl⟩) ?_
  refine DetK.op rfl (OpA.pck rfl rfl (by with_reducible conv => lhs; whnf) ⟨rfl, rfl⟩) ?_
  refine DetK.op rfl (OpA.mv rfl (by with_reducible conv => lhs; whnf) ⟨rfl, rfl⟩) ?_
  refine DetK_split (s := 46) rfl (fun b5 => ?_) (fun b5 => ?_)
  try simp only [decide_eq_true_eq, decide_eq_false_iff_not, beq_iff_eq, bne_iff_ne, beq_eq_false_iff_ne, bne_eq_false_iff_eq, Bool.not_eq_true', Bool.not_eq_false', Int.not_lt, Int.not_le, gt_iff_lt, ge_iff_le, ne_eq] at b5
  refine DetK.opg rfl rfl rfl rfl (OpA.mv rfl (by with_reducible conv => lhs; whnf) ⟨rfl, rfl⟩) ?_
  refine DetK.opg rfl rfl rfl rfl (OpA.mv rfl (by with_reducible conv => lhs; whnf) ⟨rfl, rfl⟩) ?_
  first
    | refine DetK.opg rfl rfl rfl rfl (OpA.iixN rfl ts22 rfl rfl rfl (by first | exact nat_lit0 | exact nat_lit1 | exact nat_lit2 | exact nat_add1 _ | exact nat_add _ _ | exact rfl | exact nat_sub1 (by omega) | exact nat_sub (by omega) | exact natp1 (nat_sub (by omega)) | exact nat_of (by omega)) (by first | rfl | exact getM _ _ _ (by omega) | exact getO (by omega) | exact getL _ _ (by omega) | (simp; done)) ⟨rfl, rfl⟩) ?_
    | refine DetK.opg rfl rfl rfl rfl (OpA.ixN rfl ts22 rfl rfl (by first | exact nat_lit0 | exact nat_lit1 | exact nat_lit2 | exact nat_add1 _ | exact nat_add _ _ | exact rfl | exact nat_sub1 (by omega) | exact nat_sub (by omega) | exact natp1 (nat_sub (by omega)) | exact nat_of (by omega)) (by omega) ⟨rfl, rfl⟩) ?_
  first
    | refine DetK.opg rfl rfl rfl rfl (OpA.fieldAddr rfl tf40_0 rfl ⟨rfl, rfl⟩) ?_
    | refine DetK.opg rfl rfl rfl rfl (OpA.ifieldAddr rfl tf40_0 rfl ⟨rfl, rfl⟩) ?_
  first
    | refine DetK.opg rfl rfl rfl rfl (OpA.load rfl ti9 rfl (by first | exact .head | exact .tail .head | exact .tail (.tail .head) | exact .tail (.tail (.tail .head)) | exact .tail (.tail (.tail (.tail .head)))) (by first | rfl | exact getM _ _ _ (by omega) | exact getO (by omega) | exact getL _ _ (by omega) | (simp; done)) (by first | rfl | exact getM _ _ _ (by omega) | exact getO (by omega) | exact getL _ _ (by omega) | (simp; done)) ⟨rfl, rfl⟩) ?_
    | refine DetK.opg rfl rfl rfl rfl (OpA.iload rfl ti9 rfl (by first | rfl | exact getM _ _ _ (by omega) | exact getO (by omega) | exact getL _ _ (by omega) | (simp; done)) ⟨rfl, rfl⟩) ?_
  refine DetK.opg rfl rfl rfl rfl (OpA.mv rfl (by with_reducible conv => lhs; whnf) ⟨rfl, rfl⟩) ?_
  refine DetK.opg rfl rfl rfl rfl (OpA.mv rfl (by with_reducible conv => lhs; whnf) ⟨rfl, rfl⟩) ?_
  first
    | refine DetK.opg rfl rfl rfl rfl (OpA.iixN rfl ts22 rfl rfl rfl (by first | exact nat_lit0 | exact nat_lit1 | exact nat_lit2 | exact nat_add1 _ | exact nat_add _ _ | exact rfl | exact nat_sub1 (by omega) | exact nat_sub (by omega) | exact natp1 (nat_sub (by omega)) | exact nat_of (by omega)) (by first | rfl | exact getM _ _ _ (by omega) | exact getO (by omega) | exact getL _ _ (by omega) | (simp; done)) ⟨rfl, rfl⟩) ?_
    | refine DetK.opg rfl rfl rfl rfl (OpA.ixN rfl ts22 rfl rfl (by first | exact nat_lit0 | exact nat_lit1 | exact nat_lit2 | exact nat_add1 _ | exact nat_add _ _ | exact rfl | exact nat_sub1 (by omega) | exact nat_sub (by omega) | exact natp1 (nat_sub (by omega)) | exact nat_of (by omega)) (by omega) ⟨rfl, rfl⟩) ?_
  first
    | refine DetK.opg rfl rfl rfl rfl (OpA.fieldAddr rfl tf40_0 rfl ⟨rfl, rfl⟩) ?_
    | refine DetK.opg rfl rfl rfl rfl (OpA.ifieldAddr rfl tf40_0 rfl ⟨rfl, rfl⟩) ?_
  first
    | refine DetK.opg rfl rfl rfl rfl (OpA.load rfl ti9 rfl (by first | exact .head | exact .tail .head | exact .tail (.tail .head) | exact .tail (.tail (.tail .head)) | exact .tail (.tail (.tail (.tail .head)))) (by first | rfl | exact getM _ _ _ (by omega) | exact getO (by omega) | exact getL _ _ (by omega) | (simp; done)) (by first | rfl | exact getM _ _ _ (by omega) | exact getO (by omega) | exact getL _ _ (by omega) | (simp; done)) ⟨rfl, rfl⟩) ?_
    | refine DetK.opg rfl rfl rfl rfl (OpA.iload rfl ti9 rfl (by first | rfl | exact getM _ _ _ (by omega) | exact getO (by omega) | exact getL _ _ (by omega) | (simp; done)) ⟨rfl, rfl⟩) ?_
  refine DetK.opg rfl rfl rfl rfl (OpA.seql rfl rfl rfl ⟨rfl, rfl⟩) ?_
  refine DetK.op rfl (OpA.pck rfl rfl (by with_reducible conv => lhs; whnf) ⟨rfl, rfl⟩) ?_
  refine DetK.op rfl (OpA.asn rfl (by with_reducible conv => lhs; whnf) ⟨rfl, rfl⟩) ?_
  refine DetK.nil ?_
  refine wpL_nil ?_
  refine wpA_cond rfl (fun b6 => ?_) (fun b6 => ?_)
  try simp only [decide_eq_true_eq, decide_eq_false_iff_not, beq_iff_eq, bne_iff_ne, beq_eq_false_iff_ne, bne_eq_false_iff_eq, Bool.not_eq_true', Bool.not_eq_false', Int.not_lt, Int.not_le, gt_iff_lt, ge_iff_le, ne_eq] at b6
  refine wpA_region ?_
  refine wpL_op rfl rfl rfl (OpA.mv rfl (by with_reducible conv => lhs; whnf) ?_)
  refine wpL_op rfl rfl rfl (OpA.addi rfl rfl rfl (by omega) ?_)
  refine wpL_op rfl rfl rfl (OpA.mv rfl (by with_reducible conv => lhs; whnf) ?_)
  refine wpL_op rfl rfl rfl (OpA.addi rfl rfl rfl (by omega) ?_)
  refine wpL_op rfl rfl rfl (OpA.asn rfl (by with_reducible conv => lhs; whnf) ?_)
  refine wpL_op rfl rfl rfl (OpA.asn rfl (by with_reducible conv => lhs; whnf) ?_)
  refine wpL_nil ?_
  refine wpA_region ?_
  refine wpL_op rfl rfl rfl (OpA.addi rfl rfl rfl (by omega) ?_)
  refine wpL_op rfl rfl rfl (OpA.mv rfl (by with_reducible conv => lhs; whnf) ?_)
  refine wpL_nil ?_
  first
    | exact ⟨_, _, by omega, ⟨k0 + 1, i + 1, j + 1, _, rfl, ⟨by omega, hc0, stepsF_succ (by omega) hst (by first | exact stepKC (by omega) (by omega) (by omega) (by assumption) | exact stepKeep (by omega) (by omega) (by omega) (by assumption) | exact stepChange (by omega) (by omega) (by omega) (by assumption) | exact stepDrop (by omega) (by omega) | exact stepAdd (by omega) (by omega)), by omega, by omega, by omega, by omega⟩, rfl, rfl⟩, Cov.asg ⟨rfl, rfl, rfl, rfl, rfl, rfl, rfl, rfl, rfl, rfl, rfl, trivial⟩⟩
    | exact ⟨_, _, by omega, ⟨k0 + 1, i + 1, j, _, rfl, ⟨by omega, hc0, stepsF_succ (by omega) hst (by first | exact stepKC (by omega) (by omega) (by omega) (by assumption) | exact stepKeep (by omega) (by omega) (by omega) (by assumption) | exact stepChange (by omega) (by omega) (by omega) (by assumption) | exact stepDrop (by omega) (by omega) | exact stepAdd (by omega) (by omega)), by omega, by omega, by omega, by omega⟩, rfl, rfl⟩, Cov.asg ⟨rfl, rfl, rfl, rfl, rfl, rfl, rfl, rfl, rfl, rfl, rfl, trivial⟩⟩
    | exact ⟨_, _, by omega, ⟨k0 + 1, i, j + 1, _, rfl, ⟨by omega, hc0, stepsF_succ (by omega) hst (by first | exact stepKC (by omega) (by omega) (by omega) (by assumption) | exact stepKeep (by omega) (by omega) (by omega) (by assumption) | exact stepChange (by omega) (by omega) (by omega) (by assumption) | exact stepDrop (by omega) (by omega) | exact stepAdd (by omega) (by omega)), by omega, by omega, by omega, by omega⟩, rfl, rfl⟩, Cov.asg ⟨rfl, rfl, rfl, rfl, rfl, rfl, rfl, rfl, rfl, rfl, rfl, trivial⟩⟩
  try simp only [decide_eq_true_eq, decide_eq_false_iff_not, beq_iff_eq, bne_iff_ne, beq_eq_false_iff_ne, bne_eq_false_iff_eq, Bool.not_eq_true', Bool.not_eq_false', Int.not_lt, Int.not_le, gt_iff_lt, ge_iff_le, ne_eq] at b6
  refine wpA_seq ?_
  refine wpA_draw (m := 19) mo (by kernel_rfl) rfl ?_
  refine DetK.op rfl (OpA.mv rfl (by with_reducible conv => lhs; whnf) ⟨rfl, rfl⟩) ?_
  refine DetK.op rfl (OpA.eql rfl rfl rfl ⟨rfl, rfl⟩) ?_
  refine DetK.op rfl (OpA.mv rfl (by with_reducible conv => lhs; whnf) ⟨rfl, rfl⟩) ?_
  refine DetK_split (s := 66) rfl (fun b7 => ?_) (fun b7 => ?_)
  try simp only [decide_eq_true_eq, decide_eq_false_iff_not, beq_iff_eq, bne_iff_ne, beq_eq_false_iff_ne, bne_eq_false_iff_eq, Bool.not_eq_true', Bool.not_eq_false', Int.not_lt, Int.not_le, gt_iff_lt, ge_iff_le, ne_eq] at b7
  exfalso; first | contradiction | omega
  try simp only [decide_eq_true_eq, decide_eq_false_iff_not, beq_iff_eq, bne_iff_ne, beq_eq_false_iff_ne, bne_eq_false_iff_eq, Bool.not_eq_true', Bool.not_eq_false', Int.not_lt, Int.not_le, gt_iff_lt, ge_iff_le, ne_eq] at b7
  refine DetK.skip rfl rfl rfl rfl ?_
  refine DetK.op rfl (OpA.pck rfl rfl (by with_reducible conv => lhs; whnf) ⟨rfl, rfl⟩) ?_
  refine DetK.op rfl (OpA.mv rfl (by with_reducible conv => lhs; whnf) ⟨rfl, rfl⟩) ?_
  refine DetK.skip rfl rfl rfl rfl ?_
  refine DetK.skip rfl rfl rfl rfl ?_
  refine DetK.skip rfl rfl rfl rfl ?_
  refine DetK.skip rfl rfl rfl rfl ?_
  refine DetK.skip rfl rfl rfl rfl ?_
  refine DetK.skip rfl rfl rfl rfl ?_
  refine DetK.skip rfl rfl rfl rfl ?_
  refine DetK.skip rfl rfl rfl rfl ?_
  refine DetK.skip rfl rfl rfl rfl ?_
  refine DetK.skip rfl rfl rfl rfl ?_
  refine DetK.skip rfl rfl rfl rfl ?_
  refine DetK.op rfl (OpA.pck rfl rfl (by with_reducible conv => lhs; whnf) ⟨rfl, rfl⟩) ?_
  refine DetK.op rfl (OpA.asn rfl (by with_reducible conv => lhs; whnf) ⟨rfl, rfl⟩) ?_
  refine DetK.nil ?_
  refine wpL_nil ?_
  refine wpA_condF rfl ?_
  refine wpA_seq ?_
  refine wpA_region ?_
  refine wpL_op rfl rfl rfl (OpA.mv rfl (by with_reducible conv => lhs; whnf) ?_)
  refine wpL_op rfl rfl rfl (OpA.eql rfl rfl rfl ?_)
  refine wpL_op rfl rfl rfl (OpA.mv rfl (by with_reducible conv => lhs; whnf) ?_)
  refine wpL_split (s := 93) rfl (fun b8 => ?_) (fun b8 => ?_)
  try simp only [decide_eq_true_eq, decide_eq_false_iff_not, beq_iff_eq, bne_iff_ne, beq_eq_false_iff_ne, bne_eq_false_iff_eq, Bool.not_eq_true', Bool.not_eq_false', Int.not_lt, Int.not_le, gt_iff_lt, ge_iff_le, ne_eq] at b8
  exfalso; first | contradiction | omega
  try simp only [decide_eq_true_eq, decide_eq_false_iff_not, beq_iff_eq, bne_iff_ne, beq_eq_false_iff_ne, bne_eq_false_iff_eq, Bool.not_eq_true', Bool.not_eq_false', Int.not_lt, Int.not_le, gt_iff_lt, ge_iff_le, ne_eq] at b8
  refine wpL_skip rfl rfl rfl rfl rfl rfl ?_
  refine wpL_skip rfl rfl rfl rfl rfl rfl ?_
  refine wpL_skip rfl rfl rfl rfl rfl rfl ?_
  refine wpL_skip rfl rfl rfl rfl rfl rfl ?_
  refine wpL_op rfl rfl rfl (OpA.pck rfl rfl (by with_reducible conv => lhs; whnf) ?_)
  refine wpL_op rfl rfl rfl (OpA.asn rfl (by with_reducible conv => lhs; whnf) ?_)
  refine wpL_nil ?_
  refine wpA_condF rfl ?_
  refine wpA_seq ?_
  refine wpA_region ?_
  refine wpL_op rfl rfl rfl (OpA.mv rfl (by with_reducible conv => lhs; whnf) ?_)
  refine wpL_op rfl rfl rfl (OpA.eql rfl rfl rfl ?_)
  refine wpL_op rfl rfl rfl (OpA.mv rfl (by with_reducible conv => lhs; whnf) ?_)
  refine wpL_split (s := 108) rfl (fun b9 => ?_) (fun b9 => ?_)
  try simp only [decide_eq_true_eq, decide_eq_false_iff_not, beq_iff_eq, bne_iff_ne, beq_eq_false_iff_ne, bne_eq_false_iff_eq, Bool.not_eq_true', Bool.not_eq_false', Int.not_lt, Int.not_le, gt_iff_lt, ge_iff_le, ne_eq] at b9
  exfalso; first | contradiction | omega
  try simp only [decide_eq_true_eq, decide_eq_false_iff_not, beq_iff_eq, bne_iff_ne, beq_eq_false_iff_ne, bne_eq_false_iff_eq, Bool.not_eq_true', Bool.not_eq_false', Int.not_lt, Int.not_le, gt_iff_lt, ge_iff_le, ne_eq] at b9
  refine wpL_skip rfl rfl rfl rfl rfl rfl ?_
  refine wpL_skip rfl rfl rfl rfl rfl rfl ?_
  refine wpL_skip rfl rfl rfl rfl rfl rfl ?_
  refine wpL_skip rfl rfl rfl rfl rfl rfl ?_
  refine wpL_op rfl rfl rfl (OpA.pck rfl rfl (by with_reducible conv => lhs; whnf) ?_)
  refine wpL_op rfl rfl rfl (OpA.asn rfl (by with_reducible conv => lhs; whnf) ?_)
  refine wpL_nil ?_
  refine wpA_condF rfl ?_
  refine wpA_seq ?_
  refine wpA_region ?_
  refine wpL_op rfl rfl rfl (OpA.asn rfl (by with_reducible conv => lhs; whnf) ?_)
  refine wpL_nil ?_
  refine wpA_ret ?_
  refine ⟨_, (.tmp (by with_reducible conv => lhs; whnf) .nil), _, (.same rfl .nil), ?_⟩
  (try simp only [tupD]) <;> (rw [checkAlF_none hc0 (stepsF_none (by omega) hst (stepNone (by intro g1 g2 g3; first | omega | (rw [txt_get g2, txt_get g3]; first | assumption | simp_all)) (by intro g1 g2 g3; first | omega | (rw [txt_get g2, txt_get g3]; first | assumption | simp_all)) (by intro g1; omega) (by intro g1; omega)))])
  try simp only [decide_eq_true_eq, decide_eq_false_iff_not, beq_iff_eq, bne_iff_ne, beq_eq_false_iff_ne, bne_eq_false_iff_eq, Bool.not_eq_true', Bool.not_eq_false', Int.not_lt, Int.not_le, gt_iff_lt, ge_iff_le, ne_eq] at b5
  refine DetK.skip rfl rfl rfl rfl ?_
  refine DetK.skip rfl rfl rfl rfl ?_
  refine DetK.skip rfl rfl rfl rfl ?_
  refine DetK.skip rfl rfl rfl rfl ?_
  refine DetK.skip rfl rfl rfl rfl ?_
  refine DetK.skip rfl rfl rfl rfl ?_
  refine DetK.skip rfl rfl rfl rfl ?_
  refine DetK.skip rfl rfl rfl rfl ?_
  refine DetK.skip rfl rfl rfl rfl ?_
  refine DetK.skip rfl rfl rfl rfl ?_
  refine DetK.skip rfl rfl rfl rfl ?_
  refine DetK.op rfl (OpA.pck rfl rfl (by with_reducible conv => lhs; whnf) ⟨rfl, rfl⟩) ?_
  refine DetK.op rfl (OpA.asn rfl (by with_reducible conv => lhs; whnf) ⟨rfl, rfl⟩) ?_
  refine DetK.nil ?_
  refine wpL_nil ?_
  refine wpA_condF rfl ?_
  refine wpA_seq ?_
  refine wpA_draw (m := 19) mo (by kernel_rfl) rfl ?_
  refine DetK.op rfl (OpA.mv rfl (by with_reducible conv => lhs; whnf) ⟨rfl, rfl⟩) ?_
  refine DetK.op rfl (OpA.eql rfl rfl rfl ⟨rfl, rfl⟩) ?_
  refine DetK.op rfl (OpA.mv rfl (by with_reducible conv => lhs; whnf) ⟨rfl, rfl⟩) ?_
  refine DetK_split (s := 66) rfl (fun b10 => ?_) (fun b10 => ?_)
  try simp only [decide_eq_true_eq, decide_eq_false_iff_not, beq_iff_eq, bne_iff_ne, beq_eq_false_iff_ne, bne_eq_false_iff_eq, Bool.not_eq_true', Bool.not_eq_false', Int.not_lt, Int.not_le, gt_iff_lt, ge_iff_le, ne_eq] at b10
  exfalso; first | contradiction | omega
  try simp only [decide_eq_true_eq, decide_eq_false_iff_not, beq_iff_eq, bne_iff_ne, beq_eq_false_iff_ne, bne_eq_false_iff_eq, Bool.not_eq_true', Bool.not_eq_false', Int.not_lt, Int.not_le, gt_iff_lt, ge_iff_le, ne_eq] at b10
  refine DetK.skip rfl rfl rfl rfl ?_
  refine DetK.op rfl (OpA.pck rfl rfl (by with_reducible conv => lhs; whnf) ⟨rfl, rfl⟩) ?_
  refine DetK.op rfl (OpA.mv rfl (by with_reducible conv => lhs; whnf) ⟨rfl, rfl⟩) ?_
  refine DetK.skip rfl rfl rfl rfl ?_
  refine DetK.skip rfl rfl rfl rfl ?_
  refine DetK.skip rfl rfl rfl rfl ?_
  refine DetK.skip rfl rfl rfl rfl ?_
  refine DetK.skip rfl rfl rfl rfl ?_
  refine DetK.skip rfl rfl rfl rfl ?_
  refine DetK.skip rfl rfl rfl rfl ?_
  refine DetK.skip rfl rfl rfl rfl ?_
  refine DetK.skip rfl rfl rfl rfl ?_
  refine DetK.skip rfl rfl rfl rfl ?_
  refine DetK.skip rfl rfl rfl rfl ?_
  refine DetK.op rfl (OpA.pck rfl rfl (by with_reducible conv => lhs; whnf) ⟨rfl, rfl⟩) ?_
  refine DetK.op rfl (OpA.asn rfl (by with_reducible conv => lhs; whnf) ⟨rfl, rfl⟩) ?_
  refine DetK.nil ?_
  refine wpL_nil ?_
  refine wpA_condF rfl ?_
  refine wpA_seq ?_
  refine wpA_region ?_
  refine wpL_op rfl rfl rfl (OpA.mv rfl (by with_reducible conv => lhs; whnf) ?_)
  refine wpL_op rfl rfl rfl (OpA.eql rfl rfl rfl ?_)
  refine wpL_op rfl rfl rfl (OpA.mv rfl (by with_reducible conv => lhs; whnf) ?_)
  refine wpL_split (s := 93) rfl (fun b11 => ?_) (fun b11 => ?_)
  try simp only [decide_eq_true_eq, decide_eq_false_iff_not, beq_iff_eq, bne_iff_ne, beq_eq_false_iff_ne, bne_eq_false_iff_eq, Bool.not_eq_true', Bool.not_eq_false', Int.not_lt, Int.not_le, gt_iff_lt, ge_iff_le, ne_eq] at b11
  exfalso; first | contradiction | omega
  try simp only [decide_eq_true_eq, decide_eq_false_iff_not, beq_iff_eq, bne_iff_ne, beq_eq_false_iff_ne, bne_eq_false_iff_eq, Bool.not_eq_true', Bool.not_eq_false', Int.not_lt, Int.not_le, gt_iff_lt, ge_iff_le, ne_eq] at b11
  refine wpL_skip rfl rfl rfl rfl rfl rfl ?_
  refine wpL_skip rfl rfl rfl rfl rfl rfl ?_
  refine wpL_skip rfl rfl rfl rfl rfl rfl ?_
  refine wpL_skip rfl rfl rfl rfl rfl rfl ?_
  refine wpL_op rfl rfl rfl (OpA.pck rfl rfl (by with_reducible conv => lhs; whnf) ?_)
  refine wpL_op rfl rfl rfl (OpA.asn rfl (by with_reducible conv => lhs; whnf) ?_)
  refine wpL_nil ?_
  refine wpA_condF rfl ?_
  refine wpA_seq ?_
  refine wpA_region ?_
  refine wpL_op rfl rfl rfl (OpA.mv rfl (by with_reducible conv => lhs; whnf) ?_)
  refine wpL_op rfl rfl rfl (OpA.eql rfl rfl rfl ?_)
  refine wpL_op rfl rfl rfl (OpA.mv rfl (by with_reducible conv => lhs; whnf) ?_)
  refine wpL_split (s := 108) rfl (fun b12 => ?_) (fun b12 => ?_)
  try simp only [decide_eq_true_eq, decide_eq_false_iff_not, beq_iff_eq, bne_iff_ne, beq_eq_false_iff_ne, bne_eq_false_iff_eq, Bool.not_eq_true', Bool.not_eq_false', Int.not_lt, Int.not_le, gt_iff_lt, ge_iff_le, ne_eq] at b12
  exfalso; first | contradiction | omega
  try simp only [decide_eq_true_eq, decide_eq_false_iff_not, beq_iff_eq, bne_iff_ne, beq_eq_false_iff_ne, bne_eq_false_iff_eq, Bool.not_eq_true', Bool.not_eq_false', Int.not_lt, Int.not_le, gt_iff_lt, ge_iff_le, ne_eq] at b12
  refine wpL_skip rfl rfl rfl rfl rfl rfl ?_
  refine wpL_skip rfl rfl rfl rfl rfl rfl ?_
  refine wpL_skip rfl rfl rfl rfl rfl rfl ?_
  refine wpL_skip rfl rfl rfl rfl rfl rfl ?_
  refine wpL_op rfl rfl rfl (OpA.pck rfl rfl (by with_reducible conv => lhs; whnf) ?_)
  refine wpL_op rfl rfl rfl (OpA.asn rfl (by with_reducible conv => lhs; whnf) ?_)
  refine wpL_nil ?_
  refine wpA_condF rfl ?_
  refine wpA_seq ?_
  refine wpA_region ?_
  refine wpL_op rfl rfl rfl (OpA.asn rfl (by with_reducible conv => lhs; whnf) ?_)
  refine wpL_nil ?_
  refine wpA_ret ?_
  refine ⟨_, (.tmp (by with_reducible conv => lhs; whnf) .nil), _, (.same rfl .nil), ?_⟩
  (try simp only [tupD]) <;> (rw [checkAlF_none hc0 (stepsF_none (by omega) hst (stepNone (by intro g1 g2 g3; first | omega | (rw [txt_get g2, txt_get g3]; first | assumption | simp_all)) (by intro g1 g2 g3; first | omega | (rw [txt_get g2, txt_get g3]; first | assumption | simp_all)) (by intro g1; omega) (by intro g1; omega)))])
  try simp only [decide_eq_true_eq, decide_eq_false_iff_not, beq_iff_eq, bne_iff_ne, beq_eq_false_iff_ne, bne_eq_false_iff_eq, Bool.not_eq_true', Bool.not_eq_false', Int.not_lt, Int.not_le, gt_iff_lt, ge_iff_le, ne_eq] at b4
  refine DetK.skip rfl rfl rfl rfl ?_
  refine DetK.op rfl (OpA.pck rfl rfl (by with_reducible conv => lhs; whnf) ⟨rfl, rfl⟩) ?_
  refine DetK.op rfl (OpA.mv rfl (by with_reducible conv => lhs; whnf) ⟨rfl, rfl⟩) ?_
  refine DetK.skip rfl rfl rfl rfl ?_
  refine DetK.skip rfl rfl rfl rfl ?_
  refine DetK.skip rfl rfl rfl rfl ?_
  refine DetK.skip rfl rfl rfl rfl ?_
  refine DetK.skip rfl rfl rfl rfl ?_
  refine DetK.skip rfl rfl rfl rfl ?_
  refine DetK.skip rfl rfl rfl rfl ?_
  refine DetK.skip rfl rfl rfl rfl ?_
  refine DetK.skip rfl rfl rfl rfl ?_
  refine DetK.skip rfl rfl rfl rfl ?_
  refine DetK.skip rfl rfl rfl rfl ?_
  refine DetK.op rfl (OpA.pck rfl rfl (by with_reducible conv => lhs; whnf) ⟨rfl, rfl⟩) ?_
  refine DetK.op rfl (OpA.asn rfl (by with_reducible conv => lhs; whnf) ⟨rfl, rfl⟩) ?_
  refine DetK.nil ?_
  refine wpL_nil ?_
  refine wpA_condF rfl ?_
  refine wpA_seq ?_
  refine wpA_draw (m := 19) mo (by kernel_rfl) rfl ?_
  refine DetK.op rfl (OpA.mv rfl (by with_reducible conv => lhs; whnf) ⟨rfl, rfl⟩) ?_
  refine DetK.op rfl (OpA.eql rfl rfl rfl ⟨rfl, rfl⟩) ?_
  refine DetK.op rfl (OpA.mv rfl (by with_reducible conv => lhs; whnf) ⟨rfl, rfl⟩) ?_
  refine DetK_split (s := 66) rfl (fun b13 => ?_) (fun b13 => ?_)
  try simp only [decide_eq_true_eq, decide_eq_false_iff_not, beq_iff_eq, bne_iff_ne, beq_eq_false_iff_ne, bne_eq_false_iff_eq, Bool.not_eq_true', Bool.not_eq_false', Int.not_lt, Int.not_le, gt_iff_lt, ge_iff_le, ne_eq] at b13
  refine DetK.opg rfl rfl rfl rfl (OpA.mv rfl (by with_reducible conv => lhs; whnf) ⟨rfl, rfl⟩) ?_
  refine DetK.op rfl (OpA.pck rfl rfl (by with_reducible conv => lhs; whnf) ⟨rfl, rfl⟩) ?_
  refine DetK.op rfl (OpA.mv rfl (by with_reducible conv => lhs; whnf) ⟨rfl, rfl⟩) ?_
  refine DetK_split (s := 69) rfl (fun b14 => ?_) (fun b14 => ?_)
  try simp only [decide_eq_true_eq, decide_eq_false_iff_not, beq_iff_eq, bne_iff_ne, beq_eq_false_iff_ne, bne_eq_false_iff_eq, Bool.not_eq_true', Bool.not_eq_false', Int.not_lt, Int.not_le, gt_iff_lt, ge_iff_le, ne_eq] at b14
  refine DetK.opg rfl rfl rfl rfl (OpA.mv rfl (by with_reducible conv => lhs; whnf) ⟨rfl, rfl⟩) ?_
  refine DetK.opg rfl rfl rfl rfl (OpA.mv rfl (by with_reducible conv => lhs; whnf) ⟨rfl, rfl⟩) ?_
  first
    | refine DetK.opg rfl rfl rfl rfl (OpA.iixN rfl ts22 rfl rfl rfl (by first | exact nat_lit0 | exact nat_lit1 | exact nat_lit2 | exact nat_add1 _ | exact nat_add _ _ | exact rfl | exact nat_sub1 (by omega) | exact nat_sub (by omega) | exact natp1 (nat_sub (by omega)) | exact nat_of (by omega)) (by first | rfl | exact getM _ _ _ (by omega) | exact getO (by omega) | exact getL _ _ (by omega) | (simp; done)) ⟨rfl, rfl⟩) ?_
    | refine DetK.opg rfl rfl rfl rfl (OpA.ixN rfl ts22 rfl rfl (by first | exact nat_lit0 | exact nat_lit1 | exact nat_lit2 | exact nat_add1 _ | exact nat_add _ _ | exact rfl | exact nat_sub1 (by omega) | exact nat_sub (by omega) | exact natp1 (nat_sub (by omega)) | exact nat_of (by omega)) (by omega) ⟨rfl, rfl⟩) ?_
  first
    | refine DetK.opg rfl rfl rfl rfl (OpA.fieldAddr rfl tf40_0 rfl ⟨rfl, rfl⟩) ?_
    | refine DetK.opg rfl rfl rfl rfl (OpA.ifieldAddr rfl tf40_0 rfl ⟨rfl, rfl⟩) ?_
  first
    | refine DetK.opg rfl rfl rfl rfl (OpA.load rfl ti9 rfl (by first | exact .head | exact .tail .head | exact .tail (.tail .head) | exact .tail (.tail (.tail .head)) | exact .tail (.tail (.tail (.tail .head)))) (by first | rfl | exact getM _ _ _ (by omega) | exact getO (by omega) | exact getL _ _ (by omega) | (simp; done)) (by first | rfl | exact getM _ _ _ (by omega) | exact getO (by omega) | exact getL _ _ (by omega) | (simp; done)) ⟨rfl, rfl⟩) ?_
    | refine DetK.opg rfl rfl rfl rfl (OpA.iload rfl ti9 rfl (by first | rfl | exact getM _ _ _ (by omega) | exact getO (by omega) | exact getL _ _ (by omega) | (simp; done)) ⟨rfl, rfl⟩) ?_
  refine DetK.opg rfl rfl rfl rfl (OpA.mv rfl (by with_reducible conv => lhs; whnf) ⟨rfl, rfl⟩) ?_
  refine DetK.opg rfl rfl rfl rfl (OpA.mv rfl (by with_reducible conv => lhs; whnf) ⟨rfl, rfl⟩) ?_
  first
    | refine DetK.opg rfl rfl rfl rfl (OpA.iixN rfl ts22 rfl rfl rfl (by first | exact nat_lit0 | exact nat_lit1 | exact nat_lit2 | exact nat_add1 _ | exact nat_add _ _ | exact rfl | exact nat_sub1 (by omega) | exact nat_sub (by omega) | exact natp1 (nat_sub (by omega)) | exact nat_of (by omega)) (by first | rfl | exact getM _ _ _ (by omega) | exact getO (by omega) | exact getL _ _ (by omega) | (simp; done)) ⟨rfl, rfl⟩) ?_
    | refine DetK.opg rfl rfl rfl rfl (OpA.ixN rfl ts22 rfl rfl (by first | exact nat_lit0 | exact nat_lit1 | exact nat_lit2 | exact nat_add1 _ | exact nat_add _ _ | exact rfl | exact nat_sub1 (by omega) | exact nat_sub (by omega) | exact natp1 (nat_sub (by omega)) | exact nat_of (by omega)) (by omega) ⟨rfl, rfl⟩) ?_
  first
    | refine DetK.opg rfl rfl rfl rfl (OpA.fieldAddr rfl tf40_0 rfl ⟨rfl, rfl⟩) ?_
    | refine DetK.opg rfl rfl rfl rfl (OpA.ifieldAddr rfl tf40_0 rfl ⟨rfl, rfl⟩) ?_
  first
    | refine DetK.opg rfl rfl rfl rfl (OpA.load rfl ti9 rfl (by first | exact .head | exact .tail .head | exact .tail (.tail .head) | exact .tail (.tail (.tail .head)) | exact .tail (.tail (.tail (.tail .head)))) (by first | rfl | exact getM _ _ _ (by omega) | exact getO (by omega) | exact getL _ _ (by omega) | (simp; done)) (by first | rfl | exact getM _ _ _ (by omega) | exact getO (by omega) | exact getL _ _ (by omega) | (simp; done)) ⟨rfl, rfl⟩) ?_
    | refine DetK.opg rfl rfl rfl rfl (OpA.iload rfl ti9 rfl (by first | rfl | exact getM _ _ _ (by omega) | exact getO (by omega) | exact getL _ _ (by omega) | (simp; done)) ⟨rfl, rfl⟩) ?_
  refine DetK.opg rfl rfl rfl rfl (OpA.sneq rfl rfl rfl ⟨rfl, rfl⟩) ?_
  refine DetK.op rfl (OpA.pck rfl rfl (by with_reducible conv => lhs; whnf) ⟨rfl, rfl⟩) ?_
  refine DetK.op rfl (OpA.asn rfl (by with_reducible conv => lhs; whnf) ⟨rfl, rfl⟩) ?_
  refine DetK.nil ?_
  refine wpL_nil ?_
  refine wpA_cond rfl (fun b15 => ?_) (fun b15 => ?_)
  try simp only [decide_eq_true_eq, decide_eq_false_iff_not, beq_iff_eq, bne_iff_ne, beq_eq_false_iff_ne, bne_eq_false_iff_eq, Bool.not_eq_true', Bool.not_eq_false', Int.not_lt, Int.not_le, gt_iff_lt, ge_iff_le, ne_eq] at b15
  refine wpA_draw (m := 11) mo (by kernel_rfl) rfl ?_
  refine DetK.op rfl (OpA.mv rfl (by with_reducible conv => lhs; whnf) ⟨rfl, rfl⟩) ?_
  refine DetK.op rfl (OpA.addi rfl rfl rfl (by omega) ⟨rfl, rfl⟩) ?_
  refine DetK.op rfl (OpA.mv rfl (by with_reducible conv => lhs; whnf) ⟨rfl, rfl⟩) ?_
  refine DetK.op rfl (OpA.addi rfl rfl rfl (by omega) ⟨rfl, rfl⟩) ?_
  refine DetK.op rfl (OpA.mv rfl (by with_reducible conv => lhs; whnf) ⟨rfl, rfl⟩) ?_
  refine DetK.op rfl (OpA.fieldAddr rfl tf24_0 rfl ⟨rfl, rfl⟩) ?_
  refine DetK.op rfl (OpA.load rfl ti3 rfl (.tail .head) (by first | rfl | exact getM _ _ _ (by omega) | exact getO (by omega) | exact getL _ _ (by omega) | (simp; done)) (by first | rfl | exact getM _ _ _ (by omega) | exact getO (by omega) | exact getL _ _ (by omega) | (simp; done)) ⟨rfl, rfl⟩) ?_
  refine DetK.op rfl (OpA.addi rfl rfl rfl (by omega) ⟨rfl, rfl⟩) ?_
  refine DetK.op rfl (OpA.asn rfl (by with_reducible conv => lhs; whnf) ⟨rfl, rfl⟩) ?_
  refine DetK.op rfl (OpA.asn rfl (by with_reducible conv => lhs; whnf) ⟨rfl, rfl⟩) ?_
  refine DetK.op rfl (OpA.asn rfl (by with_reducible conv => lhs; whnf) ⟨rfl, rfl⟩) ?_
  refine DetK.nil ?_
  refine wpL_nil ?_
  refine wpA_region ?_
  refine wpL_op rfl rfl rfl (OpA.addi rfl rfl rfl (by omega) ?_)
  refine wpL_op rfl rfl rfl (OpA.mv rfl (by with_reducible conv => lhs; whnf) ?_)
  refine wpL_nil ?_
  first
    | exact ⟨_, _, by omega, ⟨k0 + 1, i + 1, j + 1, _, rfl, ⟨by omega, hc0, stepsF_succ (by omega) hst (by first | exact stepKC (by omega) (by omega) (by omega) (by assumption) | exact stepKeep (by omega) (by omega) (by omega) (by assumption) | exact stepChange (by omega) (by omega) (by omega) (by assumption) | exact stepDrop (by omega) (by omega) | exact stepAdd (by omega) (by omega)), by omega, by omega, by omega, by omega⟩, rfl, rfl⟩, Cov.asg ⟨rfl, rfl, rfl, rfl, rfl, rfl, rfl, rfl, rfl, rfl, rfl, trivial⟩⟩
    | exact ⟨_, _, by omega, ⟨k0 + 1, i + 1, j, _, rfl, ⟨by omega, hc0, stepsF_succ (by omega) hst (by first | exact stepKC (by omega) (by omega) (by omega) (by assumption) | exact stepKeep (by omega) (by omega) (by omega) (by assumption) | exact stepChange (by omega) (by omega) (by omega) (by assumption) | exact stepDrop (by omega) (by omega) | exact stepAdd (by omega) (by omega)), by omega, by omega, by omega, by omega⟩, rfl, rfl⟩, Cov.asg ⟨rfl, rfl, rfl, rfl, rfl, rfl, rfl, rfl, rfl, rfl, rfl, trivial⟩⟩
    | exact ⟨_, _, by omega, ⟨k0 + 1, i, j + 1, _, rfl, ⟨by omega, hc0, stepsF_succ (by omega) hst (by first | exact stepKC (by omega) (by omega) (by omega) (by assumption) | exact stepKeep (by omega) (by omega) (by omega) (by assumption) | exact stepChange (by omega) (by omega) (by omega) (by assumption) | exact stepDrop (by omega) (by omega) | exact stepAdd (by omega) (by omega)), by omega, by omega, by omega, by omega⟩, rfl, rfl⟩, Cov.asg ⟨rfl, rfl, rfl, rfl, rfl, rfl, rfl, rfl, rfl, rfl, rfl, trivial⟩⟩
  try simp only [decide_eq_true_eq, decide_eq_false_iff_not, beq_iff_eq, bne_iff_ne, beq_eq_false_iff_ne, bne_eq_false_iff_eq, Bool.not_eq_true', Bool.not_eq_false', Int.not_lt, Int.not_le, gt_iff_lt, ge_iff_le, ne_eq] at b15
  refine wpA_seq ?_
  refine wpA_region ?_
  refine wpL_op rfl rfl rfl (OpA.mv rfl (by with_reducible conv => lhs; whnf) ?_)
  refine wpL_op rfl rfl rfl (OpA.eql rfl rfl rfl ?_)
  refine wpL_op rfl rfl rfl (OpA.mv rfl (by with_reducible conv => lhs; whnf) ?_)
  refine wpL_split (s := 93) rfl (fun b16 => ?_) (fun b16 => ?_)
  try simp only [decide_eq_true_eq, decide_eq_false_iff_not, beq_iff_eq, bne_iff_ne, beq_eq_false_iff_ne, bne_eq_false_iff_eq, Bool.not_eq_true', Bool.not_eq_false', Int.not_lt, Int.not_le, gt_iff_lt, ge_iff_le, ne_eq] at b16
  exfalso; first | contradiction | omega
  try simp only [decide_eq_true_eq, decide_eq_false_iff_not, beq_iff_eq, bne_iff_ne, beq_eq_false_iff_ne, bne_eq_false_iff_eq, Bool.not_eq_true', Bool.not_eq_false', Int.not_lt, Int.not_le, gt_iff_lt, ge_iff_le, ne_eq] at b16
  refine wpL_skip rfl rfl rfl rfl rfl rfl ?_
  refine wpL_skip rfl rfl rfl rfl rfl rfl ?_
  refine wpL_skip rfl rfl rfl rfl rfl rfl ?_
  refine wpL_skip rfl rfl rfl rfl rfl rfl ?_
  refine wpL_op rfl rfl rfl (OpA.pck rfl rfl (by with_reducible conv => lhs; whnf) ?_)
  refine wpL_op rfl rfl rfl (OpA.asn rfl (by with_reducible conv => lhs; whnf) ?_)
  refine wpL_nil ?_
  refine wpA_condF rfl ?_
  refine wpA_seq ?_
  refine wpA_region ?_
  refine wpL_op rfl rfl rfl (OpA.mv rfl (by with_reducible conv => lhs; whnf) ?_)
  refine wpL_op rfl rfl rfl (OpA.eql rfl rfl rfl ?_)
  refine wpL_op rfl rfl rfl (OpA.mv rfl (by with_reducible conv => lhs; whnf) ?_)
  refine wpL_split (s := 108) rfl (fun b17 => ?_) (fun b17 => ?_)
  try simp only [decide_eq_true_eq, decide_eq_false_iff_not, beq_iff_eq, bne_iff_ne, beq_eq_false_iff_ne, bne_eq_false_iff_eq, Bool.not_eq_true', Bool.not_eq_false', Int.not_lt, Int.not_le, gt_iff_lt, ge_iff_le, ne_eq] at b17
  exfalso; first | contradiction | omega
  try simp only [decide_eq_true_eq, decide_eq_false_iff_not, beq_iff_eq, bne_iff_ne, beq_eq_false_iff_ne, bne_eq_false_iff_eq, Bool.not_eq_true', Bool.not_eq_false', Int.not_lt, Int.not_le, gt_iff_lt, ge_iff_le, ne_eq] at b17
  refine wpL_skip rfl rfl rfl rfl rfl rfl ?_
  refine wpL_skip rfl rfl rfl rfl rfl rfl ?_
  refine wpL_skip rfl rfl rfl rfl rfl rfl ?_
  refine wpL_skip rfl rfl rfl rfl rfl rfl ?_
  refine wpL_op rfl rfl rfl (OpA.pck rfl rfl (by with_reducible conv => lhs; whnf) ?_)
  refine wpL_op rfl rfl rfl (OpA.asn rfl (by with_reducible conv => lhs; whnf) ?_)
  refine wpL_nil ?_
  refine wpA_condF rfl ?_
  refine wpA_seq ?_
  refine wpA_region ?_
  refine wpL_op rfl rfl rfl (OpA.asn rfl (by with_reducible conv => lhs; whnf) ?_)
  refine wpL_nil ?_
  refine wpA_ret ?_
  refine ⟨_, (.tmp (by with_reducible conv => lhs; whnf) .nil), _, (.same rfl .nil), ?_⟩
  (try simp only [tupD]) <;> (rw [checkAlF_none hc0 (stepsF_none (by omega) hst (stepNone (by intro g1 g2 g3; first | omega | (rw [txt_get g2, txt_get g3]; first | assumption | simp_all)) (by intro g1 g2 g3; first | omega | (rw [txt_get g2, txt_get g3]; first | assumption | simp_all)) (by intro g1; omega) (by intro g1; omega)))])
  try simp only [decide_eq_true_eq, decide_eq_false_iff_not, beq_iff_eq, bne_iff_ne, beq_eq_false_iff_ne, bne_eq_false_iff_eq, Bool.not_eq_true', Bool.not_eq_false', Int.not_lt, Int.not_le, gt_iff_lt, ge_iff_le, ne_eq] at b14
  refine DetK.skip rfl rfl rfl rfl ?_
  refine DetK.skip rfl rfl rfl rfl ?_
  refine DetK.skip rfl rfl rfl rfl ?_
  refine DetK.skip rfl rfl rfl rfl ?_
  refine DetK.skip rfl rfl rfl rfl ?_
  refine DetK.skip rfl rfl rfl rfl ?_
  refine DetK.skip rfl rfl rfl rfl ?_
  refine DetK.skip rfl rfl rfl rfl ?_
  refine DetK.skip rfl rfl rfl rfl ?_
  refine DetK.skip rfl rfl rfl rfl ?_
  refine DetK.skip rfl rfl rfl rfl ?_
  refine DetK.op rfl (OpA.pck rfl rfl (by with_reducible conv => lhs; whnf) ⟨rfl, rfl⟩) ?_
  refine DetK.op rfl (OpA.asn rfl (by with_reducible conv => lhs; whnf) ⟨rfl, rfl⟩) ?_
  refine DetK.nil ?_
  refine wpL_nil ?_
  refine wpA_condF rfl ?_
  refine wpA_seq ?_
  refine wpA_region ?_
  refine wpL_op rfl rfl rfl (OpA.mv rfl (by with_reducible conv => lhs; whnf) ?_)
  refine wpL_op rfl rfl rfl (OpA.eql rfl rfl rfl ?_)
  refine wpL_op rfl rfl rfl (OpA.mv rfl (by with_reducible conv => lhs; whnf) ?_)
  refine wpL_split (s := 93) rfl (fun b18 => ?_) (fun b18 => ?_)
  try simp only [decide_eq_true_eq, decide_eq_false_iff_not, beq_iff_eq, bne_iff_ne, beq_eq_false_iff_ne, bne_eq_false_iff_eq, Bool.not_eq_true', Bool.not_eq_false', Int.not_lt, Int.not_le, gt_iff_lt, ge_iff_le, ne_eq] at b18
  exfalso; first | contradiction | omega
  try simp only [decide_eq_true_eq, decide_eq_false_iff_not, beq_iff_eq, bne_iff_ne, beq_eq_false_iff_ne, bne_eq_false_iff_eq, Bool.not_eq_true', Bool.not_eq_false', Int.not_lt, Int.not_le, gt_iff_lt, ge_iff_le, ne_eq] at b18
  refine wpL_skip rfl rfl rfl rfl rfl rfl ?_
  refine wpL_skip rfl rfl rfl rfl rfl rfl ?_
  refine wpL_skip rfl rfl rfl rfl rfl rfl ?_
  refine wpL_skip rfl rfl rfl rfl rfl rfl ?_
  refine wpL_op rfl rfl rfl (OpA.pck rfl rfl (by with_reducible conv => lhs; whnf) ?_)
  refine wpL_op rfl rfl rfl (OpA.asn rfl (by with_reducible conv => lhs; whnf) ?_)
  refine wpL_nil ?_
  refine wpA_condF rfl ?_
  refine wpA_seq ?_
  refine wpA_region ?_
  refine wpL_op rfl rfl rfl (OpA.mv rfl (by with_reducible conv => lhs; whnf) ?_)
  refine wpL_op rfl rfl rfl (OpA.eql rfl rfl rfl ?_)
  refine wpL_op rfl rfl rfl (OpA.mv rfl (by with_reducible conv => lhs; whnf) ?_)
  refine wpL_split (s := 108) rfl (fun b19 => ?_) (fun b19 => ?_)
  try simp only [decide_eq_true_eq, decide_eq_false_iff_not, beq_iff_eq, bne_iff_ne, beq_eq_false_iff_ne, bne_eq_false_iff_eq, Bool.not_eq_true', Bool.not_eq_false', Int.not_lt, Int.not_le, gt_iff_lt, ge_iff_le, ne_eq] at b19
  exfalso; first | contradiction | omega
  try simp only [decide_eq_true_eq, decide_eq_false_iff_not, beq_iff_eq, bne_iff_ne, beq_eq_false_iff_ne, bne_eq_false_iff_eq, Bool.not_eq_true', Bool.not_eq_false', Int.not_lt, Int.not_le, gt_iff_lt, ge_iff_le, ne_eq] at b19
  refine wpL_skip rfl rfl rfl rfl rfl rfl ?_
  refine wpL_skip rfl rfl rfl rfl rfl rfl ?_
  refine wpL_skip rfl rfl rfl rfl rfl rfl ?_
  refine wpL_skip rfl rfl rfl rfl rfl rfl ?_
  refine wpL_op rfl rfl rfl (OpA.pck rfl rfl (by with_reducible conv => lhs; whnf) ?_)
  refine wpL_op rfl rfl rfl (OpA.asn rfl (by with_reducible conv => lhs; whnf) ?_)
  refine wpL_nil ?_
  refine wpA_condF rfl ?_
  refine wpA_seq ?_
  refine wpA_region ?_
  refine wpL_op rfl rfl rfl (OpA.asn rfl (by with_reducible conv => lhs; whnf) ?_)
  refine wpL_nil ?_
  refine wpA_ret ?_
  refine ⟨_, (.tmp (by with_reducible conv => lhs; whnf) .nil), _, (.same rfl .nil), ?_⟩
  (try simp only [tupD]) <;> (rw [checkAlF_none hc0 (stepsF_none (by omega) hst (stepNone (by intro g1 g2 g3; first | omega | (rw [txt_get g2, txt_get g3]; first | assumption | simp_all)) (by intro g1 g2 g3; first | omega | (rw [txt_get g2, txt_get g3]; first | assumption | simp_all)) (by intro g1; omega) (by intro g1; omega)))])
  try simp only [decide_eq_true_eq, decide_eq_false_iff_not, beq_iff_eq, bne_iff_ne, beq_eq_false_iff_ne, bne_eq_false_iff_eq, Bool.not_eq_true', Bool.not_eq_false', Int.not_lt, Int.not_le, gt_iff_lt, ge_iff_le, ne_eq] at b13
  refine DetK.skip rfl rfl rfl rfl ?_
  refine DetK.op rfl (OpA.pck rfl rfl (by with_reducible conv => lhs; whnf) ⟨rfl, rfl⟩) ?_
  refine DetK.op rfl (OpA.mv rfl (by with_reducible conv => lhs; whnf) ⟨rfl, rfl⟩) ?_
  refine DetK.skip rfl rfl rfl rfl ?_
  refine DetK.skip rfl rfl rfl rfl ?_
  refine DetK.skip rfl rfl rfl rfl ?_
  refine DetK.skip rfl rfl rfl rfl ?_
  refine DetK.skip rfl rfl rfl rfl ?_
  refine DetK.skip rfl rfl rfl rfl ?_
  refine DetK.skip rfl rfl rfl rfl ?_
  refine DetK.skip rfl rfl rfl rfl ?_
  refine DetK.skip rfl rfl rfl rfl ?_
  refine DetK.skip rfl rfl rfl rfl ?_
  refine DetK.skip rfl rfl rfl rfl ?_
  refine DetK.op rfl (OpA.pck rfl rfl (by with_reducible conv => lhs; whnf) ⟨rfl, rfl⟩) ?_
  refine DetK.op rfl (OpA.asn rfl (by with_reducible conv => lhs; whnf) ⟨rfl, rfl⟩) ?_
  refine DetK.nil ?_
  refine wpL_nil ?_
  refine wpA_condF rfl ?_
  refine wpA_seq ?_
  refine wpA_region ?_
  refine wpL_op rfl rfl rfl (OpA.mv rfl (by with_reducible conv => lhs; whnf) ?_)
  refine wpL_op rfl rfl rfl (OpA.eql rfl rfl rfl ?_)
  refine wpL_op rfl rfl rfl (OpA.mv rfl (by with_reducible conv => lhs; whnf) ?_)
  refine wpL_split (s := 93) rfl (fun b20 => ?_) (fun b20 => ?_)
  try simp only [decide_eq_true_eq, decide_eq_false_iff_not, beq_iff_eq, bne_iff_ne, beq_eq_false_iff_ne, bne_eq_false_iff_eq, Bool.not_eq_true', Bool.not_eq_false', Int.not_lt, Int.not_le, gt_iff_lt, ge_iff_le, ne_eq] at b20
  refine wpL_opg rfl rfl rfl rfl rfl rfl (OpA.mv rfl (by with_reducible conv => lhs; whnf) ?_)
  refine wpL_opg rfl rfl rfl rfl rfl rfl (OpA.mv rfl (by with_reducible conv => lhs; whnf) ?_)
  first
    | refine wpL_opg rfl rfl rfl rfl rfl rfl (OpA.len rfl rfl rfl rfl ts22.desc (.inl ⟨_, _, rfl, (List.length_map _).symm⟩) ?_)
    | refine wpL_opg rfl rfl rfl rfl rfl rfl (OpA.len rfl rfl rfl rfl ts22.desc (.inl ⟨_, _, rfl, rfl⟩) ?_)
    | refine wpL_opg rfl rfl rfl rfl rfl rfl (OpA.len rfl rfl rfl rfl ts22.desc (.inr (.inl ⟨_, _, _, rfl⟩)) ?_)
    | refine wpL_opg rfl rfl rfl rfl rfl rfl (OpA.len rfl rfl rfl rfl ts22.desc (.inr (.inr ⟨rfl, rfl⟩)) ?_)
  refine wpL_opg rfl rfl rfl rfl rfl rfl (OpA.lss rfl rfl rfl ?_)
  refine wpL_op rfl rfl rfl (OpA.pck rfl rfl (by with_reducible conv => lhs; whnf) ?_)
  refine wpL_op rfl rfl rfl (OpA.asn rfl (by with_reducible conv => lhs; whnf) ?_)
  refine wpL_nil ?_
  refine wpA_cond rfl (fun b21 => ?_) (fun b21 => ?_)
  try simp only [decide_eq_true_eq, decide_eq_false_iff_not, beq_iff_eq, bne_iff_ne, beq_eq_false_iff_ne, bne_eq_false_iff_eq, Bool.not_eq_true', Bool.not_eq_false', Int.not_lt, Int.not_le, gt_iff_lt, ge_iff_le, ne_eq] at b21
  refine wpA_draw (m := 8) mo (by kernel_rfl) rfl ?_
  refine DetK.op rfl (OpA.mv rfl (by with_reducible conv => lhs; whnf) ⟨rfl, rfl⟩) ?_
  refine DetK.op rfl (OpA.addi rfl rfl rfl (by omega) ⟨rfl, rfl⟩) ?_
  refine DetK.op rfl (OpA.mv rfl (by with_reducible conv => lhs; whnf) ⟨rfl, rfl⟩) ?_
  refine DetK.op rfl (OpA.fieldAddr rfl tf24_1 rfl ⟨rfl, rfl⟩) ?_
  refine DetK.op rfl (OpA.load rfl ti3 rfl (.tail .head) (by first | rfl | exact getM _ _ _ (by omega) | exact getO (by omega) | exact getL _ _ (by omega) | (simp; done)) (by first | rfl | exact getM _ _ _ (by omega) | exact getO (by omega) | exact getL _ _ (by omega) | (simp; done)) ⟨rfl, rfl⟩) ?_
  refine DetK.op rfl (OpA.addi rfl rfl rfl (by omega) ⟨rfl, rfl⟩) ?_
  refine DetK.op rfl (OpA.asn rfl (by with_reducible conv => lhs; whnf) ⟨rfl, rfl⟩) ?_
  refine DetK.op rfl (OpA.asn rfl (by with_reducible conv => lhs; whnf) ⟨rfl, rfl⟩) ?_
  refine DetK.nil ?_
  refine wpL_nil ?_
  refine wpA_region ?_
  refine wpL_op rfl rfl rfl (OpA.addi rfl rfl rfl (by omega) ?_)
  refine wpL_op rfl rfl rfl (OpA.mv rfl (by with_reducible conv => lhs; whnf) ?_)
  refine wpL_nil ?_
  first
    | exact ⟨_, _, by omega, ⟨k0 + 1, i + 1, j + 1, _, rfl, ⟨by omega, hc0, stepsF_succ (by omega) hst (by first | exact stepKC (by omega) (by omega) (by omega) (by assumption) | exact stepKeep (by omega) (by omega) (by omega) (by assumption) | exact stepChange (by omega) (by omega) (by omega) (by assumption) | exact stepDrop (by omega) (by omega) | exact stepAdd (by omega) (by omega)), by omega, by omega, by omega, by omega⟩, rfl, rfl⟩, Cov.asg ⟨rfl, rfl, rfl, rfl, rfl, rfl, rfl, rfl, rfl, rfl, rfl, trivial⟩⟩
    | exact ⟨_, _, by omega, ⟨k0 + 1, i + 1, j, _, rfl, ⟨by omega, hc0, stepsF_succ (by omega) hst (by first | exact stepKC (by omega) (by omega) (by omega) (by assumption) | exact stepKeep (by omega) (by omega) (by omega) (by assumption) | exact stepChange (by omega) (by omega) (by omega) (by assumption) | exact stepDrop (by omega) (by omega) | exact stepAdd (by omega) (by omega)), by omega, by omega, by omega, by omega⟩, rfl, rfl⟩, Cov.asg ⟨rfl, rfl, rfl, rfl, rfl, rfl, rfl, rfl, rfl, rfl, rfl, trivial⟩⟩
    | exact ⟨_, _, by omega, ⟨k0 + 1, i, j + 1, _, rfl, ⟨by omega, hc0, stepsF_succ (by omega) hst (by first | exact stepKC (by omega) (by omega) (by omega) (by assumption) | exact stepKeep (by omega) (by omega) (by omega) (by assumption) | exact stepChange (by omega) (by omega) (by omega) (by assumption) | exact stepDrop (by omega) (by omega) | exact stepAdd (by omega) (by omega)), by omega, by omega, by omega, by omega⟩, rfl, rfl⟩, Cov.asg ⟨rfl, rfl, rfl, rfl, rfl, rfl, rfl, rfl, rfl, rfl, rfl, trivial⟩⟩
  try simp only [decide_eq_true_eq, decide_eq_false_iff_not, beq_iff_eq, bne_iff_ne, beq_eq_false_iff_ne, bne_eq_false_iff_eq, Bool.not_eq_true', Bool.not_eq_false', Int.not_lt, Int.not_le, gt_iff_lt, ge_iff_le, ne_eq] at b21
  exfalso; first | contradiction | omega
  try simp only [decide_eq_true_eq, decide_eq_false_iff_not, beq_iff_eq, bne_iff_ne, beq_eq_false_iff_ne, bne_eq_false_iff_eq, Bool.not_eq_true', Bool.not_eq_false', Int.not_lt, Int.not_le, gt_iff_lt, ge_iff_le, ne_eq] at b20
  refine wpL_skip rfl rfl rfl rfl rfl rfl ?_
  refine wpL_skip rfl rfl rfl rfl rfl rfl ?_
  refine wpL_skip rfl rfl rfl rfl rfl rfl ?_
  refine wpL_skip rfl rfl rfl rfl rfl rfl ?_
  refine wpL_op rfl rfl rfl (OpA.pck rfl rfl (by with_reducible conv => lhs; whnf) ?_)
  refine wpL_op rfl rfl rfl (OpA.asn rfl (by with_reducible conv => lhs; whnf) ?_)
  refine wpL_nil ?_
  refine wpA_condF rfl ?_
  refine wpA_seq ?_
  refine wpA_region ?_
  refine wpL_op rfl rfl rfl (OpA.mv rfl (by with_reducible conv => lhs; whnf) ?_)
  refine wpL_op rfl rfl rfl (OpA.eql rfl rfl rfl ?_)
  refine wpL_op rfl rfl rfl (OpA.mv rfl (by with_reducible conv => lhs; whnf) ?_)
  refine wpL_split (s := 108) rfl (fun b22 => ?_) (fun b22 => ?_)
  try simp only [decide_eq_true_eq, decide_eq_false_iff_not, beq_iff_eq, bne_iff_ne, beq_eq_false_iff_ne, bne_eq_false_iff_eq, Bool.not_eq_true', Bool.not_eq_false', Int.not_lt, Int.not_le, gt_iff_lt, ge_iff_le, ne_eq] at b22
  refine wpL_opg rfl rfl rfl rfl rfl rfl (OpA.mv rfl (by with_reducible conv => lhs; whnf) ?_)
  refine wpL_opg rfl rfl rfl rfl rfl rfl (OpA.mv rfl (by with_reducible conv => lhs; whnf) ?_)
  first
    | refine wpL_opg rfl rfl rfl rfl rfl rfl (OpA.len rfl rfl rfl rfl ts22.desc (.inl ⟨_, _, rfl, (List.length_map _).symm⟩) ?_)
    | refine wpL_opg rfl rfl rfl rfl rfl rfl (OpA.len rfl rfl rfl rfl ts22.desc (.inl ⟨_, _, rfl, rfl⟩) ?_)
    | refine wpL_opg rfl rfl rfl rfl rfl rfl (OpA.len rfl rfl rfl rfl ts22.desc (.inr (.inl ⟨_, _, _, rfl⟩)) ?_)
    | refine wpL_opg rfl rfl rfl rfl rfl rfl (OpA.len rfl rfl rfl rfl ts22.desc (.inr (.inr ⟨rfl, rfl⟩)) ?_)
  refine wpL_opg rfl rfl rfl rfl rfl rfl (OpA.lss rfl rfl rfl ?_)
  refine wpL_op rfl rfl rfl (OpA.pck rfl rfl (by with_reducible conv => lhs; whnf) ?_)
  refine wpL_op rfl rfl rfl (OpA.asn rfl (by with_reducible conv => lhs; whnf) ?_)
  refine wpL_nil ?_
  refine wpA_cond rfl (fun b23 => ?_) (fun b23 => ?_)
  try simp only [decide_eq_true_eq, decide_eq_false_iff_not, beq_iff_eq, bne_iff_ne, beq_eq_false_iff_ne, bne_eq_false_iff_eq, Bool.not_eq_true', Bool.not_eq_false', Int.not_lt, Int.not_le, gt_iff_lt, ge_iff_le, ne_eq] at b23
  refine wpA_draw (m := 8) mo (by kernel_rfl) rfl ?_
  refine DetK.op rfl (OpA.mv rfl (by with_reducible conv => lhs; whnf) ⟨rfl, rfl⟩) ?_
  refine DetK.op rfl (OpA.addi rfl rfl rfl (by omega) ⟨rfl, rfl⟩) ?_
  refine DetK.op rfl (OpA.mv rfl (by with_reducible conv => lhs; whnf) ⟨rfl, rfl⟩) ?_
  refine DetK.op rfl (OpA.fieldAddr rfl tf24_2 rfl ⟨rfl, rfl⟩) ?_
  refine DetK.op rfl (OpA.load rfl ti3 rfl (.tail .head) (by first | rfl | exact getM _ _ _ (by omega) | exact getO (by omega) | exact getL _ _ (by omega) | (simp; done)) (by first | rfl | exact getM _ _ _ (by omega) | exact getO (by omega) | exact getL _ _ (by omega) | (simp; done)) ⟨rfl, rfl⟩) ?_
  refine DetK.op rfl (OpA.addi rfl rfl rfl (by omega) ⟨rfl, rfl⟩) ?_
  refine DetK.op rfl (OpA.asn rfl (by with_reducible conv => lhs; whnf) ⟨rfl, rfl⟩) ?_
  refine DetK.op rfl (OpA.asn rfl (by with_reducible conv => lhs; whnf) ⟨rfl, rfl⟩) ?_
  refine DetK.nil ?_
  refine wpL_nil ?_
  refine wpA_region ?_
  refine wpL_op rfl rfl rfl (OpA.addi rfl rfl rfl (by omega) ?_)
  refine wpL_op rfl rfl rfl (OpA.mv rfl (by with_reducible conv => lhs; whnf) ?_)
  refine wpL_nil ?_
  first
    | exact ⟨_, _, by omega, ⟨k0 + 1, i + 1, j + 1, _, rfl, ⟨by omega, hc0, stepsF_succ (by omega) hst (by first | exact stepKC (by omega) (by omega) (by omega) (by assumption) | exact stepKeep (by omega) (by omega) (by omega) (by assumption) | exact stepChange (by omega) (by omega) (by omega) (by assumption) | exact stepDrop (by omega) (by omega) | exact stepAdd (by omega) (by omega)), by omega, by omega, by omega, by omega⟩, rfl, rfl⟩, Cov.asg ⟨rfl, rfl, rfl, rfl, rfl, rfl, rfl, rfl, rfl, rfl, rfl, trivial⟩⟩
    | exact ⟨_, _, by omega, ⟨k0 + 1, i + 1, j, _, rfl, ⟨by omega, hc0, stepsF_succ (by omega) hst (by first | exact stepKC (by omega) (by omega) (by omega) (by assumption) | exact stepKeep (by omega) (by omega) (by omega) (by assumption) | exact stepChange (by omega) (by omega) (by omega) (by assumption) | exact stepDrop (by omega) (by omega) | exact stepAdd (by omega) (by omega)), by omega, by omega, by omega, by omega⟩, rfl, rfl⟩, Cov.asg ⟨rfl, rfl, rfl, rfl, rfl, rfl, rfl, rfl, rfl, rfl, rfl, trivial⟩⟩
    | exact ⟨_, _, by omega, ⟨k0 + 1, i, j + 1, _, rfl, ⟨by omega, hc0, stepsF_succ (by omega) hst (by first | exact stepKC (by omega) (by omega) (by omega) (by assumption) | exact stepKeep (by omega) (by omega) (by omega) (by assumption) | exact stepChange (by omega) (by omega) (by omega) (by assumption) | exact stepDrop (by omega) (by omega) | exact stepAdd (by omega) (by omega)), by omega, by omega, by omega, by omega⟩, rfl, rfl⟩, Cov.asg ⟨rfl, rfl, rfl, rfl, rfl, rfl, rfl, rfl, rfl, rfl, rfl, trivial⟩⟩
  try simp only [decide_eq_true_eq, decide_eq_false_iff_not, beq_iff_eq, bne_iff_ne, beq_eq_false_iff_ne, bne_eq_false_iff_eq, Bool.not_eq_true', Bool.not_eq_false', Int.not_lt, Int.not_le, gt_iff_lt, ge_iff_le, ne_eq] at b23
  refine wpA_seq ?_
  refine wpA_region ?_
  refine wpL_op rfl rfl rfl (OpA.asn rfl (by with_reducible conv => lhs; whnf) ?_)
  refine wpL_nil ?_
  refine wpA_ret ?_
  refine ⟨_, (.tmp (by with_reducible conv => lhs; whnf) .nil), _, (.same rfl .nil), ?_⟩
  (try simp only [tupD]) <;> (rw [checkAlF_none hc0 (stepsF_none (by omega) hst (stepNone (by intro g1 g2 g3; first | omega | (rw [txt_get g2, txt_get g3]; first | assumption | simp_all)) (by intro g1 g2 g3; first | omega | (rw [txt_get g2, txt_get g3]; first | assumption | simp_all)) (by intro g1; omega) (by intro g1; omega)))])
  try simp only [decide_eq_true_eq, decide_eq_false_iff_not, beq_iff_eq, bne_iff_ne, beq_eq_false_iff_ne, bne_eq_false_iff_eq, Bool.not_eq_true', Bool.not_eq_false', Int.not_lt, Int.not_le, gt_iff_lt, ge_iff_le, ne_eq] at b22
  refine wpL_skip rfl rfl rfl rfl rfl rfl ?_
  refine wpL_skip rfl rfl rfl rfl rfl rfl ?_
  refine wpL_skip rfl rfl rfl rfl rfl rfl ?_
  refine wpL_skip rfl rfl rfl rfl rfl rfl ?_
  refine wpL_op rfl rfl rfl (OpA.pck rfl rfl (by with_reducible conv => lhs; whnf) ?_)
  refine wpL_op rfl rfl rfl (OpA.asn rfl (by with_reducible conv => lhs; whnf) ?_)
  refine wpL_nil ?_
  refine wpA_condF rfl ?_
  refine wpA_seq ?_
  refine wpA_region ?_
  refine wpL_op rfl rfl rfl (OpA.asn rfl (by with_reducible conv => lhs; whnf) ?_)
  refine wpL_nil ?_
  refine wpA_ret ?_
  refine ⟨_, (.tmp (by with_reducible conv => lhs; whnf) .nil), _, (.same rfl .nil), ?_⟩
  (try simp only [tupD]) <;> (rw [checkAlF_none hc0 (stepsF_none (by omega) hst (stepNone (by intro g1 g2 g3; first | omega | (rw [txt_get g2, txt_get g3]; first | assumption | simp_all)) (by intro g1 g2 g3; first | omega | (rw [txt_get g2, txt_get g3]; first | assumption | simp_all)) (by intro g1; omega) (by intro g1; omega)))])
  try simp only [decide_eq_true_eq, decide_eq_false_iff_not, beq_iff_eq, bne_iff_ne, beq_eq_false_iff_ne, bne_eq_false_iff_eq, Bool.not_eq_true', Bool.not_eq_false', Int.not_lt, Int.not_le, gt_iff_lt, ge_iff_le, ne_eq] at b3
  refine wpL_skip rfl rfl rfl rfl rfl rfl ?_
  refine wpL_skip rfl rfl rfl rfl rfl rfl ?_
  refine wpL_skip rfl rfl rfl rfl rfl rfl ?_
  refine wpL_skip rfl rfl rfl rfl rfl rfl ?_
  refine wpL_op rfl rfl rfl (OpA.pck rfl rfl (by with_reducible conv => lhs; whnf) ?_)
  refine wpL_op rfl rfl rfl (OpA.asn rfl (by with_reducible conv => lhs; whnf) ?_)
  refine wpL_nil ?_
  refine wpA_block ?_
  refine wpA_seq ?_
  refine wpA_draw (m := 19) mo (by kernel_rfl) rfl ?_
  refine DetK.op rfl (OpA.mv rfl (by with_reducible conv => lhs; whnf) ⟨rfl, rfl⟩) ?_
  refine DetK.op rfl (OpA.eql rfl rfl rfl ⟨rfl, rfl⟩) ?_
  refine DetK.op rfl (OpA.mv rfl (by with_reducible conv => lhs; whnf) ⟨rfl, rfl⟩) ?_
  refine DetK_split (s := 43) rfl (fun b24 => ?_) (fun b24 => ?_)
  try simp only [decide_eq_true_eq, decide_eq_false_iff_not, beq_iff_eq, bne_iff_ne, beq_eq_false_iff_ne, bne_eq_false_iff_eq, Bool.not_eq_true', Bool.not_eq_false', Int.not_lt, Int.not_le, gt_iff_lt, ge_iff_le, ne_eq] at b24
  refine DetK.opg rfl rfl rfl rfl (OpA.mv rfl (by with_reducible conv => lhs; whnf) ⟨rfl, rfl⟩) ?_
  refine DetK.op rfl (OpA.pck rfl rfl (by with_reducible conv => lhs; whnf) ⟨rfl, rfl⟩) ?_
  refine DetK.op rfl (OpA.mv rfl (by with_reducible conv => lhs; whnf) ⟨rfl, rfl⟩) ?_
  refine DetK.skip rfl rfl rfl rfl ?_
  refine DetK.skip rfl rfl rfl rfl ?_
  refine DetK.skip rfl rfl rfl rfl ?_
  refine DetK.skip rfl rfl rfl rfl ?_
  refine DetK.skip rfl rfl rfl rfl ?_
  refine DetK.skip rfl rfl rfl rfl ?_
  refine DetK.skip rfl rfl rfl rfl ?_
  refine DetK.skip rfl rfl rfl rfl ?_
  refine DetK.skip rfl rfl rfl rfl ?_
  refine DetK.skip rfl rfl rfl rfl ?_
  refine DetK.skip rfl rfl rfl rfl ?_
  refine DetK.op rfl (OpA.pck rfl rfl (by with_reducible conv => lhs; whnf) ⟨rfl, rfl⟩) ?_
  refine DetK.op rfl (OpA.asn rfl (by with_reducible conv => lhs; whnf) ⟨rfl, rfl⟩) ?_
  refine DetK.nil ?_
  refine wpL_nil ?_
  refine wpA_condF rfl ?_
  refine wpA_seq ?_
  refine wpA_draw (m := 19) mo (by kernel_rfl) rfl ?_
  refine DetK.op rfl (OpA.mv rfl (by with_reducible conv => lhs; whnf) ⟨rfl, rfl⟩) ?_
  refine DetK.op rfl (OpA.eql rfl rfl rfl ⟨rfl, rfl⟩) ?_
  refine DetK.op rfl (OpA.mv rfl (by with_reducible conv => lhs; whnf) ⟨rfl, rfl⟩) ?_
  refine DetK_split (s := 66) rfl (fun b25 => ?_) (fun b25 => ?_)
  try simp only [decide_eq_true_eq, decide_eq_false_iff_not, beq_iff_eq, bne_iff_ne, beq_eq_false_iff_ne, bne_eq_false_iff_eq, Bool.not_eq_true', Bool.not_eq_false', Int.not_lt, Int.not_le, gt_iff_lt, ge_iff_le, ne_eq] at b25
  exfalso; first | contradiction | omega
  try simp only [decide_eq_true_eq, decide_eq_false_iff_not, beq_iff_eq, bne_iff_ne, beq_eq_false_iff_ne, bne_eq_false_iff_eq, Bool.not_eq_true', Bool.not_eq_false', Int.not_lt, Int.not_le, gt_iff_lt, ge_iff_le, ne_eq] at b25
  refine DetK.skip rfl rfl rfl rfl ?_
  refine DetK.op rfl (OpA.pck rfl rfl (by with_reducible conv => lhs; whnf) ⟨rfl, rfl⟩) ?_
  refine DetK.op rfl (OpA.mv rfl (by with_reducible conv => lhs; whnf) ⟨rfl, rfl⟩) ?_
  refine DetK.skip rfl rfl rfl rfl ?_
  refine DetK.skip rfl rfl rfl rfl ?_
  refine DetK.skip rfl rfl rfl rfl ?_
  refine DetK.skip rfl rfl rfl rfl ?_
  refine DetK.skip rfl rfl rfl rfl ?_
  refine DetK.skip rfl rfl rfl rfl ?_
  refine DetK.skip rfl rfl rfl rfl ?_
  refine DetK.skip rfl rfl rfl rfl ?_
  refine DetK.skip rfl rfl rfl rfl ?_
  refine DetK.skip rfl rfl rfl rfl ?_
  refine DetK.skip rfl rfl rfl rfl ?_
  refine DetK.op rfl (OpA.pck rfl rfl (by with_reducible conv => lhs; whnf) ⟨rfl, rfl⟩) ?_
  refine DetK.op rfl (OpA.asn rfl (by with_reducible conv => lhs; whnf) ⟨rfl, rfl⟩) ?_
  refine DetK.nil ?_
  refine wpL_nil ?_
  refine wpA_condF rfl ?_
  refine wpA_seq ?_
  refine wpA_region ?_
  refine wpL_op rfl rfl rfl (OpA.mv rfl (by with_reducible conv => lhs; whnf) ?_)
  refine wpL_op rfl rfl rfl (OpA.eql rfl rfl rfl ?_)
  refine wpL_op rfl rfl rfl (OpA.mv rfl (by with_reducible conv => lhs; whnf) ?_)
  refine wpL_split (s := 93) rfl (fun b26 => ?_) (fun b26 => ?_)
  try simp only [decide_eq_true_eq, decide_eq_false_iff_not, beq_iff_eq, bne_iff_ne, beq_eq_false_iff_ne, bne_eq_false_iff_eq, Bool.not_eq_true', Bool.not_eq_false', Int.not_lt, Int.not_le, gt_iff_lt, ge_iff_le, ne_eq] at b26
  exfalso; first | contradiction | omega
  try simp only [decide_eq_true_eq, decide_eq_false_iff_not, beq_iff_eq, bne_iff_ne, beq_eq_false_iff_ne, bne_eq_false_iff_eq, Bool.not_eq_true', Bool.not_eq_false', Int.not_lt, Int.not_le, gt_iff_lt, ge_iff_le, ne_eq] at b26
  refine wpL_skip rfl rfl rfl rfl rfl rfl ?_
  refine wpL_skip rfl rfl rfl rfl rfl rfl ?_
  refine wpL_skip rfl rfl rfl rfl rfl rfl ?_
  refine wpL_skip rfl rfl rfl rfl rfl rfl ?_
  refine wpL_op rfl rfl rfl (OpA.pck rfl rfl (by with_reducible conv => lhs; whnf) ?_)
  refine wpL_op rfl rfl rfl (OpA.asn rfl (by with_reducible conv => lhs; whnf) ?_)
  refine wpL_nil ?_
  refine wpA_condF rfl ?_
  refine wpA_seq ?_
  refine wpA_region ?_
  refine wpL_op rfl rfl rfl (OpA.mv rfl (by with_reducible conv => lhs; whnf) ?_)
  refine wpL_op rfl rfl rfl (OpA.eql rfl rfl rfl ?_)
  refine wpL_op rfl rfl rfl (OpA.mv rfl (by with_reducible conv => lhs; whnf) ?_)
  refine wpL_split (s := 108) rfl (fun b27 => ?_) (fun b27 => ?_)
  try simp only [decide_eq_true_eq, decide_eq_false_iff_not, beq_iff_eq, bne_iff_ne, beq_eq_false_iff_ne, bne_eq_false_iff_eq, Bool.not_eq_true', Bool.not_eq_false', Int.not_lt, Int.not_le, gt_iff_lt, ge_iff_le, ne_eq] at b27
  exfalso; first | contradiction | omega
  try simp only [decide_eq_true_eq, decide_eq_false_iff_not, beq_iff_eq, bne_iff_ne, beq_eq_false_iff_ne, bne_eq_false_iff_eq, Bool.not_eq_true', Bool.not_eq_false', Int.not_lt, Int.not_le, gt_iff_lt, ge_iff_le, ne_eq] at b27
  refine wpL_skip rfl rfl rfl rfl rfl rfl ?_
  refine wpL_skip rfl rfl rfl rfl rfl rfl ?_
  refine wpL_skip rfl rfl rfl rfl rfl rfl ?_
  refine wpL_skip rfl rfl rfl rfl rfl rfl ?_
  refine wpL_op rfl rfl rfl (OpA.pck rfl rfl (by with_reducible conv => lhs; whnf) ?_)
  refine wpL_op rfl rfl rfl (OpA.asn rfl (by with_reducible conv => lhs; whnf) ?_)
  refine wpL_nil ?_
  refine wpA_condF rfl ?_
  refine wpA_seq ?_
  refine wpA_region ?_
  refine wpL_op rfl rfl rfl (OpA.asn rfl (by with_reducible conv => lhs; whnf) ?_)
  refine wpL_nil ?_
  refine wpA_ret ?_
  refine ⟨_, (.tmp (by with_reducible conv => lhs; whnf) .nil), _, (.same rfl .nil), ?_⟩
  (try simp only [tupD]) <;> (rw [checkAlF_none hc0 (stepsF_none (by omega) hst (stepNone (by intro g1 g2 g3; first | omega | (rw [txt_get g2, txt_get g3]; first | assumption | simp_all)) (by intro g1 g2 g3; first | omega | (rw [txt_get g2, txt_get g3]; first | assumption | simp_all)) (by intro g1; omega) (by intro g1; omega)))])
  try simp only [decide_eq_true_eq, decide_eq_false_iff_not, beq_iff_eq, bne_iff_ne, beq_eq_false_iff_ne, bne_eq_false_iff_eq, Bool.not_eq_true', Bool.not_eq_false', Int.not_lt, Int.not_le, gt_iff_lt, ge_iff_le, ne_eq] at b24
  refine DetK.skip rfl rfl rfl rfl ?_
  refine DetK.op rfl (OpA.pck rfl rfl (by with_reducible conv => lhs; whnf) ⟨rfl, rfl⟩) ?_
  refine DetK.op rfl (OpA.mv rfl (by with_reducible conv => lhs; whnf) ⟨rfl, rfl⟩) ?_
  refine DetK.skip rfl rfl rfl rfl ?_
  refine DetK.skip rfl rfl rfl rfl ?_
  refine DetK.skip rfl rfl rfl rfl ?_
  refine DetK.skip rfl rfl rfl rfl ?_
  refine DetK.skip rfl rfl rfl rfl ?_
  refine DetK.skip rfl rfl rfl rfl ?_
  refine DetK.skip rfl rfl rfl rfl ?_
  refine DetK.skip rfl rfl rfl rfl ?_
  refine DetK.skip rfl rfl rfl rfl ?_
  refine DetK.skip rfl rfl rfl rfl ?_
  refine DetK.skip rfl rfl rfl rfl ?_
  refine DetK.op rfl (OpA.pck rfl rfl (by with_reducible conv => lhs; whnf) ⟨rfl, rfl⟩) ?_
  refine DetK.op rfl (OpA.asn rfl (by with_reducible conv => lhs; whnf) ⟨rfl, rfl⟩) ?_
  refine DetK.nil ?_
  refine wpL_nil ?_
  refine wpA_condF rfl ?_
  refine wpA_seq ?_
  refine wpA_draw (m := 19) mo (by kernel_rfl) rfl ?_
  refine DetK.op rfl (OpA.mv rfl (by with_reducible conv => lhs; whnf) ⟨rfl, rfl⟩) ?_
  refine DetK.op rfl (OpA.eql rfl rfl rfl ⟨rfl, rfl⟩) ?_
  refine DetK.op rfl (OpA.mv rfl (by with_reducible conv => lhs; whnf) ⟨rfl, rfl⟩) ?_
  refine DetK_split (s := 66) rfl (fun b28 => ?_) (fun b28 => ?_)
  try simp only [decide_eq_true_eq, decide_eq_false_iff_not, beq_iff_eq, bne_iff_ne, beq_eq_false_iff_ne, bne_eq_false_iff_eq, Bool.not_eq_true', Bool.not_eq_false', Int.not_lt, Int.not_le, gt_iff_lt, ge_iff_le, ne_eq] at b28
  refine DetK.opg rfl rfl rfl rfl (OpA.mv rfl (by with_reducible conv => lhs; whnf) ⟨rfl, rfl⟩) ?_
  refine DetK.op rfl (OpA.pck rfl rfl (by with_reducible conv => lhs; whnf) ⟨rfl, rfl⟩) ?_
  refine DetK.op rfl (OpA.mv rfl (by with_reducible conv => lhs; whnf) ⟨rfl, rfl⟩) ?_
  refine DetK.skip rfl rfl rfl rfl ?_
  refine DetK.skip rfl rfl rfl rfl ?_
  refine DetK.skip rfl rfl rfl rfl ?_
  refine DetK.skip rfl rfl rfl rfl ?_
  refine DetK.skip rfl rfl rfl rfl ?_
  refine DetK.skip rfl rfl rfl rfl ?_
  refine DetK.skip rfl rfl rfl rfl ?_
  refine DetK.skip rfl rfl rfl rfl ?_
  refine DetK.skip rfl rfl rfl rfl ?_
  refine DetK.skip rfl rfl rfl rfl ?_
  refine DetK.skip rfl rfl rfl rfl ?_
  refine DetK.op rfl (OpA.pck rfl rfl (by with_reducible conv => lhs; whnf) ⟨rfl, rfl⟩) ?_
  refine DetK.op rfl (OpA.asn rfl (by with_reducible conv => lhs; whnf) ⟨rfl, rfl⟩) ?_
  refine DetK.nil ?_
  refine wpL_nil ?_
  refine wpA_condF rfl ?_
  refine wpA_seq ?_
  refine wpA_region ?_
  refine wpL_op rfl rfl rfl (OpA.mv rfl (by with_reducible conv => lhs; whnf) ?_)
  refine wpL_op rfl rfl rfl (OpA.eql rfl rfl rfl ?_)
  refine wpL_op rfl rfl rfl (OpA.mv rfl (by with_reducible conv => lhs; whnf) ?_)
  refine wpL_split (s := 93) rfl (fun b29 => ?_) (fun b29 => ?_)
  try simp only [decide_eq_true_eq, decide_eq_false_iff_not, beq_iff_eq, bne_iff_ne, beq_eq_false_iff_ne, bne_eq_false_iff_eq, Bool.not_eq_true', Bool.not_eq_false', Int.not_lt, Int.not_le, gt_iff_lt, ge_iff_le, ne_eq] at b29
  exfalso; first | contradiction | omega
  try simp only [decide_eq_true_eq, decide_eq_false_iff_not, beq_iff_eq, bne_iff_ne, beq_eq_false_iff_ne, bne_eq_false_iff_eq, Bool.not_eq_true', Bool.not_eq_false', Int.not_lt, Int.not_le, gt_iff_lt, ge_iff_le, ne_eq] at b29
  refine wpL_skip rfl rfl rfl rfl rfl rfl ?_
  refine wpL_skip rfl rfl rfl rfl rfl rfl ?_
  refine wpL_skip rfl rfl rfl rfl rfl rfl ?_
  refine wpL_skip rfl rfl rfl rfl rfl rfl ?_
  refine wpL_op rfl rfl rfl (OpA.pck rfl rfl (by with_reducible conv => lhs; whnf) ?_)
  refine wpL_op rfl rfl rfl (OpA.asn rfl (by with_reducible conv => lhs; whnf) ?_)
  refine wpL_nil ?_
  refine wpA_condF rfl ?_
  refine wpA_seq ?_
  refine wpA_region ?_
  refine wpL_op rfl rfl rfl (OpA.mv rfl (by with_reducible conv => lhs; whnf) ?_)
  refine wpL_op rfl rfl rfl (OpA.eql rfl rfl rfl ?_)
  refine wpL_op rfl rfl rfl (OpA.mv rfl (by with_reducible conv => lhs; whnf) ?_)
  refine wpL_split (s := 108) rfl (fun b30 => ?_) (fun b30 => ?_)
  try simp only [decide_eq_true_eq, decide_eq_false_iff_not, beq_iff_eq, bne_iff_ne, beq_eq_false_iff_ne, bne_eq_false_iff_eq, Bool.not_eq_true', Bool.not_eq_false', Int.not_lt, Int.not_le, gt_iff_lt, ge_iff_le, ne_eq] at b30
  exfalso; first | contradiction | omega
  try simp only [decide_eq_true_eq, decide_eq_false_iff_not, beq_iff_eq, bne_iff_ne, beq_eq_false_iff_ne, bne_eq_false_iff_eq, Bool.not_eq_true', Bool.not_eq_false', Int.not_lt, Int.not_le, gt_iff_lt, ge_iff_le, ne_eq] at b30
  refine wpL_skip rfl rfl rfl rfl rfl rfl ?_
  refine wpL_skip rfl rfl rfl rfl rfl rfl ?_
  refine wpL_skip rfl rfl rfl rfl rfl rfl ?_
  refine wpL_skip rfl rfl rfl rfl rfl rfl ?_
  refine wpL_op rfl rfl rfl (OpA.pck rfl rfl (by with_reducible conv => lhs; whnf) ?_)
  refine wpL_op rfl rfl rfl (OpA.asn rfl (by with_reducible conv => lhs; whnf) ?_)
  refine wpL_nil ?_
  refine wpA_condF rfl ?_
  refine wpA_seq ?_
  refine wpA_region ?_
  refine wpL_op rfl rfl rfl (OpA.asn rfl (by with_reducible conv => lhs; whnf) ?_)
  refine wpL_nil ?_
  refine wpA_ret ?_
  refine ⟨_, (.tmp (by with_reducible conv => lhs; whnf) .nil), _, (.same rfl .nil), ?_⟩
  (try simp only [tupD]) <;> (rw [checkAlF_none hc0 (stepsF_none (by omega) hst (stepNone (by intro g1 g2 g3; first | omega | (rw [txt_get g2, txt_get g3]; first | assumption | simp_all)) (by intro g1 g2 g3; first | omega | (rw [txt_get g2, txt_get g3]; first | assumption | simp_all)) (by intro g1; omega) (by intro g1; omega)))])
  try simp only [decide_eq_true_eq, decide_eq_false_iff_not, beq_iff_eq, bne_iff_ne, beq_eq_false_iff_ne, bne_eq_false_iff_eq, Bool.not_eq_true', Bool.not_eq_false', Int.not_lt, Int.not_le, gt_iff_lt, ge_iff_le, ne_eq] at b28
  refine DetK.skip rfl rfl rfl rfl ?_
  refine DetK.op rfl (OpA.pck rfl rfl (by with_reducible conv => lhs; whnf) ⟨rfl, rfl⟩) ?_
  refine DetK.op rfl (OpA.mv rfl (by with_reducible conv => lhs; whnf) ⟨rfl, rfl⟩) ?_
  refine DetK.skip rfl rfl rfl rfl ?_
  refine DetK.skip rfl rfl rfl rfl ?_
  refine DetK.skip rfl rfl rfl rfl ?_
  refine DetK.skip rfl rfl rfl rfl ?_
  refine DetK.skip rfl rfl rfl rfl ?_
  refine DetK.skip rfl rfl rfl rfl ?_
  refine DetK.skip rfl rfl rfl rfl ?_
  refine DetK.skip rfl rfl rfl rfl ?_
  refine DetK.skip rfl rfl rfl rfl ?_
  refine DetK.skip rfl rfl rfl rfl ?_
  refine DetK.skip rfl rfl rfl rfl ?_
  refine DetK.op rfl (OpA.pck rfl rfl (by with_reducible conv => lhs; whnf) ⟨rfl, rfl⟩) ?_
  refine DetK.op rfl (OpA.asn rfl (by with_reducible conv => lhs; whnf) ⟨rfl, rfl⟩) ?_
  refine DetK.nil ?_
  refine wpL_nil ?_
  refine wpA_condF rfl ?_
  refine wpA_seq ?_
  refine wpA_region ?_
  refine wpL_op rfl rfl rfl (OpA.mv rfl (by with_reducible conv => lhs; whnf) ?_)
  refine wpL_op rfl rfl rfl (OpA.eql rfl rfl rfl ?_)
  refine wpL_op rfl rfl rfl (OpA.mv rfl (by with_reducible conv => lhs; whnf) ?_)
  refine wpL_split (s := 93) rfl (fun b31 => ?_) (fun b31 => ?_)
  try simp only [decide_eq_true_eq, decide_eq_false_iff_not, beq_iff_eq, bne_iff_ne, beq_eq_false_iff_ne, bne_eq_false_iff_eq, Bool.not_eq_true', Bool.not_eq_false', Int.not_lt, Int.not_le, gt_iff_lt, ge_iff_le, ne_eq] at b31
  refine wpL_opg rfl rfl rfl rfl rfl rfl (OpA.mv rfl (by with_reducible conv => lhs; whnf) ?_)
  refine wpL_opg rfl rfl rfl rfl rfl rfl (OpA.mv rfl (by with_reducible conv => lhs; whnf) ?_)
  first
    | refine wpL_opg rfl rfl rfl rfl rfl rfl (OpA.len rfl rfl rfl rfl ts22.desc (.inl ⟨_, _, rfl, (List.length_map _).symm⟩) ?_)
    | refine wpL_opg rfl rfl rfl rfl rfl rfl (OpA.len rfl rfl rfl rfl ts22.desc (.inl ⟨_, _, rfl, rfl⟩) ?_)
    | refine wpL_opg rfl rfl rfl rfl rfl rfl (OpA.len rfl rfl rfl rfl ts22.desc (.inr (.inl ⟨_, _, _, rfl⟩)) ?_)
    | refine wpL_opg rfl rfl rfl rfl rfl rfl (OpA.len rfl rfl rfl rfl ts22.desc (.inr (.inr ⟨rfl, rfl⟩)) ?_)
  refine wpL_opg rfl rfl rfl rfl rfl rfl (OpA.lss rfl rfl rfl ?_)
  refine wpL_op rfl rfl rfl (OpA.pck rfl rfl (by with_reducible conv => lhs; whnf) ?_)
  refine wpL_op rfl rfl rfl (OpA.asn rfl (by with_reducible conv => lhs; whnf) ?_)
  refine wpL_nil ?_
  refine wpA_cond rfl (fun b32 => ?_) (fun b32 => ?_)
  try simp only [decide_eq_true_eq, decide_eq_false_iff_not, beq_iff_eq, bne_iff_ne, beq_eq_false_iff_ne, bne_eq_false_iff_eq, Bool.not_eq_true', Bool.not_eq_false', Int.not_lt, Int.not_le, gt_iff_lt, ge_iff_le, ne_eq] at b32
  exfalso; first | contradiction | omega
  try simp only [decide_eq_true_eq, decide_eq_false_iff_not, beq_iff_eq, bne_iff_ne, beq_eq_false_iff_ne, bne_eq_false_iff_eq, Bool.not_eq_true', Bool.not_eq_false', Int.not_lt, Int.not_le, gt_iff_lt, ge_iff_le, ne_eq] at b32
  refine wpA_seq ?_
  refine wpA_region ?_
  refine wpL_op rfl rfl rfl (OpA.mv rfl (by with_reducible conv => lhs; whnf) ?_)
  refine wpL_op rfl rfl rfl (OpA.eql rfl rfl rfl ?_)
  refine wpL_op rfl rfl rfl (OpA.mv rfl (by with_reducible conv => lhs; whnf) ?_)
  refine wpL_split (s := 108) rfl (fun b33 => ?_) (fun b33 => ?_)
  try simp only [decide_eq_true_eq, decide_eq_false_iff_not, beq_iff_eq, bne_iff_ne, beq_eq_false_iff_ne, bne_eq_false_iff_eq, Bool.not_eq_true', Bool.not_eq_false', Int.not_lt, Int.not_le, gt_iff_lt, ge_iff_le, ne_eq] at b33
  exfalso; first | contradiction | omega
  try simp only [decide_eq_true_eq, decide_eq_false_iff_not, beq_iff_eq, bne_iff_ne, beq_eq_false_iff_ne, bne_eq_false_iff_eq, Bool.not_eq_true', Bool.not_eq_false', Int.not_lt, Int.not_le, gt_iff_lt, ge_iff_le, ne_eq] at b33
  refine wpL_skip rfl rfl rfl rfl rfl rfl ?_
  refine wpL_skip rfl rfl rfl rfl rfl rfl ?_
  refine wpL_skip rfl rfl rfl rfl rfl rfl ?_
  refine wpL_skip rfl rfl rfl rfl rfl rfl ?_
  refine wpL_op rfl rfl rfl (OpA.pck rfl rfl (by with_reducible conv => lhs; whnf) ?_)
  refine wpL_op rfl rfl rfl (OpA.asn rfl (by with_reducible conv => lhs; whnf) ?_)
  refine wpL_nil ?_
  refine wpA_condF rfl ?_
  refine wpA_seq ?_
  refine wpA_region ?_
  refine wpL_op rfl rfl rfl (OpA.asn rfl (by with_reducible conv => lhs; whnf) ?_)
  refine wpL_nil ?_
  refine wpA_ret ?_
  refine ⟨_, (.tmp (by with_reducible conv => lhs; whnf) .nil), _, (.same rfl .nil), ?_⟩
  (try simp only [tupD]) <;> (rw [checkAlF_none hc0 (stepsF_none (by omega) hst (stepNone (by intro g1 g2 g3; first | omega | (rw [txt_get g2, txt_get g3]; first | assumption | simp_all)) (by intro g1 g2 g3; first | omega | (rw [txt_get g2, txt_get g3]; first | assumption | simp_all)) (by intro g1; omega) (by intro g1; omega)))])
  try simp only [decide_eq_true_eq, decide_eq_false_iff_not, beq_iff_eq, bne_iff_ne, beq_eq_false_iff_ne, bne_eq_false_iff_eq, Bool.not_eq_true', Bool.not_eq_false', Int.not_lt, Int.not_le, gt_iff_lt, ge_iff_le, ne_eq] at b31
  refine wpL_skip rfl rfl rfl rfl rfl rfl ?_
  refine wpL_skip rfl rfl rfl rfl rfl rfl ?_
  refine wpL_skip rfl rfl rfl rfl rfl rfl ?_
  refine wpL_skip rfl rfl rfl rfl rfl rfl ?_
  refine wpL_op rfl rfl rfl (OpA.pck rfl rfl (by with_reducible conv => lhs; whnf) ?_)
  refine wpL_op rfl rfl rfl (OpA.asn rfl (by with_reducible conv => lhs; whnf) ?_)
  refine wpL_nil ?_
  refine wpA_condF rfl ?_
  refine wpA_seq ?_
  refine wpA_region ?_
  refine wpL_op rfl rfl rfl (OpA.mv rfl (by with_reducible conv => lhs; whnf) ?_)
  refine wpL_op rfl rfl rfl (OpA.eql rfl rfl rfl ?_)
  refine wpL_op rfl rfl rfl (OpA.mv rfl (by with_reducible conv => lhs; whnf) ?_)
  refine wpL_split (s := 108) rfl (fun b34 => ?_) (fun b34 => ?_)
  try simp only [decide_eq_true_eq, decide_eq_false_iff_not, beq_iff_eq, bne_iff_ne, beq_eq_false_iff_ne, bne_eq_false_iff_eq, Bool.not_eq_true', Bool.not_eq_false', Int.not_lt, Int.not_le, gt_iff_lt, ge_iff_le, ne_eq] at b34
  refine wpL_opg rfl rfl rfl rfl rfl rfl (OpA.mv rfl (by with_reducible conv => lhs; whnf) ?_)
  refine wpL_opg rfl rfl rfl rfl rfl rfl (OpA.mv rfl (by with_reducible conv => lhs; whnf) ?_)
  first
    | refine wpL_opg rfl rfl rfl rfl rfl rfl (OpA.len rfl rfl rfl rfl ts22.desc (.inl ⟨_, _, rfl, (List.length_map _).symm⟩) ?_)
    | refine wpL_opg rfl rfl rfl rfl rfl rfl (OpA.len rfl rfl rfl rfl ts22.desc (.inl ⟨_, _, rfl, rfl⟩) ?_)
    | refine wpL_opg rfl rfl rfl rfl rfl rfl (OpA.len rfl rfl rfl rfl ts22.desc (.inr (.inl ⟨_, _, _, rfl⟩)) ?_)
    | refine wpL_opg rfl rfl rfl rfl rfl rfl (OpA.len rfl rfl rfl rfl ts22.desc (.inr (.inr ⟨rfl, rfl⟩)) ?_)
  refine wpL_opg rfl rfl rfl rfl rfl rfl (OpA.lss rfl rfl rfl ?_)
  refine wpL_op rfl rfl rfl (OpA.pck rfl rfl (by with_reducible conv => lhs; whnf) ?_)
  refine wpL_op rfl rfl rfl (OpA.asn rfl (by with_reducible conv => lhs; whnf) ?_)
  refine wpL_nil ?_
  refine wpA_cond rfl (fun b35 => ?_) (fun b35 => ?_)
  try simp only [decide_eq_true_eq, decide_eq_false_iff_not, beq_iff_eq, bne_iff_ne, beq_eq_false_iff_ne, bne_eq_false_iff_eq, Bool.not_eq_true', Bool.not_eq_false', Int.not_lt, Int.not_le, gt_iff_lt, ge_iff_le, ne_eq] at b35
  refine wpA_draw (m := 8) mo (by kernel_rfl) rfl ?_
  refine DetK.op rfl (OpA.mv rfl (by with_reducible conv => lhs; whnf) ⟨rfl, rfl⟩) ?_
  refine DetK.op rfl (OpA.addi rfl rfl rfl (by omega) ⟨rfl, rfl⟩) ?_
  refine DetK.op rfl (OpA.mv rfl (by with_reducible conv => lhs; whnf) ⟨rfl, rfl⟩) ?_
  refine DetK.op rfl (OpA.fieldAddr rfl tf24_2 rfl ⟨rfl, rfl⟩) ?_
  refine DetK.op rfl (OpA.load rfl ti3 rfl (.tail .head) (by first | rfl | exact getM _ _ _ (by omega) | exact getO (by omega) | exact getL _ _ (by omega) | (simp; done)) (by first | rfl | exact getM _ _ _ (by omega) | exact getO (by omega) | exact getL _ _ (by omega) | (simp; done)) ⟨rfl, rfl⟩) ?_
  refine DetK.op rfl (OpA.addi rfl rfl rfl (by omega) ⟨rfl, rfl⟩) ?_
  refine DetK.op rfl (OpA.asn rfl (by with_reducible conv => lhs; whnf) ⟨rfl, rfl⟩) ?_
  refine DetK.op rfl (OpA.asn rfl (by with_reducible conv => lhs; whnf) ⟨rfl, rfl⟩) ?_
  refine DetK.nil ?_
  refine wpL_nil ?_
  refine wpA_region ?_
  refine wpL_op rfl rfl rfl (OpA.addi rfl rfl rfl (by omega) ?_)
  refine wpL_op rfl rfl rfl (OpA.mv rfl (by with_reducible conv => lhs; whnf) ?_)
  refine wpL_nil ?_
  first
    | exact ⟨_, _, by omega, ⟨k0 + 1, i + 1, j + 1, _, rfl, ⟨by omega, hc0, stepsF_succ (by omega) hst (by first | exact stepKC (by omega) (by omega) (by omega) (by assumption) | exact stepKeep (by omega) (by omega) (by omega) (by assumption) | exact stepChange (by omega) (by omega) (by omega) (by assumption) | exact stepDrop (by omega) (by omega) | exact stepAdd (by omega) (by omega)), by omega, by omega, by omega, by omega⟩, rfl, rfl⟩, Cov.asg ⟨rfl, rfl, rfl, rfl, rfl, rfl, rfl, rfl, rfl, rfl, rfl, trivial⟩⟩
    | exact ⟨_, _, by omega, ⟨k0 + 1, i + 1, j, _, rfl, ⟨by omega, hc0, stepsF_succ (by omega) hst (by first | exact stepKC (by omega) (by omega) (by omega) (by assumption) | exact stepKeep (by omega) (by omega) (by omega) (by assumption) | exact stepChange (by omega) (by omega) (by omega) (by assumption) | exact stepDrop (by omega) (by omega) | exact stepAdd (by omega) (by omega)), by omega, by omega, by omega, by omega⟩, rfl, rfl⟩, Cov.asg ⟨rfl, rfl, rfl, rfl, rfl, rfl, rfl, rfl, rfl, rfl, rfl, trivial⟩⟩
    | exact ⟨_, _, by omega, ⟨k0 + 1, i, j + 1, _, rfl, ⟨by omega, hc0, stepsF_succ (by omega) hst (by first | exact stepKC (by omega) (by omega) (by omega) (by assumption) | exact stepKeep (by omega) (by omega) (by omega) (by assumption) | exact stepChange (by omega) (by omega) (by omega) (by assumption) | exact stepDrop (by omega) (by omega) | exact stepAdd (by omega) (by omega)), by omega, by omega, by omega, by omega⟩, rfl, rfl⟩, Cov.asg ⟨rfl, rfl, rfl, rfl, rfl, rfl, rfl, rfl, rfl, rfl, rfl, trivial⟩⟩
  try simp only [decide_eq_true_eq, decide_eq_false_iff_not, beq_iff_eq, bne_iff_ne, beq_eq_false_iff_ne, bne_eq_false_iff_eq, Bool.not_eq_true', Bool.not_eq_false', Int.not_lt, Int.not_le, gt_iff_lt, ge_iff_le, ne_eq] at b35
  refine wpA_seq ?_
  refine wpA_region ?_
  refine wpL_op rfl rfl rfl (OpA.asn rfl (by with_reducible conv => lhs; whnf) ?_)
  refine wpL_nil ?_
  refine wpA_ret ?_
  refine ⟨_, (.tmp (by with_reducible conv => lhs; whnf) .nil), _, (.same rfl .nil), ?_⟩
  (try simp only [tupD]) <;> (rw [checkAlF_none hc0 (stepsF_none (by omega) hst (stepNone (by intro g1 g2 g3; first | omega | (rw [txt_get g2, txt_get g3]; first | assumption | simp_all)) (by intro g1 g2 g3; first | omega | (rw [txt_get g2, txt_get g3]; first | assumption | simp_all)) (by intro g1; omega) (by intro g1; omega)))])
  try simp only [decide_eq_true_eq, decide_eq_false_iff_not, beq_iff_eq, bne_iff_ne, beq_eq_false_iff_ne, bne_eq_false_iff_eq, Bool.not_eq_true', Bool.not_eq_false', Int.not_lt, Int.not_le, gt_iff_lt, ge_iff_le, ne_eq] at b34
  refine wpL_skip rfl rfl rfl rfl rfl rfl ?_
  refine wpL_skip rfl rfl rfl rfl rfl rfl ?_
  refine wpL_skip rfl rfl rfl rfl rfl rfl ?_
  refine wpL_skip rfl rfl rfl rfl rfl rfl ?_
  refine wpL_op rfl rfl rfl (OpA.pck rfl rfl (by with_reducible conv => lhs; whnf) ?_)
  refine wpL_op rfl rfl rfl (OpA.asn rfl (by with_reducible conv => lhs; whnf) ?_)
  refine wpL_nil ?_
  refine wpA_condF rfl ?_
  refine wpA_seq ?_
  refine wpA_region ?_
  refine wpL_op rfl rfl rfl (OpA.asn rfl (by with_reducible conv => lhs; whnf) ?_)
  refine wpL_nil ?_
  refine wpA_ret ?_
  refine ⟨_, (.tmp (by with_reducible conv => lhs; whnf) .nil), _, (.same rfl .nil), ?_⟩
  (try simp only [tupD]) <;> (rw [checkAlF_none hc0 (stepsF_none (by omega) hst (stepNone (by intro g1 g2 g3; first | omega | (rw [txt_get g2, txt_get g3]; first | assumption | simp_all)) (by intro g1 g2 g3; first | omega | (rw [txt_get g2, txt_get g3]; first | assumption | simp_all)) (by intro g1; omega) (by intro g1; omega)))])
  try simp only [decide_eq_true_eq, decide_eq_false_iff_not, beq_iff_eq, bne_iff_ne, beq_eq_false_iff_ne, bne_eq_false_iff_eq, Bool.not_eq_true', Bool.not_eq_false', Int.not_lt, Int.not_le, gt_iff_lt, ge_iff_le, ne_eq] at b2
  refine wpA_exit ?_
  refine wpA_seq ?_
  refine wpA_seq ?_
  refine wpA_region ?_
  refine wpL_op rfl rfl rfl (OpA.mv rfl (by with_reducible conv => lhs; whnf) ?_)
  refine wpL_op rfl rfl rfl (OpA.mv rfl (by with_reducible conv => lhs; whnf) ?_)
  first
    | refine wpL_op rfl rfl rfl (OpA.len rfl rfl rfl rfl ts22.desc (.inl ⟨_, _, rfl, (List.length_map _).symm⟩) ?_)
    | refine wpL_op rfl rfl rfl (OpA.len rfl rfl rfl rfl ts22.desc (.inl ⟨_, _, rfl, rfl⟩) ?_)
    | refine wpL_op rfl rfl rfl (OpA.len rfl rfl rfl rfl ts22.desc (.inr (.inl ⟨_, _, _, rfl⟩)) ?_)
    | refine wpL_op rfl rfl rfl (OpA.len rfl rfl rfl rfl ts22.desc (.inr (.inr ⟨rfl, rfl⟩)) ?_)
  refine wpL_op rfl rfl rfl (OpA.lss rfl rfl rfl ?_)
  refine wpL_op rfl rfl rfl (OpA.mv rfl (by with_reducible conv => lhs; whnf) ?_)
  refine wpL_split (s := 125) rfl (fun b36 => ?_) (fun b36 => ?_)
  try simp only [decide_eq_true_eq, decide_eq_false_iff_not, beq_iff_eq, bne_iff_ne, beq_eq_false_iff_ne, bne_eq_false_iff_eq, Bool.not_eq_true', Bool.not_eq_false', Int.not_lt, Int.not_le, gt_iff_lt, ge_iff_le, ne_eq] at b36
  refine wpL_skip rfl rfl rfl rfl rfl rfl ?_
  refine wpL_skip rfl rfl rfl rfl rfl rfl ?_
  refine wpL_skip rfl rfl rfl rfl rfl rfl ?_
  refine wpL_skip rfl rfl rfl rfl rfl rfl ?_
  refine wpL_op rfl rfl rfl (OpA.pck rfl rfl (by with_reducible conv => lhs; whnf) ?_)
  refine wpL_op rfl rfl rfl (OpA.mv rfl (by with_reducible conv => lhs; whnf) ?_)
  refine wpL_skip rfl rfl rfl rfl rfl rfl ?_
  refine wpL_skip rfl rfl rfl rfl rfl rfl ?_
  refine wpL_skip rfl rfl rfl rfl rfl rfl ?_
  refine wpL_skip rfl rfl rfl rfl rfl rfl ?_
  refine wpL_op rfl rfl rfl (OpA.pck rfl rfl (by with_reducible conv => lhs; whnf) ?_)
  refine wpL_nil ?_
  refine wpA_condT rfl ?_
  refine wpA_seq ?_
  refine wpA_region ?_
  refine wpL_op rfl rfl rfl (OpA.asn rfl (by with_reducible conv => lhs; whnf) ?_)
  refine wpL_nil ?_
  refine wpA_ret ?_
  refine ⟨_, (.tmp (by with_reducible conv => lhs; whnf) .nil), _, (.same rfl .nil), ?_⟩
  (try simp only [tupD]) <;> (first | rw [checkAlF_ok hc0 (stepsF_end (by omega) hst) (by omega) (by omega) (by omega)] | rw [checkAlF_bad hc0 (stepsF_end (by omega) hst) (by omega)])
  try simp only [decide_eq_true_eq, decide_eq_false_iff_not, beq_iff_eq, bne_iff_ne, beq_eq_false_iff_ne, bne_eq_false_iff_eq, Bool.not_eq_true', Bool.not_eq_false', Int.not_lt, Int.not_le, gt_iff_lt, ge_iff_le, ne_eq] at b36
  refine wpL_opg rfl rfl rfl rfl rfl rfl (OpA.mv rfl (by with_reducible conv => lhs; whnf) ?_)
  refine wpL_opg rfl rfl rfl rfl rfl rfl (OpA.mv rfl (by with_reducible conv => lhs; whnf) ?_)
  first
    | refine wpL_opg rfl rfl rfl rfl rfl rfl (OpA.len rfl rfl rfl rfl ts22.desc (.inl ⟨_, _, rfl, (List.length_map _).symm⟩) ?_)
    | refine wpL_opg rfl rfl rfl rfl rfl rfl (OpA.len rfl rfl rfl rfl ts22.desc (.inl ⟨_, _, rfl, rfl⟩) ?_)
    | refine wpL_opg rfl rfl rfl rfl rfl rfl (OpA.len rfl rfl rfl rfl ts22.desc (.inr (.inl ⟨_, _, _, rfl⟩)) ?_)
    | refine wpL_opg rfl rfl rfl rfl rfl rfl (OpA.len rfl rfl rfl rfl ts22.desc (.inr (.inr ⟨rfl, rfl⟩)) ?_)
  refine wpL_opg rfl rfl rfl rfl rfl rfl (OpA.lss rfl rfl rfl ?_)
  refine wpL_op rfl rfl rfl (OpA.pck rfl rfl (by with_reducible conv => lhs; whnf) ?_)
  refine wpL_op rfl rfl rfl (OpA.mv rfl (by with_reducible conv => lhs; whnf) ?_)
  refine wpL_split (s := 131) rfl (fun b37 => ?_) (fun b37 => ?_)
  try simp only [decide_eq_true_eq, decide_eq_false_iff_not, beq_iff_eq, bne_iff_ne, beq_eq_false_iff_ne, bne_eq_false_iff_eq, Bool.not_eq_true', Bool.not_eq_false', Int.not_lt, Int.not_le, gt_iff_lt, ge_iff_le, ne_eq] at b37
  refine wpL_skip rfl rfl rfl rfl rfl rfl ?_
  refine wpL_skip rfl rfl rfl rfl rfl rfl ?_
  refine wpL_skip rfl rfl rfl rfl rfl rfl ?_
  refine wpL_skip rfl rfl rfl rfl rfl rfl ?_
  refine wpL_op rfl rfl rfl (OpA.pck rfl rfl (by with_reducible conv => lhs; whnf) ?_)
  refine wpL_nil ?_
  refine wpA_condT rfl ?_
  refine wpA_seq ?_
  refine wpA_region ?_
  refine wpL_op rfl rfl rfl (OpA.asn rfl (by with_reducible conv => lhs; whnf) ?_)
  refine wpL_nil ?_
  refine wpA_ret ?_
  refine ⟨_, (.tmp (by with_reducible conv => lhs; whnf) .nil), _, (.same rfl .nil), ?_⟩
  (try simp only [tupD]) <;> (first | rw [checkAlF_ok hc0 (stepsF_end (by omega) hst) (by omega) (by omega) (by omega)] | rw [checkAlF_bad hc0 (stepsF_end (by omega) hst) (by omega)])
  try simp only [decide_eq_true_eq, decide_eq_false_iff_not, beq_iff_eq, bne_iff_ne, beq_eq_false_iff_ne, bne_eq_false_iff_eq, Bool.not_eq_true', Bool.not_eq_false', Int.not_lt, Int.not_le, gt_iff_lt, ge_iff_le, ne_eq] at b37
  refine wpL_opg rfl rfl rfl rfl rfl rfl (OpA.mv rfl (by with_reducible conv => lhs; whnf) ?_)
  refine wpL_opg rfl rfl rfl rfl rfl rfl (OpA.fieldAddr rfl tf27_0 rfl ?_)
  refine wpL_opg rfl rfl rfl rfl rfl rfl (OpA.load rfl ti3 rfl .head (by first | rfl | exact getM _ _ _ (by omega) | exact getO (by omega) | exact getL _ _ (by omega) | (simp; done)) (by first | rfl | exact getM _ _ _ (by omega) | exact getO (by omega) | exact getL _ _ (by omega) | (simp; done)) ?_)
  refine wpL_opg rfl rfl rfl rfl rfl rfl (OpA.neq rfl rfl rfl ?_)
  refine wpL_op rfl rfl rfl (OpA.pck rfl rfl (by with_reducible conv => lhs; whnf) ?_)
  refine wpL_nil ?_
  refine wpA_cond rfl (fun b38 => ?_) (fun b38 => ?_)
  try simp only [decide_eq_true_eq, decide_eq_false_iff_not, beq_iff_eq, bne_iff_ne, beq_eq_false_iff_ne, bne_eq_false_iff_eq, Bool.not_eq_true', Bool.not_eq_false', Int.not_lt, Int.not_le, gt_iff_lt, ge_iff_le, ne_eq] at b38
  refine wpA_seq ?_
  refine wpA_region ?_
  refine wpL_op rfl rfl rfl (OpA.asn rfl (by with_reducible conv => lhs; whnf) ?_)
  refine wpL_nil ?_
  refine wpA_ret ?_
  refine ⟨_, (.tmp (by with_reducible conv => lhs; whnf) .nil), _, (.same rfl .nil), ?_⟩
  (try simp only [tupD]) <;> (first | rw [checkAlF_ok hc0 (stepsF_end (by omega) hst) (by omega) (by omega) (by omega)] | rw [checkAlF_bad hc0 (stepsF_end (by omega) hst) (by omega)])
  try simp only [decide_eq_true_eq, decide_eq_false_iff_not, beq_iff_eq, bne_iff_ne, beq_eq_false_iff_ne, bne_eq_false_iff_eq, Bool.not_eq_true', Bool.not_eq_false', Int.not_lt, Int.not_le, gt_iff_lt, ge_iff_le, ne_eq] at b38
  refine wpA_skip ?_
  refine wpA_seq ?_
  refine wpA_region ?_
  refine wpL_op rfl rfl rfl (OpA.asn rfl (by with_reducible conv => lhs; whnf) ?_)
  refine wpL_nil ?_
  refine wpA_ret ?_
  refine ⟨_, (.tmp (by with_reducible conv => lhs; whnf) .nil), _, (.same rfl .nil), ?_⟩
  (try simp only [tupD]) <;> (first | rw [checkAlF_ok hc0 (stepsF_end (by omega) hst) (by omega) (by omega) (by omega)] | rw [checkAlF_bad hc0 (stepsF_end (by omega) hst) (by omega)])

theorem rcheckAl_fun (a b : List Lexeme) (c : Costs) (x : Alignment) (hn : x.steps.length ≤ 1000000) : Fun false Try.prog 13 [encWords a, encWords b, encCosts c, encAl x] (fun d => d = .i (checkAlF a b c x)) := by
  refine Fun.of_body Try.func13 rfl Try.ntmps13 rfl ?_
  refine wpA_seq ?_
  refine wpA_region ?_
  refine wpL_op rfl rfl rfl (OpA.bx (sz := 3) rfl (by with_reducible conv => lhs; whnf) (.of rfl) (fun c6 _ => ?_))
  refine wpL_op rfl rfl rfl (OpA.bx (sz := 2) rfl (by with_reducible conv => lhs; whnf) (.of rfl) (fun c7 _ => ?_))
  refine wpL_op rfl rfl rfl (OpA.asn rfl (by with_reducible conv => lhs; whnf) ?_)
  refine wpL_nil ?_
  refine wpA_seq ?_
  refine wpA_region ?_
  refine wpL_op rfl rfl rfl (OpA.mv rfl (by with_reducible conv => lhs; whnf) ?_)
  refine wpL_op rfl rfl rfl (OpA.mv rfl (by with_reducible conv => lhs; whnf) ?_)
  first
    | refine wpL_op rfl rfl rfl (OpA.load_whole rfl ti24 rfl rfl (.tail .head) (by first | rfl | exact getM _ _ _ (by omega) | exact getO (by omega) | exact getL _ _ (by omega) | (simp; done)) ⟨_, rfl⟩ ?_)
    | refine wpL_op rfl rfl rfl (OpA.load_agg rfl ti24 rfl (.tail .head) (by first | rfl | exact getM _ _ _ (by omega) | exact getO (by omega) | exact getL _ _ (by omega) | (simp; done)) rfl rfl ?_)
  refine wpL_op rfl rfl rfl (OpA.call rfl rfl rfl en37 (right_fun _ _ _) ?_)
  rintro _ rfl
  refine wpL_op rfl rfl rfl (OpA.asn rfl (by with_reducible conv => lhs; whnf) ?_)
  refine wpL_nil ?_
  refine wpA_seq ?_
  refine wpA_seq ?_
  refine wpA_region ?_
  refine wpL_op rfl rfl rfl (OpA.mv rfl (by with_reducible conv => lhs; whnf) ?_)
  refine wpL_op rfl rfl rfl (OpA.neq rfl rfl rfl ?_)
  refine wpL_nil ?_
  refine wpA_cond rfl (fun b1 => ?_) (fun b1 => ?_)
  try simp only [decide_eq_true_eq, decide_eq_false_iff_not, beq_iff_eq, bne_iff_ne, beq_eq_false_iff_ne, bne_eq_false_iff_eq, Bool.not_eq_true', Bool.not_eq_false', Int.not_lt, Int.not_le, gt_iff_lt, ge_iff_le, ne_eq] at b1
  refine wpA_seq ?_
  refine wpA_region ?_
  refine wpL_op rfl rfl rfl (OpA.mv rfl (by with_reducible conv => lhs; whnf) ?_)
  refine wpL_op rfl rfl rfl (OpA.asn rfl (by with_reducible conv => lhs; whnf) ?_)
  refine wpL_nil ?_
  refine wpA_ret ?_
  refine ⟨_, (.tmp (by with_reducible conv => lhs; whnf) .nil), _, (.same rfl .nil), ?_⟩
  (try simp only [tupD]) <;> (rw [checkAlF_err (by assumption)])
  try simp only [decide_eq_true_eq, decide_eq_false_iff_not, beq_iff_eq, bne_iff_ne, beq_eq_false_iff_ne, bne_eq_false_iff_eq, Bool.not_eq_true', Bool.not_eq_false', Int.not_lt, Int.not_le, gt_iff_lt, ge_iff_le, ne_eq] at b1
  refine wpA_skip ?_
  refine wpA_seq ?_
  refine wpA_region ?_
  refine wpL_op rfl rfl rfl (OpA.asn rfl (by with_reducible conv => lhs; whnf) ?_)
  refine wpL_op rfl rfl rfl (OpA.asn rfl (by with_reducible conv => lhs; whnf) ?_)
  refine wpL_op rfl rfl rfl (OpA.asn rfl (by with_reducible conv => lhs; whnf) ?_)
  refine wpL_nil ?_
  refine wpA_seq ?_
  refine wpA_seq ?_
  refine wpA_region ?_
  refine wpL_op rfl rfl rfl (OpA.asn rfl (by with_reducible conv => lhs; whnf) ?_)
  refine wpL_nil ?_
  refine wpA_block ?_
  refine wpA_loopE (fun mm fr h => ∃ (k0 : Nat) (i : Nat) (j : Nat) (sum : Int), mm = x.steps.length - k0 ∧ (k0 ≤ x.steps.length ∧ checkF a b c = 0 ∧ stepsF a b c (0, 0, 0) (x.steps.take k0) = some (i, j, sum) ∧ i ≤ a.length ∧ j ≤ b.length ∧ 0 ≤ sum ∧ sum ≤ 1000 * k0) ∧ fr = asg [(0, encWords a), (1, encWords b), (6, .ptr c6 3 0 0), (7, .ptr c7 2 0 0), (8, .v (.int .i64 0)), (10, .i i), (11, .i j), (12, .i sum), (13, .i k0)] ∧ h = [(c7, .cells 2 [encAl x]), (c6, .cells 3 [encCosts c])]) ⟨_, _, ⟨0, 0, 0, 0, rfl, ⟨by omega, by omega, rfl, by omega, by omega, by omega, by omega⟩, rfl, rfl⟩, Cov.asg ⟨rfl, rfl, rfl, rfl, rfl, rfl, rfl, rfl, rfl, trivial⟩⟩ ?_
  rintro k fr h ⟨k0, i, j, sum, rfl, ⟨hk0, hc0, hst, hi, hj, hs0, hs1⟩, rfl, rfl⟩
  have hcc := checkF_zero hc0
  refine wpA_seq ?_
  refine wpA_seq ?_
  refine wpA_region ?_
  refine wpL_op rfl rfl rfl (OpA.mv rfl (by with_reducible conv => lhs; whnf) ?_)
  refine wpL_op rfl rfl rfl (OpA.fieldAddr rfl tf27_1 rfl ?_)
  refine wpL_op rfl rfl rfl (OpA.load rfl ti25 rfl .head (by first | rfl | exact getM _ _ _ (by omega) | exact getO (by omega) | exact getL _ _ (by omega) | (simp; done)) (by first | rfl | exact getM _ _ _ (by omega) | exact getO (by omega) | exact getL _ _ (by omega) | (simp; done)) ?_)
  first
    | refine wpL_op rfl rfl rfl (OpA.len rfl rfl rfl rfl ts25.desc (.inl ⟨_, _, rfl, (List.length_map _).symm⟩) ?_)
    | refine wpL_op rfl rfl rfl (OpA.len rfl rfl rfl rfl ts25.desc (.inl ⟨_, _, rfl, rfl⟩) ?_)
    | refine wpL_op rfl rfl rfl (OpA.len rfl rfl rfl rfl ts25.desc (.inr (.inl ⟨_, _, _, rfl⟩)) ?_)
    | refine wpL_op rfl rfl rfl (OpA.len rfl rfl rfl rfl ts25.desc (.inr (.inr ⟨rfl, rfl⟩)) ?_)
  refine wpL_op rfl rfl rfl (OpA.lss rfl rfl rfl ?_)
  refine wpL_nil ?_
  refine wpA_cond rfl (fun b2 => ?_) (fun b2 => ?_)
  try simp only [decide_eq_true_eq, decide_eq_false_iff_not, beq_iff_eq, bne_iff_ne, beq_eq_false_iff_ne, bne_eq_false_iff_eq, Bool.not_eq_true', Bool.not_eq_false', Int.not_lt, Int.not_le, gt_iff_lt, ge_iff_le, ne_eq] at b2
  refine wpA_skip ?_
  refine wpA_seq ?_
  refine wpA_block ?_
  refine wpA_seq ?_
  refine wpA_region ?_
  refine wpL_op rfl rfl rfl (OpA.fieldAddr rfl tf27_1 rfl ?_)
  refine wpL_op rfl rfl rfl (OpA.load rfl ti25 rfl .head (by first | rfl | exact getM _ _ _ (by omega) | exact getO (by omega) | exact getL _ _ (by omega) | (simp; done)) (by first | rfl | exact getM _ _ _ (by omega) | exact getO (by omega) | exact getL _ _ (by omega) | (simp; done)) ?_)
  refine wpL_op rfl rfl rfl (OpA.mv rfl (by with_reducible conv => lhs; whnf) ?_)
  first
    | refine wpL_op rfl rfl rfl (OpA.iixN rfl ts25 rfl rfl rfl (by first | exact nat_lit0 | exact nat_lit1 | exact nat_lit2 | exact nat_add1 _ | exact nat_add _ _ | exact rfl | exact nat_sub1 (by omega) | exact nat_sub (by omega) | exact natp1 (nat_sub (by omega)) | exact nat_of (by omega)) (by first | rfl | exact getM _ _ _ (by omega) | exact getO (by omega) | exact getL _ _ (by omega) | (simp; done)) ?_)
    | refine wpL_op rfl rfl rfl (OpA.ixN rfl ts25 rfl rfl (by first | exact nat_lit0 | exact nat_lit1 | exact nat_lit2 | exact nat_add1 _ | exact nat_add _ _ | exact rfl | exact nat_sub1 (by omega) | exact nat_sub (by omega) | exact natp1 (nat_sub (by omega)) | exact nat_of (by omega)) (by omega) ?_)
  first
    | refine wpL_op rfl rfl rfl (OpA.load rfl ti3 rfl (by first | exact .head | exact .tail .head | exact .tail (.tail .head) | exact .tail (.tail (.tail .head)) | exact .tail (.tail (.tail (.tail .head)))) (by first | rfl | exact getM _ _ _ (by omega) | exact getO (by omega) | exact getL _ _ (by omega) | (simp; done)) (by first | rfl | exact getM _ _ _ (by omega) | exact getO (by omega) | exact getL _ _ (by omega) | (simp; done)) ?_)
    | refine wpL_op rfl rfl rfl (OpA.iload rfl ti3 rfl (by first | rfl | exact getM _ _ _ (by omega) | exact getO (by omega) | exact getL _ _ (by omega) | (simp; done)) ?_)
  refine wpL_op rfl rfl rfl (OpA.asn rfl (by with_reducible conv => lhs; whnf) ?_)
  refine wpL_nil ?_
  refine wpA_seq ?_
  refine wpA_seq ?_
  refine wpA_region ?_
  refine wpL_op rfl rfl rfl (OpA.mv rfl (by with_reducible conv => lhs; whnf) ?_)
  refine wpL_op rfl rfl rfl (OpA.lss rfl rfl rfl ?_)
  refine wpL_op rfl rfl rfl (OpA.mv rfl (by with_reducible conv => lhs; whnf) ?_)
  refine wpL_split (s := 36) rfl (fun b3 => ?_) (fun b3 => ?_)
  try simp only [decide_eq_true_eq, decide_eq_false_iff_not, beq_iff_eq, bne_iff_ne, beq_eq_false_iff_ne, bne_eq_false_iff_eq, Bool.not_eq_true', Bool.not_eq_false', Int.not_lt, Int.not_le, gt_iff_lt, ge_iff_le, ne_eq] at b3
  refine wpL_skip rfl rfl rfl rfl rfl rfl ?_
  refine wpL_skip rfl rfl rfl rfl rfl rfl ?_
  refine wpL_op rfl rfl rfl (OpA.pck rfl rfl (by with_reducible conv => lhs; whnf) ?_)
  refine wpL_op rfl rfl rfl (OpA.mv rfl (by with_reducible conv => lhs; whnf) ?_)
  refine wpL_skip rfl rfl rfl rfl rfl rfl ?_
  refine wpL_skip rfl rfl rfl rfl rfl rfl ?_
  refine wpL_skip rfl rfl rfl rfl rfl rfl ?_
  refine wpL_skipU rfl rfl rfl rfl rfl ?_
  refine wpL_skipU rfl rfl rfl rfl rfl ?_
  refine wpL_skipU rfl rfl rfl rfl rfl ?_
  refine wpL_skipU rfl rfl rfl rfl rfl ?_
  refine wpL_skip rfl rfl rfl rfl rfl rfl ?_
  refine wpL_op rfl rfl rfl (OpA.pck rfl rfl (by with_reducible conv => lhs; whnf) ?_)
  refine wpL_op rfl rfl rfl (OpA.mv rfl (by with_reducible conv => lhs; whnf) ?_)
  refine wpL_skip rfl rfl rfl rfl rfl rfl ?_
  refine wpL_skip rfl rfl rfl rfl rfl rfl ?_
  refine wpL_skip rfl rfl rfl rfl rfl rfl ?_
  refine wpL_skipU rfl rfl rfl rfl rfl ?_
  refine wpL_skipU rfl rfl rfl rfl rfl ?_
  refine wpL_skipU rfl rfl rfl rfl rfl ?_
  refine wpL_skipU rfl rfl rfl rfl rfl ?_
  refine wpL_skip rfl rfl rfl rfl rfl rfl ?_
  refine wpL_op rfl rfl rfl (OpA.pck rfl rfl (by with_reducible conv => lhs; whnf) ?_)
  refine wpL_nil ?_
  refine wpA_condT rfl ?_
  refine wpA_seq ?_
  refine wpA_region ?_
  refine wpL_op rfl rfl rfl (OpA.asn rfl (by with_reducible conv => lhs; whnf) ?_)
  refine wpL_nil ?_
  refine wpA_ret ?_
  refine ⟨_, (.tmp (by with_reducible conv => lhs; whnf) .nil), _, (.same rfl .nil), ?_⟩
  (try simp only [tupD]) <;> (rw [checkAlF_none hc0 (stepsF_none (by omega) hst (stepNone (by intro g1 g2 g3; first | omega | (rw [txt_get g2, txt_get g3]; first | assumption | simp_all)) (by intro g1 g2 g3; first | omega | (rw [txt_get g2, txt_get g3]; first | assumption | simp_all)) (by intro g1; omega) (by intro g1; omega)))])
  try simp only [decide_eq_true_eq, decide_eq_false_iff_not, beq_iff_eq, bne_iff_ne, beq_eq_false_iff_ne, bne_eq_false_iff_eq, Bool.not_eq_true', Bool.not_eq_false', Int.not_lt, Int.not_le, gt_iff_lt, ge_iff_le, ne_eq] at b3
  refine wpL_opg rfl rfl rfl rfl rfl rfl (OpA.mv rfl (by with_reducible conv => lhs; whnf) ?_)
  refine wpL_opg rfl rfl rfl rfl rfl rfl (OpA.gtr rfl rfl rfl ?_)
  refine wpL_op rfl rfl rfl (OpA.pck rfl rfl (by with_reducible conv => lhs; whnf) ?_)
  refine wpL_op rfl rfl rfl (OpA.mv rfl (by with_reducible conv => lhs; whnf) ?_)
  refine wpL_split (s := 40) rfl (fun b4 => ?_) (fun b4 => ?_)
  try simp only [decide_eq_true_eq, decide_eq_false_iff_not, beq_iff_eq, bne_iff_ne, beq_eq_false_iff_ne, bne_eq_false_iff_eq, Bool.not_eq_true', Bool.not_eq_false', Int.not_lt, Int.not_le, gt_iff_lt, ge_iff_le, ne_eq] at b4
  refine wpL_skip rfl rfl rfl rfl rfl rfl ?_
  refine wpL_skip rfl rfl rfl rfl rfl rfl ?_
  refine wpL_skip rfl rfl rfl rfl rfl rfl ?_
  refine wpL_skipU rfl rfl rfl rfl rfl ?_
  refine wpL_skipU rfl rfl rfl rfl rfl ?_
  refine wpL_skipU rfl rfl rfl rfl rfl ?_
  refine wpL_skipU rfl rfl rfl rfl rfl ?_
  refine wpL_skip rfl rfl rfl rfl rfl rfl ?_
  refine wpL_op rfl rfl rfl (OpA.pck rfl rfl (by with_reducible conv => lhs; whnf) ?_)
  refine wpL_op rfl rfl rfl (OpA.mv rfl (by with_reducible conv => lhs; whnf) ?_)
  refine wpL_skip rfl rfl rfl rfl rfl rfl ?_
  refine wpL_skip rfl rfl rfl rfl rfl rfl ?_
  refine wpL_skip rfl rfl rfl rfl rfl rfl ?_
  refine wpL_skipU rfl rfl rfl rfl rfl ?_
  refine wpL_skipU rfl rfl rfl rfl rfl ?_
  refine wpL_skipU rfl rfl rfl rfl rfl ?_
  refine wpL_skipU rfl rfl rfl rfl rfl ?_
  refine wpL_skip rfl rfl rfl rfl rfl rfl ?_
  refine wpL_op rfl rfl rfl (OpA.pck rfl rfl (by with_reducible conv => lhs; whnf) ?_)
  refine wpL_nil ?_
  refine wpA_condT rfl ?_
  refine wpA_seq ?_
  refine wpA_region ?_
  refine wpL_op rfl rfl rfl (OpA.asn rfl (by with_reducible conv => lhs; whnf) ?_)
  refine wpL_nil ?_
  refine wpA_ret ?_
  refine ⟨_, (.tmp (by with_reducible conv => lhs; whnf) .nil), _, (.same rfl .nil), ?_⟩
  (try simp only [tupD]) <;> (rw [checkAlF_none hc0 (stepsF_none (by omega) hst (stepNone (by intro g1 g2 g3; first | omega | (rw [txt_get g2, txt_get g3]; first | assumption | simp_all)) (by intro g1 g2 g3; first | omega | (rw [txt_get g2, txt_get g3]; first | assumption | simp_all)) (by intro g1; omega) (by intro g1; omega)))])
  try simp only [decide_eq_true_eq, decide_eq_false_iff_not, beq_iff_eq, bne_iff_ne, beq_eq_false_iff_ne, bne_eq_false_iff_eq, Bool.not_eq_true', Bool.not_eq_false', Int.not_lt, Int.not_le, gt_iff_lt, ge_iff_le, ne_eq] at b4
  refine wpL_opg rfl rfl rfl rfl rfl rfl (OpA.mv rfl (by with_reducible conv => lhs; whnf) ?_)
  refine wpL_opg rfl rfl rfl rfl rfl rfl (OpA.neq rfl rfl rfl ?_)
  refine wpL_opg rfl rfl rfl rfl rfl rfl (OpA.mv rfl (by with_reducible conv => lhs; whnf) ?_)
  refine wpL_split (s := 43) rfl (fun b5 => ?_) (fun b5 => ?_)
  try simp only [decide_eq_true_eq, decide_eq_false_iff_not, beq_iff_eq, bne_iff_ne, beq_eq_false_iff_ne, bne_eq_false_iff_eq, Bool.not_eq_true', Bool.not_eq_false', Int.not_lt, Int.not_le, gt_iff_lt, ge_iff_le, ne_eq] at b5
  refine wpL_opg rfl rfl rfl rfl rfl rfl (OpA.mv rfl (by with_reducible conv => lhs; whnf) ?_)
  refine wpL_opg rfl rfl rfl rfl rfl rfl (OpA.mv rfl (by with_reducible conv => lhs; whnf) ?_)
  first
    | refine wpL_opg rfl rfl rfl rfl rfl rfl (OpA.len rfl rfl rfl rfl ts22.desc (.inl ⟨_, _, rfl, (List.length_map _).symm⟩) ?_)
    | refine wpL_opg rfl rfl rfl rfl rfl rfl (OpA.len rfl rfl rfl rfl ts22.desc (.inl ⟨_, _, rfl, rfl⟩) ?_)
    | refine wpL_opg rfl rfl rfl rfl rfl rfl (OpA.len rfl rfl rfl rfl ts22.desc (.inr (.inl ⟨_, _, _, rfl⟩)) ?_)
    | refine wpL_opg rfl rfl rfl rfl rfl rfl (OpA.len rfl rfl rfl rfl ts22.desc (.inr (.inr ⟨rfl, rfl⟩)) ?_)
  refine wpL_opg rfl rfl rfl rfl rfl rfl (OpA.eql rfl rfl rfl ?_)
  refine wpL_opg rfl rfl rfl rfl rfl rfl (OpA.pck rfl rfl (by with_reducible conv => lhs; whnf) ?_)
  refine wpL_op rfl rfl rfl (OpA.pck rfl rfl (by with_reducible conv => lhs; whnf) ?_)
  refine wpL_op rfl rfl rfl (OpA.mv rfl (by with_reducible conv => lhs; whnf) ?_)
  refine wpL_split (s := 50) rfl (fun b6 => ?_) (fun b6 => ?_)
  try simp only [decide_eq_true_eq, decide_eq_false_iff_not, beq_iff_eq, bne_iff_ne, beq_eq_false_iff_ne, bne_eq_false_iff_eq, Bool.not_eq_true', Bool.not_eq_false', Int.not_lt, Int.not_le, gt_iff_lt, ge_iff_le, ne_eq] at b6
  refine wpL_skip rfl rfl rfl rfl rfl rfl ?_
  refine wpL_skip rfl rfl rfl rfl rfl rfl ?_
  refine wpL_skip rfl rfl rfl rfl rfl rfl ?_
  refine wpL_skipU rfl rfl rfl rfl rfl ?_
  refine wpL_skipU rfl rfl rfl rfl rfl ?_
  refine wpL_skipU rfl rfl rfl rfl rfl ?_
  refine wpL_skipU rfl rfl rfl rfl rfl ?_
  refine wpL_skip rfl rfl rfl rfl rfl rfl ?_
  refine wpL_op rfl rfl rfl (OpA.pck rfl rfl (by with_reducible conv => lhs; whnf) ?_)
  refine wpL_nil ?_
  refine wpA_condT rfl ?_
  refine wpA_seq ?_
  refine wpA_region ?_
  refine wpL_op rfl rfl rfl (OpA.asn rfl (by with_reducible conv => lhs; whnf) ?_)
  refine wpL_nil ?_
  refine wpA_ret ?_
  refine ⟨_, (.tmp (by with_reducible conv => lhs; whnf) .nil), _, (.same rfl .nil), ?_⟩
  (try simp only [tupD]) <;> (rw [checkAlF_none hc0 (stepsF_none (by omega) hst (stepNone (by intro g1 g2 g3; first | omega | (rw [txt_get g2, txt_get g3]; first | assumption | simp_all)) (by intro g1 g2 g3; first | omega | (rw [txt_get g2, txt_get g3]; first | assumption | simp_all)) (by intro g1; omega) (by intro g1; omega)))])
  try simp only [decide_eq_true_eq, decide_eq_false_iff_not, beq_iff_eq, bne_iff_ne, beq_eq_false_iff_ne, bne_eq_false_iff_eq, Bool.not_eq_true', Bool.not_eq_false', Int.not_lt, Int.not_le, gt_iff_lt, ge_iff_le, ne_eq] at b6
  refine wpL_opg rfl rfl rfl rfl rfl rfl (OpA.mv rfl (by with_reducible conv => lhs; whnf) ?_)
  refine wpL_opg rfl rfl rfl rfl rfl rfl (OpA.neq rfl rfl rfl ?_)
  refine wpL_opg rfl rfl rfl rfl rfl rfl (OpA.mv rfl (by with_reducible conv => lhs; whnf) ?_)
  refine wpL_split (s := 53) rfl (fun b7 => ?_) (fun b7 => ?_)
  try simp only [decide_eq_true_eq, decide_eq_false_iff_not, beq_iff_eq, bne_iff_ne, beq_eq_false_iff_ne, bne_eq_false_iff_eq, Bool.not_eq_true', Bool.not_eq_false', Int.not_lt, Int.not_le, gt_iff_lt, ge_iff_le, ne_eq] at b7
  refine wpL_opg rfl rfl rfl rfl rfl rfl (OpA.mv rfl (by with_reducible conv => lhs; whnf) ?_)
  refine wpL_opg rfl rfl rfl rfl rfl rfl (OpA.mv rfl (by with_reducible conv => lhs; whnf) ?_)
  first
    | refine wpL_opg rfl rfl rfl rfl rfl rfl (OpA.len rfl rfl rfl rfl ts22.desc (.inl ⟨_, _, rfl, (List.length_map _).symm⟩) ?_)
    | refine wpL_opg rfl rfl rfl rfl rfl rfl (OpA.len rfl rfl rfl rfl ts22.desc (.inl ⟨_, _, rfl, rfl⟩) ?_)
    | refine wpL_opg rfl rfl rfl rfl rfl rfl (OpA.len rfl rfl rfl rfl ts22.desc (.inr (.inl ⟨_, _, _, rfl⟩)) ?_)
    | refine wpL_opg rfl rfl rfl rfl rfl rfl (OpA.len rfl rfl rfl rfl ts22.desc (.inr (.inr ⟨rfl, rfl⟩)) ?_)
  refine wpL_opg rfl rfl rfl rfl rfl rfl (OpA.eql rfl rfl rfl ?_)
  refine wpL_opg rfl rfl rfl rfl rfl rfl (OpA.pck rfl rfl (by with_reducible conv => lhs; whnf) ?_)
  refine wpL_op rfl rfl rfl (OpA.pck rfl rfl (by with_reducible conv => lhs; whnf) ?_)
  refine wpL_nil ?_
  refine wpA_cond rfl (fun b8 => ?_) (fun b8 => ?_)
  try simp only [decide_eq_true_eq, decide_eq_false_iff_not, beq_iff_eq, bne_iff_ne, beq_eq_false_iff_ne, bne_eq_false_iff_eq, Bool.not_eq_true', Bool.not_eq_false', Int.not_lt, Int.not_le, gt_iff_lt, ge_iff_le, ne_eq] at b8
  refine wpA_seq ?_
  refine wpA_region ?_
  refine wpL_op rfl rfl rfl (OpA.asn rfl (by with_reducible conv => lhs; whnf) ?_)
  refine wpL_nil ?_
  refine wpA_ret ?_
  refine ⟨_, (.tmp (by with_reducible conv => lhs; whnf) .nil), _, (.same rfl .nil), ?_⟩
  (try simp only [tupD]) <;> (rw [checkAlF_none hc0 (stepsF_none (by omega) hst (stepNone (by intro g1 g2 g3; first | omega | (rw [txt_get g2, txt_get g3]; first | assumption | simp_all)) (by intro g1 g2 g3; first | omega | (rw [txt_get g2, txt_get g3]; first | assumption | simp_all)) (by intro g1; omega) (by intro g1; omega)))])
  try simp only [decide_eq_true_eq, decide_eq_false_iff_not, beq_iff_eq, bne_iff_ne, beq_eq_false_iff_ne, bne_eq_false_iff_eq, Bool.not_eq_true', Bool.not_eq_false', Int.not_lt, Int.not_le, gt_iff_lt, ge_iff_le, ne_eq] at b8
  refine wpA_skip ?_
  refine wpA_seq ?_
  refine wpA_region ?_
  refine wpL_op rfl rfl rfl (OpA.mv rfl (by with_reducible conv => lhs; whnf) ?_)
  refine wpL_op rfl rfl rfl (OpA.eql rfl rfl rfl ?_)
  refine wpL_op rfl rfl rfl (OpA.mv rfl (by with_reducible conv => lhs; whnf) ?_)
  refine wpL_split (s := 62) rfl (fun b9 => ?_) (fun b9 => ?_)
  try simp only [decide_eq_true_eq, decide_eq_false_iff_not, beq_iff_eq, bne_iff_ne, beq_eq_false_iff_ne, bne_eq_false_iff_eq, Bool.not_eq_true', Bool.not_eq_false', Int.not_lt, Int.not_le, gt_iff_lt, ge_iff_le, ne_eq] at b9
  refine wpL_skip rfl rfl rfl rfl rfl rfl ?_
  refine wpL_skip rfl rfl rfl rfl rfl rfl ?_
  refine wpL_op rfl rfl rfl (OpA.pck rfl rfl (by with_reducible conv => lhs; whnf) ?_)
  refine wpL_nil ?_
  refine wpA_condT rfl ?_
  refine wpA_seq ?_
  refine wpA_seq ?_
  refine wpA_draw (m := 14) mo (by kernel_rfl) rfl ?_
  refine DetK.op rfl (OpA.mv rfl (by with_reducible conv => lhs; whnf) ⟨rfl, rfl⟩) ?_
  refine DetK.op rfl (OpA.mv rfl (by with_reducible conv => lhs; whnf) ⟨rfl, rfl⟩) ?_
  first
    | refine DetK.op rfl (OpA.iixN rfl ts22 rfl rfl rfl (by first | exact nat_lit0 | exact nat_lit1 | exact nat_lit2 | exact nat_add1 _ | exact nat_add _ _ | exact rfl | exact nat_sub1 (by omega) | exact nat_sub (by omega) | exact natp1 (nat_sub (by omega)) | exact nat_of (by omega)) (by first | rfl | exact getM _ _ _ (by omega) | exact getO (by omega) | exact getL _ _ (by omega) | (simp; done)) ⟨rfl, rfl⟩) ?_
    | refine DetK.op rfl (OpA.ixN rfl ts22 rfl rfl (by first | exact nat_lit0 | exact nat_lit1 | exact nat_lit2 | exact nat_add1 _ | exact nat_add _ _ | exact rfl | exact nat_sub1 (by omega) | exact nat_sub (by omega) | exact natp1 (nat_sub (by omega)) | exact nat_of (by omega)) (by omega) ⟨rfl, rfl⟩) ?_
  first
    | refine DetK.op rfl (OpA.fieldAddr rfl tf40_0 rfl ⟨rfl, rfl⟩) ?_
    | refine DetK.op rfl (OpA.ifieldAddr rfl tf40_0 rfl ⟨rfl, rfl⟩) ?_
  first
    | refine DetK.op rfl (OpA.load rfl ti9 rfl (by first | exact .head | exact .tail .head | exact .tail (.tail .head) | exact .tail (.tail (.tail .head)) | exact .tail (.tail (.tail (.tail .head)))) (by first | rfl | exact getM _ _ _ (by omega) | exact getO (by omega) | exact getL _ _ (by omega) | (simp; done)) (by first | rfl | exact getM _ _ _ (by omega) | exact getO (by omega) | exact getL _ _ (by omega) | (simp; done)) ⟨rfl, rfl⟩) ?_
    | refine DetK.op rfl (OpA.iload rfl ti9 rfl (by first | rfl | exact getM _ _ _ (by omega) | exact getO (by omega) | exact getL _ _ (by omega) | (simp; done)) ⟨rfl, rfl⟩) ?_
  refine DetK.op rfl (OpA.mv rfl (by with_reducible conv => lhs; whnf) ⟨rfl, rfl⟩) ?_
  refine DetK.op rfl (OpA.mv rfl (by with_reducible conv => lhs; whnf) ⟨rfl, rfl⟩) ?_
  first
    | refine DetK.op rfl (OpA.iixN rfl ts22 rfl rfl rfl (by first | exact nat_lit0 | exact nat_lit1 | exact nat_lit2 | exact nat_add1 _ | exact nat_add _ _ | exact rfl | exact nat_sub1 (by omega) | exact nat_sub (by omega) | exact natp1 (nat_sub (by omega)) | exact nat_of (by omega)) (by first | rfl | exact getM _ _ _ (by omega) | exact getO (by omega) | exact getL _ _ (by omega) | (simp; done)) ⟨rfl, rfl⟩) ?_
    | refine DetK.op rfl (OpA.ixN rfl ts22 rfl rfl (by first | exact nat_lit0 | exact nat_lit1 | exact nat_lit2 | exact nat_add1 _ | exact nat_add _ _ | exact rfl | exact nat_sub1 (by omega) | exact nat_sub (by omega) | exact natp1 (nat_sub (by omega)) | exact nat_of (by omega)) (by omega) ⟨rfl, rfl⟩) ?_
  first
    | refine DetK.op rfl (OpA.fieldAddr rfl tf40_0 rfl ⟨rfl, rfl⟩) ?_
    | refine DetK.op rfl (OpA.ifieldAddr rfl tf40_0 rfl ⟨rfl, rfl⟩) ?_
  first
    | refine DetK.op rfl (OpA.load rfl ti9 rfl (by first | exact .head | exact .tail .head | exact .tail (.tail .head) | exact .tail (.tail (.tail .head)) | exact .tail (.tail (.tail (.tail .head)))) (by first | rfl | exact getM _ _ _ (by omega) | exact getO (by omega) | exact getL _ _ (by omega) | (simp; done)) (by first | rfl | exact getM _ _ _ (by omega) | exact getO (by omega) | exact getL _ _ (by omega) | (simp; done)) ⟨rfl, rfl⟩) ?_
    | refine DetK.op rfl (OpA.iload rfl ti9 rfl (by first | rfl | exact getM _ _ _ (by omega) | exact getO (by omega) | exact getL _ _ (by omega) | (simp; done)) ⟨rfl, rfl⟩) ?_
  refine DetK.op rfl (OpA.seql rfl rfl rfl ⟨rfl, rfl⟩) ?_
  refine DetK.op rfl (OpA.mv rfl (by with_reducible conv => lhs; whnf) ⟨rfl, rfl⟩) ?_
  refine DetK.op rfl (OpA.eql rfl rfl rfl ⟨rfl, rfl⟩) ?_
  refine DetK.op rfl (OpA.bcmp rfl td4 rfl rfl (.inr ⟨rfl, rfl⟩) ⟨rfl, rfl⟩) ?_
  refine DetK.nil ?_
  refine wpL_nil ?_
  refine wpA_cond rfl (fun b10 => ?_) (fun b10 => ?_)
  try simp only [decide_eq_true_eq, decide_eq_false_iff_not, beq_iff_eq, bne_iff_ne, beq_eq_false_iff_ne, bne_eq_false_iff_eq, Bool.not_eq_true', Bool.not_eq_false', Int.not_lt, Int.not_le, gt_iff_lt, ge_iff_le, ne_eq] at b10
  refine wpA_seq ?_
  refine wpA_region ?_
  refine wpL_op rfl rfl rfl (OpA.asn rfl (by with_reducible conv => lhs; whnf) ?_)
  refine wpL_nil ?_
  refine wpA_ret ?_
  refine ⟨_, (.tmp (by with_reducible conv => lhs; whnf) .nil), _, (.same rfl .nil), ?_⟩
  (try simp only [tupD]) <;> (rw [checkAlF_none hc0 (stepsF_none (by omega) hst (stepNone (by intro g1 g2 g3; first | omega | (rw [txt_get g2, txt_get g3]; first | assumption | simp_all)) (by intro g1 g2 g3; first | omega | (rw [txt_get g2, txt_get g3]; first | assumption | simp_all)) (by intro g1; omega) (by intro g1; omega)))])
  try simp only [decide_eq_true_eq, decide_eq_false_iff_not, beq_iff_eq, bne_iff_ne, beq_eq_false_iff_ne, bne_eq_false_iff_eq, Bool.not_eq_true', Bool.not_eq_false', Int.not_lt, Int.not_le, gt_iff_lt, ge_iff_le, ne_eq] at b10
  have hpb := pairF_bd (x := a[i]'(by omega)) (y := b[j]'(by omega)) hcc.1
  refine wpA_skip ?_
  refine wpA_seq ?_
  refine wpA_draw (m := 13) mo (by kernel_rfl) rfl ?_
  refine DetK.op rfl (OpA.mv rfl (by with_reducible conv => lhs; whnf) ⟨rfl, rfl⟩) ?_
  refine DetK.op rfl (OpA.mv rfl (by with_reducible conv => lhs; whnf) ⟨rfl, rfl⟩) ?_
  refine DetK.op rfl (OpA.mv rfl (by with_reducible conv => lhs; whnf) ⟨rfl, rfl⟩) ?_
  first
    | refine DetK.op rfl (OpA.iixN rfl ts22 rfl rfl rfl (by first | exact nat_lit0 | exact nat_lit1 | exact nat_lit2 | exact nat_add1 _ | exact nat_add _ _ | exact rfl | exact nat_sub1 (by omega) | exact nat_sub (by omega) | exact natp1 (nat_sub (by omega)) | exact nat_of (by omega)) (by first | rfl | exact getM _ _ _ (by omega) | exact getO (by omega) | exact getL _ _ (by omega) | (simp; done)) ⟨rfl, rfl⟩) ?_
    | refine DetK.op rfl (OpA.ixN rfl ts22 rfl rfl (by first | exact nat_lit0 | exact nat_lit1 | exact nat_lit2 | exact nat_add1 _ | exact nat_add _ _ | exact rfl | exact nat_sub1 (by omega) | exact nat_sub (by omega) | exact natp1 (nat_sub (by omega)) | exact nat_of (by omega)) (by omega) ⟨rfl, rfl⟩) ?_
  first
    | refine DetK.op rfl (OpA.load_whole rfl ti40 rfl rfl (by first | exact .head | exact .tail .head | exact .tail (.tail .head) | exact .tail (.tail (.tail .head)) | exact .tail (.tail (.tail (.tail .head)))) (by first | rfl | exact getM _ _ _ (by omega) | exact getO (by omega) | exact getL _ _ (by omega) | (simp; done)) ⟨_, rfl⟩ ⟨rfl, rfl⟩) ?_
    | refine DetK.op rfl (OpA.iload_whole rfl ti40 rfl ⟨_, rfl, rfl⟩ ⟨rfl, rfl⟩) ?_
    | refine DetK.op rfl (OpA.load_agg rfl ti40 rfl (by first | exact .head | exact .tail .head | exact .tail (.tail .head) | exact .tail (.tail (.tail .head)) | exact .tail (.tail (.tail (.tail .head)))) (by first | rfl | exact getM _ _ _ (by omega) | exact getO (by omega) | exact getL _ _ (by omega) | (simp; done)) rfl rfl ⟨rfl, rfl⟩) ?_
    | refine DetK.op rfl (OpA.iload_agg rfl ti40 rfl rfl rfl ⟨rfl, rfl⟩) ?_
  refine DetK.op rfl (OpA.mv rfl (by with_reducible conv => lhs; whnf) ⟨rfl, rfl⟩) ?_
  refine DetK.op rfl (OpA.mv rfl (by with_reducible conv => lhs; whnf) ⟨rfl, rfl⟩) ?_
  first
    | refine DetK.op rfl (OpA.iixN rfl ts22 rfl rfl rfl (by first | exact nat_lit0 | exact nat_lit1 | exact nat_lit2 | exact nat_add1 _ | exact nat_add _ _ | exact rfl | exact nat_sub1 (by omega) | exact nat_sub (by omega) | exact natp1 (nat_sub (by omega)) | exact nat_of (by omega)) (by first | rfl | exact getM _ _ _ (by omega) | exact getO (by omega) | exact getL _ _ (by omega) | (simp; done)) ⟨rfl, rfl⟩) ?_
    | refine DetK.op rfl (OpA.ixN rfl ts22 rfl rfl (by first | exact nat_lit0 | exact nat_lit1 | exact nat_lit2 | exact nat_add1 _ | exact nat_add _ _ | exact rfl | exact nat_sub1 (by omega) | exact nat_sub (by omega) | exact natp1 (nat_sub (by omega)) | exact nat_of (by omega)) (by omega) ⟨rfl, rfl⟩) ?_
  first
    | refine DetK.op rfl (OpA.load_whole rfl ti40 rfl rfl (by first | exact .head | exact .tail .head | exact .tail (.tail .head) | exact .tail (.tail (.tail .head)) | exact .tail (.tail (.tail (.tail .head)))) (by first | rfl | exact getM _ _ _ (by omega) | exact getO (by omega) | exact getL _ _ (by omega) | (simp; done)) ⟨_, rfl⟩ ⟨rfl, rfl⟩) ?_
    | refine DetK.op rfl (OpA.iload_whole rfl ti40 rfl ⟨_, rfl, rfl⟩ ⟨rfl, rfl⟩) ?_
    | refine DetK.op rfl (OpA.load_agg rfl ti40 rfl (by first | exact .head | exact .tail .head | exact .tail (.tail .head) | exact .tail (.tail (.tail .head)) | exact .tail (.tail (.tail (.tail .head)))) (by first | rfl | exact getM _ _ _ (by omega) | exact getO (by omega) | exact getL _ _ (by omega) | (simp; done)) rfl rfl ⟨rfl, rfl⟩) ?_
    | refine DetK.op rfl (OpA.iload_agg rfl ti40 rfl rfl rfl ⟨rfl, rfl⟩) ?_
  first
    | refine DetK.op rfl (OpA.load_whole rfl ti24 rfl rfl (.tail .head) (by first | rfl | exact getM _ _ _ (by omega) | exact getO (by omega) | exact getL _ _ (by omega) | (simp; done)) ⟨_, rfl⟩ ⟨rfl, rfl⟩) ?_
    | refine DetK.op rfl (OpA.load_agg rfl ti24 rfl (.tail .head) (by first | rfl | exact getM _ _ _ (by omega) | exact getO (by omega) | exact getL _ _ (by omega) | (simp; done)) rfl rfl ⟨rfl, rfl⟩) ?_
  refine DetK.op rfl (OpA.call rfl rfl rfl en38 (price_fun _ _ _) (by rintro _ rfl; exact ⟨rfl, rfl⟩)) ?_
  refine DetK.op rfl (OpA.addi rfl rfl rfl (by omega) ⟨rfl, rfl⟩) ?_
  refine DetK.op rfl (OpA.asn rfl (by with_reducible conv => lhs; whnf) ⟨rfl, rfl⟩) ?_
  refine DetK.nil ?_
  refine wpL_nil ?_
  refine wpA_region ?_
  refine wpL_op rfl rfl rfl (OpA.mv rfl (by with_reducible conv => lhs; whnf) ?_)
  refine wpL_op rfl rfl rfl (OpA.addi rfl rfl rfl (by omega) ?_)
  refine wpL_op rfl rfl rfl (OpA.mv rfl (by with_reducible conv => lhs; whnf) ?_)
  refine wpL_op rfl rfl rfl (OpA.addi rfl rfl rfl (by omega) ?_)
  refine wpL_op rfl rfl rfl (OpA.asn rfl (by with_reducible conv => lhs; whnf) ?_)
  refine wpL_op rfl rfl rfl (OpA.asn rfl (by with_reducible conv => lhs; whnf) ?_)
  refine wpL_nil ?_
  refine wpA_region ?_
  refine wpL_op rfl rfl rfl (OpA.mv rfl (by with_reducible conv => lhs; whnf) ?_)
  refine wpL_op rfl rfl rfl (OpA.addi rfl rfl rfl (by omega) ?_)
  refine wpL_op rfl rfl rfl (OpA.asn rfl (by with_reducible conv => lhs; whnf) ?_)
  refine wpL_nil ?_
  first
    | exact ⟨_, _, by omega, ⟨k0 + 1, i + 1, j + 1, _, rfl, ⟨by omega, hc0, stepsF_succ (by omega) hst (by first | exact stepKC (by omega) (by omega) (by omega) (by assumption) | exact stepKeep (by omega) (by omega) (by omega) (by assumption) | exact stepChange (by omega) (by omega) (by omega) (by assumption) | exact stepDrop (by omega) (by omega) | exact stepAdd (by omega) (by omega)), by omega, by omega, by omega, by omega⟩, rfl, rfl⟩, Cov.asg ⟨rfl, rfl, rfl, rfl, rfl, rfl, rfl, rfl, rfl, trivial⟩⟩
    | exact ⟨_, _, by omega, ⟨k0 + 1, i + 1, j, _, rfl, ⟨by omega, hc0, stepsF_succ (by omega) hst (by first | exact stepKC (by omega) (by omega) (by omega) (by assumption) | exact stepKeep (by omega) (by omega) (by omega) (by assumption) | exact stepChange (by omega) (by omega) (by omega) (by assumption) | exact stepDrop (by omega) (by omega) | exact stepAdd (by omega) (by omega)), by omega, by omega, by omega, by omega⟩, rfl, rfl⟩, Cov.asg ⟨rfl, rfl, rfl, rfl, rfl, rfl, rfl, rfl, rfl, trivial⟩⟩
    | exact ⟨_, _, by omega, ⟨k0 + 1, i, j + 1, _, rfl, ⟨by omega, hc0, stepsF_succ (by omega) hst (by first | exact stepKC (by omega) (by omega) (by omega) (by assumption) | exact stepKeep (by omega) (by omega) (by omega) (by assumption) | exact stepChange (by omega) (by omega) (by omega) (by assumption) | exact stepDrop (by omega) (by omega) | exact stepAdd (by omega) (by omega)), by omega, by omega, by omega, by omega⟩, rfl, rfl⟩, Cov.asg ⟨rfl, rfl, rfl, rfl, rfl, rfl, rfl, rfl, rfl, trivial⟩⟩
  try simp only [decide_eq_true_eq, decide_eq_false_iff_not, beq_iff_eq, bne_iff_ne, beq_eq_false_iff_ne, bne_eq_false_iff_eq, Bool.not_eq_true', Bool.not_eq_false', Int.not_lt, Int.not_le, gt_iff_lt, ge_iff_le, ne_eq] at b9
  refine wpL_opg rfl rfl rfl rfl rfl rfl (OpA.mv rfl (by with_reducible conv => lhs; whnf) ?_)
  refine wpL_opg rfl rfl rfl rfl rfl rfl (OpA.eql rfl rfl rfl ?_)
  refine wpL_op rfl rfl rfl (OpA.pck rfl rfl (by with_reducible conv => lhs; whnf) ?_)
  refine wpL_nil ?_
  refine wpA_cond rfl (fun b11 => ?_) (fun b11 => ?_)
  try simp only [decide_eq_true_eq, decide_eq_false_iff_not, beq_iff_eq, bne_iff_ne, beq_eq_false_iff_ne, bne_eq_false_iff_eq, Bool.not_eq_true', Bool.not_eq_false', Int.not_lt, Int.not_le, gt_iff_lt, ge_iff_le, ne_eq] at b11
  refine wpA_seq ?_
  refine wpA_seq ?_
  refine wpA_draw (m := 14) mo (by kernel_rfl) rfl ?_
  refine DetK.op rfl (OpA.mv rfl (by with_reducible conv => lhs; whnf) ⟨rfl, rfl⟩) ?_
  refine DetK.op rfl (OpA.mv rfl (by with_reducible conv => lhs; whnf) ⟨rfl, rfl⟩) ?_
  first
    | refine DetK.op rfl (OpA.iixN rfl ts22 rfl rfl rfl (by first | exact nat_lit0 | exact nat_lit1 | exact nat_lit2 | exact nat_add1 _ | exact nat_add _ _ | exact rfl | exact nat_sub1 (by omega) | exact nat_sub (by omega) | exact natp1 (nat_sub (by omega)) | exact nat_of (by omega)) (by first | rfl | exact getM _ _ _ (by omega) | exact getO (by omega) | exact getL _ _ (by omega) | (simp; done)) ⟨rfl, rfl⟩) ?_
    | refine DetK.op rfl (OpA.ixN rfl ts22 rfl rfl (by first | exact nat_lit0 | exact nat_lit1 | exact nat_lit2 | exact nat_add1 _ | exact nat_add _ _ | exact rfl | exact nat_sub1 (by omega) | exact nat_sub (by omega) | exact natp1 (nat_sub (by omega)) | exact nat_of (by omega)) (by omega) ⟨rfl, rfl⟩) ?_
  first
    | refine DetK.op rfl (OpA.fieldAddr rfl tf40_0 rfl ⟨rfl, rfl⟩) ?_
    | refine DetK.op rfl (OpA.ifieldAddr rfl tf40_0 rfl ⟨rfl, rfl⟩) ?_
  first
    | refine DetK.op rfl (OpA.load rfl ti9 rfl (by first | exact .head | exact .tail .head | exact .tail (.tail .head) | exact .tail (.tail (.tail .head)) | exact .tail (.tail (.tail (.tail .head)))) (by first | rfl | exact getM _ _ _ (by omega) | exact getO (by omega) | exact getL _ _ (by omega) | (simp; done)) (by first | rfl | exact getM _ _ _ (by omega) | exact getO (by omega) | exact getL _ _ (by omega) | (simp; done)) ⟨rfl, rfl⟩) ?_
    | refine DetK.op rfl (OpA.iload rfl ti9 rfl (by first | rfl | exact getM _ _ _ (by omega) | exact getO (by omega) | exact getL _ _ (by omega) | (simp; done)) ⟨rfl, rfl⟩) ?_
  refine DetK.op rfl (OpA.mv rfl (by with_reducible conv => lhs; whnf) ⟨rfl, rfl⟩) ?_
  refine DetK.op rfl (OpA.mv rfl (by with_reducible conv => lhs; whnf) ⟨rfl, rfl⟩) ?_
  first
    | refine DetK.op rfl (OpA.iixN rfl ts22 rfl rfl rfl (by first | exact nat_lit0 | exact nat_lit1 | exact nat_lit2 | exact nat_add1 _ | exact nat_add _ _ | exact rfl | exact nat_sub1 (by omega) | exact nat_sub (by omega) | exact natp1 (nat_sub (by omega)) | exact nat_of (by omega)) (by first | rfl | exact getM _ _ _ (by omega) | exact getO (by omega) | exact getL _ _ (by omega) | (simp; done)) ⟨rfl, rfl⟩) ?_
    | refine DetK.op rfl (OpA.ixN rfl ts22 rfl rfl (by first | exact nat_lit0 | exact nat_lit1 | exact nat_lit2 | exact nat_add1 _ | exact nat_add _ _ | exact rfl | exact nat_sub1 (by omega) | exact nat_sub (by omega) | exact natp1 (nat_sub (by omega)) | exact nat_of (by omega)) (by omega) ⟨rfl, rfl⟩) ?_
  first
    | refine DetK.op rfl (OpA.fieldAddr rfl tf40_0 rfl ⟨rfl, rfl⟩) ?_
    | refine DetK.op rfl (OpA.ifieldAddr rfl tf40_0 rfl ⟨rfl, rfl⟩) ?_
  first
    | refine DetK.op rfl (OpA.load rfl ti9 rfl (by first | exact .head | exact .tail .head | exact .tail (.tail .head) | exact .tail (.tail (.tail .head)) | exact .tail (.tail (.tail (.tail .head)))) (by first | rfl | exact getM _ _ _ (by omega) | exact getO (by omega) | exact getL _ _ (by omega) | (simp; done)) (by first | rfl | exact getM _ _ _ (by omega) | exact getO (by omega) | exact getL _ _ (by omega) | (simp; done)) ⟨rfl, rfl⟩) ?_
    | refine DetK.op rfl (OpA.iload rfl ti9 rfl (by first | rfl | exact getM _ _ _ (by omega) | exact getO (by omega) | exact getL _ _ (by omega) | (simp; done)) ⟨rfl, rfl⟩) ?_
  refine DetK.op rfl (OpA.seql rfl rfl rfl ⟨rfl, rfl⟩) ?_
  refine DetK.op rfl (OpA.mv rfl (by with_reducible conv => lhs; whnf) ⟨rfl, rfl⟩) ?_
  refine DetK.op rfl (OpA.eql rfl rfl rfl ⟨rfl, rfl⟩) ?_
  refine DetK.op rfl (OpA.bcmp rfl td4 rfl rfl (.inr ⟨rfl, rfl⟩) ⟨rfl, rfl⟩) ?_
  refine DetK.nil ?_
  refine wpL_nil ?_
  refine wpA_cond rfl (fun b12 => ?_) (fun b12 => ?_)
  try simp only [decide_eq_true_eq, decide_eq_false_iff_not, beq_iff_eq, bne_iff_ne, beq_eq_false_iff_ne, bne_eq_false_iff_eq, Bool.not_eq_true', Bool.not_eq_false', Int.not_lt, Int.not_le, gt_iff_lt, ge_iff_le, ne_eq] at b12
  refine wpA_seq ?_
  refine wpA_region ?_
  refine wpL_op rfl rfl rfl (OpA.asn rfl (by with_reducible conv => lhs; whnf) ?_)
  refine wpL_nil ?_
  refine wpA_ret ?_
  refine ⟨_, (.tmp (by with_reducible conv => lhs; whnf) .nil), _, (.same rfl .nil), ?_⟩
  (try simp only [tupD]) <;> (rw [checkAlF_none hc0 (stepsF_none (by omega) hst (stepNone (by intro g1 g2 g3; first | omega | (rw [txt_get g2, txt_get g3]; first | assumption | simp_all)) (by intro g1 g2 g3; first | omega | (rw [txt_get g2, txt_get g3]; first | assumption | simp_all)) (by intro g1; omega) (by intro g1; omega)))])
  try simp only [decide_eq_true_eq, decide_eq_false_iff_not, beq_iff_eq, bne_iff_ne, beq_eq_false_iff_ne, bne_eq_false_iff_eq, Bool.not_eq_true', Bool.not_eq_false', Int.not_lt, Int.not_le, gt_iff_lt, ge_iff_le, ne_eq] at b12
  have hpb := pairF_bd (x := a[i]'(by omega)) (y := b[j]'(by omega)) hcc.1
  refine wpA_skip ?_
  refine wpA_seq ?_
  refine wpA_draw (m := 13) mo (by kernel_rfl) rfl ?_
  refine DetK.op rfl (OpA.mv rfl (by with_reducible conv => lhs; whnf) ⟨rfl, rfl⟩) ?_
  refine DetK.op rfl (OpA.mv rfl (by with_reducible conv => lhs; whnf) ⟨rfl, rfl⟩) ?_
  refine DetK.op rfl (OpA.mv rfl (by with_reducible conv => lhs; whnf) ⟨rfl, rfl⟩) ?_
  first
    | refine DetK.op rfl (OpA.iixN rfl ts22 rfl rfl rfl (by first | exact nat_lit0 | exact nat_lit1 | exact nat_lit2 | exact nat_add1 _ | exact nat_add _ _ | exact rfl | exact nat_sub1 (by omega) | exact nat_sub (by omega) | exact natp1 (nat_sub (by omega)) | exact nat_of (by omega)) (by first | rfl | exact getM _ _ _ (by omega) | exact getO (by omega) | exact getL _ _ (by omega) | (simp; done)) ⟨rfl, rfl⟩) ?_
    | refine DetK.op rfl (OpA.ixN rfl ts22 rfl rfl (by first | exact nat_lit0 | exact nat_lit1 | exact nat_lit2 | exact nat_add1 _ | exact nat_add _ _ | exact rfl | exact nat_sub1 (by omega) | exact nat_sub (by omega) | exact natp1 (nat_sub (by omega)) | exact nat_of (by omega)) (by omega) ⟨rfl, rfl⟩) ?_
  first
    | refine DetK.op rfl (OpA.load_whole rfl ti40 rfl rfl (by first | exact .head | exact .tail .head | exact .tail (.tail .head) | exact .tail (.tail (.tail .head)) | exact .tail (.tail (.tail (.tail .head)))) (by first | rfl | exact getM _ _ _ (by omega) | exact getO (by omega) | exact getL _ _ (by omega) | (simp; done)) ⟨_, rfl⟩ ⟨rfl, rfl⟩) ?_
    | refine DetK.op rfl (OpA.iload_whole rfl ti40 rfl ⟨_, rfl, rfl⟩ ⟨rfl, rfl⟩) ?_
    | refine DetK.op rfl (OpA.load_agg rfl ti40 rfl (by first | exact .head | exact .tail .head | exact .tail (.tail .head) | exact .tail (.tail (.tail .head)) | exact .tail (.tail (.tail (.tail .head)))) (by first | rfl | exact getM _ _ _ (by omega) | exact getO (by omega) | exact getL _ _ (by omega) | (simp; done)) rfl rfl ⟨rfl, rfl⟩) ?_
    | refine DetK.op rfl (OpA.iload_agg rfl ti40 rfl rfl rfl ⟨rfl, rfl⟩) ?_
  refine DetK.op rfl (OpA.mv rfl (by with_reducible conv => lhs; whnf) ⟨rfl, rfl⟩) ?_
  refine DetK.op rfl (OpA.mv rfl (by with_reducible conv => lhs; whnf) ⟨rfl, rfl⟩) ?_
  first
    | refine DetK.op rfl (OpA.iixN rfl ts22 rfl rfl rfl (by first | exact nat_lit0 | exact nat_lit1 | exact nat_lit2 | exact nat_add1 _ | exact nat_add _ _ | exact rfl | exact nat_sub1 (by omega) | exact nat_sub (by omega) | exact natp1 (nat_sub (by omega)) | exact nat_of (by omega)) (by first | rfl | exact getM _ _ _ (by omega) | exact getO (by omega) | exact getL _ _ (by omega) | (simp; done)) ⟨rfl, rfl⟩) ?_
    | refine DetK.op rfl (OpA.ixN rfl ts22 rfl rfl (by first | exact nat_lit0 | exact nat_lit1 | exact nat_lit2 | exact nat_add1 _ | exact nat_add _ _ | exact rfl | exact nat_sub1 (by omega) | exact nat_sub (by omega) | exact natp1 (nat_sub (by omega)) | exact nat_of (by omega)) (by omega) ⟨rfl, rfl⟩) ?_
  first
    | refine DetK.op rfl (OpA.load_whole rfl ti40 rfl rfl (by first | exact .head | exact .tail .head | exact .tail (.tail .head) | exact .tail (.tail (.tail .head)) | exact .tail (.tail (.tail (.tail .head)))) (by first | rfl | exact getM _ _ _ (by omega) | exact getO (by omega) | exact getL _ _ (by omega) | (simp; done)) ⟨_, rfl⟩ ⟨rfl, rfl⟩) ?_
    | refine DetK.op rfl (OpA.iload_whole rfl ti40 rfl ⟨_, rfl, rfl⟩ ⟨rfl, rfl⟩) ?_
    | refine DetK.op rfl (OpA.load_agg rfl ti40 rfl (by first | exact .head | exact .tail .head | exact .tail (.tail .head) | exact .tail (.tail (.tail .head)) | exact .tail (.tail (.tail (.tail .head)))) (by first | rfl | exact getM _ _ _ (by omega) | exact getO (by omega) | exact getL _ _ (by omega) | (simp; done)) rfl rfl ⟨rfl, rfl⟩) ?_
    | refine DetK.op rfl (OpA.iload_agg rfl ti40 rfl rfl rfl ⟨rfl, rfl⟩) ?_
  first
    | refine DetK.op rfl (OpA.load_whole rfl ti24 rfl rfl (.tail .head) (by first | rfl | exact getM _ _ _ (by omega) | exact getO (by omega) | exact getL _ _ (by omega) | (simp; done)) ⟨_, rfl⟩ ⟨rfl, rfl⟩) ?_
    | refine DetK.op rfl (OpA.load_agg rfl ti24 rfl (.tail .head) (by first | rfl | exact getM _ _ _ (by omega) | exact getO (by omega) | exact getL _ _ (by omega) | (simp; done)) rfl rfl ⟨rfl, rfl⟩) ?_
  refine DetK.op rfl (OpA.call rfl rfl rfl en38 (price_fun _ _ _) (by rintro _ rfl; exact ⟨rfl, rfl⟩)) ?_
  refine DetK.op rfl (OpA.addi rfl rfl rfl (by omega) ⟨rfl, rfl⟩) ?_
  refine DetK.op rfl (OpA.asn rfl (by with_reducible conv => lhs; whnf) ⟨rfl, rfl⟩) ?_
  refine DetK.nil ?_
  refine wpL_nil ?_
  refine wpA_region ?_
  refine wpL_op rfl rfl rfl (OpA.mv rfl (by with_reducible conv => lhs; whnf) ?_)
  refine wpL_op rfl rfl rfl (OpA.addi rfl rfl rfl (by omega) ?_)
  refine wpL_op rfl rfl rfl (OpA.mv rfl (by with_reducible conv => lhs; whnf) ?_)
  refine wpL_op rfl rfl rfl (OpA.addi rfl rfl rfl (by omega) ?_)
  refine wpL_op rfl rfl rfl (OpA.asn rfl (by with_reducible conv => lhs; whnf) ?_)
  refine wpL_op rfl rfl rfl (OpA.asn rfl (by with_reducible conv => lhs; whnf) ?_)
  refine wpL_nil ?_
  refine wpA_region ?_
  refine wpL_op rfl rfl rfl (OpA.mv rfl (by with_reducible conv => lhs; whnf) ?_)
  refine wpL_op rfl rfl rfl (OpA.addi rfl rfl rfl (by omega) ?_)
  refine wpL_op rfl rfl rfl (OpA.asn rfl (by with_reducible conv => lhs; whnf) ?_)
  refine wpL_nil ?_
  first
    | exact ⟨_, _, by omega, ⟨k0 + 1, i + 1, j + 1, _, rfl, ⟨by omega, hc0, stepsF_succ (by omega) hst (by first | exact stepKC (by omega) (by omega) (by omega) (by assumption) | exact stepKeep (by omega) (by omega) (by omega) (by assumption) | exact stepChange (by omega) (by omega) (by omega) (by assumption) | exact stepDrop (by omega) (by omega) | exact stepAdd (by omega) (by omega)), by omega, by omega, by omega, by omega⟩, rfl, rfl⟩, Cov.asg ⟨rfl, rfl, rfl, rfl, rfl, rfl, rfl, rfl, rfl, trivial⟩⟩
    | exact ⟨_, _, by omega, ⟨k0 + 1, i + 1, j, _, rfl, ⟨by omega, hc0, stepsF_succ (by omega) hst (by first | exact stepKC (by omega) (by omega) (by omega) (by assumption) | exact stepKeep (by omega) (by omega) (by omega) (by assumption) | exact stepChange (by omega) (by omega) (by omega) (by assumption) | exact stepDrop (by omega) (by omega) | exact stepAdd (by omega) (by omega)), by omega, by omega, by omega, by omega⟩, rfl, rfl⟩, Cov.asg ⟨rfl, rfl, rfl, rfl, rfl, rfl, rfl, rfl, rfl, trivial⟩⟩
    | exact ⟨_, _, by omega, ⟨k0 + 1, i, j + 1, _, rfl, ⟨by omega, hc0, stepsF_succ (by omega) hst (by first | exact stepKC (by omega) (by omega) (by omega) (by assumption) | exact stepKeep (by omega) (by omega) (by omega) (by assumption) | exact stepChange (by omega) (by omega) (by omega) (by assumption) | exact stepDrop (by omega) (by omega) | exact stepAdd (by omega) (by omega)), by omega, by omega, by omega, by omega⟩, rfl, rfl⟩, Cov.asg ⟨rfl, rfl, rfl, rfl, rfl, rfl, rfl, rfl, rfl, trivial⟩⟩
  try simp only [decide_eq_true_eq, decide_eq_false_iff_not, beq_iff_eq, bne_iff_ne, beq_eq_false_iff_ne, bne_eq_false_iff_eq, Bool.not_eq_true', Bool.not_eq_false', Int.not_lt, Int.not_le, gt_iff_lt, ge_iff_le, ne_eq] at b11
  exfalso; first | contradiction | omega
  try simp only [decide_eq_true_eq, decide_eq_false_iff_not, beq_iff_eq, bne_iff_ne, beq_eq_false_iff_ne, bne_eq_false_iff_eq, Bool.not_eq_true', Bool.not_eq_false', Int.not_lt, Int.not_le, gt_iff_lt, ge_iff_le, ne_eq] at b7
  refine wpL_skip rfl rfl rfl rfl rfl rfl ?_
  refine wpL_skip rfl rfl rfl rfl rfl rfl ?_
  refine wpL_skip rfl rfl rfl rfl rfl rfl ?_
  refine wpL_skip rfl rfl rfl rfl rfl rfl ?_
  refine wpL_opg rfl rfl rfl rfl rfl rfl (OpA.pck rfl rfl (by with_reducible conv => lhs; whnf) ?_)
  refine wpL_op rfl rfl rfl (OpA.pck rfl rfl (by with_reducible conv => lhs; whnf) ?_)
  refine wpL_nil ?_
  refine wpA_condF rfl ?_
  refine wpA_skip ?_
  refine wpA_seq ?_
  refine wpA_region ?_
  refine wpL_op rfl rfl rfl (OpA.mv rfl (by with_reducible conv => lhs; whnf) ?_)
  refine wpL_op rfl rfl rfl (OpA.eql rfl rfl rfl ?_)
  refine wpL_op rfl rfl rfl (OpA.mv rfl (by with_reducible conv => lhs; whnf) ?_)
  refine wpL_split (s := 62) rfl (fun b13 => ?_) (fun b13 => ?_)
  try simp only [decide_eq_true_eq, decide_eq_false_iff_not, beq_iff_eq, bne_iff_ne, beq_eq_false_iff_ne, bne_eq_false_iff_eq, Bool.not_eq_true', Bool.not_eq_false', Int.not_lt, Int.not_le, gt_iff_lt, ge_iff_le, ne_eq] at b13
  exfalso; first | contradiction | omega
  try simp only [decide_eq_true_eq, decide_eq_false_iff_not, beq_iff_eq, bne_iff_ne, beq_eq_false_iff_ne, bne_eq_false_iff_eq, Bool.not_eq_true', Bool.not_eq_false', Int.not_lt, Int.not_le, gt_iff_lt, ge_iff_le, ne_eq] at b13
  refine wpL_opg rfl rfl rfl rfl rfl rfl (OpA.mv rfl (by with_reducible conv => lhs; whnf) ?_)
  refine wpL_opg rfl rfl rfl rfl rfl rfl (OpA.eql rfl rfl rfl ?_)
  refine wpL_op rfl rfl rfl (OpA.pck rfl rfl (by with_reducible conv => lhs; whnf) ?_)
  refine wpL_nil ?_
  refine wpA_cond rfl (fun b14 => ?_) (fun b14 => ?_)
  try simp only [decide_eq_true_eq, decide_eq_false_iff_not, beq_iff_eq, bne_iff_ne, beq_eq_false_iff_ne, bne_eq_false_iff_eq, Bool.not_eq_true', Bool.not_eq_false', Int.not_lt, Int.not_le, gt_iff_lt, ge_iff_le, ne_eq] at b14
  exfalso; first | contradiction | omega
  try simp only [decide_eq_true_eq, decide_eq_false_iff_not, beq_iff_eq, bne_iff_ne, beq_eq_false_iff_ne, bne_eq_false_iff_eq, Bool.not_eq_true', Bool.not_eq_false', Int.not_lt, Int.not_le, gt_iff_lt, ge_iff_le, ne_eq] at b14
  refine wpA_seq ?_
  refine wpA_region ?_
  refine wpL_op rfl rfl rfl (OpA.mv rfl (by with_reducible conv => lhs; whnf) ?_)
  refine wpL_op rfl rfl rfl (OpA.eql rfl rfl rfl ?_)
  refine wpL_nil ?_
  refine wpA_cond rfl (fun b15 => ?_) (fun b15 => ?_)
  try simp only [decide_eq_true_eq, decide_eq_false_iff_not, beq_iff_eq, bne_iff_ne, beq_eq_false_iff_ne, bne_eq_false_iff_eq, Bool.not_eq_true', Bool.not_eq_false', Int.not_lt, Int.not_le, gt_iff_lt, ge_iff_le, ne_eq] at b15
  refine wpA_draw (m := 8) mo (by kernel_rfl) rfl ?_
  refine DetK.op rfl (OpA.mv rfl (by with_reducible conv => lhs; whnf) ⟨rfl, rfl⟩) ?_
  refine DetK.op rfl (OpA.addi rfl rfl rfl (by omega) ⟨rfl, rfl⟩) ?_
  refine DetK.op rfl (OpA.mv rfl (by with_reducible conv => lhs; whnf) ⟨rfl, rfl⟩) ?_
  refine DetK.op rfl (OpA.fieldAddr rfl tf24_1 rfl ⟨rfl, rfl⟩) ?_
  refine DetK.op rfl (OpA.load rfl ti3 rfl (.tail .head) (by first | rfl | exact getM _ _ _ (by omega) | exact getO (by omega) | exact getL _ _ (by omega) | (simp; done)) (by first | rfl | exact getM _ _ _ (by omega) | exact getO (by omega) | exact getL _ _ (by omega) | (simp; done)) ⟨rfl, rfl⟩) ?_
  refine DetK.op rfl (OpA.addi rfl rfl rfl (by omega) ⟨rfl, rfl⟩) ?_
  refine DetK.op rfl (OpA.asn rfl (by with_reducible conv => lhs; whnf) ⟨rfl, rfl⟩) ?_
  refine DetK.op rfl (OpA.asn rfl (by with_reducible conv => lhs; whnf) ⟨rfl, rfl⟩) ?_
  refine DetK.nil ?_
  refine wpL_nil ?_
  refine wpA_region ?_
  refine wpL_op rfl rfl rfl (OpA.mv rfl (by with_reducible conv => lhs; whnf) ?_)
  refine wpL_op rfl rfl rfl (OpA.addi rfl rfl rfl (by omega) ?_)
  refine wpL_op rfl rfl rfl (OpA.asn rfl (by with_reducible conv => lhs; whnf) ?_)
  refine wpL_nil ?_
  first
    | exact ⟨_, _, by omega, ⟨k0 + 1, i + 1, j + 1, _, rfl, ⟨by omega, hc0, stepsF_succ (by omega) hst (by first | exact stepKC (by omega) (by omega) (by omega) (by assumption) | exact stepKeep (by omega) (by omega) (by omega) (by assumption) | exact stepChange (by omega) (by omega) (by omega) (by assumption) | exact stepDrop (by omega) (by omega) | exact stepAdd (by omega) (by omega)), by omega, by omega, by omega, by omega⟩, rfl, rfl⟩, Cov.asg ⟨rfl, rfl, rfl, rfl, rfl, rfl, rfl, rfl, rfl, trivial⟩⟩
    | exact ⟨_, _, by omega, ⟨k0 + 1, i + 1, j, _, rfl, ⟨by omega, hc0, stepsF_succ (by omega) hst (by first | exact stepKC (by omega) (by omega) (by omega) (by assumption) | exact stepKeep (by omega) (by omega) (by omega) (by assumption) | exact stepChange (by omega) (by omega) (by omega) (by assumption) | exact stepDrop (by omega) (by omega) | exact stepAdd (by omega) (by omega)), by omega, by omega, by omega, by omega⟩, rfl, rfl⟩, Cov.asg ⟨rfl, rfl, rfl, rfl, rfl, rfl, rfl, rfl, rfl, trivial⟩⟩
    | exact ⟨_, _, by omega, ⟨k0 + 1, i, j + 1, _, rfl, ⟨by omega, hc0, stepsF_succ (by omega) hst (by first | exact stepKC (by omega) (by omega) (by omega) (by assumption) | exact stepKeep (by omega) (by omega) (by omega) (by assumption) | exact stepChange (by omega) (by omega) (by omega) (by assumption) | exact stepDrop (by omega) (by omega) | exact stepAdd (by omega) (by omega)), by omega, by omega, by omega, by omega⟩, rfl, rfl⟩, Cov.asg ⟨rfl, rfl, rfl, rfl, rfl, rfl, rfl, rfl, rfl, trivial⟩⟩
  try simp only [decide_eq_true_eq, decide_eq_false_iff_not, beq_iff_eq, bne_iff_ne, beq_eq_false_iff_ne, bne_eq_false_iff_eq, Bool.not_eq_true', Bool.not_eq_false', Int.not_lt, Int.not_le, gt_iff_lt, ge_iff_le, ne_eq] at b15
  exfalso; first | contradiction | omega
  try simp only [decide_eq_true_eq, decide_eq_false_iff_not, beq_iff_eq, bne_iff_ne, beq_eq_false_iff_ne, bne_eq_false_iff_eq, Bool.not_eq_true', Bool.not_eq_false', Int.not_lt, Int.not_le, gt_iff_lt, ge_iff_le, ne_eq] at b5
  refine wpL_skip rfl rfl rfl rfl rfl rfl ?_
  refine wpL_skip rfl rfl rfl rfl rfl rfl ?_
  refine wpL_skip rfl rfl rfl rfl rfl rfl ?_
  refine wpL_skip rfl rfl rfl rfl rfl rfl ?_
  refine wpL_opg rfl rfl rfl rfl rfl rfl (OpA.pck rfl rfl (by with_reducible conv => lhs; whnf) ?_)
  refine wpL_op rfl rfl rfl (OpA.pck rfl rfl (by with_reducible conv => lhs; whnf) ?_)
  refine wpL_op rfl rfl rfl (OpA.mv rfl (by with_reducible conv => lhs; whnf) ?_)
  refine wpL_opg rfl rfl rfl rfl rfl rfl (OpA.mv rfl (by with_reducible conv => lhs; whnf) ?_)
  refine wpL_opg rfl rfl rfl rfl rfl rfl (OpA.neq rfl rfl rfl ?_)
  refine wpL_opg rfl rfl rfl rfl rfl rfl (OpA.mv rfl (by with_reducible conv => lhs; whnf) ?_)
  refine wpL_split (s := 53) rfl (fun b16 => ?_) (fun b16 => ?_)
  try simp only [decide_eq_true_eq, decide_eq_false_iff_not, beq_iff_eq, bne_iff_ne, beq_eq_false_iff_ne, bne_eq_false_iff_eq, Bool.not_eq_true', Bool.not_eq_false', Int.not_lt, Int.not_le, gt_iff_lt, ge_iff_le, ne_eq] at b16
  refine wpL_opg rfl rfl rfl rfl rfl rfl (OpA.mv rfl (by with_reducible conv => lhs; whnf) ?_)
  refine wpL_opg rfl rfl rfl rfl rfl rfl (OpA.mv rfl (by with_reducible conv => lhs; whnf) ?_)
  first
    | refine wpL_opg rfl rfl rfl rfl rfl rfl (OpA.len rfl rfl rfl rfl ts22.desc (.inl ⟨_, _, rfl, (List.length_map _).symm⟩) ?_)
    | refine wpL_opg rfl rfl rfl rfl rfl rfl (OpA.len rfl rfl rfl rfl ts22.desc (.inl ⟨_, _, rfl, rfl⟩) ?_)
    | refine wpL_opg rfl rfl rfl rfl rfl rfl (OpA.len rfl rfl rfl rfl ts22.desc (.inr (.inl ⟨_, _, _, rfl⟩)) ?_)
    | refine wpL_opg rfl rfl rfl rfl rfl rfl (OpA.len rfl rfl rfl rfl ts22.desc (.inr (.inr ⟨rfl, rfl⟩)) ?_)
  refine wpL_opg rfl rfl rfl rfl rfl rfl (OpA.eql rfl rfl rfl ?_)
  refine wpL_opg rfl rfl rfl rfl rfl rfl (OpA.pck rfl rfl (by with_reducible conv => lhs; whnf) ?_)
  refine wpL_op rfl rfl rfl (OpA.pck rfl rfl (by with_reducible conv => lhs; whnf) ?_)
  refine wpL_nil ?_
  refine wpA_cond rfl (fun b17 => ?_) (fun b17 => ?_)
  try simp only [decide_eq_true_eq, decide_eq_false_iff_not, beq_iff_eq, bne_iff_ne, beq_eq_false_iff_ne, bne_eq_false_iff_eq, Bool.not_eq_true', Bool.not_eq_false', Int.not_lt, Int.not_le, gt_iff_lt, ge_iff_le, ne_eq] at b17
  refine wpA_seq ?_
  refine wpA_region ?_
  refine wpL_op rfl rfl rfl (OpA.asn rfl (by with_reducible conv => lhs; whnf) ?_)
  refine wpL_nil ?_
  refine wpA_ret ?_
  refine ⟨_, (.tmp (by with_reducible conv => lhs; whnf) .nil), _, (.same rfl .nil), ?_⟩
  (try simp only [tupD]) <;> (rw [checkAlF_none hc0 (stepsF_none (by omega) hst (stepNone (by intro g1 g2 g3; first | omega | (rw [txt_get g2, txt_get g3]; first | assumption | simp_all)) (by intro g1 g2 g3; first | omega | (rw [txt_get g2, txt_get g3]; first | assumption | simp_all)) (by intro g1; omega) (by intro g1; omega)))])
  try simp only [decide_eq_true_eq, decide_eq_false_iff_not, beq_iff_eq, bne_iff_ne, beq_eq_false_iff_ne, bne_eq_false_iff_eq, Bool.not_eq_true', Bool.not_eq_false', Int.not_lt, Int.not_le, gt_iff_lt, ge_iff_le, ne_eq] at b17
  refine wpA_skip ?_
  refine wpA_seq ?_
  refine wpA_region ?_
  refine wpL_op rfl rfl rfl (OpA.mv rfl (by with_reducible conv => lhs; whnf) ?_)
  refine wpL_op rfl rfl rfl (OpA.eql rfl rfl rfl ?_)
  refine wpL_op rfl rfl rfl (OpA.mv rfl (by with_reducible conv => lhs; whnf) ?_)
  refine wpL_split (s := 62) rfl (fun b18 => ?_) (fun b18 => ?_)
  try simp only [decide_eq_true_eq, decide_eq_false_iff_not, beq_iff_eq, bne_iff_ne, beq_eq_false_iff_ne, bne_eq_false_iff_eq, Bool.not_eq_true', Bool.not_eq_false', Int.not_lt, Int.not_le, gt_iff_lt, ge_iff_le, ne_eq] at b18
  exfalso; first | contradiction | omega
  try simp only [decide_eq_true_eq, decide_eq_false_iff_not, beq_iff_eq, bne_iff_ne, beq_eq_false_iff_ne, bne_eq_false_iff_eq, Bool.not_eq_true', Bool.not_eq_false', Int.not_lt, Int.not_le, gt_iff_lt, ge_iff_le, ne_eq] at b18
  refine wpL_opg rfl rfl rfl rfl rfl rfl (OpA.mv rfl (by with_reducible conv => lhs; whnf) ?_)
  refine wpL_opg rfl rfl rfl rfl rfl rfl (OpA.eql rfl rfl rfl ?_)
  refine wpL_op rfl rfl rfl (OpA.pck rfl rfl (by with_reducible conv => lhs; whnf) ?_)
  refine wpL_nil ?_
  refine wpA_cond rfl (fun b19 => ?_) (fun b19 => ?_)
  try simp only [decide_eq_true_eq, decide_eq_false_iff_not, beq_iff_eq, bne_iff_ne, beq_eq_false_iff_ne, bne_eq_false_iff_eq, Bool.not_eq_true', Bool.not_eq_false', Int.not_lt, Int.not_le, gt_iff_lt, ge_iff_le, ne_eq] at b19
  exfalso; first | contradiction | omega
  try simp only [decide_eq_true_eq, decide_eq_false_iff_not, beq_iff_eq, bne_iff_ne, beq_eq_false_iff_ne, bne_eq_false_iff_eq, Bool.not_eq_true', Bool.not_eq_false', Int.not_lt, Int.not_le, gt_iff_lt, ge_iff_le, ne_eq] at b19
  refine wpA_seq ?_
  refine wpA_region ?_
  refine wpL_op rfl rfl rfl (OpA.mv rfl (by with_reducible conv => lhs; whnf) ?_)
  refine wpL_op rfl rfl rfl (OpA.eql rfl rfl rfl ?_)
  refine wpL_nil ?_
  refine wpA_cond rfl (fun b20 => ?_) (fun b20 => ?_)
  try simp only [decide_eq_true_eq, decide_eq_false_iff_not, beq_iff_eq, bne_iff_ne, beq_eq_false_iff_ne, bne_eq_false_iff_eq, Bool.not_eq_true', Bool.not_eq_false', Int.not_lt, Int.not_le, gt_iff_lt, ge_iff_le, ne_eq] at b20
  exfalso; first | contradiction | omega
  try simp only [decide_eq_true_eq, decide_eq_false_iff_not, beq_iff_eq, bne_iff_ne, beq_eq_false_iff_ne, bne_eq_false_iff_eq, Bool.not_eq_true', Bool.not_eq_false', Int.not_lt, Int.not_le, gt_iff_lt, ge_iff_le, ne_eq] at b20
  refine wpA_draw (m := 8) mo (by kernel_rfl) rfl ?_
  refine DetK.op rfl (OpA.mv rfl (by with_reducible conv => lhs; whnf) ⟨rfl, rfl⟩) ?_
  refine DetK.op rfl (OpA.addi rfl rfl rfl (by omega) ⟨rfl, rfl⟩) ?_
  refine DetK.op rfl (OpA.mv rfl (by with_reducible conv => lhs; whnf) ⟨rfl, rfl⟩) ?_
  refine DetK.op rfl (OpA.fieldAddr rfl tf24_2 rfl ⟨rfl, rfl⟩) ?_
  refine DetK.op rfl (OpA.load rfl ti3 rfl (.tail .head) (by first | rfl | exact getM _ _ _ (by omega) | exact getO (by omega) | exact getL _ _ (by omega) | (simp; done)) (by first | rfl | exact getM _ _ _ (by omega) | exact getO (by omega) | exact getL _ _ (by omega) | (simp; done)) ⟨rfl, rfl⟩) ?_
  refine DetK.op rfl (OpA.addi rfl rfl rfl (by omega) ⟨rfl, rfl⟩) ?_
  refine DetK.op rfl (OpA.asn rfl (by with_reducible conv => lhs; whnf) ⟨rfl, rfl⟩) ?_
  refine DetK.op rfl (OpA.asn rfl (by with_reducible conv => lhs; whnf) ⟨rfl, rfl⟩) ?_
  refine DetK.nil ?_
  refine wpL_nil ?_
  refine wpA_region ?_
  refine wpL_op rfl rfl rfl (OpA.mv rfl (by with_reducible conv => lhs; whnf) ?_)
  refine wpL_op rfl rfl rfl (OpA.addi rfl rfl rfl (by omega) ?_)
  refine wpL_op rfl rfl rfl (OpA.asn rfl (by with_reducible conv => lhs; whnf) ?_)
  refine wpL_nil ?_
  first
    | exact ⟨_, _, by omega, ⟨k0 + 1, i + 1, j + 1, _, rfl, ⟨by omega, hc0, stepsF_succ (by omega) hst (by first | exact stepKC (by omega) (by omega) (by omega) (by assumption) | exact stepKeep (by omega) (by omega) (by omega) (by assumption) | exact stepChange (by omega) (by omega) (by omega) (by assumption) | exact stepDrop (by omega) (by omega) | exact stepAdd (by omega) (by omega)), by omega, by omega, by omega, by omega⟩, rfl, rfl⟩, Cov.asg ⟨rfl, rfl, rfl, rfl, rfl, rfl, rfl, rfl, rfl, trivial⟩⟩
    | exact ⟨_, _, by omega, ⟨k0 + 1, i + 1, j, _, rfl, ⟨by omega, hc0, stepsF_succ (by omega) hst (by first | exact stepKC (by omega) (by omega) (by omega) (by assumption) | exact stepKeep (by omega) (by omega) (by omega) (by assumption) | exact stepChange (by omega) (by omega) (by omega) (by assumption) | exact stepDrop (by omega) (by omega) | exact stepAdd (by omega) (by omega)), by omega, by omega, by omega, by omega⟩, rfl, rfl⟩, Cov.asg ⟨rfl, rfl, rfl, rfl, rfl, rfl, rfl, rfl, rfl, trivial⟩⟩
    | exact ⟨_, _, by omega, ⟨k0 + 1, i, j + 1, _, rfl, ⟨by omega, hc0, stepsF_succ (by omega) hst (by first | exact stepKC (by omega) (by omega) (by omega) (by assumption) | exact stepKeep (by omega) (by omega) (by omega) (by assumption) | exact stepChange (by omega) (by omega) (by omega) (by assumption) | exact stepDrop (by omega) (by omega) | exact stepAdd (by omega) (by omega)), by omega, by omega, by omega, by omega⟩, rfl, rfl⟩, Cov.asg ⟨rfl, rfl, rfl, rfl, rfl, rfl, rfl, rfl, rfl, trivial⟩⟩
  try simp only [decide_eq_true_eq, decide_eq_false_iff_not, beq_iff_eq, bne_iff_ne, beq_eq_false_iff_ne, bne_eq_false_iff_eq, Bool.not_eq_true', Bool.not_eq_false', Int.not_lt, Int.not_le, gt_iff_lt, ge_iff_le, ne_eq] at b16
  exfalso; first | contradiction | omega
  try simp only [decide_eq_true_eq, decide_eq_false_iff_not, beq_iff_eq, bne_iff_ne, beq_eq_false_iff_ne, bne_eq_false_iff_eq, Bool.not_eq_true', Bool.not_eq_false', Int.not_lt, Int.not_le, gt_iff_lt, ge_iff_le, ne_eq] at b2
  refine wpA_exit ?_
  refine wpA_seq ?_
  refine wpA_seq ?_
  refine wpA_region ?_
  refine wpL_op rfl rfl rfl (OpA.mv rfl (by with_reducible conv => lhs; whnf) ?_)
  refine wpL_op rfl rfl rfl (OpA.mv rfl (by with_reducible conv => lhs; whnf) ?_)
  first
    | refine wpL_op rfl rfl rfl (OpA.len rfl rfl rfl rfl ts22.desc (.inl ⟨_, _, rfl, (List.length_map _).symm⟩) ?_)
    | refine wpL_op rfl rfl rfl (OpA.len rfl rfl rfl rfl ts22.desc (.inl ⟨_, _, rfl, rfl⟩) ?_)
    | refine wpL_op rfl rfl rfl (OpA.len rfl rfl rfl rfl ts22.desc (.inr (.inl ⟨_, _, _, rfl⟩)) ?_)
    | refine wpL_op rfl rfl rfl (OpA.len rfl rfl rfl rfl ts22.desc (.inr (.inr ⟨rfl, rfl⟩)) ?_)
  refine wpL_op rfl rfl rfl (OpA.neq rfl rfl rfl ?_)
  refine wpL_op rfl rfl rfl (OpA.mv rfl (by with_reducible conv => lhs; whnf) ?_)
  refine wpL_split (s := 114) rfl (fun b21 => ?_) (fun b21 => ?_)
  try simp only [decide_eq_true_eq, decide_eq_false_iff_not, beq_iff_eq, bne_iff_ne, beq_eq_false_iff_ne, bne_eq_false_iff_eq, Bool.not_eq_true', Bool.not_eq_false', Int.not_lt, Int.not_le, gt_iff_lt, ge_iff_le, ne_eq] at b21
  refine wpL_skip rfl rfl rfl rfl rfl rfl ?_
  refine wpL_skip rfl rfl rfl rfl rfl rfl ?_
  refine wpL_skip rfl rfl rfl rfl rfl rfl ?_
  refine wpL_skip rfl rfl rfl rfl rfl rfl ?_
  refine wpL_op rfl rfl rfl (OpA.pck rfl rfl (by with_reducible conv => lhs; whnf) ?_)
  refine wpL_op rfl rfl rfl (OpA.mv rfl (by with_reducible conv => lhs; whnf) ?_)
  refine wpL_skip rfl rfl rfl rfl rfl rfl ?_
  refine wpL_skip rfl rfl rfl rfl rfl rfl ?_
  refine wpL_skip rfl rfl rfl rfl rfl rfl ?_
  refine wpL_skip rfl rfl rfl rfl rfl rfl ?_
  refine wpL_op rfl rfl rfl (OpA.pck rfl rfl (by with_reducible conv => lhs; whnf) ?_)
  refine wpL_nil ?_
  refine wpA_condT rfl ?_
  refine wpA_seq ?_
  refine wpA_region ?_
  refine wpL_op rfl rfl rfl (OpA.asn rfl (by with_reducible conv => lhs; whnf) ?_)
  refine wpL_nil ?_
  refine wpA_ret ?_
  refine ⟨_, (.tmp (by with_reducible conv => lhs; whnf) .nil), _, (.same rfl .nil), ?_⟩
  (try simp only [tupD]) <;> (first | rw [checkAlF_ok hc0 (stepsF_end (by omega) hst) (by omega) (by omega) (by omega)] | rw [checkAlF_bad hc0 (stepsF_end (by omega) hst) (by omega)])
  try simp only [decide_eq_true_eq, decide_eq_false_iff_not, beq_iff_eq, bne_iff_ne, beq_eq_false_iff_ne, bne_eq_false_iff_eq, Bool.not_eq_true', Bool.not_eq_false', Int.not_lt, Int.not_le, gt_iff_lt, ge_iff_le, ne_eq] at b21
  refine wpL_opg rfl rfl rfl rfl rfl rfl (OpA.mv rfl (by with_reducible conv => lhs; whnf) ?_)
  refine wpL_opg rfl rfl rfl rfl rfl rfl (OpA.mv rfl (by with_reducible conv => lhs; whnf) ?_)
  first
    | refine wpL_opg rfl rfl rfl rfl rfl rfl (OpA.len rfl rfl rfl rfl ts22.desc (.inl ⟨_, _, rfl, (List.length_map _).symm⟩) ?_)
    | refine wpL_opg rfl rfl rfl rfl rfl rfl (OpA.len rfl rfl rfl rfl ts22.desc (.inl ⟨_, _, rfl, rfl⟩) ?_)
    | refine wpL_opg rfl rfl rfl rfl rfl rfl (OpA.len rfl rfl rfl rfl ts22.desc (.inr (.inl ⟨_, _, _, rfl⟩)) ?_)
    | refine wpL_opg rfl rfl rfl rfl rfl rfl (OpA.len rfl rfl rfl rfl ts22.desc (.inr (.inr ⟨rfl, rfl⟩)) ?_)
  refine wpL_opg rfl rfl rfl rfl rfl rfl (OpA.neq rfl rfl rfl ?_)
  refine wpL_op rfl rfl rfl (OpA.pck rfl rfl (by with_reducible conv => lhs; whnf) ?_)
  refine wpL_op rfl rfl rfl (OpA.mv rfl (by with_reducible conv => lhs; whnf) ?_)
  refine wpL_split (s := 120) rfl (fun b22 => ?_) (fun b22 => ?_)
  try simp only [decide_eq_true_eq, decide_eq_false_iff_not, beq_iff_eq, bne_iff_ne, beq_eq_false_iff_ne, bne_eq_false_iff_eq, Bool.not_eq_true', Bool.not_eq_false', Int.not_lt, Int.not_le, gt_iff_lt, ge_iff_le, ne_eq] at b22
  refine wpL_skip rfl rfl rfl rfl rfl rfl ?_
  refine wpL_skip rfl rfl rfl rfl rfl rfl ?_
  refine wpL_skip rfl rfl rfl rfl rfl rfl ?_
  refine wpL_skip rfl rfl rfl rfl rfl rfl ?_
  refine wpL_op rfl rfl rfl (OpA.pck rfl rfl (by with_reducible conv => lhs; whnf) ?_)
  refine wpL_nil ?_
  refine wpA_condT rfl ?_
  refine wpA_seq ?_
  refine wpA_region ?_
  refine wpL_op rfl rfl rfl (OpA.asn rfl (by with_reducible conv => lhs; whnf) ?_)
  refine wpL_nil ?_
  refine wpA_ret ?_
  refine ⟨_, (.tmp (by with_reducible conv => lhs; whnf) .nil), _, (.same rfl .nil), ?_⟩
  (try simp only [tupD]) <;> (first | rw [checkAlF_ok hc0 (stepsF_end (by omega) hst) (by omega) (by omega) (by omega)] | rw [checkAlF_bad hc0 (stepsF_end (by omega) hst) (by omega)])
  try simp only [decide_eq_true_eq, decide_eq_false_iff_not, beq_iff_eq, bne_iff_ne, beq_eq_false_iff_ne, bne_eq_false_iff_eq, Bool.not_eq_true', Bool.not_eq_false', Int.not_lt, Int.not_le, gt_iff_lt, ge_iff_le, ne_eq] at b22
  refine wpL_opg rfl rfl rfl rfl rfl rfl (OpA.mv rfl (by with_reducible conv => lhs; whnf) ?_)
  refine wpL_opg rfl rfl rfl rfl rfl rfl (OpA.fieldAddr rfl tf27_0 rfl ?_)
  refine wpL_opg rfl rfl rfl rfl rfl rfl (OpA.load rfl ti3 rfl .head (by first | rfl | exact getM _ _ _ (by omega) | exact getO (by omega) | exact getL _ _ (by omega) | (simp; done)) (by first | rfl | exact getM _ _ _ (by omega) | exact getO (by omega) | exact getL _ _ (by omega) | (simp; done)) ?_)
  refine wpL_opg rfl rfl rfl rfl rfl rfl (OpA.neq rfl rfl rfl ?_)
  refine wpL_op rfl rfl rfl (OpA.pck rfl rfl (by with_reducible conv => lhs; whnf) ?_)
  refine wpL_nil ?_
  refine wpA_cond rfl (fun b23 => ?_) (fun b23 => ?_)
  try simp only [decide_eq_true_eq, decide_eq_false_iff_not, beq_iff_eq, bne_iff_ne, beq_eq_false_iff_ne, bne_eq_false_iff_eq, Bool.not_eq_true', Bool.not_eq_false', Int.not_lt, Int.not_le, gt_iff_lt, ge_iff_le, ne_eq] at b23
  refine wpA_seq ?_
  refine wpA_region ?_
  refine wpL_op rfl rfl rfl (OpA.asn rfl (by with_reducible conv => lhs; whnf) ?_)
  refine wpL_nil ?_
  refine wpA_ret ?_
  refine ⟨_, (.tmp (by with_reducible conv => lhs; whnf) .nil), _, (.same rfl .nil), ?_⟩
  (try simp only [tupD]) <;> (first | rw [checkAlF_ok hc0 (stepsF_end (by omega) hst) (by omega) (by omega) (by omega)] | rw [checkAlF_bad hc0 (stepsF_end (by omega) hst) (by omega)])
  try simp only [decide_eq_true_eq, decide_eq_false_iff_not, beq_iff_eq, bne_iff_ne, beq_eq_false_iff_ne, bne_eq_false_iff_eq, Bool.not_eq_true', Bool.not_eq_false', Int.not_lt, Int.not_le, gt_iff_lt, ge_iff_le, ne_eq] at b23
  refine wpA_skip ?_
  refine wpA_seq ?_
  refine wpA_region ?_
  refine wpL_op rfl rfl rfl (OpA.asn rfl (by with_reducible conv => lhs; whnf) ?_)
  refine wpL_nil ?_
  refine wpA_ret ?_
  refine ⟨_, (.tmp (by with_reducible conv => lhs; whnf) .nil), _, (.same rfl .nil), ?_⟩
  (try simp only [tupD]) <;> (first | rw [checkAlF_ok hc0 (stepsF_end (by omega) hst) (by omega) (by omega) (by omega)] | rw [checkAlF_bad hc0 (stepsF_end (by omega) hst) (by omega)])
end Go.Proofs.Ythggcjnmodeehaa
