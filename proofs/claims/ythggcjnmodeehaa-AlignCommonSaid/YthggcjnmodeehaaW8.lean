/-
  walks
-/
import Derived.Test.YthggcjnmodeehaaW7
import Derived.Test.YthggcjnmodeehaaSpec3
set_option linter.all false
namespace Go.Proofs.Ythggcjnmodeehaa
open Go Go.Lic

theorem align_fun (a b : List Lexeme) (c : Costs) : Fun false Try.prog 17 [encWords a, encWords b, encCosts c] (fun d => d = encRes (alignR a b c)) := by
  refine Fun.of_body Try.func17 rfl Try.ntmps17 rfl ?_
  refine wpA_seq ?_
  refine wpA_region ?_
  refine wpL_op rfl rfl rfl (OpA.bx (sz := 3) rfl (by with_reducible conv => lhs; whnf) (.of rfl) (fun c5 _ => ?_))
  refine wpL_op rfl rfl rfl (OpA.alloc (sz := 2) (d := .agg [.v (.int .i64 0), .v (.slice none 0 0)]) rfl tz27 (fun _ _ => .agg (vs := [.int .i64 0, .slice none 0 0]) (.cons (.v _) (.cons (.v _) .nil))) (.of rfl) (fun c6 _ => ?_))
  refine wpL_op rfl rfl rfl (OpA.asn rfl (by with_reducible conv => lhs; whnf) ?_)
  refine wpL_nil ?_
  refine wpA_seq ?_
  refine wpA_seq ?_
  refine wpA_region ?_
  refine wpL_op rfl rfl rfl (OpA.mv rfl (by with_reducible conv => lhs; whnf) ?_)
  refine wpL_op rfl rfl rfl (OpA.mv rfl (by with_reducible conv => lhs; whnf) ?_)
  first
    | refine wpL_op rfl rfl rfl (OpA.load_whole rfl ti24 rfl rfl (.tail .head) (by first | rfl | exact rowB (by omega) | exact cellB (by omega) | exact getM _ _ _ (by omega) | exact getO (by omega) | exact getL _ _ (by omega) | (simp; done)) ⟨_, rfl⟩ ?_)
    | refine wpL_op rfl rfl rfl (OpA.load_agg rfl ti24 rfl (.tail .head) (by first | rfl | exact rowB (by omega) | exact cellB (by omega) | exact getM _ _ _ (by omega) | exact getO (by omega) | exact getL _ _ (by omega) | (simp; done)) rfl rfl ?_)
  refine wpL_op rfl rfl rfl (OpA.call rfl rfl rfl en36 (check_fun _ _ _) ?_)
  rintro _ rfl
  refine wpL_op rfl rfl rfl (OpA.asn rfl (by with_reducible conv => lhs; whnf) ?_)
  refine wpL_nil ?_
  refine wpA_seq ?_
  refine wpA_region ?_
  refine wpL_op rfl rfl rfl (OpA.mv rfl (by with_reducible conv => lhs; whnf) ?_)
  refine wpL_op rfl rfl rfl (OpA.neq rfl rfl rfl ?_)
  refine wpL_nil ?_
  refine wpA_cond rfl (fun b1 => ?_) (fun b1 => ?_)
  try simp only [decide_eq_true_eq, decide_eq_false_iff_not, beq_iff_eq, bne_iff_ne, beq_eq_false_iff_ne, bne_eq_false_iff_eq, Bool.not_eq_true', Bool.not_eq_false', Int.not_lt, Int.not_le, gt_iff_lt, ge_iff_le, ne_eq] at b1
  refine wpA_seq ?_
  refine wpA_region ?_
  refine wpL_op rfl rfl rfl (OpA.buildO (zs := [.v (.int .i64 0), .v (.slice none 0 0)]) rfl tp27 tz27 (fun _ _ => (.cons (.v _) (.cons (.v _) .nil))) .nil rfl ?_)
  refine wpL_op rfl rfl rfl (OpA.mv rfl (by with_reducible conv => lhs; whnf) ?_)
  refine wpL_eff rfl rfl (OpA.storeW rfl ti27 rfl (by with_reducible conv => lhs; whnf) (.of rfl) (by first | rfl | exact rowB (by omega) | exact cellB (by omega) | exact getM _ _ _ (by omega) | exact getO (by omega) | exact getL _ _ (by omega) | (simp; done)) rfl .head ?_)
  refine wpL_op rfl rfl rfl (OpA.asn rfl (by with_reducible conv => lhs; whnf) ?_)
  refine wpL_nil ?_
  refine wpA_ret ?_
  refine ⟨_, (.cell (.whole ti27 rfl rfl .head rfl ⟨_, rfl⟩) (.tmp (by with_reducible conv => lhs; whnf) .nil)), _, (.tup (.agg (.same rfl (.nilv (sz := 1) .nil)) (.same rfl .nil)) .nil), ?_⟩
  (try simp only [tupD]) <;> (rw [alignR_err (by assumption)]; rfl)
  try simp only [decide_eq_true_eq, decide_eq_false_iff_not, beq_iff_eq, bne_iff_ne, beq_eq_false_iff_ne, bne_eq_false_iff_eq, Bool.not_eq_true', Bool.not_eq_false', Int.not_lt, Int.not_le, gt_iff_lt, ge_iff_le, ne_eq] at b1
  have hck : checkF a b c = 0 := by omega
  obtain ⟨hok, ha, hb⟩ := checkF_ok hck
  have hcc := checkF_zero hck
  refine wpA_skip ?_
  refine wpA_seq ?_
  refine wpA_region ?_
  refine wpL_op rfl rfl rfl (OpA.mv rfl (by with_reducible conv => lhs; whnf) ?_)
  refine wpL_op rfl rfl rfl (OpA.mv rfl (by with_reducible conv => lhs; whnf) ?_)
  first
    | refine wpL_op rfl rfl rfl (OpA.load_whole rfl ti24 rfl rfl (.tail .head) (by first | rfl | exact rowB (by omega) | exact cellB (by omega) | exact getM _ _ _ (by omega) | exact getO (by omega) | exact getL _ _ (by omega) | (simp; done)) ⟨_, rfl⟩ ?_)
    | refine wpL_op rfl rfl rfl (OpA.load_agg rfl ti24 rfl (.tail .head) (by first | rfl | exact rowB (by omega) | exact cellB (by omega) | exact getM _ _ _ (by omega) | exact getO (by omega) | exact getL _ _ (by omega) | (simp; done)) rfl rfl ?_)
  refine wpL_op rfl rfl rfl (OpA.call rfl rfl rfl en39 (backs_fun _ _ _ hck) ?_)
  rintro _ rfl
  refine wpL_op rfl rfl rfl (OpA.asn rfl (by with_reducible conv => lhs; whnf) ?_)
  refine wpL_nil ?_
  refine wpA_seq ?_
  refine wpA_region ?_
  refine wpL_op rfl rfl rfl (OpA.mv rfl (by with_reducible conv => lhs; whnf) ?_)
  refine wpL_op rfl rfl rfl (OpA.iixN rfl ts48 rfl rfl rfl (by first | exact nat_lit0 | exact nat_lit1 | exact nat_lit2 | exact nat_add1 _ | exact nat_add _ _ | exact rfl | exact nat_sub1 (by omega) | exact nat_sub (by omega) | exact natp1 (nat_sub (by omega)) | exact nat_of (by omega)) (by first | rfl | exact rowB (by omega) | exact cellB (by omega) | exact getM _ _ _ (by omega) | exact getO (by omega) | exact getL _ _ (by omega) | (simp; done)) ?_)
  refine wpL_op rfl rfl rfl (OpA.iload rfl ti25 rfl (by first | rfl | exact rowB (by omega) | exact cellB (by omega) | exact getM _ _ _ (by omega) | exact getO (by omega) | exact getL _ _ (by omega) | (simp; done)) ?_)
  first
    | refine wpL_op rfl rfl rfl (OpA.iixN rfl ts25 rfl rfl rfl (by first | exact nat_lit0 | exact nat_lit1 | exact nat_lit2 | exact nat_add1 _ | exact nat_add _ _ | exact rfl | exact nat_sub1 (by omega) | exact nat_sub (by omega) | exact natp1 (nat_sub (by omega)) | exact nat_of (by omega)) (by first | rfl | exact rowB (by omega) | exact cellB (by omega) | exact getM _ _ _ (by omega) | exact getO (by omega) | exact getL _ _ (by omega) | (simp; done)) ?_)
    | refine wpL_op rfl rfl rfl (OpA.ixN rfl ts25 rfl rfl (by first | exact nat_lit0 | exact nat_lit1 | exact nat_lit2 | exact nat_add1 _ | exact nat_add _ _ | exact rfl | exact nat_sub1 (by omega) | exact nat_sub (by omega) | exact natp1 (nat_sub (by omega)) | exact nat_of (by omega)) (by omega) ?_)
  first
    | refine wpL_op rfl rfl rfl (OpA.load rfl ti3 rfl (by first | exact .head | exact .tail .head | exact .tail (.tail .head) | exact .tail (.tail (.tail .head)) | exact .tail (.tail (.tail (.tail .head)))) (by first | rfl | exact rowB (by omega) | exact cellB (by omega) | exact getM _ _ _ (by omega) | exact getO (by omega) | exact getL _ _ (by omega) | (simp; done)) (by first | rfl | exact rowB (by omega) | exact cellB (by omega) | exact getM _ _ _ (by omega) | exact getO (by omega) | exact getL _ _ (by omega) | (simp; done)) ?_)
    | refine wpL_op rfl rfl rfl (OpA.iload rfl ti3 rfl (by first | rfl | exact rowB (by omega) | exact cellB (by omega) | exact getM _ _ _ (by omega) | exact getO (by omega) | exact getL _ _ (by omega) | (simp; done)) ?_)
  refine wpL_op rfl rfl rfl (OpA.buildO (zs := [.v (.int .i64 0), .v (.slice none 0 0)]) rfl tp27 tz27 (fun _ _ => (.cons (.v _) (.cons (.v _) .nil))) (.cons (.of (sz := 1) rfl) .nil) rfl ?_)
  refine wpL_op rfl rfl rfl (OpA.alloc (sz := 2) (d := .agg [.v (.int .i64 0), .v (.slice none 0 0)]) rfl tz27 (fun _ _ => .agg (vs := [.int .i64 0, .slice none 0 0]) (.cons (.v _) (.cons (.v _) .nil))) (.of rfl) (fun c10 _ => ?_))
  refine wpL_eff rfl rfl (OpA.storeW rfl ti27 rfl (by with_reducible conv => lhs; whnf) (.of rfl) (by first | rfl | exact rowB (by omega) | exact cellB (by omega) | exact getM _ _ _ (by omega) | exact getO (by omega) | exact getL _ _ (by omega) | (simp; done)) rfl .head ?_)
  refine wpL_nil ?_
  refine wpA_seq ?_
  refine wpA_seq ?_
  refine wpA_region ?_
  refine wpL_op rfl rfl rfl (OpA.asn rfl (by with_reducible conv => lhs; whnf) ?_)
  refine wpL_op rfl rfl rfl (OpA.asn rfl (by with_reducible conv => lhs; whnf) ?_)
  refine wpL_nil ?_
  refine wpA_block ?_
  refine wpA_ghostM (sz := 1) (es' := fun g => [.agg [.i (edit c a b), .own g 1 0 0]]) (fun g => .head) (fun g => .same (.turn .nil)) (fun g => rfl) (by intro g d hd; rw [List.mem_singleton.1 hd]; exact .of rfl) (fun g => ?_)
  refine wpA_loopE (fun mm fr h => ∃ (i : Nat) (j : Nat) (g : Nat) (pre : List D) (ds : List D) (xs : List Int) (n1 : Nat), mm = a.length + b.length - i - j ∧ (i ≤ a.length ∧ j ≤ b.length ∧ xs ++ alignS c (a.drop i) (b.drop j) = alignS c a b ∧ ds = xs.map D.i ∧ ds.length = n1 ∧ n1 ≤ i + j) ∧ fr = asg [(0, encWords a), (1, encWords b), (5, .ptr c5 3 0 0), (6, .ptr c6 2 0 0), (7, .i 0), (9, encTable (backF a b c)), (10, .ptr c10 2 0 0), (11, .i i), (12, .i j)] ∧ h = [(g, .cells 1 (pre ++ ds)), (c10, .cells 2 [.agg [.i (edit c a b), .own g 1 pre.length n1]]), (c6, .cells 2 [.agg [.i 0, .v (.slice none 0 0)]]), (c5, .cells 3 [encCosts c])]) ⟨_, _, ⟨0, 0, _, [], [], [], 0, rfl, ⟨by omega, by omega, rfl, rfl, rfl, by omega⟩, rfl, rfl⟩, Cov.asg ⟨rfl, rfl, rfl, rfl, rfl, rfl, rfl, rfl, rfl, trivial⟩⟩ ?_
  rintro k fr h ⟨i, j, g, pre, ds, xs, n1, rfl, ⟨hi, hj, hst, hds, hn, hnk⟩, rfl, rfl⟩
  have hx00 := bkv_bd hok ha hb i j
  have hx11 := bkv_bd hok ha hb (i + 1) (j + 1)
  have hx10 := bkv_bd hok ha hb (i + 1) (j)
  have hx01 := bkv_bd hok ha hb (i) (j + 1)
  refine wpA_seq ?_
  refine wpA_seq ?_
  refine wpA_region ?_
  refine wpL_op rfl rfl rfl (OpA.mv rfl (by with_reducible conv => lhs; whnf) ?_)
  refine wpL_op rfl rfl rfl (OpA.mv rfl (by with_reducible conv => lhs; whnf) ?_)
  first
    | refine wpL_op rfl rfl rfl (OpA.len rfl rfl rfl rfl ts22.desc (.inl ⟨_, _, rfl, (List.length_map _).symm⟩) ?_)
    | refine wpL_op rfl rfl rfl (OpA.len rfl rfl rfl rfl ts22.desc (.inl ⟨_, _, rfl, rfl⟩) ?_)
    | refine wpL_op rfl rfl rfl (OpA.len rfl rfl rfl rfl ts22.desc (.inr (.inl ⟨_, _, _, rfl⟩)) ?_)
    | refine wpL_op rfl rfl rfl (OpA.len rfl rfl rfl rfl ts22.desc (.inr (.inr ⟨rfl, rfl⟩)) ?_)
  refine wpL_op rfl rfl rfl (OpA.lss rfl rfl rfl ?_)
  refine wpL_op rfl rfl rfl (OpA.mv rfl (by with_reducible conv => lhs; whnf) ?_)
  refine wpL_split (s := 38) rfl (fun b2 => ?_) (fun b2 => ?_)
  try simp only [decide_eq_true_eq, decide_eq_false_iff_not, beq_iff_eq, bne_iff_ne, beq_eq_false_iff_ne, bne_eq_false_iff_eq, Bool.not_eq_true', Bool.not_eq_false', Int.not_lt, Int.not_le, gt_iff_lt, ge_iff_le, ne_eq] at b2
  refine wpL_skip rfl rfl rfl rfl rfl rfl ?_
  refine wpL_skip rfl rfl rfl rfl rfl rfl ?_
  refine wpL_skip rfl rfl rfl rfl rfl rfl ?_
  refine wpL_skip rfl rfl rfl rfl rfl rfl ?_
  refine wpL_op rfl rfl rfl (OpA.pck rfl rfl (by with_reducible conv => lhs; whnf) ?_)
  refine wpL_nil ?_
  refine wpA_condT rfl ?_
  refine wpA_skip ?_
  refine wpA_block ?_
  refine wpA_seq ?_
  refine wpA_region ?_
  refine wpL_op rfl rfl rfl (OpA.mv rfl (by with_reducible conv => lhs; whnf) ?_)
  refine wpL_op rfl rfl rfl (OpA.mv rfl (by with_reducible conv => lhs; whnf) ?_)
  refine wpL_op rfl rfl rfl (OpA.iixN rfl ts48 rfl rfl rfl (by first | exact nat_lit0 | exact nat_lit1 | exact nat_lit2 | exact nat_add1 _ | exact nat_add _ _ | exact rfl | exact nat_sub1 (by omega) | exact nat_sub (by omega) | exact natp1 (nat_sub (by omega)) | exact nat_of (by omega)) (by first | rfl | exact rowB (by omega) | exact cellB (by omega) | exact getM _ _ _ (by omega) | exact getO (by omega) | exact getL _ _ (by omega) | (simp; done)) ?_)
  refine wpL_op rfl rfl rfl (OpA.iload rfl ti25 rfl (by first | rfl | exact rowB (by omega) | exact cellB (by omega) | exact getM _ _ _ (by omega) | exact getO (by omega) | exact getL _ _ (by omega) | (simp; done)) ?_)
  refine wpL_op rfl rfl rfl (OpA.mv rfl (by with_reducible conv => lhs; whnf) ?_)
  first
    | refine wpL_op rfl rfl rfl (OpA.iixN rfl ts25 rfl rfl rfl (by first | exact nat_lit0 | exact nat_lit1 | exact nat_lit2 | exact nat_add1 _ | exact nat_add _ _ | exact rfl | exact nat_sub1 (by omega) | exact nat_sub (by omega) | exact natp1 (nat_sub (by omega)) | exact nat_of (by omega)) (by first | rfl | exact rowB (by omega) | exact cellB (by omega) | exact getM _ _ _ (by omega) | exact getO (by omega) | exact getL _ _ (by omega) | (simp; done)) ?_)
    | refine wpL_op rfl rfl rfl (OpA.ixN rfl ts25 rfl rfl (by first | exact nat_lit0 | exact nat_lit1 | exact nat_lit2 | exact nat_add1 _ | exact nat_add _ _ | exact rfl | exact nat_sub1 (by omega) | exact nat_sub (by omega) | exact natp1 (nat_sub (by omega)) | exact nat_of (by omega)) (by omega) ?_)
  first
    | refine wpL_op rfl rfl rfl (OpA.load rfl ti3 rfl (by first | exact .head | exact .tail .head | exact .tail (.tail .head) | exact .tail (.tail (.tail .head)) | exact .tail (.tail (.tail (.tail .head)))) (by first | rfl | exact rowB (by omega) | exact cellB (by omega) | exact getM _ _ _ (by omega) | exact getO (by omega) | exact getL _ _ (by omega) | (simp; done)) (by first | rfl | exact rowB (by omega) | exact cellB (by omega) | exact getM _ _ _ (by omega) | exact getO (by omega) | exact getL _ _ (by omega) | (simp; done)) ?_)
    | refine wpL_op rfl rfl rfl (OpA.iload rfl ti3 rfl (by first | rfl | exact rowB (by omega) | exact cellB (by omega) | exact getM _ _ _ (by omega) | exact getO (by omega) | exact getL _ _ (by omega) | (simp; done)) ?_)
  refine wpL_op rfl rfl rfl (OpA.asn rfl (by with_reducible conv => lhs; whnf) ?_)
  refine wpL_nil ?_
  refine wpA_seq ?_
  refine wpA_region ?_
  refine wpL_op rfl rfl rfl (OpA.mv rfl (by with_reducible conv => lhs; whnf) ?_)
  refine wpL_op rfl rfl rfl (OpA.mv rfl (by with_reducible conv => lhs; whnf) ?_)
  first
    | refine wpL_op rfl rfl rfl (OpA.len rfl rfl rfl rfl ts22.desc (.inl ⟨_, _, rfl, (List.length_map _).symm⟩) ?_)
    | refine wpL_op rfl rfl rfl (OpA.len rfl rfl rfl rfl ts22.desc (.inl ⟨_, _, rfl, rfl⟩) ?_)
    | refine wpL_op rfl rfl rfl (OpA.len rfl rfl rfl rfl ts22.desc (.inr (.inl ⟨_, _, _, rfl⟩)) ?_)
    | refine wpL_op rfl rfl rfl (OpA.len rfl rfl rfl rfl ts22.desc (.inr (.inr ⟨rfl, rfl⟩)) ?_)
  refine wpL_op rfl rfl rfl (OpA.lss rfl rfl rfl ?_)
  refine wpL_op rfl rfl rfl (OpA.mv rfl (by with_reducible conv => lhs; whnf) ?_)
  refine wpL_split (s := 55) rfl (fun b3 => ?_) (fun b3 => ?_)
  try simp only [decide_eq_true_eq, decide_eq_false_iff_not, beq_iff_eq, bne_iff_ne, beq_eq_false_iff_ne, bne_eq_false_iff_eq, Bool.not_eq_true', Bool.not_eq_false', Int.not_lt, Int.not_le, gt_iff_lt, ge_iff_le, ne_eq] at b3
  refine wpL_opg rfl rfl rfl rfl rfl rfl (OpA.mv rfl (by with_reducible conv => lhs; whnf) ?_)
  refine wpL_opg rfl rfl rfl rfl rfl rfl (OpA.mv rfl (by with_reducible conv => lhs; whnf) ?_)
  first
    | refine wpL_opg rfl rfl rfl rfl rfl rfl (OpA.len rfl rfl rfl rfl ts22.desc (.inl ⟨_, _, rfl, (List.length_map _).symm⟩) ?_)
    | refine wpL_opg rfl rfl rfl rfl rfl rfl (OpA.len rfl rfl rfl rfl ts22.desc (.inl ⟨_, _, rfl, rfl⟩) ?_)
    | refine wpL_opg rfl rfl rfl rfl rfl rfl (OpA.len rfl rfl rfl rfl ts22.desc (.inr (.inl ⟨_, _, _, rfl⟩)) ?_)
    | refine wpL_opg rfl rfl rfl rfl rfl rfl (OpA.len rfl rfl rfl rfl ts22.desc (.inr (.inr ⟨rfl, rfl⟩)) ?_)
  refine wpL_opg rfl rfl rfl rfl rfl rfl (OpA.lss rfl rfl rfl ?_)
  refine wpL_op rfl rfl rfl (OpA.pck rfl rfl (by with_reducible conv => lhs; whnf) ?_)
  refine wpL_op rfl rfl rfl (OpA.asn rfl (by with_reducible conv => lhs; whnf) ?_)
  refine wpL_nil ?_
  refine wpA_block ?_
  refine wpA_seq ?_
  refine wpA_draw (m := 26) mo (by kernel_rfl) rfl ?_
  refine DetK.op rfl (OpA.mv rfl (by with_reducible conv => lhs; whnf) ⟨rfl, rfl⟩) ?_
  refine DetK.op rfl (OpA.mv rfl (by with_reducible conv => lhs; whnf) ⟨rfl, rfl⟩) ?_
  refine DetK_split (s := 70) rfl (fun b4 => ?_) (fun b4 => ?_)
  try simp only [decide_eq_true_eq, decide_eq_false_iff_not, beq_iff_eq, bne_iff_ne, beq_eq_false_iff_ne, bne_eq_false_iff_eq, Bool.not_eq_true', Bool.not_eq_false', Int.not_lt, Int.not_le, gt_iff_lt, ge_iff_le, ne_eq] at b4
  have hpb := pairF_bd (x := a[i]'(by omega)) (y := b[j]'(by omega)) hcc.1
  refine DetK.opg rfl rfl rfl rfl (OpA.mv rfl (by with_reducible conv => lhs; whnf) ⟨rfl, rfl⟩) ?_
  refine DetK.opg rfl rfl rfl rfl (OpA.mv rfl (by with_reducible conv => lhs; whnf) ⟨rfl, rfl⟩) ?_
  refine DetK.opg rfl rfl rfl rfl (OpA.mv rfl (by with_reducible conv => lhs; whnf) ⟨rfl, rfl⟩) ?_
  refine DetK.opg rfl rfl rfl rfl (OpA.addi rfl rfl rfl (by omega) ⟨rfl, rfl⟩) ?_
  refine DetK.opg rfl rfl rfl rfl (OpA.iixN rfl ts48 rfl rfl rfl (by first | exact nat_lit0 | exact nat_lit1 | exact nat_lit2 | exact nat_add1 _ | exact nat_add _ _ | exact rfl | exact nat_sub1 (by omega) | exact nat_sub (by omega) | exact natp1 (nat_sub (by omega)) | exact nat_of (by omega)) (by first | rfl | exact rowB (by omega) | exact cellB (by omega) | exact getM _ _ _ (by omega) | exact getO (by omega) | exact getL _ _ (by omega) | (simp; done)) ⟨rfl, rfl⟩) ?_
  refine DetK.opg rfl rfl rfl rfl (OpA.iload rfl ti25 rfl (by first | rfl | exact rowB (by omega) | exact cellB (by omega) | exact getM _ _ _ (by omega) | exact getO (by omega) | exact getL _ _ (by omega) | (simp; done)) ⟨rfl, rfl⟩) ?_
  refine DetK.opg rfl rfl rfl rfl (OpA.mv rfl (by with_reducible conv => lhs; whnf) ⟨rfl, rfl⟩) ?_
  refine DetK.opg rfl rfl rfl rfl (OpA.addi rfl rfl rfl (by omega) ⟨rfl, rfl⟩) ?_
  first
    | refine DetK.opg rfl rfl rfl rfl (OpA.iixN rfl ts25 rfl rfl rfl (by first | exact nat_lit0 | exact nat_lit1 | exact nat_lit2 | exact nat_add1 _ | exact nat_add _ _ | exact rfl | exact nat_sub1 (by omega) | exact nat_sub (by omega) | exact natp1 (nat_sub (by omega)) | exact nat_of (by omega)) (by first | rfl | exact rowB (by omega) | exact cellB (by omega) | exact getM _ _ _ (by omega) | exact getO (by omega) | exact getL _ _ (by omega) | (simp; done)) ⟨rfl, rfl⟩) ?_
    | refine DetK.opg rfl rfl rfl rfl (OpA.ixN rfl ts25 rfl rfl (by first | exact nat_lit0 | exact nat_lit1 | exact nat_lit2 | exact nat_add1 _ | exact nat_add _ _ | exact rfl | exact nat_sub1 (by omega) | exact nat_sub (by omega) | exact natp1 (nat_sub (by omega)) | exact nat_of (by omega)) (by omega) ⟨rfl, rfl⟩) ?_
  first
    | refine DetK.opg rfl rfl rfl rfl (OpA.load rfl ti3 rfl (by first | exact .head | exact .tail .head | exact .tail (.tail .head) | exact .tail (.tail (.tail .head)) | exact .tail (.tail (.tail (.tail .head)))) (by first | rfl | exact rowB (by omega) | exact cellB (by omega) | exact getM _ _ _ (by omega) | exact getO (by omega) | exact getL _ _ (by omega) | (simp; done)) (by first | rfl | exact rowB (by omega) | exact cellB (by omega) | exact getM _ _ _ (by omega) | exact getO (by omega) | exact getL _ _ (by omega) | (simp; done)) ⟨rfl, rfl⟩) ?_
    | refine DetK.opg rfl rfl rfl rfl (OpA.iload rfl ti3 rfl (by first | rfl | exact rowB (by omega) | exact cellB (by omega) | exact getM _ _ _ (by omega) | exact getO (by omega) | exact getL _ _ (by omega) | (simp; done)) ⟨rfl, rfl⟩) ?_
  refine DetK.opg rfl rfl rfl rfl (OpA.mv rfl (by with_reducible conv => lhs; whnf) ⟨rfl, rfl⟩) ?_
  refine DetK.opg rfl rfl rfl rfl (OpA.mv rfl (by with_reducible conv => lhs; whnf) ⟨rfl, rfl⟩) ?_
  first
    | refine DetK.opg rfl rfl rfl rfl (OpA.iixN rfl ts22 rfl rfl rfl (by first | exact nat_lit0 | exact nat_lit1 | exact nat_lit2 | exact nat_add1 _ | exact nat_add _ _ | exact rfl | exact nat_sub1 (by omega) | exact nat_sub (by omega) | exact natp1 (nat_sub (by omega)) | exact nat_of (by omega)) (by first | rfl | exact rowB (by omega) | exact cellB (by omega) | exact getM _ _ _ (by omega) | exact getO (by omega) | exact getL _ _ (by omega) | (simp; done)) ⟨rfl, rfl⟩) ?_
    | refine DetK.opg rfl rfl rfl rfl (OpA.ixN rfl ts22 rfl rfl (by first | exact nat_lit0 | exact nat_lit1 | exact nat_lit2 | exact nat_add1 _ | exact nat_add _ _ | exact rfl | exact nat_sub1 (by omega) | exact nat_sub (by omega) | exact natp1 (nat_sub (by omega)) | exact nat_of (by omega)) (by omega) ⟨rfl, rfl⟩) ?_
  first
    | refine DetK.opg rfl rfl rfl rfl (OpA.load_whole rfl ti40 rfl rfl (by first | exact .head | exact .tail .head | exact .tail (.tail .head) | exact .tail (.tail (.tail .head)) | exact .tail (.tail (.tail (.tail .head)))) (by first | rfl | exact rowB (by omega) | exact cellB (by omega) | exact getM _ _ _ (by omega) | exact getO (by omega) | exact getL _ _ (by omega) | (simp; done)) ⟨_, rfl⟩ ⟨rfl, rfl⟩) ?_
    | refine DetK.opg rfl rfl rfl rfl (OpA.iload_whole rfl ti40 rfl ⟨_, rfl, rfl⟩ ⟨rfl, rfl⟩) ?_
    | refine DetK.opg rfl rfl rfl rfl (OpA.load_agg rfl ti40 rfl (by first | exact .head | exact .tail .head | exact .tail (.tail .head) | exact .tail (.tail (.tail .head)) | exact .tail (.tail (.tail (.tail .head)))) (by first | rfl | exact rowB (by omega) | exact cellB (by omega) | exact getM _ _ _ (by omega) | exact getO (by omega) | exact getL _ _ (by omega) | (simp; done)) rfl rfl ⟨rfl, rfl⟩) ?_
    | refine DetK.opg rfl rfl rfl rfl (OpA.iload_agg rfl ti40 rfl rfl rfl ⟨rfl, rfl⟩) ?_
  refine DetK.opg rfl rfl rfl rfl (OpA.mv rfl (by with_reducible conv => lhs; whnf) ⟨rfl, rfl⟩) ?_
  refine DetK.opg rfl rfl rfl rfl (OpA.mv rfl (by with_reducible conv => lhs; whnf) ⟨rfl, rfl⟩) ?_
  first
    | refine DetK.opg rfl rfl rfl rfl (OpA.iixN rfl ts22 rfl rfl rfl (by first | exact nat_lit0 | exact nat_lit1 | exact nat_lit2 | exact nat_add1 _ | exact nat_add _ _ | exact rfl | exact nat_sub1 (by omega) | exact nat_sub (by omega) | exact natp1 (nat_sub (by omega)) | exact nat_of (by omega)) (by first | rfl | exact rowB (by omega) | exact cellB (by omega) | exact getM _ _ _ (by omega) | exact getO (by omega) | exact getL _ _ (by omega) | (simp; done)) ⟨rfl, rfl⟩) ?_
    | refine DetK.opg rfl rfl rfl rfl (OpA.ixN rfl ts22 rfl rfl (by first | exact nat_lit0 | exact nat_lit1 | exact nat_lit2 | exact nat_add1 _ | exact nat_add _ _ | exact rfl | exact nat_sub1 (by omega) | exact nat_sub (by omega) | exact natp1 (nat_sub (by omega)) | exact nat_of (by omega)) (by omega) ⟨rfl, rfl⟩) ?_
  first
    | refine DetK.opg rfl rfl rfl rfl (OpA.load_whole rfl ti40 rfl rfl (by first | exact .head | exact .tail .head | exact .tail (.tail .head) | exact .tail (.tail (.tail .head)) | exact .tail (.tail (.tail (.tail .head)))) (by first | rfl | exact rowB (by omega) | exact cellB (by omega) | exact getM _ _ _ (by omega) | exact getO (by omega) | exact getL _ _ (by omega) | (simp; done)) ⟨_, rfl⟩ ⟨rfl, rfl⟩) ?_
    | refine DetK.opg rfl rfl rfl rfl (OpA.iload_whole rfl ti40 rfl ⟨_, rfl, rfl⟩ ⟨rfl, rfl⟩) ?_
    | refine DetK.opg rfl rfl rfl rfl (OpA.load_agg rfl ti40 rfl (by first | exact .head | exact .tail .head | exact .tail (.tail .head) | exact .tail (.tail (.tail .head)) | exact .tail (.tail (.tail (.tail .head)))) (by first | rfl | exact rowB (by omega) | exact cellB (by omega) | exact getM _ _ _ (by omega) | exact getO (by omega) | exact getL _ _ (by omega) | (simp; done)) rfl rfl ⟨rfl, rfl⟩) ?_
    | refine DetK.opg rfl rfl rfl rfl (OpA.iload_agg rfl ti40 rfl rfl rfl ⟨rfl, rfl⟩) ?_
  first
    | refine DetK.opg rfl rfl rfl rfl (OpA.load_whole rfl ti24 rfl rfl (.tail (.tail (.tail .head))) (by first | rfl | exact rowB (by omega) | exact cellB (by omega) | exact getM _ _ _ (by omega) | exact getO (by omega) | exact getL _ _ (by omega) | (simp; done)) ⟨_, rfl⟩ ⟨rfl, rfl⟩) ?_
    | refine DetK.opg rfl rfl rfl rfl (OpA.load_agg rfl ti24 rfl (.tail (.tail (.tail .head))) (by first | rfl | exact rowB (by omega) | exact cellB (by omega) | exact getM _ _ _ (by omega) | exact getO (by omega) | exact getL _ _ (by omega) | (simp; done)) rfl rfl ⟨rfl, rfl⟩) ?_
  refine DetK.opg rfl rfl rfl rfl (OpA.call rfl rfl rfl en40 (pair_fun _ _ _) (by rintro _ rfl; exact ⟨rfl, rfl⟩)) ?_
  refine DetK.opg rfl rfl rfl rfl (OpA.addi rfl rfl rfl (by omega) ⟨rfl, rfl⟩) ?_
  refine DetK.opg rfl rfl rfl rfl (OpA.eql rfl rfl rfl ⟨rfl, rfl⟩) ?_
  refine DetK.op rfl (OpA.pck rfl rfl (by with_reducible conv => lhs; whnf) ⟨rfl, rfl⟩) ?_
  refine DetK.op rfl (OpA.asn rfl (by with_reducible conv => lhs; whnf) ⟨rfl, rfl⟩) ?_
  refine DetK.nil ?_
  refine wpL_nil ?_
  refine wpA_cond rfl (fun b5 => ?_) (fun b5 => ?_)
  try simp only [decide_eq_true_eq, decide_eq_false_iff_not, beq_iff_eq, bne_iff_ne, beq_eq_false_iff_ne, bne_eq_false_iff_eq, Bool.not_eq_true', Bool.not_eq_false', Int.not_lt, Int.not_le, gt_iff_lt, ge_iff_le, ne_eq] at b5
  refine wpA_seq ?_
  refine wpA_region ?_
  refine wpL_op rfl rfl rfl (OpA.asn rfl (by with_reducible conv => lhs; whnf) ?_)
  refine wpL_nil ?_
  refine wpA_seq ?_
  refine wpA_seq ?_
  refine wpA_draw (m := 11) mo (by kernel_rfl) rfl ?_
  refine DetK.op rfl (OpA.mv rfl (by with_reducible conv => lhs; whnf) ⟨rfl, rfl⟩) ?_
  refine DetK.op rfl (OpA.mv rfl (by with_reducible conv => lhs; whnf) ⟨rfl, rfl⟩) ?_
  first
    | refine DetK.op rfl (OpA.iixN rfl ts22 rfl rfl rfl (by first | exact nat_lit0 | exact nat_lit1 | exact nat_lit2 | exact nat_add1 _ | exact nat_add _ _ | exact rfl | exact nat_sub1 (by omega) | exact nat_sub (by omega) | exact natp1 (nat_sub (by omega)) | exact nat_of (by omega)) (by first | rfl | exact rowB (by omega) | exact cellB (by omega) | exact getM _ _ _ (by omega) | exact getO (by omega) | exact getL _ _ (by omega) | (simp; done)) ⟨rfl, rfl⟩) ?_
    | refine DetK.op rfl (OpA.ixN rfl ts22 rfl rfl (by first | exact nat_lit0 | exact nat_lit1 | exact nat_lit2 | exact nat_add1 _ | exact nat_add _ _ | exact rfl | exact nat_sub1 (by omega) | exact nat_sub (by omega) | exact natp1 (nat_sub (by omega)) | exact nat_of (by omega)) (by omega) ⟨rfl, rfl⟩) ?_
  first
    | refine DetK.op rfl (OpA.fieldAddr rfl tf40_0 rfl ⟨rfl, rfl⟩) ?_
    | refine DetK.op rfl (OpA.ifieldAddr rfl tf40_0 rfl ⟨rfl, rfl⟩) ?_
  first
    | refine DetK.op rfl (OpA.load rfl ti9 rfl (by first | exact .head | exact .tail .head | exact .tail (.tail .head) | exact .tail (.tail (.tail .head)) | exact .tail (.tail (.tail (.tail .head)))) (by first | rfl | exact rowB (by omega) | exact cellB (by omega) | exact getM _ _ _ (by omega) | exact getO (by omega) | exact getL _ _ (by omega) | (simp; done)) (by first | rfl | exact rowB (by omega) | exact cellB (by omega) | exact getM _ _ _ (by omega) | exact getO (by omega) | exact getL _ _ (by omega) | (simp; done)) ⟨rfl, rfl⟩) ?_
    | refine DetK.op rfl (OpA.iload rfl ti9 rfl (by first | rfl | exact rowB (by omega) | exact cellB (by omega) | exact getM _ _ _ (by omega) | exact getO (by omega) | exact getL _ _ (by omega) | (simp; done)) ⟨rfl, rfl⟩) ?_
  refine DetK.op rfl (OpA.mv rfl (by with_reducible conv => lhs; whnf) ⟨rfl, rfl⟩) ?_
  refine DetK.op rfl (OpA.mv rfl (by with_reducible conv => lhs; whnf) ⟨rfl, rfl⟩) ?_
  first
    | refine DetK.op rfl (OpA.iixN rfl ts22 rfl rfl rfl (by first | exact nat_lit0 | exact nat_lit1 | exact nat_lit2 | exact nat_add1 _ | exact nat_add _ _ | exact rfl | exact nat_sub1 (by omega) | exact nat_sub (by omega) | exact natp1 (nat_sub (by omega)) | exact nat_of (by omega)) (by first | rfl | exact rowB (by omega) | exact cellB (by omega) | exact getM _ _ _ (by omega) | exact getO (by omega) | exact getL _ _ (by omega) | (simp; done)) ⟨rfl, rfl⟩) ?_
    | refine DetK.op rfl (OpA.ixN rfl ts22 rfl rfl (by first | exact nat_lit0 | exact nat_lit1 | exact nat_lit2 | exact nat_add1 _ | exact nat_add _ _ | exact rfl | exact nat_sub1 (by omega) | exact nat_sub (by omega) | exact natp1 (nat_sub (by omega)) | exact nat_of (by omega)) (by omega) ⟨rfl, rfl⟩) ?_
  first
    | refine DetK.op rfl (OpA.fieldAddr rfl tf40_0 rfl ⟨rfl, rfl⟩) ?_
    | refine DetK.op rfl (OpA.ifieldAddr rfl tf40_0 rfl ⟨rfl, rfl⟩) ?_
  first
    | refine DetK.op rfl (OpA.load rfl ti9 rfl (by first | exact .head | exact .tail .head | exact .tail (.tail .head) | exact .tail (.tail (.tail .head)) | exact .tail (.tail (.tail (.tail .head)))) (by first | rfl | exact rowB (by omega) | exact cellB (by omega) | exact getM _ _ _ (by omega) | exact getO (by omega) | exact getL _ _ (by omega) | (simp; done)) (by first | rfl | exact rowB (by omega) | exact cellB (by omega) | exact getM _ _ _ (by omega) | exact getO (by omega) | exact getL _ _ (by omega) | (simp; done)) ⟨rfl, rfl⟩) ?_
    | refine DetK.op rfl (OpA.iload rfl ti9 rfl (by first | rfl | exact rowB (by omega) | exact cellB (by omega) | exact getM _ _ _ (by omega) | exact getO (by omega) | exact getL _ _ (by omega) | (simp; done)) ⟨rfl, rfl⟩) ?_
  refine DetK.op rfl (OpA.seql rfl rfl rfl ⟨rfl, rfl⟩) ?_
  refine DetK.nil ?_
  refine wpL_nil ?_
  refine wpA_cond rfl (fun b6 => ?_) (fun b6 => ?_)
  try simp only [decide_eq_true_eq, decide_eq_false_iff_not, beq_iff_eq, bne_iff_ne, beq_eq_false_iff_ne, bne_eq_false_iff_eq, Bool.not_eq_true', Bool.not_eq_false', Int.not_lt, Int.not_le, gt_iff_lt, ge_iff_le, ne_eq] at b6
  refine wpA_region ?_
  refine wpL_op rfl rfl rfl (OpA.asn rfl (by with_reducible conv => lhs; whnf) ?_)
  refine wpL_nil ?_
  refine wpA_seq ?_
  refine wpA_region ?_
  refine wpL_op rfl rfl rfl (OpA.fieldAddr rfl tf27_1 rfl ?_)
  refine wpL_op rfl rfl rfl (OpA.load rfl ti25 rfl (.tail .head) (by first | rfl | exact rowB (by omega) | exact cellB (by omega) | exact getM _ _ _ (by omega) | exact getO (by omega) | exact getL _ _ (by omega) | (simp; done)) (by first | rfl | exact rowB (by omega) | exact cellB (by omega) | exact getM _ _ _ (by omega) | exact getO (by omega) | exact getL _ _ (by omega) | (simp; done)) ?_)
  refine wpL_op rfl rfl rfl (OpA.mv rfl (by with_reducible conv => lhs; whnf) ?_)
  refine wpL_op rfl rfl rfl (OpA.ibuildSliceO rfl ts25 rfl (.cons (.of (sz := 1) rfl) .nil) (by decide) ?_)
  first
    | refine wpL_op rfl rfl rfl (OpA.appendV rfl rfl rfl rfl ts25 rfl (fun _ _ => .head) (by first | exact .list | exact .nil | exact .own .head (by omega)) (by first | omega | (simp; omega)) (by first | omega | (simp; omega)) (by first | omega | (simp; omega)) (fun c109 p109 => ?_))
    | refine wpL_op rfl rfl rfl (OpA.appendV (pre := []) rfl rfl rfl rfl ts25 rfl (fun _ _ => .head) (by first | exact .list | exact .nil | exact .own .head (by omega)) (by first | omega | (simp; omega)) (by first | omega | (simp; omega)) (by first | omega | (simp; omega)) (fun c109 p109 => ?_))
  refine wpL_op rfl rfl rfl (OpA.fieldAddr rfl tf27_1 rfl ?_)
  refine wpL_eff rfl rfl (OpA.store (e' := .agg [.i (edit c a b), .own c109 1 p109.length (n1 + 1)]) rfl ti25 rfl (.of rfl) (by first | rfl | exact rowB (by omega) | exact cellB (by omega) | exact getM _ _ _ (by omega) | exact getO (by omega) | exact getL _ _ (by omega) | (simp; done)) (by first | exact Nat.le_of_ble_eq_true rfl | (simp; done) | omega) rfl (.tail .head) ?_)
  refine wpL_nil ?_
  refine wpA_region ?_
  refine wpL_op rfl rfl rfl (OpA.mv rfl (by with_reducible conv => lhs; whnf) ?_)
  refine wpL_op rfl rfl rfl (OpA.addi rfl rfl rfl (by omega) ?_)
  refine wpL_op rfl rfl rfl (OpA.mv rfl (by with_reducible conv => lhs; whnf) ?_)
  refine wpL_op rfl rfl rfl (OpA.addi rfl rfl rfl (by omega) ?_)
  refine wpL_op rfl rfl rfl (OpA.asn rfl (by with_reducible conv => lhs; whnf) ?_)
  refine wpL_op rfl rfl rfl (OpA.asn rfl (by with_reducible conv => lhs; whnf) ?_)
  refine wpL_nil ?_
  first
    | exact ⟨_, _, by omega, ⟨i + 1, j + 1, _, _, ds ++ [.i 1], xs ++ [1], n1 + 1, rfl, ⟨by omega, by omega, as_snoc hst (by first | exact h4.2 | exact (as4 (a := a) (b := b) (c := c) (i := i) (j := j) (by omega) (by intro hi hj; first | omega | (simp_all; omega) | (have := pair_eq (c := c) ‹a[i].text = b[j].text›; omega) | (have := pair_ne (c := c) ‹¬ a[i].text = b[j].text›; omega)) (by intro hi; first | omega | (simp_all; omega))).2 | exact (as3 (by omega) (by intro hj; first | omega | (simp_all; omega) | (have := pair_eq (c := c) ‹a[i].text = b[j].text›; omega) | (have := pair_ne (c := c) ‹¬ a[i].text = b[j].text›; omega)) (by omega)) | exact (as2 (by omega) (by omega) (by assumption) (by first | omega | (have := pair_ne (c := c) ‹¬ a[i].text = b[j].text›; omega))) | exact (as1 (by omega) (by omega) (by assumption) (by first | omega | (have := pair_eq (c := c) ‹a[i].text = b[j].text›; omega)))), by first | exact ints_snoc hds, by (simp at *; omega), by omega⟩, rfl, rfl⟩, Cov.asg ⟨rfl, rfl, rfl, rfl, rfl, rfl, rfl, rfl, rfl, trivial⟩⟩
    | exact ⟨_, _, by omega, ⟨i + 1, j + 1, _, _, ds ++ [.i 2], xs ++ [2], n1 + 1, rfl, ⟨by omega, by omega, as_snoc hst (by first | exact h4.2 | exact (as4 (a := a) (b := b) (c := c) (i := i) (j := j) (by omega) (by intro hi hj; first | omega | (simp_all; omega) | (have := pair_eq (c := c) ‹a[i].text = b[j].text›; omega) | (have := pair_ne (c := c) ‹¬ a[i].text = b[j].text›; omega)) (by intro hi; first | omega | (simp_all; omega))).2 | exact (as3 (by omega) (by intro hj; first | omega | (simp_all; omega) | (have := pair_eq (c := c) ‹a[i].text = b[j].text›; omega) | (have := pair_ne (c := c) ‹¬ a[i].text = b[j].text›; omega)) (by omega)) | exact (as2 (by omega) (by omega) (by assumption) (by first | omega | (have := pair_ne (c := c) ‹¬ a[i].text = b[j].text›; omega))) | exact (as1 (by omega) (by omega) (by assumption) (by first | omega | (have := pair_eq (c := c) ‹a[i].text = b[j].text›; omega)))), by first | exact ints_snoc hds, by (simp at *; omega), by omega⟩, rfl, rfl⟩, Cov.asg ⟨rfl, rfl, rfl, rfl, rfl, rfl, rfl, rfl, rfl, trivial⟩⟩
    | exact ⟨_, _, by omega, ⟨i + 1, j, _, _, ds ++ [.i 3], xs ++ [3], n1 + 1, rfl, ⟨by omega, by omega, as_snoc hst (by first | exact h4.2 | exact (as4 (a := a) (b := b) (c := c) (i := i) (j := j) (by omega) (by intro hi hj; first | omega | (simp_all; omega) | (have := pair_eq (c := c) ‹a[i].text = b[j].text›; omega) | (have := pair_ne (c := c) ‹¬ a[i].text = b[j].text›; omega)) (by intro hi; first | omega | (simp_all; omega))).2 | exact (as3 (by omega) (by intro hj; first | omega | (simp_all; omega) | (have := pair_eq (c := c) ‹a[i].text = b[j].text›; omega) | (have := pair_ne (c := c) ‹¬ a[i].text = b[j].text›; omega)) (by omega)) | exact (as2 (by omega) (by omega) (by assumption) (by first | omega | (have := pair_ne (c := c) ‹¬ a[i].text = b[j].text›; omega))) | exact (as1 (by omega) (by omega) (by assumption) (by first | omega | (have := pair_eq (c := c) ‹a[i].text = b[j].text›; omega)))), by first | exact ints_snoc hds, by (simp at *; omega), by omega⟩, rfl, rfl⟩, Cov.asg ⟨rfl, rfl, rfl, rfl, rfl, rfl, rfl, rfl, rfl, trivial⟩⟩
    | exact ⟨_, _, by omega, ⟨i, j + 1, _, _, ds ++ [.i 4], xs ++ [4], n1 + 1, rfl, ⟨by omega, by omega, as_snoc hst (by first | exact h4.2 | exact (as4 (a := a) (b := b) (c := c) (i := i) (j := j) (by omega) (by intro hi hj; first | omega | (simp_all; omega) | (have := pair_eq (c := c) ‹a[i].text = b[j].text›; omega) | (have := pair_ne (c := c) ‹¬ a[i].text = b[j].text›; omega)) (by intro hi; first | omega | (simp_all; omega))).2 | exact (as3 (by omega) (by intro hj; first | omega | (simp_all; omega) | (have := pair_eq (c := c) ‹a[i].text = b[j].text›; omega) | (have := pair_ne (c := c) ‹¬ a[i].text = b[j].text›; omega)) (by omega)) | exact (as2 (by omega) (by omega) (by assumption) (by first | omega | (have := pair_ne (c := c) ‹¬ a[i].text = b[j].text›; omega))) | exact (as1 (by omega) (by omega) (by assumption) (by first | omega | (have := pair_eq (c := c) ‹a[i].text = b[j].text›; omega)))), by first | exact ints_snoc hds, by (simp at *; omega), by omega⟩, rfl, rfl⟩, Cov.asg ⟨rfl, rfl, rfl, rfl, rfl, rfl, rfl, rfl, rfl, trivial⟩⟩
  try simp only [decide_eq_true_eq, decide_eq_false_iff_not, beq_iff_eq, bne_iff_ne, beq_eq_false_iff_ne, bne_eq_false_iff_eq, Bool.not_eq_true', Bool.not_eq_false', Int.not_lt, Int.not_le, gt_iff_lt, ge_iff_le, ne_eq] at b6
  refine wpA_skip ?_
  refine wpA_seq ?_
  refine wpA_region ?_
  refine wpL_op rfl rfl rfl (OpA.fieldAddr rfl tf27_1 rfl ?_)
  refine wpL_op rfl rfl rfl (OpA.load rfl ti25 rfl (.tail .head) (by first | rfl | exact rowB (by omega) | exact cellB (by omega) | exact getM _ _ _ (by omega) | exact getO (by omega) | exact getL _ _ (by omega) | (simp; done)) (by first | rfl | exact rowB (by omega) | exact cellB (by omega) | exact getM _ _ _ (by omega) | exact getO (by omega) | exact getL _ _ (by omega) | (simp; done)) ?_)
  refine wpL_op rfl rfl rfl (OpA.mv rfl (by with_reducible conv => lhs; whnf) ?_)
  refine wpL_op rfl rfl rfl (OpA.ibuildSliceO rfl ts25 rfl (.cons (.of (sz := 1) rfl) .nil) (by decide) ?_)
  first
    | refine wpL_op rfl rfl rfl (OpA.appendV rfl rfl rfl rfl ts25 rfl (fun _ _ => .head) (by first | exact .list | exact .nil | exact .own .head (by omega)) (by first | omega | (simp; omega)) (by first | omega | (simp; omega)) (by first | omega | (simp; omega)) (fun c109 p109 => ?_))
    | refine wpL_op rfl rfl rfl (OpA.appendV (pre := []) rfl rfl rfl rfl ts25 rfl (fun _ _ => .head) (by first | exact .list | exact .nil | exact .own .head (by omega)) (by first | omega | (simp; omega)) (by first | omega | (simp; omega)) (by first | omega | (simp; omega)) (fun c109 p109 => ?_))
  refine wpL_op rfl rfl rfl (OpA.fieldAddr rfl tf27_1 rfl ?_)
  refine wpL_eff rfl rfl (OpA.store (e' := .agg [.i (edit c a b), .own c109 1 p109.length (n1 + 1)]) rfl ti25 rfl (.of rfl) (by first | rfl | exact rowB (by omega) | exact cellB (by omega) | exact getM _ _ _ (by omega) | exact getO (by omega) | exact getL _ _ (by omega) | (simp; done)) (by first | exact Nat.le_of_ble_eq_true rfl | (simp; done) | omega) rfl (.tail .head) ?_)
  refine wpL_nil ?_
  refine wpA_region ?_
  refine wpL_op rfl rfl rfl (OpA.mv rfl (by with_reducible conv => lhs; whnf) ?_)
  refine wpL_op rfl rfl rfl (OpA.addi rfl rfl rfl (by omega) ?_)
  refine wpL_op rfl rfl rfl (OpA.mv rfl (by with_reducible conv => lhs; whnf) ?_)
  refine wpL_op rfl rfl rfl (OpA.addi rfl rfl rfl (by omega) ?_)
  refine wpL_op rfl rfl rfl (OpA.asn rfl (by with_reducible conv => lhs; whnf) ?_)
  refine wpL_op rfl rfl rfl (OpA.asn rfl (by with_reducible conv => lhs; whnf) ?_)
  refine wpL_nil ?_
  first
    | exact ⟨_, _, by omega, ⟨i + 1, j + 1, _, _, ds ++ [.i 1], xs ++ [1], n1 + 1, rfl, ⟨by omega, by omega, as_snoc hst (by first | exact h4.2 | exact (as4 (a := a) (b := b) (c := c) (i := i) (j := j) (by omega) (by intro hi hj; first | omega | (simp_all; omega) | (have := pair_eq (c := c) ‹a[i].text = b[j].text›; omega) | (have := pair_ne (c := c) ‹¬ a[i].text = b[j].text›; omega)) (by intro hi; first | omega | (simp_all; omega))).2 | exact (as3 (by omega) (by intro hj; first | omega | (simp_all; omega) | (have := pair_eq (c := c) ‹a[i].text = b[j].text›; omega) | (have := pair_ne (c := c) ‹¬ a[i].text = b[j].text›; omega)) (by omega)) | exact (as2 (by omega) (by omega) (by assumption) (by first | omega | (have := pair_ne (c := c) ‹¬ a[i].text = b[j].text›; omega))) | exact (as1 (by omega) (by omega) (by assumption) (by first | omega | (have := pair_eq (c := c) ‹a[i].text = b[j].text›; omega)))), by first | exact ints_snoc hds, by (simp at *; omega), by omega⟩, rfl, rfl⟩, Cov.asg ⟨rfl, rfl, rfl, rfl, rfl, rfl, rfl, rfl, rfl, trivial⟩⟩
    | exact ⟨_, _, by omega, ⟨i + 1, j + 1, _, _, ds ++ [.i 2], xs ++ [2], n1 + 1, rfl, ⟨by omega, by omega, as_snoc hst (by first | exact h4.2 | exact (as4 (a := a) (b := b) (c := c) (i := i) (j := j) (by omega) (by intro hi hj; first | omega | (simp_all; omega) | (have := pair_eq (c := c) ‹a[i].text = b[j].text›; omega) | (have := pair_ne (c := c) ‹¬ a[i].text = b[j].text›; omega)) (by intro hi; first | omega | (simp_all; omega))).2 | exact (as3 (by omega) (by intro hj; first | omega | (simp_all; omega) | (have := pair_eq (c := c) ‹a[i].text = b[j].text›; omega) | (have := pair_ne (c := c) ‹¬ a[i].text = b[j].text›; omega)) (by omega)) | exact (as2 (by omega) (by omega) (by assumption) (by first | omega | (have := pair_ne (c := c) ‹¬ a[i].text = b[j].text›; omega))) | exact (as1 (by omega) (by omega) (by assumption) (by first | omega | (have := pair_eq (c := c) ‹a[i].text = b[j].text›; omega)))), by first | exact ints_snoc hds, by (simp at *; omega), by omega⟩, rfl, rfl⟩, Cov.asg ⟨rfl, rfl, rfl, rfl, rfl, rfl, rfl, rfl, rfl, trivial⟩⟩
    | exact ⟨_, _, by omega, ⟨i + 1, j, _, _, ds ++ [.i 3], xs ++ [3], n1 + 1, rfl, ⟨by omega, by omega, as_snoc hst (by first | exact h4.2 | exact (as4 (a := a) (b := b) (c := c) (i := i) (j := j) (by omega) (by intro hi hj; first | omega | (simp_all; omega) | (have := pair_eq (c := c) ‹a[i].text = b[j].text›; omega) | (have := pair_ne (c := c) ‹¬ a[i].text = b[j].text›; omega)) (by intro hi; first | omega | (simp_all; omega))).2 | exact (as3 (by omega) (by intro hj; first | omega | (simp_all; omega) | (have := pair_eq (c := c) ‹a[i].text = b[j].text›; omega) | (have := pair_ne (c := c) ‹¬ a[i].text = b[j].text›; omega)) (by omega)) | exact (as2 (by omega) (by omega) (by assumption) (by first | omega | (have := pair_ne (c := c) ‹¬ a[i].text = b[j].text›; omega))) | exact (as1 (by omega) (by omega) (by assumption) (by first | omega | (have := pair_eq (c := c) ‹a[i].text = b[j].text›; omega)))), by first | exact ints_snoc hds, by (simp at *; omega), by omega⟩, rfl, rfl⟩, Cov.asg ⟨rfl, rfl, rfl, rfl, rfl, rfl, rfl, rfl, rfl, trivial⟩⟩
    | exact ⟨_, _, by omega, ⟨i, j + 1, _, _, ds ++ [.i 4], xs ++ [4], n1 + 1, rfl, ⟨by omega, by omega, as_snoc hst (by first | exact h4.2 | exact (as4 (a := a) (b := b) (c := c) (i := i) (j := j) (by omega) (by intro hi hj; first | omega | (simp_all; omega) | (have := pair_eq (c := c) ‹a[i].text = b[j].text›; omega) | (have := pair_ne (c := c) ‹¬ a[i].text = b[j].text›; omega)) (by intro hi; first | omega | (simp_all; omega))).2 | exact (as3 (by omega) (by intro hj; first | omega | (simp_all; omega) | (have := pair_eq (c := c) ‹a[i].text = b[j].text›; omega) | (have := pair_ne (c := c) ‹¬ a[i].text = b[j].text›; omega)) (by omega)) | exact (as2 (by omega) (by omega) (by assumption) (by first | omega | (have := pair_ne (c := c) ‹¬ a[i].text = b[j].text›; omega))) | exact (as1 (by omega) (by omega) (by assumption) (by first | omega | (have := pair_eq (c := c) ‹a[i].text = b[j].text›; omega)))), by first | exact ints_snoc hds, by (simp at *; omega), by omega⟩, rfl, rfl⟩, Cov.asg ⟨rfl, rfl, rfl, rfl, rfl, rfl, rfl, rfl, rfl, trivial⟩⟩
  try simp only [decide_eq_true_eq, decide_eq_false_iff_not, beq_iff_eq, bne_iff_ne, beq_eq_false_iff_ne, bne_eq_false_iff_eq, Bool.not_eq_true', Bool.not_eq_false', Int.not_lt, Int.not_le, gt_iff_lt, ge_iff_le, ne_eq] at b5
  refine wpA_seq ?_
  refine wpA_draw (m := 20) mo (by kernel_rfl) rfl ?_
  refine DetK.op rfl (OpA.mv rfl (by with_reducible conv => lhs; whnf) ⟨rfl, rfl⟩) ?_
  refine DetK.op rfl (OpA.mv rfl (by with_reducible conv => lhs; whnf) ⟨rfl, rfl⟩) ?_
  first
    | refine DetK.op rfl (OpA.len rfl rfl rfl rfl ts22.desc (.inl ⟨_, _, rfl, (List.length_map _).symm⟩) ⟨rfl, rfl⟩) ?_
    | refine DetK.op rfl (OpA.len rfl rfl rfl rfl ts22.desc (.inl ⟨_, _, rfl, rfl⟩) ⟨rfl, rfl⟩) ?_
    | refine DetK.op rfl (OpA.len rfl rfl rfl rfl ts22.desc (.inr (.inl ⟨_, _, _, rfl⟩)) ⟨rfl, rfl⟩) ?_
    | refine DetK.op rfl (OpA.len rfl rfl rfl rfl ts22.desc (.inr (.inr ⟨rfl, rfl⟩)) ⟨rfl, rfl⟩) ?_
  refine DetK.op rfl (OpA.lss rfl rfl rfl ⟨rfl, rfl⟩) ?_
  refine DetK.op rfl (OpA.mv rfl (by with_reducible conv => lhs; whnf) ⟨rfl, rfl⟩) ?_
  refine DetK_split (s := 120) rfl (fun b7 => ?_) (fun b7 => ?_)
  try simp only [decide_eq_true_eq, decide_eq_false_iff_not, beq_iff_eq, bne_iff_ne, beq_eq_false_iff_ne, bne_eq_false_iff_eq, Bool.not_eq_true', Bool.not_eq_false', Int.not_lt, Int.not_le, gt_iff_lt, ge_iff_le, ne_eq] at b7
  refine DetK.opg rfl rfl rfl rfl (OpA.mv rfl (by with_reducible conv => lhs; whnf) ⟨rfl, rfl⟩) ?_
  refine DetK.opg rfl rfl rfl rfl (OpA.mv rfl (by with_reducible conv => lhs; whnf) ⟨rfl, rfl⟩) ?_
  refine DetK.opg rfl rfl rfl rfl (OpA.mv rfl (by with_reducible conv => lhs; whnf) ⟨rfl, rfl⟩) ?_
  refine DetK.opg rfl rfl rfl rfl (OpA.addi rfl rfl rfl (by omega) ⟨rfl, rfl⟩) ?_
  refine DetK.opg rfl rfl rfl rfl (OpA.iixN rfl ts48 rfl rfl rfl (by first | exact nat_lit0 | exact nat_lit1 | exact nat_lit2 | exact nat_add1 _ | exact nat_add _ _ | exact rfl | exact nat_sub1 (by omega) | exact nat_sub (by omega) | exact natp1 (nat_sub (by omega)) | exact nat_of (by omega)) (by first | rfl | exact rowB (by omega) | exact cellB (by omega) | exact getM _ _ _ (by omega) | exact getO (by omega) | exact getL _ _ (by omega) | (simp; done)) ⟨rfl, rfl⟩) ?_
  refine DetK.opg rfl rfl rfl rfl (OpA.iload rfl ti25 rfl (by first | rfl | exact rowB (by omega) | exact cellB (by omega) | exact getM _ _ _ (by omega) | exact getO (by omega) | exact getL _ _ (by omega) | (simp; done)) ⟨rfl, rfl⟩) ?_
  refine DetK.opg rfl rfl rfl rfl (OpA.mv rfl (by with_reducible conv => lhs; whnf) ⟨rfl, rfl⟩) ?_
  first
    | refine DetK.opg rfl rfl rfl rfl (OpA.iixN rfl ts25 rfl rfl rfl (by first | exact nat_lit0 | exact nat_lit1 | exact nat_lit2 | exact nat_add1 _ | exact nat_add _ _ | exact rfl | exact nat_sub1 (by omega) | exact nat_sub (by omega) | exact natp1 (nat_sub (by omega)) | exact nat_of (by omega)) (by first | rfl | exact rowB (by omega) | exact cellB (by omega) | exact getM _ _ _ (by omega) | exact getO (by omega) | exact getL _ _ (by omega) | (simp; done)) ⟨rfl, rfl⟩) ?_
    | refine DetK.opg rfl rfl rfl rfl (OpA.ixN rfl ts25 rfl rfl (by first | exact nat_lit0 | exact nat_lit1 | exact nat_lit2 | exact nat_add1 _ | exact nat_add _ _ | exact rfl | exact nat_sub1 (by omega) | exact nat_sub (by omega) | exact natp1 (nat_sub (by omega)) | exact nat_of (by omega)) (by omega) ⟨rfl, rfl⟩) ?_
  first
    | refine DetK.opg rfl rfl rfl rfl (OpA.load rfl ti3 rfl (by first | exact .head | exact .tail .head | exact .tail (.tail .head) | exact .tail (.tail (.tail .head)) | exact .tail (.tail (.tail (.tail .head)))) (by first | rfl | exact rowB (by omega) | exact cellB (by omega) | exact getM _ _ _ (by omega) | exact getO (by omega) | exact getL _ _ (by omega) | (simp; done)) (by first | rfl | exact rowB (by omega) | exact cellB (by omega) | exact getM _ _ _ (by omega) | exact getO (by omega) | exact getL _ _ (by omega) | (simp; done)) ⟨rfl, rfl⟩) ?_
    | refine DetK.opg rfl rfl rfl rfl (OpA.iload rfl ti3 rfl (by first | rfl | exact rowB (by omega) | exact cellB (by omega) | exact getM _ _ _ (by omega) | exact getO (by omega) | exact getL _ _ (by omega) | (simp; done)) ⟨rfl, rfl⟩) ?_
  refine DetK.opg rfl rfl rfl rfl (OpA.fieldAddr rfl tf24_1 rfl ⟨rfl, rfl⟩) ?_
  refine DetK.opg rfl rfl rfl rfl (OpA.load rfl ti3 rfl (.tail (.tail (.tail .head))) (by first | rfl | exact rowB (by omega) | exact cellB (by omega) | exact getM _ _ _ (by omega) | exact getO (by omega) | exact getL _ _ (by omega) | (simp; done)) (by first | rfl | exact rowB (by omega) | exact cellB (by omega) | exact getM _ _ _ (by omega) | exact getO (by omega) | exact getL _ _ (by omega) | (simp; done)) ⟨rfl, rfl⟩) ?_
  refine DetK.opg rfl rfl rfl rfl (OpA.addi rfl rfl rfl (by omega) ⟨rfl, rfl⟩) ?_
  refine DetK.opg rfl rfl rfl rfl (OpA.eql rfl rfl rfl ⟨rfl, rfl⟩) ?_
  refine DetK.op rfl (OpA.pck rfl rfl (by with_reducible conv => lhs; whnf) ⟨rfl, rfl⟩) ?_
  refine DetK.op rfl (OpA.asn rfl (by with_reducible conv => lhs; whnf) ⟨rfl, rfl⟩) ?_
  refine DetK.nil ?_
  refine wpL_nil ?_
  refine wpA_cond rfl (fun b8 => ?_) (fun b8 => ?_)
  try simp only [decide_eq_true_eq, decide_eq_false_iff_not, beq_iff_eq, bne_iff_ne, beq_eq_false_iff_ne, bne_eq_false_iff_eq, Bool.not_eq_true', Bool.not_eq_false', Int.not_lt, Int.not_le, gt_iff_lt, ge_iff_le, ne_eq] at b8
  refine wpA_seq ?_
  refine wpA_region ?_
  refine wpL_op rfl rfl rfl (OpA.fieldAddr rfl tf27_1 rfl ?_)
  refine wpL_op rfl rfl rfl (OpA.load rfl ti25 rfl (.tail .head) (by first | rfl | exact rowB (by omega) | exact cellB (by omega) | exact getM _ _ _ (by omega) | exact getO (by omega) | exact getL _ _ (by omega) | (simp; done)) (by first | rfl | exact rowB (by omega) | exact cellB (by omega) | exact getM _ _ _ (by omega) | exact getO (by omega) | exact getL _ _ (by omega) | (simp; done)) ?_)
  refine wpL_op rfl rfl rfl (OpA.ibuildSliceO rfl ts25 rfl (.cons (.of (sz := 1) rfl) .nil) (by decide) ?_)
  first
    | refine wpL_op rfl rfl rfl (OpA.appendV rfl rfl rfl rfl ts25 rfl (fun _ _ => .head) (by first | exact .list | exact .nil | exact .own .head (by omega)) (by first | omega | (simp; omega)) (by first | omega | (simp; omega)) (by first | omega | (simp; omega)) (fun c138 p138 => ?_))
    | refine wpL_op rfl rfl rfl (OpA.appendV (pre := []) rfl rfl rfl rfl ts25 rfl (fun _ _ => .head) (by first | exact .list | exact .nil | exact .own .head (by omega)) (by first | omega | (simp; omega)) (by first | omega | (simp; omega)) (by first | omega | (simp; omega)) (fun c138 p138 => ?_))
  refine wpL_op rfl rfl rfl (OpA.fieldAddr rfl tf27_1 rfl ?_)
  refine wpL_eff rfl rfl (OpA.store (e' := .agg [.i (edit c a b), .own c138 1 p138.length (n1 + 1)]) rfl ti25 rfl (.of rfl) (by first | rfl | exact rowB (by omega) | exact cellB (by omega) | exact getM _ _ _ (by omega) | exact getO (by omega) | exact getL _ _ (by omega) | (simp; done)) (by first | exact Nat.le_of_ble_eq_true rfl | (simp; done) | omega) rfl (.tail .head) ?_)
  refine wpL_nil ?_
  refine wpA_region ?_
  refine wpL_op rfl rfl rfl (OpA.mv rfl (by with_reducible conv => lhs; whnf) ?_)
  refine wpL_op rfl rfl rfl (OpA.addi rfl rfl rfl (by omega) ?_)
  refine wpL_op rfl rfl rfl (OpA.asn rfl (by with_reducible conv => lhs; whnf) ?_)
  refine wpL_nil ?_
  first
    | exact ⟨_, _, by omega, ⟨i + 1, j + 1, _, _, ds ++ [.i 1], xs ++ [1], n1 + 1, rfl, ⟨by omega, by omega, as_snoc hst (by first | exact h4.2 | exact (as4 (a := a) (b := b) (c := c) (i := i) (j := j) (by omega) (by intro hi hj; first | omega | (simp_all; omega) | (have := pair_eq (c := c) ‹a[i].text = b[j].text›; omega) | (have := pair_ne (c := c) ‹¬ a[i].text = b[j].text›; omega)) (by intro hi; first | omega | (simp_all; omega))).2 | exact (as3 (by omega) (by intro hj; first | omega | (simp_all; omega) | (have := pair_eq (c := c) ‹a[i].text = b[j].text›; omega) | (have := pair_ne (c := c) ‹¬ a[i].text = b[j].text›; omega)) (by omega)) | exact (as2 (by omega) (by omega) (by assumption) (by first | omega | (have := pair_ne (c := c) ‹¬ a[i].text = b[j].text›; omega))) | exact (as1 (by omega) (by omega) (by assumption) (by first | omega | (have := pair_eq (c := c) ‹a[i].text = b[j].text›; omega)))), by first | exact ints_snoc hds, by (simp at *; omega), by omega⟩, rfl, rfl⟩, Cov.asg ⟨rfl, rfl, rfl, rfl, rfl, rfl, rfl, rfl, rfl, trivial⟩⟩
    | exact ⟨_, _, by omega, ⟨i + 1, j + 1, _, _, ds ++ [.i 2], xs ++ [2], n1 + 1, rfl, ⟨by omega, by omega, as_snoc hst (by first | exact h4.2 | exact (as4 (a := a) (b := b) (c := c) (i := i) (j := j) (by omega) (by intro hi hj; first | omega | (simp_all; omega) | (have := pair_eq (c := c) ‹a[i].text = b[j].text›; omega) | (have := pair_ne (c := c) ‹¬ a[i].text = b[j].text›; omega)) (by intro hi; first | omega | (simp_all; omega))).2 | exact (as3 (by omega) (by intro hj; first | omega | (simp_all; omega) | (have := pair_eq (c := c) ‹a[i].text = b[j].text›; omega) | (have := pair_ne (c := c) ‹¬ a[i].text = b[j].text›; omega)) (by omega)) | exact (as2 (by omega) (by omega) (by assumption) (by first | omega | (have := pair_ne (c := c) ‹¬ a[i].text = b[j].text›; omega))) | exact (as1 (by omega) (by omega) (by assumption) (by first | omega | (have := pair_eq (c := c) ‹a[i].text = b[j].text›; omega)))), by first | exact ints_snoc hds, by (simp at *; omega), by omega⟩, rfl, rfl⟩, Cov.asg ⟨rfl, rfl, rfl, rfl, rfl, rfl, rfl, rfl, rfl, trivial⟩⟩
    | exact ⟨_, _, by omega, ⟨i + 1, j, _, _, ds ++ [.i 3], xs ++ [3], n1 + 1, rfl, ⟨by omega, by omega, as_snoc hst (by first | exact h4.2 | exact (as4 (a := a) (b := b) (c := c) (i := i) (j := j) (by omega) (by intro hi hj; first | omega | (simp_all; omega) | (have := pair_eq (c := c) ‹a[i].text = b[j].text›; omega) | (have := pair_ne (c := c) ‹¬ a[i].text = b[j].text›; omega)) (by intro hi; first | omega | (simp_all; omega))).2 | exact (as3 (by omega) (by intro hj; first | omega | (simp_all; omega) | (have := pair_eq (c := c) ‹a[i].text = b[j].text›; omega) | (have := pair_ne (c := c) ‹¬ a[i].text = b[j].text›; omega)) (by omega)) | exact (as2 (by omega) (by omega) (by assumption) (by first | omega | (have := pair_ne (c := c) ‹¬ a[i].text = b[j].text›; omega))) | exact (as1 (by omega) (by omega) (by assumption) (by first | omega | (have := pair_eq (c := c) ‹a[i].text = b[j].text›; omega)))), by first | exact ints_snoc hds, by (simp at *; omega), by omega⟩, rfl, rfl⟩, Cov.asg ⟨rfl, rfl, rfl, rfl, rfl, rfl, rfl, rfl, rfl, trivial⟩⟩
    | exact ⟨_, _, by omega, ⟨i, j + 1, _, _, ds ++ [.i 4], xs ++ [4], n1 + 1, rfl, ⟨by omega, by omega, as_snoc hst (by first | exact h4.2 | exact (as4 (a := a) (b := b) (c := c) (i := i) (j := j) (by omega) (by intro hi hj; first | omega | (simp_all; omega) | (have := pair_eq (c := c) ‹a[i].text = b[j].text›; omega) | (have := pair_ne (c := c) ‹¬ a[i].text = b[j].text›; omega)) (by intro hi; first | omega | (simp_all; omega))).2 | exact (as3 (by omega) (by intro hj; first | omega | (simp_all; omega) | (have := pair_eq (c := c) ‹a[i].text = b[j].text›; omega) | (have := pair_ne (c := c) ‹¬ a[i].text = b[j].text›; omega)) (by omega)) | exact (as2 (by omega) (by omega) (by assumption) (by first | omega | (have := pair_ne (c := c) ‹¬ a[i].text = b[j].text›; omega))) | exact (as1 (by omega) (by omega) (by assumption) (by first | omega | (have := pair_eq (c := c) ‹a[i].text = b[j].text›; omega)))), by first | exact ints_snoc hds, by (simp at *; omega), by omega⟩, rfl, rfl⟩, Cov.asg ⟨rfl, rfl, rfl, rfl, rfl, rfl, rfl, rfl, rfl, trivial⟩⟩
  try simp only [decide_eq_true_eq, decide_eq_false_iff_not, beq_iff_eq, bne_iff_ne, beq_eq_false_iff_ne, bne_eq_false_iff_eq, Bool.not_eq_true', Bool.not_eq_false', Int.not_lt, Int.not_le, gt_iff_lt, ge_iff_le, ne_eq] at b8
  have h4 := as4 (a := a) (b := b) (c := c) (i := i) (j := j) (by omega) (by intro hi hj; first | omega | (simp_all; omega) | (have := pair_eq (c := c) ‹a[i].text = b[j].text›; omega) | (have := pair_ne (c := c) ‹¬ a[i].text = b[j].text›; omega)) (by intro hi; first | omega | (simp_all; omega))
  refine wpA_seq ?_
  refine wpA_region ?_
  refine wpL_op rfl rfl rfl (OpA.fieldAddr rfl tf27_1 rfl ?_)
  refine wpL_op rfl rfl rfl (OpA.load rfl ti25 rfl (.tail .head) (by first | rfl | exact rowB (by omega) | exact cellB (by omega) | exact getM _ _ _ (by omega) | exact getO (by omega) | exact getL _ _ (by omega) | (simp; done)) (by first | rfl | exact rowB (by omega) | exact cellB (by omega) | exact getM _ _ _ (by omega) | exact getO (by omega) | exact getL _ _ (by omega) | (simp; done)) ?_)
  refine wpL_op rfl rfl rfl (OpA.ibuildSliceO rfl ts25 rfl (.cons (.of (sz := 1) rfl) .nil) (by decide) ?_)
  first
    | refine wpL_op rfl rfl rfl (OpA.appendV rfl rfl rfl rfl ts25 rfl (fun _ _ => .head) (by first | exact .list | exact .nil | exact .own .head (by omega)) (by first | omega | (simp; omega)) (by first | omega | (simp; omega)) (by first | omega | (simp; omega)) (fun c64 p64 => ?_))
    | refine wpL_op rfl rfl rfl (OpA.appendV (pre := []) rfl rfl rfl rfl ts25 rfl (fun _ _ => .head) (by first | exact .list | exact .nil | exact .own .head (by omega)) (by first | omega | (simp; omega)) (by first | omega | (simp; omega)) (by first | omega | (simp; omega)) (fun c64 p64 => ?_))
  refine wpL_op rfl rfl rfl (OpA.fieldAddr rfl tf27_1 rfl ?_)
  refine wpL_eff rfl rfl (OpA.store (e' := .agg [.i (edit c a b), .own c64 1 p64.length (n1 + 1)]) rfl ti25 rfl (.of rfl) (by first | rfl | exact rowB (by omega) | exact cellB (by omega) | exact getM _ _ _ (by omega) | exact getO (by omega) | exact getL _ _ (by omega) | (simp; done)) (by first | exact Nat.le_of_ble_eq_true rfl | (simp; done) | omega) rfl (.tail .head) ?_)
  refine wpL_nil ?_
  refine wpA_region ?_
  refine wpL_op rfl rfl rfl (OpA.mv rfl (by with_reducible conv => lhs; whnf) ?_)
  refine wpL_op rfl rfl rfl (OpA.addi rfl rfl rfl (by omega) ?_)
  refine wpL_op rfl rfl rfl (OpA.asn rfl (by with_reducible conv => lhs; whnf) ?_)
  refine wpL_nil ?_
  first
    | exact ⟨_, _, by omega, ⟨i + 1, j + 1, _, _, ds ++ [.i 1], xs ++ [1], n1 + 1, rfl, ⟨by omega, by omega, as_snoc hst (by first | exact h4.2 | exact (as4 (a := a) (b := b) (c := c) (i := i) (j := j) (by omega) (by intro hi hj; first | omega | (simp_all; omega) | (have := pair_eq (c := c) ‹a[i].text = b[j].text›; omega) | (have := pair_ne (c := c) ‹¬ a[i].text = b[j].text›; omega)) (by intro hi; first | omega | (simp_all; omega))).2 | exact (as3 (by omega) (by intro hj; first | omega | (simp_all; omega) | (have := pair_eq (c := c) ‹a[i].text = b[j].text›; omega) | (have := pair_ne (c := c) ‹¬ a[i].text = b[j].text›; omega)) (by omega)) | exact (as2 (by omega) (by omega) (by assumption) (by first | omega | (have := pair_ne (c := c) ‹¬ a[i].text = b[j].text›; omega))) | exact (as1 (by omega) (by omega) (by assumption) (by first | omega | (have := pair_eq (c := c) ‹a[i].text = b[j].text›; omega)))), by first | exact ints_snoc hds, by (simp at *; omega), by omega⟩, rfl, rfl⟩, Cov.asg ⟨rfl, rfl, rfl, rfl, rfl, rfl, rfl, rfl, rfl, trivial⟩⟩
    | exact ⟨_, _, by omega, ⟨i + 1, j + 1, _, _, ds ++ [.i 2], xs ++ [2], n1 + 1, rfl, ⟨by omega, by omega, as_snoc hst (by first | exact h4.2 | exact (as4 (a := a) (b := b) (c := c) (i := i) (j := j) (by omega) (by intro hi hj; first | omega | (simp_all; omega) | (have := pair_eq (c := c) ‹a[i].text = b[j].text›; omega) | (have := pair_ne (c := c) ‹¬ a[i].text = b[j].text›; omega)) (by intro hi; first | omega | (simp_all; omega))).2 | exact (as3 (by omega) (by intro hj; first | omega | (simp_all; omega) | (have := pair_eq (c := c) ‹a[i].text = b[j].text›; omega) | (have := pair_ne (c := c) ‹¬ a[i].text = b[j].text›; omega)) (by omega)) | exact (as2 (by omega) (by omega) (by assumption) (by first | omega | (have := pair_ne (c := c) ‹¬ a[i].text = b[j].text›; omega))) | exact (as1 (by omega) (by omega) (by assumption) (by first | omega | (have := pair_eq (c := c) ‹a[i].text = b[j].text›; omega)))), by first | exact ints_snoc hds, by (simp at *; omega), by omega⟩, rfl, rfl⟩, Cov.asg ⟨rfl, rfl, rfl, rfl, rfl, rfl, rfl, rfl, rfl, trivial⟩⟩
    | exact ⟨_, _, by omega, ⟨i + 1, j, _, _, ds ++ [.i 3], xs ++ [3], n1 + 1, rfl, ⟨by omega, by omega, as_snoc hst (by first | exact h4.2 | exact (as4 (a := a) (b := b) (c := c) (i := i) (j := j) (by omega) (by intro hi hj; first | omega | (simp_all; omega) | (have := pair_eq (c := c) ‹a[i].text = b[j].text›; omega) | (have := pair_ne (c := c) ‹¬ a[i].text = b[j].text›; omega)) (by intro hi; first | omega | (simp_all; omega))).2 | exact (as3 (by omega) (by intro hj; first | omega | (simp_all; omega) | (have := pair_eq (c := c) ‹a[i].text = b[j].text›; omega) | (have := pair_ne (c := c) ‹¬ a[i].text = b[j].text›; omega)) (by omega)) | exact (as2 (by omega) (by omega) (by assumption) (by first | omega | (have := pair_ne (c := c) ‹¬ a[i].text = b[j].text›; omega))) | exact (as1 (by omega) (by omega) (by assumption) (by first | omega | (have := pair_eq (c := c) ‹a[i].text = b[j].text›; omega)))), by first | exact ints_snoc hds, by (simp at *; omega), by omega⟩, rfl, rfl⟩, Cov.asg ⟨rfl, rfl, rfl, rfl, rfl, rfl, rfl, rfl, rfl, trivial⟩⟩
    | exact ⟨_, _, by omega, ⟨i, j + 1, _, _, ds ++ [.i 4], xs ++ [4], n1 + 1, rfl, ⟨by omega, by omega, as_snoc hst (by first | exact h4.2 | exact (as4 (a := a) (b := b) (c := c) (i := i) (j := j) (by omega) (by intro hi hj; first | omega | (simp_all; omega) | (have := pair_eq (c := c) ‹a[i].text = b[j].text›; omega) | (have := pair_ne (c := c) ‹¬ a[i].text = b[j].text›; omega)) (by intro hi; first | omega | (simp_all; omega))).2 | exact (as3 (by omega) (by intro hj; first | omega | (simp_all; omega) | (have := pair_eq (c := c) ‹a[i].text = b[j].text›; omega) | (have := pair_ne (c := c) ‹¬ a[i].text = b[j].text›; omega)) (by omega)) | exact (as2 (by omega) (by omega) (by assumption) (by first | omega | (have := pair_ne (c := c) ‹¬ a[i].text = b[j].text›; omega))) | exact (as1 (by omega) (by omega) (by assumption) (by first | omega | (have := pair_eq (c := c) ‹a[i].text = b[j].text›; omega)))), by first | exact ints_snoc hds, by (simp at *; omega), by omega⟩, rfl, rfl⟩, Cov.asg ⟨rfl, rfl, rfl, rfl, rfl, rfl, rfl, rfl, rfl, trivial⟩⟩
  try simp only [decide_eq_true_eq, decide_eq_false_iff_not, beq_iff_eq, bne_iff_ne, beq_eq_false_iff_ne, bne_eq_false_iff_eq, Bool.not_eq_true', Bool.not_eq_false', Int.not_lt, Int.not_le, gt_iff_lt, ge_iff_le, ne_eq] at b7
  exfalso; first | contradiction | omega
  try simp only [decide_eq_true_eq, decide_eq_false_iff_not, beq_iff_eq, bne_iff_ne, beq_eq_false_iff_ne, bne_eq_false_iff_eq, Bool.not_eq_true', Bool.not_eq_false', Int.not_lt, Int.not_le, gt_iff_lt, ge_iff_le, ne_eq] at b4
  refine DetK.skip rfl rfl rfl rfl ?_
  refine DetK.skip rfl rfl rfl rfl ?_
  refine DetK.skip rfl rfl rfl rfl ?_
  refine DetK.skip rfl rfl rfl rfl ?_
  refine DetK.skip rfl rfl rfl rfl ?_
  refine DetK.skip rfl rfl rfl rfl ?_
  refine DetK.skip rfl rfl rfl rfl ?_
  refine DetK.skip rfl rfl rfl rfl ?_
  refine DetK.skip rfl rfl rfl rfl ?_
  refine DetK.skip rfl rfl rfl rfl ?_
  refine DetK.skip rfl rfl rfl rfl ?_
  refine DetK.skip rfl rfl rfl rfl ?_
  refine DetK.skip rfl rfl rfl rfl ?_
  refine DetK.skip rfl rfl rfl rfl ?_
  refine DetK.skip rfl rfl rfl rfl ?_
  refine DetK.skip rfl rfl rfl rfl ?_
  refine DetK.skip rfl rfl rfl rfl ?_
  refine DetK.skip rfl rfl rfl rfl ?_
  refine DetK.skip rfl rfl rfl rfl ?_
  refine DetK.skip rfl rfl rfl rfl ?_
  refine DetK.skip rfl rfl rfl rfl ?_
  refine DetK.skip rfl rfl rfl rfl ?_
  refine DetK.op rfl (OpA.pck rfl rfl (by with_reducible conv => lhs; whnf) ⟨rfl, rfl⟩) ?_
  refine DetK.op rfl (OpA.asn rfl (by with_reducible conv => lhs; whnf) ⟨rfl, rfl⟩) ?_
  refine DetK.nil ?_
  refine wpL_nil ?_
  refine wpA_condF rfl ?_
  refine wpA_seq ?_
  refine wpA_draw (m := 20) mo (by kernel_rfl) rfl ?_
  refine DetK.op rfl (OpA.mv rfl (by with_reducible conv => lhs; whnf) ⟨rfl, rfl⟩) ?_
  refine DetK.op rfl (OpA.mv rfl (by with_reducible conv => lhs; whnf) ⟨rfl, rfl⟩) ?_
  first
    | refine DetK.op rfl (OpA.len rfl rfl rfl rfl ts22.desc (.inl ⟨_, _, rfl, (List.length_map _).symm⟩) ⟨rfl, rfl⟩) ?_
    | refine DetK.op rfl (OpA.len rfl rfl rfl rfl ts22.desc (.inl ⟨_, _, rfl, rfl⟩) ⟨rfl, rfl⟩) ?_
    | refine DetK.op rfl (OpA.len rfl rfl rfl rfl ts22.desc (.inr (.inl ⟨_, _, _, rfl⟩)) ⟨rfl, rfl⟩) ?_
    | refine DetK.op rfl (OpA.len rfl rfl rfl rfl ts22.desc (.inr (.inr ⟨rfl, rfl⟩)) ⟨rfl, rfl⟩) ?_
  refine DetK.op rfl (OpA.lss rfl rfl rfl ⟨rfl, rfl⟩) ?_
  refine DetK.op rfl (OpA.mv rfl (by with_reducible conv => lhs; whnf) ⟨rfl, rfl⟩) ?_
  refine DetK_split (s := 120) rfl (fun b9 => ?_) (fun b9 => ?_)
  try simp only [decide_eq_true_eq, decide_eq_false_iff_not, beq_iff_eq, bne_iff_ne, beq_eq_false_iff_ne, bne_eq_false_iff_eq, Bool.not_eq_true', Bool.not_eq_false', Int.not_lt, Int.not_le, gt_iff_lt, ge_iff_le, ne_eq] at b9
  refine DetK.opg rfl rfl rfl rfl (OpA.mv rfl (by with_reducible conv => lhs; whnf) ⟨rfl, rfl⟩) ?_
  refine DetK.opg rfl rfl rfl rfl (OpA.mv rfl (by with_reducible conv => lhs; whnf) ⟨rfl, rfl⟩) ?_
  refine DetK.opg rfl rfl rfl rfl (OpA.mv rfl (by with_reducible conv => lhs; whnf) ⟨rfl, rfl⟩) ?_
  refine DetK.opg rfl rfl rfl rfl (OpA.addi rfl rfl rfl (by omega) ⟨rfl, rfl⟩) ?_
  refine DetK.opg rfl rfl rfl rfl (OpA.iixN rfl ts48 rfl rfl rfl (by first | exact nat_lit0 | exact nat_lit1 | exact nat_lit2 | exact nat_add1 _ | exact nat_add _ _ | exact rfl | exact nat_sub1 (by omega) | exact nat_sub (by omega) | exact natp1 (nat_sub (by omega)) | exact nat_of (by omega)) (by first | rfl | exact rowB (by omega) | exact cellB (by omega) | exact getM _ _ _ (by omega) | exact getO (by omega) | exact getL _ _ (by omega) | (simp; done)) ⟨rfl, rfl⟩) ?_
  refine DetK.opg rfl rfl rfl rfl (OpA.iload rfl ti25 rfl (by first | rfl | exact rowB (by omega) | exact cellB (by omega) | exact getM _ _ _ (by omega) | exact getO (by omega) | exact getL _ _ (by omega) | (simp; done)) ⟨rfl, rfl⟩) ?_
  refine DetK.opg rfl rfl rfl rfl (OpA.mv rfl (by with_reducible conv => lhs; whnf) ⟨rfl, rfl⟩) ?_
  first
    | refine DetK.opg rfl rfl rfl rfl (OpA.iixN rfl ts25 rfl rfl rfl (by first | exact nat_lit0 | exact nat_lit1 | exact nat_lit2 | exact nat_add1 _ | exact nat_add _ _ | exact rfl | exact nat_sub1 (by omega) | exact nat_sub (by omega) | exact natp1 (nat_sub (by omega)) | exact nat_of (by omega)) (by first | rfl | exact rowB (by omega) | exact cellB (by omega) | exact getM _ _ _ (by omega) | exact getO (by omega) | exact getL _ _ (by omega) | (simp; done)) ⟨rfl, rfl⟩) ?_
    | refine DetK.opg rfl rfl rfl rfl (OpA.ixN rfl ts25 rfl rfl (by first | exact nat_lit0 | exact nat_lit1 | exact nat_lit2 | exact nat_add1 _ | exact nat_add _ _ | exact rfl | exact nat_sub1 (by omega) | exact nat_sub (by omega) | exact natp1 (nat_sub (by omega)) | exact nat_of (by omega)) (by omega) ⟨rfl, rfl⟩) ?_
  first
    | refine DetK.opg rfl rfl rfl rfl (OpA.load rfl ti3 rfl (by first | exact .head | exact .tail .head | exact .tail (.tail .head) | exact .tail (.tail (.tail .head)) | exact .tail (.tail (.tail (.tail .head)))) (by first | rfl | exact rowB (by omega) | exact cellB (by omega) | exact getM _ _ _ (by omega) | exact getO (by omega) | exact getL _ _ (by omega) | (simp; done)) (by first | rfl | exact rowB (by omega) | exact cellB (by omega) | exact getM _ _ _ (by omega) | exact getO (by omega) | exact getL _ _ (by omega) | (simp; done)) ⟨rfl, rfl⟩) ?_
    | refine DetK.opg rfl rfl rfl rfl (OpA.iload rfl ti3 rfl (by first | rfl | exact rowB (by omega) | exact cellB (by omega) | exact getM _ _ _ (by omega) | exact getO (by omega) | exact getL _ _ (by omega) | (simp; done)) ⟨rfl, rfl⟩) ?_
  refine DetK.opg rfl rfl rfl rfl (OpA.fieldAddr rfl tf24_1 rfl ⟨rfl, rfl⟩) ?_
  refine DetK.opg rfl rfl rfl rfl (OpA.load rfl ti3 rfl (.tail (.tail (.tail .head))) (by first | rfl | exact rowB (by omega) | exact cellB (by omega) | exact getM _ _ _ (by omega) | exact getO (by omega) | exact getL _ _ (by omega) | (simp; done)) (by first | rfl | exact rowB (by omega) | exact cellB (by omega) | exact getM _ _ _ (by omega) | exact getO (by omega) | exact getL _ _ (by omega) | (simp; done)) ⟨rfl, rfl⟩) ?_
  refine DetK.opg rfl rfl rfl rfl (OpA.addi rfl rfl rfl (by omega) ⟨rfl, rfl⟩) ?_
  refine DetK.opg rfl rfl rfl rfl (OpA.eql rfl rfl rfl ⟨rfl, rfl⟩) ?_
  refine DetK.op rfl (OpA.pck rfl rfl (by with_reducible conv => lhs; whnf) ⟨rfl, rfl⟩) ?_
  refine DetK.op rfl (OpA.asn rfl (by with_reducible conv => lhs; whnf) ⟨rfl, rfl⟩) ?_
  refine DetK.nil ?_
  refine wpL_nil ?_
  refine wpA_cond rfl (fun b10 => ?_) (fun b10 => ?_)
  try simp only [decide_eq_true_eq, decide_eq_false_iff_not, beq_iff_eq, bne_iff_ne, beq_eq_false_iff_ne, bne_eq_false_iff_eq, Bool.not_eq_true', Bool.not_eq_false', Int.not_lt, Int.not_le, gt_iff_lt, ge_iff_le, ne_eq] at b10
  refine wpA_seq ?_
  refine wpA_region ?_
  refine wpL_op rfl rfl rfl (OpA.fieldAddr rfl tf27_1 rfl ?_)
  refine wpL_op rfl rfl rfl (OpA.load rfl ti25 rfl (.tail .head) (by first | rfl | exact rowB (by omega) | exact cellB (by omega) | exact getM _ _ _ (by omega) | exact getO (by omega) | exact getL _ _ (by omega) | (simp; done)) (by first | rfl | exact rowB (by omega) | exact cellB (by omega) | exact getM _ _ _ (by omega) | exact getO (by omega) | exact getL _ _ (by omega) | (simp; done)) ?_)
  refine wpL_op rfl rfl rfl (OpA.ibuildSliceO rfl ts25 rfl (.cons (.of (sz := 1) rfl) .nil) (by decide) ?_)
  first
    | refine wpL_op rfl rfl rfl (OpA.appendV rfl rfl rfl rfl ts25 rfl (fun _ _ => .head) (by first | exact .list | exact .nil | exact .own .head (by omega)) (by first | omega | (simp; omega)) (by first | omega | (simp; omega)) (by first | omega | (simp; omega)) (fun c138 p138 => ?_))
    | refine wpL_op rfl rfl rfl (OpA.appendV (pre := []) rfl rfl rfl rfl ts25 rfl (fun _ _ => .head) (by first | exact .list | exact .nil | exact .own .head (by omega)) (by first | omega | (simp; omega)) (by first | omega | (simp; omega)) (by first | omega | (simp; omega)) (fun c138 p138 => ?_))
  refine wpL_op rfl rfl rfl (OpA.fieldAddr rfl tf27_1 rfl ?_)
  refine wpL_eff rfl rfl (OpA.store (e' := .agg [.i (edit c a b), .own c138 1 p138.length (n1 + 1)]) rfl ti25 rfl (.of rfl) (by first | rfl | exact rowB (by omega) | exact cellB (by omega) | exact getM _ _ _ (by omega) | exact getO (by omega) | exact getL _ _ (by omega) | (simp; done)) (by first | exact Nat.le_of_ble_eq_true rfl | (simp; done) | omega) rfl (.tail .head) ?_)
  refine wpL_nil ?_
  refine wpA_region ?_
  refine wpL_op rfl rfl rfl (OpA.mv rfl (by with_reducible conv => lhs; whnf) ?_)
  refine wpL_op rfl rfl rfl (OpA.addi rfl rfl rfl (by omega) ?_)
  refine wpL_op rfl rfl rfl (OpA.asn rfl (by with_reducible conv => lhs; whnf) ?_)
  refine wpL_nil ?_
  first
    | exact ⟨_, _, by omega, ⟨i + 1, j + 1, _, _, ds ++ [.i 1], xs ++ [1], n1 + 1, rfl, ⟨by omega, by omega, as_snoc hst (by first | exact h4.2 | exact (as4 (a := a) (b := b) (c := c) (i := i) (j := j) (by omega) (by intro hi hj; first | omega | (simp_all; omega) | (have := pair_eq (c := c) ‹a[i].text = b[j].text›; omega) | (have := pair_ne (c := c) ‹¬ a[i].text = b[j].text›; omega)) (by intro hi; first | omega | (simp_all; omega))).2 | exact (as3 (by omega) (by intro hj; first | omega | (simp_all; omega) | (have := pair_eq (c := c) ‹a[i].text = b[j].text›; omega) | (have := pair_ne (c := c) ‹¬ a[i].text = b[j].text›; omega)) (by omega)) | exact (as2 (by omega) (by omega) (by assumption) (by first | omega | (have := pair_ne (c := c) ‹¬ a[i].text = b[j].text›; omega))) | exact (as1 (by omega) (by omega) (by assumption) (by first | omega | (have := pair_eq (c := c) ‹a[i].text = b[j].text›; omega)))), by first | exact ints_snoc hds, by (simp at *; omega), by omega⟩, rfl, rfl⟩, Cov.asg ⟨rfl, rfl, rfl, rfl, rfl, rfl, rfl, rfl, rfl, trivial⟩⟩
    | exact ⟨_, _, by omega, ⟨i + 1, j + 1, _, _, ds ++ [.i 2], xs ++ [2], n1 + 1, rfl, ⟨by omega, by omega, as_snoc hst (by first | exact h4.2 | exact (as4 (a := a) (b := b) (c := c) (i := i) (j := j) (by omega) (by intro hi hj; first | omega | (simp_all; omega) | (have := pair_eq (c := c) ‹a[i].text = b[j].text›; omega) | (have := pair_ne (c := c) ‹¬ a[i].text = b[j].text›; omega)) (by intro hi; first | omega | (simp_all; omega))).2 | exact (as3 (by omega) (by intro hj; first | omega | (simp_all; omega) | (have := pair_eq (c := c) ‹a[i].text = b[j].text›; omega) | (have := pair_ne (c := c) ‹¬ a[i].text = b[j].text›; omega)) (by omega)) | exact (as2 (by omega) (by omega) (by assumption) (by first | omega | (have := pair_ne (c := c) ‹¬ a[i].text = b[j].text›; omega))) | exact (as1 (by omega) (by omega) (by assumption) (by first | omega | (have := pair_eq (c := c) ‹a[i].text = b[j].text›; omega)))), by first | exact ints_snoc hds, by (simp at *; omega), by omega⟩, rfl, rfl⟩, Cov.asg ⟨rfl, rfl, rfl, rfl, rfl, rfl, rfl, rfl, rfl, trivial⟩⟩
    | exact ⟨_, _, by omega, ⟨i + 1, j, _, _, ds ++ [.i 3], xs ++ [3], n1 + 1, rfl, ⟨by omega, by omega, as_snoc hst (by first | exact h4.2 | exact (as4 (a := a) (b := b) (c := c) (i := i) (j := j) (by omega) (by intro hi hj; first | omega | (simp_all; omega) | (have := pair_eq (c := c) ‹a[i].text = b[j].text›; omega) | (have := pair_ne (c := c) ‹¬ a[i].text = b[j].text›; omega)) (by intro hi; first | omega | (simp_all; omega))).2 | exact (as3 (by omega) (by intro hj; first | omega | (simp_all; omega) | (have := pair_eq (c := c) ‹a[i].text = b[j].text›; omega) | (have := pair_ne (c := c) ‹¬ a[i].text = b[j].text›; omega)) (by omega)) | exact (as2 (by omega) (by omega) (by assumption) (by first | omega | (have := pair_ne (c := c) ‹¬ a[i].text = b[j].text›; omega))) | exact (as1 (by omega) (by omega) (by assumption) (by first | omega | (have := pair_eq (c := c) ‹a[i].text = b[j].text›; omega)))), by first | exact ints_snoc hds, by (simp at *; omega), by omega⟩, rfl, rfl⟩, Cov.asg ⟨rfl, rfl, rfl, rfl, rfl, rfl, rfl, rfl, rfl, trivial⟩⟩
    | exact ⟨_, _, by omega, ⟨i, j + 1, _, _, ds ++ [.i 4], xs ++ [4], n1 + 1, rfl, ⟨by omega, by omega, as_snoc hst (by first | exact h4.2 | exact (as4 (a := a) (b := b) (c := c) (i := i) (j := j) (by omega) (by intro hi hj; first | omega | (simp_all; omega) | (have := pair_eq (c := c) ‹a[i].text = b[j].text›; omega) | (have := pair_ne (c := c) ‹¬ a[i].text = b[j].text›; omega)) (by intro hi; first | omega | (simp_all; omega))).2 | exact (as3 (by omega) (by intro hj; first | omega | (simp_all; omega) | (have := pair_eq (c := c) ‹a[i].text = b[j].text›; omega) | (have := pair_ne (c := c) ‹¬ a[i].text = b[j].text›; omega)) (by omega)) | exact (as2 (by omega) (by omega) (by assumption) (by first | omega | (have := pair_ne (c := c) ‹¬ a[i].text = b[j].text›; omega))) | exact (as1 (by omega) (by omega) (by assumption) (by first | omega | (have := pair_eq (c := c) ‹a[i].text = b[j].text›; omega)))), by first | exact ints_snoc hds, by (simp at *; omega), by omega⟩, rfl, rfl⟩, Cov.asg ⟨rfl, rfl, rfl, rfl, rfl, rfl, rfl, rfl, rfl, trivial⟩⟩
  try simp only [decide_eq_true_eq, decide_eq_false_iff_not, beq_iff_eq, bne_iff_ne, beq_eq_false_iff_ne, bne_eq_false_iff_eq, Bool.not_eq_true', Bool.not_eq_false', Int.not_lt, Int.not_le, gt_iff_lt, ge_iff_le, ne_eq] at b10
  have h4 := as4 (a := a) (b := b) (c := c) (i := i) (j := j) (by omega) (by intro hi hj; first | omega | (simp_all; omega) | (have := pair_eq (c := c) ‹a[i].text = b[j].text›; omega) | (have := pair_ne (c := c) ‹¬ a[i].text = b[j].text›; omega)) (by intro hi; first | omega | (simp_all; omega))
  refine wpA_seq ?_
  refine wpA_region ?_
  refine wpL_op rfl rfl rfl (OpA.fieldAddr rfl tf27_1 rfl ?_)
  refine wpL_op rfl rfl rfl (OpA.load rfl ti25 rfl (.tail .head) (by first | rfl | exact rowB (by omega) | exact cellB (by omega) | exact getM _ _ _ (by omega) | exact getO (by omega) | exact getL _ _ (by omega) | (simp; done)) (by first | rfl | exact rowB (by omega) | exact cellB (by omega) | exact getM _ _ _ (by omega) | exact getO (by omega) | exact getL _ _ (by omega) | (simp; done)) ?_)
  refine wpL_op rfl rfl rfl (OpA.ibuildSliceO rfl ts25 rfl (.cons (.of (sz := 1) rfl) .nil) (by decide) ?_)
  first
    | refine wpL_op rfl rfl rfl (OpA.appendV rfl rfl rfl rfl ts25 rfl (fun _ _ => .head) (by first | exact .list | exact .nil | exact .own .head (by omega)) (by first | omega | (simp; omega)) (by first | omega | (simp; omega)) (by first | omega | (simp; omega)) (fun c64 p64 => ?_))
    | refine wpL_op rfl rfl rfl (OpA.appendV (pre := []) rfl rfl rfl rfl ts25 rfl (fun _ _ => .head) (by first | exact .list | exact .nil | exact .own .head (by omega)) (by first | omega | (simp; omega)) (by first | omega | (simp; omega)) (by first | omega | (simp; omega)) (fun c64 p64 => ?_))
  refine wpL_op rfl rfl rfl (OpA.fieldAddr rfl tf27_1 rfl ?_)
  refine wpL_eff rfl rfl (OpA.store (e' := .agg [.i (edit c a b), .own c64 1 p64.length (n1 + 1)]) rfl ti25 rfl (.of rfl) (by first | rfl | exact rowB (by omega) | exact cellB (by omega) | exact getM _ _ _ (by omega) | exact getO (by omega) | exact getL _ _ (by omega) | (simp; done)) (by first | exact Nat.le_of_ble_eq_true rfl | (simp; done) | omega) rfl (.tail .head) ?_)
  refine wpL_nil ?_
  refine wpA_region ?_
  refine wpL_op rfl rfl rfl (OpA.mv rfl (by with_reducible conv => lhs; whnf) ?_)
  refine wpL_op rfl rfl rfl (OpA.addi rfl rfl rfl (by omega) ?_)
  refine wpL_op rfl rfl rfl (OpA.asn rfl (by with_reducible conv => lhs; whnf) ?_)
  refine wpL_nil ?_
  first
    | exact ⟨_, _, by omega, ⟨i + 1, j + 1, _, _, ds ++ [.i 1], xs ++ [1], n1 + 1, rfl, ⟨by omega, by omega, as_snoc hst (by first | exact h4.2 | exact (as4 (a := a) (b := b) (c := c) (i := i) (j := j) (by omega) (by intro hi hj; first | omega | (simp_all; omega) | (have := pair_eq (c := c) ‹a[i].text = b[j].text›; omega) | (have := pair_ne (c := c) ‹¬ a[i].text = b[j].text›; omega)) (by intro hi; first | omega | (simp_all; omega))).2 | exact (as3 (by omega) (by intro hj; first | omega | (simp_all; omega) | (have := pair_eq (c := c) ‹a[i].text = b[j].text›; omega) | (have := pair_ne (c := c) ‹¬ a[i].text = b[j].text›; omega)) (by omega)) | exact (as2 (by omega) (by omega) (by assumption) (by first | omega | (have := pair_ne (c := c) ‹¬ a[i].text = b[j].text›; omega))) | exact (as1 (by omega) (by omega) (by assumption) (by first | omega | (have := pair_eq (c := c) ‹a[i].text = b[j].text›; omega)))), by first | exact ints_snoc hds, by (simp at *; omega), by omega⟩, rfl, rfl⟩, Cov.asg ⟨rfl, rfl, rfl, rfl, rfl, rfl, rfl, rfl, rfl, trivial⟩⟩
    | exact ⟨_, _, by omega, ⟨i + 1, j + 1, _, _, ds ++ [.i 2], xs ++ [2], n1 + 1, rfl, ⟨by omega, by omega, as_snoc hst (by first | exact h4.2 | exact (as4 (a := a) (b := b) (c := c) (i := i) (j := j) (by omega) (by intro hi hj; first | omega | (simp_all; omega) | (have := pair_eq (c := c) ‹a[i].text = b[j].text›; omega) | (have := pair_ne (c := c) ‹¬ a[i].text = b[j].text›; omega)) (by intro hi; first | omega | (simp_all; omega))).2 | exact (as3 (by omega) (by intro hj; first | omega | (simp_all; omega) | (have := pair_eq (c := c) ‹a[i].text = b[j].text›; omega) | (have := pair_ne (c := c) ‹¬ a[i].text = b[j].text›; omega)) (by omega)) | exact (as2 (by omega) (by omega) (by assumption) (by first | omega | (have := pair_ne (c := c) ‹¬ a[i].text = b[j].text›; omega))) | exact (as1 (by omega) (by omega) (by assumption) (by first | omega | (have := pair_eq (c := c) ‹a[i].text = b[j].text›; omega)))), by first | exact ints_snoc hds, by (simp at *; omega), by omega⟩, rfl, rfl⟩, Cov.asg ⟨rfl, rfl, rfl, rfl, rfl, rfl, rfl, rfl, rfl, trivial⟩⟩
    | exact ⟨_, _, by omega, ⟨i + 1, j, _, _, ds ++ [.i 3], xs ++ [3], n1 + 1, rfl, ⟨by omega, by omega, as_snoc hst (by first | exact h4.2 | exact (as4 (a := a) (b := b) (c := c) (i := i) (j := j) (by omega) (by intro hi hj; first | omega | (simp_all; omega) | (have := pair_eq (c := c) ‹a[i].text = b[j].text›; omega) | (have := pair_ne (c := c) ‹¬ a[i].text = b[j].text›; omega)) (by intro hi; first | omega | (simp_all; omega))).2 | exact (as3 (by omega) (by intro hj; first | omega | (simp_all; omega) | (have := pair_eq (c := c) ‹a[i].text = b[j].text›; omega) | (have := pair_ne (c := c) ‹¬ a[i].text = b[j].text›; omega)) (by omega)) | exact (as2 (by omega) (by omega) (by assumption) (by first | omega | (have := pair_ne (c := c) ‹¬ a[i].text = b[j].text›; omega))) | exact (as1 (by omega) (by omega) (by assumption) (by first | omega | (have := pair_eq (c := c) ‹a[i].text = b[j].text›; omega)))), by first | exact ints_snoc hds, by (simp at *; omega), by omega⟩, rfl, rfl⟩, Cov.asg ⟨rfl, rfl, rfl, rfl, rfl, rfl, rfl, rfl, rfl, trivial⟩⟩
    | exact ⟨_, _, by omega, ⟨i, j + 1, _, _, ds ++ [.i 4], xs ++ [4], n1 + 1, rfl, ⟨by omega, by omega, as_snoc hst (by first | exact h4.2 | exact (as4 (a := a) (b := b) (c := c) (i := i) (j := j) (by omega) (by intro hi hj; first | omega | (simp_all; omega) | (have := pair_eq (c := c) ‹a[i].text = b[j].text›; omega) | (have := pair_ne (c := c) ‹¬ a[i].text = b[j].text›; omega)) (by intro hi; first | omega | (simp_all; omega))).2 | exact (as3 (by omega) (by intro hj; first | omega | (simp_all; omega) | (have := pair_eq (c := c) ‹a[i].text = b[j].text›; omega) | (have := pair_ne (c := c) ‹¬ a[i].text = b[j].text›; omega)) (by omega)) | exact (as2 (by omega) (by omega) (by assumption) (by first | omega | (have := pair_ne (c := c) ‹¬ a[i].text = b[j].text›; omega))) | exact (as1 (by omega) (by omega) (by assumption) (by first | omega | (have := pair_eq (c := c) ‹a[i].text = b[j].text›; omega)))), by first | exact ints_snoc hds, by (simp at *; omega), by omega⟩, rfl, rfl⟩, Cov.asg ⟨rfl, rfl, rfl, rfl, rfl, rfl, rfl, rfl, rfl, trivial⟩⟩
  try simp only [decide_eq_true_eq, decide_eq_false_iff_not, beq_iff_eq, bne_iff_ne, beq_eq_false_iff_ne, bne_eq_false_iff_eq, Bool.not_eq_true', Bool.not_eq_false', Int.not_lt, Int.not_le, gt_iff_lt, ge_iff_le, ne_eq] at b9
  exfalso; first | contradiction | omega
  try simp only [decide_eq_true_eq, decide_eq_false_iff_not, beq_iff_eq, bne_iff_ne, beq_eq_false_iff_ne, bne_eq_false_iff_eq, Bool.not_eq_true', Bool.not_eq_false', Int.not_lt, Int.not_le, gt_iff_lt, ge_iff_le, ne_eq] at b3
  exfalso; first | contradiction | omega
  try simp only [decide_eq_true_eq, decide_eq_false_iff_not, beq_iff_eq, bne_iff_ne, beq_eq_false_iff_ne, bne_eq_false_iff_eq, Bool.not_eq_true', Bool.not_eq_false', Int.not_lt, Int.not_le, gt_iff_lt, ge_iff_le, ne_eq] at b2
  refine wpL_opg rfl rfl rfl rfl rfl rfl (OpA.mv rfl (by with_reducible conv => lhs; whnf) ?_)
  refine wpL_opg rfl rfl rfl rfl rfl rfl (OpA.mv rfl (by with_reducible conv => lhs; whnf) ?_)
  first
    | refine wpL_opg rfl rfl rfl rfl rfl rfl (OpA.len rfl rfl rfl rfl ts22.desc (.inl ⟨_, _, rfl, (List.length_map _).symm⟩) ?_)
    | refine wpL_opg rfl rfl rfl rfl rfl rfl (OpA.len rfl rfl rfl rfl ts22.desc (.inl ⟨_, _, rfl, rfl⟩) ?_)
    | refine wpL_opg rfl rfl rfl rfl rfl rfl (OpA.len rfl rfl rfl rfl ts22.desc (.inr (.inl ⟨_, _, _, rfl⟩)) ?_)
    | refine wpL_opg rfl rfl rfl rfl rfl rfl (OpA.len rfl rfl rfl rfl ts22.desc (.inr (.inr ⟨rfl, rfl⟩)) ?_)
  refine wpL_opg rfl rfl rfl rfl rfl rfl (OpA.lss rfl rfl rfl ?_)
  refine wpL_op rfl rfl rfl (OpA.pck rfl rfl (by with_reducible conv => lhs; whnf) ?_)
  refine wpL_nil ?_
  refine wpA_cond rfl (fun b11 => ?_) (fun b11 => ?_)
  try simp only [decide_eq_true_eq, decide_eq_false_iff_not, beq_iff_eq, bne_iff_ne, beq_eq_false_iff_ne, bne_eq_false_iff_eq, Bool.not_eq_true', Bool.not_eq_false', Int.not_lt, Int.not_le, gt_iff_lt, ge_iff_le, ne_eq] at b11
  refine wpA_skip ?_
  refine wpA_block ?_
  refine wpA_seq ?_
  refine wpA_region ?_
  refine wpL_op rfl rfl rfl (OpA.mv rfl (by with_reducible conv => lhs; whnf) ?_)
  refine wpL_op rfl rfl rfl (OpA.mv rfl (by with_reducible conv => lhs; whnf) ?_)
  refine wpL_op rfl rfl rfl (OpA.iixN rfl ts48 rfl rfl rfl (by first | exact nat_lit0 | exact nat_lit1 | exact nat_lit2 | exact nat_add1 _ | exact nat_add _ _ | exact rfl | exact nat_sub1 (by omega) | exact nat_sub (by omega) | exact natp1 (nat_sub (by omega)) | exact nat_of (by omega)) (by first | rfl | exact rowB (by omega) | exact cellB (by omega) | exact getM _ _ _ (by omega) | exact getO (by omega) | exact getL _ _ (by omega) | (simp; done)) ?_)
  refine wpL_op rfl rfl rfl (OpA.iload rfl ti25 rfl (by first | rfl | exact rowB (by omega) | exact cellB (by omega) | exact getM _ _ _ (by omega) | exact getO (by omega) | exact getL _ _ (by omega) | (simp; done)) ?_)
  refine wpL_op rfl rfl rfl (OpA.mv rfl (by with_reducible conv => lhs; whnf) ?_)
  first
    | refine wpL_op rfl rfl rfl (OpA.iixN rfl ts25 rfl rfl rfl (by first | exact nat_lit0 | exact nat_lit1 | exact nat_lit2 | exact nat_add1 _ | exact nat_add _ _ | exact rfl | exact nat_sub1 (by omega) | exact nat_sub (by omega) | exact natp1 (nat_sub (by omega)) | exact nat_of (by omega)) (by first | rfl | exact rowB (by omega) | exact cellB (by omega) | exact getM _ _ _ (by omega) | exact getO (by omega) | exact getL _ _ (by omega) | (simp; done)) ?_)
    | refine wpL_op rfl rfl rfl (OpA.ixN rfl ts25 rfl rfl (by first | exact nat_lit0 | exact nat_lit1 | exact nat_lit2 | exact nat_add1 _ | exact nat_add _ _ | exact rfl | exact nat_sub1 (by omega) | exact nat_sub (by omega) | exact natp1 (nat_sub (by omega)) | exact nat_of (by omega)) (by omega) ?_)
  first
    | refine wpL_op rfl rfl rfl (OpA.load rfl ti3 rfl (by first | exact .head | exact .tail .head | exact .tail (.tail .head) | exact .tail (.tail (.tail .head)) | exact .tail (.tail (.tail (.tail .head)))) (by first | rfl | exact rowB (by omega) | exact cellB (by omega) | exact getM _ _ _ (by omega) | exact getO (by omega) | exact getL _ _ (by omega) | (simp; done)) (by first | rfl | exact rowB (by omega) | exact cellB (by omega) | exact getM _ _ _ (by omega) | exact getO (by omega) | exact getL _ _ (by omega) | (simp; done)) ?_)
    | refine wpL_op rfl rfl rfl (OpA.iload rfl ti3 rfl (by first | rfl | exact rowB (by omega) | exact cellB (by omega) | exact getM _ _ _ (by omega) | exact getO (by omega) | exact getL _ _ (by omega) | (simp; done)) ?_)
  refine wpL_op rfl rfl rfl (OpA.asn rfl (by with_reducible conv => lhs; whnf) ?_)
  refine wpL_nil ?_
  refine wpA_seq ?_
  refine wpA_region ?_
  refine wpL_op rfl rfl rfl (OpA.mv rfl (by with_reducible conv => lhs; whnf) ?_)
  refine wpL_op rfl rfl rfl (OpA.mv rfl (by with_reducible conv => lhs; whnf) ?_)
  first
    | refine wpL_op rfl rfl rfl (OpA.len rfl rfl rfl rfl ts22.desc (.inl ⟨_, _, rfl, (List.length_map _).symm⟩) ?_)
    | refine wpL_op rfl rfl rfl (OpA.len rfl rfl rfl rfl ts22.desc (.inl ⟨_, _, rfl, rfl⟩) ?_)
    | refine wpL_op rfl rfl rfl (OpA.len rfl rfl rfl rfl ts22.desc (.inr (.inl ⟨_, _, _, rfl⟩)) ?_)
    | refine wpL_op rfl rfl rfl (OpA.len rfl rfl rfl rfl ts22.desc (.inr (.inr ⟨rfl, rfl⟩)) ?_)
  refine wpL_op rfl rfl rfl (OpA.lss rfl rfl rfl ?_)
  refine wpL_op rfl rfl rfl (OpA.mv rfl (by with_reducible conv => lhs; whnf) ?_)
  refine wpL_split (s := 55) rfl (fun b12 => ?_) (fun b12 => ?_)
  try simp only [decide_eq_true_eq, decide_eq_false_iff_not, beq_iff_eq, bne_iff_ne, beq_eq_false_iff_ne, bne_eq_false_iff_eq, Bool.not_eq_true', Bool.not_eq_false', Int.not_lt, Int.not_le, gt_iff_lt, ge_iff_le, ne_eq] at b12
  exfalso; first | contradiction | omega
  try simp only [decide_eq_true_eq, decide_eq_false_iff_not, beq_iff_eq, bne_iff_ne, beq_eq_false_iff_ne, bne_eq_false_iff_eq, Bool.not_eq_true', Bool.not_eq_false', Int.not_lt, Int.not_le, gt_iff_lt, ge_iff_le, ne_eq] at b12
  refine wpL_skip rfl rfl rfl rfl rfl rfl ?_
  refine wpL_skip rfl rfl rfl rfl rfl rfl ?_
  refine wpL_skip rfl rfl rfl rfl rfl rfl ?_
  refine wpL_skip rfl rfl rfl rfl rfl rfl ?_
  refine wpL_op rfl rfl rfl (OpA.pck rfl rfl (by with_reducible conv => lhs; whnf) ?_)
  refine wpL_op rfl rfl rfl (OpA.asn rfl (by with_reducible conv => lhs; whnf) ?_)
  refine wpL_nil ?_
  refine wpA_block ?_
  refine wpA_seq ?_
  refine wpA_draw (m := 26) mo (by kernel_rfl) rfl ?_
  refine DetK.op rfl (OpA.mv rfl (by with_reducible conv => lhs; whnf) ⟨rfl, rfl⟩) ?_
  refine DetK.op rfl (OpA.mv rfl (by with_reducible conv => lhs; whnf) ⟨rfl, rfl⟩) ?_
  refine DetK.skip rfl rfl rfl rfl ?_
  refine DetK.skip rfl rfl rfl rfl ?_
  refine DetK.skip rfl rfl rfl rfl ?_
  refine DetK.skip rfl rfl rfl rfl ?_
  refine DetK.skip rfl rfl rfl rfl ?_
  refine DetK.skip rfl rfl rfl rfl ?_
  refine DetK.skip rfl rfl rfl rfl ?_
  refine DetK.skip rfl rfl rfl rfl ?_
  refine DetK.skip rfl rfl rfl rfl ?_
  refine DetK.skip rfl rfl rfl rfl ?_
  refine DetK.skip rfl rfl rfl rfl ?_
  refine DetK.skip rfl rfl rfl rfl ?_
  refine DetK.skip rfl rfl rfl rfl ?_
  refine DetK.skip rfl rfl rfl rfl ?_
  refine DetK.skip rfl rfl rfl rfl ?_
  refine DetK.skip rfl rfl rfl rfl ?_
  refine DetK.skip rfl rfl rfl rfl ?_
  refine DetK.skip rfl rfl rfl rfl ?_
  refine DetK.skip rfl rfl rfl rfl ?_
  refine DetK.skip rfl rfl rfl rfl ?_
  refine DetK.skip rfl rfl rfl rfl ?_
  refine DetK.skip rfl rfl rfl rfl ?_
  refine DetK.op rfl (OpA.pck rfl rfl (by with_reducible conv => lhs; whnf) ⟨rfl, rfl⟩) ?_
  refine DetK.op rfl (OpA.asn rfl (by with_reducible conv => lhs; whnf) ⟨rfl, rfl⟩) ?_
  refine DetK.nil ?_
  refine wpL_nil ?_
  refine wpA_condF rfl ?_
  refine wpA_seq ?_
  refine wpA_draw (m := 20) mo (by kernel_rfl) rfl ?_
  refine DetK.op rfl (OpA.mv rfl (by with_reducible conv => lhs; whnf) ⟨rfl, rfl⟩) ?_
  refine DetK.op rfl (OpA.mv rfl (by with_reducible conv => lhs; whnf) ⟨rfl, rfl⟩) ?_
  first
    | refine DetK.op rfl (OpA.len rfl rfl rfl rfl ts22.desc (.inl ⟨_, _, rfl, (List.length_map _).symm⟩) ⟨rfl, rfl⟩) ?_
    | refine DetK.op rfl (OpA.len rfl rfl rfl rfl ts22.desc (.inl ⟨_, _, rfl, rfl⟩) ⟨rfl, rfl⟩) ?_
    | refine DetK.op rfl (OpA.len rfl rfl rfl rfl ts22.desc (.inr (.inl ⟨_, _, _, rfl⟩)) ⟨rfl, rfl⟩) ?_
    | refine DetK.op rfl (OpA.len rfl rfl rfl rfl ts22.desc (.inr (.inr ⟨rfl, rfl⟩)) ⟨rfl, rfl⟩) ?_
  refine DetK.op rfl (OpA.lss rfl rfl rfl ⟨rfl, rfl⟩) ?_
  refine DetK.op rfl (OpA.mv rfl (by with_reducible conv => lhs; whnf) ⟨rfl, rfl⟩) ?_
  refine DetK_split (s := 120) rfl (fun b13 => ?_) (fun b13 => ?_)
  try simp only [decide_eq_true_eq, decide_eq_false_iff_not, beq_iff_eq, bne_iff_ne, beq_eq_false_iff_ne, bne_eq_false_iff_eq, Bool.not_eq_true', Bool.not_eq_false', Int.not_lt, Int.not_le, gt_iff_lt, ge_iff_le, ne_eq] at b13
  exfalso; first | contradiction | omega
  try simp only [decide_eq_true_eq, decide_eq_false_iff_not, beq_iff_eq, bne_iff_ne, beq_eq_false_iff_ne, bne_eq_false_iff_eq, Bool.not_eq_true', Bool.not_eq_false', Int.not_lt, Int.not_le, gt_iff_lt, ge_iff_le, ne_eq] at b13
  refine DetK.skip rfl rfl rfl rfl ?_
  refine DetK.skip rfl rfl rfl rfl ?_
  refine DetK.skip rfl rfl rfl rfl ?_
  refine DetK.skip rfl rfl rfl rfl ?_
  refine DetK.skip rfl rfl rfl rfl ?_
  refine DetK.skip rfl rfl rfl rfl ?_
  refine DetK.skip rfl rfl rfl rfl ?_
  refine DetK.skip rfl rfl rfl rfl ?_
  refine DetK.skip rfl rfl rfl rfl ?_
  refine DetK.skip rfl rfl rfl rfl ?_
  refine DetK.skip rfl rfl rfl rfl ?_
  refine DetK.skip rfl rfl rfl rfl ?_
  refine DetK.skip rfl rfl rfl rfl ?_
  refine DetK.op rfl (OpA.pck rfl rfl (by with_reducible conv => lhs; whnf) ⟨rfl, rfl⟩) ?_
  refine DetK.op rfl (OpA.asn rfl (by with_reducible conv => lhs; whnf) ⟨rfl, rfl⟩) ?_
  refine DetK.nil ?_
  refine wpL_nil ?_
  refine wpA_condF rfl ?_
  refine wpA_seq ?_
  refine wpA_region ?_
  refine wpL_op rfl rfl rfl (OpA.fieldAddr rfl tf27_1 rfl ?_)
  refine wpL_op rfl rfl rfl (OpA.load rfl ti25 rfl (.tail .head) (by first | rfl | exact rowB (by omega) | exact cellB (by omega) | exact getM _ _ _ (by omega) | exact getO (by omega) | exact getL _ _ (by omega) | (simp; done)) (by first | rfl | exact rowB (by omega) | exact cellB (by omega) | exact getM _ _ _ (by omega) | exact getO (by omega) | exact getL _ _ (by omega) | (simp; done)) ?_)
  refine wpL_op rfl rfl rfl (OpA.ibuildSliceO rfl ts25 rfl (.cons (.of (sz := 1) rfl) .nil) (by decide) ?_)
  first
    | refine wpL_op rfl rfl rfl (OpA.appendV rfl rfl rfl rfl ts25 rfl (fun _ _ => .head) (by first | exact .list | exact .nil | exact .own .head (by omega)) (by first | omega | (simp; omega)) (by first | omega | (simp; omega)) (by first | omega | (simp; omega)) (fun c64 p64 => ?_))
    | refine wpL_op rfl rfl rfl (OpA.appendV (pre := []) rfl rfl rfl rfl ts25 rfl (fun _ _ => .head) (by first | exact .list | exact .nil | exact .own .head (by omega)) (by first | omega | (simp; omega)) (by first | omega | (simp; omega)) (by first | omega | (simp; omega)) (fun c64 p64 => ?_))
  refine wpL_op rfl rfl rfl (OpA.fieldAddr rfl tf27_1 rfl ?_)
  refine wpL_eff rfl rfl (OpA.store (e' := .agg [.i (edit c a b), .own c64 1 p64.length (n1 + 1)]) rfl ti25 rfl (.of rfl) (by first | rfl | exact rowB (by omega) | exact cellB (by omega) | exact getM _ _ _ (by omega) | exact getO (by omega) | exact getL _ _ (by omega) | (simp; done)) (by first | exact Nat.le_of_ble_eq_true rfl | (simp; done) | omega) rfl (.tail .head) ?_)
  refine wpL_nil ?_
  refine wpA_region ?_
  refine wpL_op rfl rfl rfl (OpA.mv rfl (by with_reducible conv => lhs; whnf) ?_)
  refine wpL_op rfl rfl rfl (OpA.addi rfl rfl rfl (by omega) ?_)
  refine wpL_op rfl rfl rfl (OpA.asn rfl (by with_reducible conv => lhs; whnf) ?_)
  refine wpL_nil ?_
  first
    | exact ⟨_, _, by omega, ⟨i + 1, j + 1, _, _, ds ++ [.i 1], xs ++ [1], n1 + 1, rfl, ⟨by omega, by omega, as_snoc hst (by first | exact h4.2 | exact (as4 (a := a) (b := b) (c := c) (i := i) (j := j) (by omega) (by intro hi hj; first | omega | (simp_all; omega) | (have := pair_eq (c := c) ‹a[i].text = b[j].text›; omega) | (have := pair_ne (c := c) ‹¬ a[i].text = b[j].text›; omega)) (by intro hi; first | omega | (simp_all; omega))).2 | exact (as3 (by omega) (by intro hj; first | omega | (simp_all; omega) | (have := pair_eq (c := c) ‹a[i].text = b[j].text›; omega) | (have := pair_ne (c := c) ‹¬ a[i].text = b[j].text›; omega)) (by omega)) | exact (as2 (by omega) (by omega) (by assumption) (by first | omega | (have := pair_ne (c := c) ‹¬ a[i].text = b[j].text›; omega))) | exact (as1 (by omega) (by omega) (by assumption) (by first | omega | (have := pair_eq (c := c) ‹a[i].text = b[j].text›; omega)))), by first | exact ints_snoc hds, by (simp at *; omega), by omega⟩, rfl, rfl⟩, Cov.asg ⟨rfl, rfl, rfl, rfl, rfl, rfl, rfl, rfl, rfl, trivial⟩⟩
    | exact ⟨_, _, by omega, ⟨i + 1, j + 1, _, _, ds ++ [.i 2], xs ++ [2], n1 + 1, rfl, ⟨by omega, by omega, as_snoc hst (by first | exact h4.2 | exact (as4 (a := a) (b := b) (c := c) (i := i) (j := j) (by omega) (by intro hi hj; first | omega | (simp_all; omega) | (have := pair_eq (c := c) ‹a[i].text = b[j].text›; omega) | (have := pair_ne (c := c) ‹¬ a[i].text = b[j].text›; omega)) (by intro hi; first | omega | (simp_all; omega))).2 | exact (as3 (by omega) (by intro hj; first | omega | (simp_all; omega) | (have := pair_eq (c := c) ‹a[i].text = b[j].text›; omega) | (have := pair_ne (c := c) ‹¬ a[i].text = b[j].text›; omega)) (by omega)) | exact (as2 (by omega) (by omega) (by assumption) (by first | omega | (have := pair_ne (c := c) ‹¬ a[i].text = b[j].text›; omega))) | exact (as1 (by omega) (by omega) (by assumption) (by first | omega | (have := pair_eq (c := c) ‹a[i].text = b[j].text›; omega)))), by first | exact ints_snoc hds, by (simp at *; omega), by omega⟩, rfl, rfl⟩, Cov.asg ⟨rfl, rfl, rfl, rfl, rfl, rfl, rfl, rfl, rfl, trivial⟩⟩
    | exact ⟨_, _, by omega, ⟨i + 1, j, _, _, ds ++ [.i 3], xs ++ [3], n1 + 1, rfl, ⟨by omega, by omega, as_snoc hst (by first | exact h4.2 | exact (as4 (a := a) (b := b) (c := c) (i := i) (j := j) (by omega) (by intro hi hj; first | omega | (simp_all; omega) | (have := pair_eq (c := c) ‹a[i].text = b[j].text›; omega) | (have := pair_ne (c := c) ‹¬ a[i].text = b[j].text›; omega)) (by intro hi; first | omega | (simp_all; omega))).2 | exact (as3 (by omega) (by intro hj; first | omega | (simp_all; omega) | (have := pair_eq (c := c) ‹a[i].text = b[j].text›; omega) | (have := pair_ne (c := c) ‹¬ a[i].text = b[j].text›; omega)) (by omega)) | exact (as2 (by omega) (by omega) (by assumption) (by first | omega | (have := pair_ne (c := c) ‹¬ a[i].text = b[j].text›; omega))) | exact (as1 (by omega) (by omega) (by assumption) (by first | omega | (have := pair_eq (c := c) ‹a[i].text = b[j].text›; omega)))), by first | exact ints_snoc hds, by (simp at *; omega), by omega⟩, rfl, rfl⟩, Cov.asg ⟨rfl, rfl, rfl, rfl, rfl, rfl, rfl, rfl, rfl, trivial⟩⟩
    | exact ⟨_, _, by omega, ⟨i, j + 1, _, _, ds ++ [.i 4], xs ++ [4], n1 + 1, rfl, ⟨by omega, by omega, as_snoc hst (by first | exact h4.2 | exact (as4 (a := a) (b := b) (c := c) (i := i) (j := j) (by omega) (by intro hi hj; first | omega | (simp_all; omega) | (have := pair_eq (c := c) ‹a[i].text = b[j].text›; omega) | (have := pair_ne (c := c) ‹¬ a[i].text = b[j].text›; omega)) (by intro hi; first | omega | (simp_all; omega))).2 | exact (as3 (by omega) (by intro hj; first | omega | (simp_all; omega) | (have := pair_eq (c := c) ‹a[i].text = b[j].text›; omega) | (have := pair_ne (c := c) ‹¬ a[i].text = b[j].text›; omega)) (by omega)) | exact (as2 (by omega) (by omega) (by assumption) (by first | omega | (have := pair_ne (c := c) ‹¬ a[i].text = b[j].text›; omega))) | exact (as1 (by omega) (by omega) (by assumption) (by first | omega | (have := pair_eq (c := c) ‹a[i].text = b[j].text›; omega)))), by first | exact ints_snoc hds, by (simp at *; omega), by omega⟩, rfl, rfl⟩, Cov.asg ⟨rfl, rfl, rfl, rfl, rfl, rfl, rfl, rfl, rfl, trivial⟩⟩
  try simp only [decide_eq_true_eq, decide_eq_false_iff_not, beq_iff_eq, bne_iff_ne, beq_eq_false_iff_ne, bne_eq_false_iff_eq, Bool.not_eq_true', Bool.not_eq_false', Int.not_lt, Int.not_le, gt_iff_lt, ge_iff_le, ne_eq] at b11
  refine wpA_exit ?_
  refine wpA_seq ?_
  refine wpA_region ?_
  first
    | refine wpL_op rfl rfl rfl (OpA.load_whole rfl ti27 rfl rfl (.tail .head) (by first | rfl | exact rowB (by omega) | exact cellB (by omega) | exact getM _ _ _ (by omega) | exact getO (by omega) | exact getL _ _ (by omega) | (simp; done)) ⟨_, rfl⟩ ?_)
    | refine wpL_op rfl rfl rfl (OpA.load_agg rfl ti27 rfl (.tail .head) (by first | rfl | exact rowB (by omega) | exact cellB (by omega) | exact getM _ _ _ (by omega) | exact getO (by omega) | exact getL _ _ (by omega) | (simp; done)) rfl rfl ?_)
  refine wpL_eff rfl rfl (OpA.storeW rfl ti27 rfl (by with_reducible conv => lhs; whnf) (.of rfl) (by first | rfl | exact rowB (by omega) | exact cellB (by omega) | exact getM _ _ _ (by omega) | exact getO (by omega) | exact getL _ _ (by omega) | (simp; done)) rfl (.tail (.tail .head)) ?_)
  refine wpL_op rfl rfl rfl (OpA.asn rfl (by with_reducible conv => lhs; whnf) ?_)
  refine wpL_nil ?_
  refine wpA_ret ?_
  refine ⟨_, (.cell (.whole ti27 rfl rfl (.tail (.tail .head)) rfl ⟨_, rfl⟩) (.tmp (by with_reducible conv => lhs; whnf) .nil)), _, (.tup (.agg (.same rfl (.vec .head hn (by intro hf; cases hf) .nil)) (.same rfl .nil)) .nil), ?_⟩
  (try simp only [tupD]) <;> (rw [alignR_ok hck, hds]; rw [as_end (by omega) (by omega), List.append_nil] at hst; rw [← hst]; rfl)
end Go.Proofs.Ythggcjnmodeehaa
