/-
  walks
-/
import Derived.Test.YthggcjnmodeehaaW6
import Derived.Test.YthggcjnmodeehaaSpec2
set_option linter.all false
namespace Go.Proofs.Ythggcjnmodeehaa
open Go Go.Lic

theorem backs_fun (a b : List Lexeme) (c : Costs) (hck : checkF a b c = 0) : Fun false Try.prog 39 [encWords a, encWords b, encCosts c] (fun d => d = encTable (backF a b c)) := by
  obtain ⟨hok, ha, hb⟩ := checkF_ok hck
  have hcc := checkF_zero hck
  refine Fun.of_body Try.func39 rfl Try.ntmps39 rfl ?_
  refine wpA_seq ?_
  refine wpA_region ?_
  refine wpL_op rfl rfl rfl (OpA.bx (sz := 3) rfl (by with_reducible conv => lhs; whnf) (.of rfl) (fun c5 _ => ?_))
  refine wpL_op rfl rfl rfl (OpA.asn rfl (by with_reducible conv => lhs; whnf) ?_)
  refine wpL_nil ?_
  refine wpA_seq ?_
  refine wpA_region ?_
  refine wpL_op rfl rfl rfl (OpA.mv rfl (by with_reducible conv => lhs; whnf) ?_)
  first
    | refine wpL_op rfl rfl rfl (OpA.len rfl rfl rfl rfl ts22.desc (.inl ⟨_, _, rfl, (List.length_map _).symm⟩) ?_)
    | refine wpL_op rfl rfl rfl (OpA.len rfl rfl rfl rfl ts22.desc (.inl ⟨_, _, rfl, rfl⟩) ?_)
    | refine wpL_op rfl rfl rfl (OpA.len rfl rfl rfl rfl ts22.desc (.inr (.inl ⟨_, _, _, rfl⟩)) ?_)
    | refine wpL_op rfl rfl rfl (OpA.len rfl rfl rfl rfl ts22.desc (.inr (.inr ⟨rfl, rfl⟩)) ?_)
  refine wpL_op rfl rfl rfl (OpA.mv rfl (by with_reducible conv => lhs; whnf) ?_)
  first
    | refine wpL_op rfl rfl rfl (OpA.len rfl rfl rfl rfl ts22.desc (.inl ⟨_, _, rfl, (List.length_map _).symm⟩) ?_)
    | refine wpL_op rfl rfl rfl (OpA.len rfl rfl rfl rfl ts22.desc (.inl ⟨_, _, rfl, rfl⟩) ?_)
    | refine wpL_op rfl rfl rfl (OpA.len rfl rfl rfl rfl ts22.desc (.inr (.inl ⟨_, _, _, rfl⟩)) ?_)
    | refine wpL_op rfl rfl rfl (OpA.len rfl rfl rfl rfl ts22.desc (.inr (.inr ⟨rfl, rfl⟩)) ?_)
  refine wpL_op rfl rfl rfl (OpA.asn rfl (by with_reducible conv => lhs; whnf) ?_)
  refine wpL_op rfl rfl rfl (OpA.asn rfl (by with_reducible conv => lhs; whnf) ?_)
  refine wpL_nil ?_
  refine wpA_seq ?_
  refine wpA_region ?_
  refine wpL_op rfl rfl rfl (OpA.mv rfl (by with_reducible conv => lhs; whnf) ?_)
  refine wpL_op rfl rfl rfl (OpA.addi rfl rfl rfl (by omega) ?_)
  refine wpL_op rfl rfl rfl (OpA.mv rfl (by with_reducible conv => lhs; whnf) ?_)
  refine wpL_op rfl rfl rfl (OpA.addi rfl rfl rfl (by omega) ?_)
  refine wpL_op rfl rfl rfl (OpA.callH rfl rfl rfl en48 (h1 := []) (h2 := [(c5, .cells 3 [encCosts c])]) (.refl _) (table_h (a.length + 1) (b.length + 1) (by omega) (by omega)) ?_)
  rintro _ _ ⟨tr, tc, rfl, rfl⟩
  refine wpL_op rfl rfl rfl (OpA.asn rfl (by with_reducible conv => lhs; whnf) ?_)
  refine wpL_nil ?_
  refine wpA_seq ?_
  refine wpA_seq ?_
  refine wpA_region ?_
  refine wpL_op rfl rfl rfl (OpA.mv rfl (by with_reducible conv => lhs; whnf) ?_)
  refine wpL_op rfl rfl rfl (OpA.addi rfl rfl rfl (by omega) ?_)
  refine wpL_op rfl rfl rfl (OpA.mv rfl (by with_reducible conv => lhs; whnf) ?_)
  refine wpL_nil ?_
  refine wpA_block ?_
  refine wpA_loopE (fun mm fr h => ∃ (k0 : Nat) (l : List Int), mm = a.length + 1 - k0 ∧ (k0 ≤ a.length + 1 ∧ Tab l a.length b.length (fun i _ => a.length < i + k0) (bkv a b c)) ∧ fr = asg [(0, encWords a), (1, encWords b), (5, .ptr c5 3 0 0), (6, .v (.slice none 0 0)), (7, .i a.length), (8, .i b.length), (9, .own tr 1 0 (a.length + 1)), (24, .i (a.length + 1)), (25, .i k0)] ∧ h = [(tc, .cells 1 (l.map D.i)), (tr, .cells 1 (rowsD tc (a.length + 1) (b.length + 1))), (c5, .cells 3 [encCosts c])]) ⟨_, _, ⟨0, List.replicate ((a.length + 1) * (b.length + 1)) 0, rfl, ⟨by omega, Tab.zero (by intro i j h1 h2; first | omega | (dsimp only; omega))⟩, rfl, rfl⟩, Cov.asg ⟨rfl, rfl, rfl, rfl, rfl, rfl, rfl, rfl, rfl, trivial⟩⟩ ?_
  rintro k fr h ⟨k0, l, rfl, ⟨hk0, hT⟩, rfl, rfl⟩
  refine wpA_seq ?_
  refine wpA_region ?_
  refine wpL_op rfl rfl rfl (OpA.lss rfl rfl rfl ?_)
  refine wpL_nil ?_
  refine wpA_seq ?_
  refine wpA_cond rfl (fun b1 => ?_) (fun b1 => ?_)
  try simp only [decide_eq_true_eq, decide_eq_false_iff_not, beq_iff_eq, bne_iff_ne, beq_eq_false_iff_ne, bne_eq_false_iff_eq, Bool.not_eq_true', Bool.not_eq_false', Int.not_lt, Int.not_le, gt_iff_lt, ge_iff_le, ne_eq] at b1
  refine wpA_skip ?_
  refine wpA_seq ?_
  refine wpA_block ?_
  refine wpA_seq ?_
  refine wpA_region ?_
  refine wpL_op rfl rfl rfl (OpA.mv rfl (by with_reducible conv => lhs; whnf) ?_)
  refine wpL_op rfl rfl rfl (OpA.asn rfl (by with_reducible conv => lhs; whnf) ?_)
  refine wpL_nil ?_
  refine wpA_seq ?_
  refine wpA_region ?_
  refine wpL_op rfl rfl rfl (OpA.mv rfl (by with_reducible conv => lhs; whnf) ?_)
  refine wpL_op rfl rfl rfl (OpA.addi rfl rfl rfl (by omega) ?_)
  refine wpL_op rfl rfl rfl (OpA.mv rfl (by with_reducible conv => lhs; whnf) ?_)
  refine wpL_nil ?_
  refine wpA_block ?_
  refine wpA_loopE (fun mm fr h => ∃ (k1 : Nat) (l2 : List Int), mm = b.length + 1 - k1 ∧ (k1 ≤ b.length + 1 ∧ Tab l2 a.length b.length (fun i j => a.length < i + k0 ∨ (i + k0 = a.length ∧ b.length < j + k1)) (bkv a b c)) ∧ fr = asg [(0, encWords a), (1, encWords b), (5, .ptr c5 3 0 0), (6, .v (.slice none 0 0)), (7, .i a.length), (8, .i b.length), (9, .own tr 1 0 (a.length + 1)), (10, .i k0), (24, .i (a.length + 1)), (25, .i k0), (29, .i (b.length + 1)), (30, .i k1)] ∧ h = [(tc, .cells 1 (l2.map D.i)), (tr, .cells 1 (rowsD tc (a.length + 1) (b.length + 1))), (c5, .cells 3 [encCosts c])]) ⟨_, _, ⟨0, l, rfl, ⟨by omega, hT.less (by intro i j h1 h2 h3; first | omega | (dsimp only at *; omega))⟩, rfl, rfl⟩, Cov.asg ⟨rfl, rfl, rfl, rfl, rfl, rfl, rfl, rfl, rfl, rfl, rfl, rfl, trivial⟩⟩ ?_
  rintro k fr h ⟨k1, l2, rfl, ⟨hk1, hT2⟩, rfl, rfl⟩
  have hx11 := bkv_bd hok ha hb (a.length - k0 + 1) (b.length - k1 + 1)
  have hx10 := bkv_bd hok ha hb (a.length - k0 + 1) (b.length - k1)
  have hx01 := bkv_bd hok ha hb (a.length - k0) (b.length - k1 + 1)
  have g1 : 0 ≤ (k1 : Int) * c.add := Int.mul_nonneg (by omega) (by omega)
  have g2 : (k1 : Int) * c.add ≤ 1025 * 1000 := Int.mul_le_mul (by omega) (by omega) (by omega) (by omega)
  have g3 : 0 ≤ (k0 : Int) * c.drop := Int.mul_nonneg (by omega) (by omega)
  have g4 : (k0 : Int) * c.drop ≤ 1025 * 1000 := Int.mul_le_mul (by omega) (by omega) (by omega) (by omega)
  refine wpA_seq ?_
  refine wpA_region ?_
  refine wpL_op rfl rfl rfl (OpA.lss rfl rfl rfl ?_)
  refine wpL_nil ?_
  refine wpA_seq ?_
  refine wpA_cond rfl (fun b2 => ?_) (fun b2 => ?_)
  try simp only [decide_eq_true_eq, decide_eq_false_iff_not, beq_iff_eq, bne_iff_ne, beq_eq_false_iff_ne, bne_eq_false_iff_eq, Bool.not_eq_true', Bool.not_eq_false', Int.not_lt, Int.not_le, gt_iff_lt, ge_iff_le, ne_eq] at b2
  refine wpA_skip ?_
  refine wpA_seq ?_
  refine wpA_block ?_
  refine wpA_seq ?_
  refine wpA_region ?_
  refine wpL_op rfl rfl rfl (OpA.mv rfl (by with_reducible conv => lhs; whnf) ?_)
  refine wpL_op rfl rfl rfl (OpA.asn rfl (by with_reducible conv => lhs; whnf) ?_)
  refine wpL_nil ?_
  refine wpA_seq ?_
  refine wpA_region ?_
  refine wpL_op rfl rfl rfl (OpA.mv rfl (by with_reducible conv => lhs; whnf) ?_)
  refine wpL_op rfl rfl rfl (OpA.mv rfl (by with_reducible conv => lhs; whnf) ?_)
  refine wpL_op rfl rfl rfl (OpA.subi rfl rfl rfl (by omega) ?_)
  refine wpL_op rfl rfl rfl (OpA.mv rfl (by with_reducible conv => lhs; whnf) ?_)
  refine wpL_op rfl rfl rfl (OpA.mv rfl (by with_reducible conv => lhs; whnf) ?_)
  refine wpL_op rfl rfl rfl (OpA.subi rfl rfl rfl (by omega) ?_)
  refine wpL_op rfl rfl rfl (OpA.asn rfl (by with_reducible conv => lhs; whnf) ?_)
  refine wpL_op rfl rfl rfl (OpA.asn rfl (by with_reducible conv => lhs; whnf) ?_)
  refine wpL_nil ?_
  refine wpA_block ?_
  refine wpA_seq ?_
  refine wpA_region ?_
  refine wpL_op rfl rfl rfl (OpA.mv rfl (by with_reducible conv => lhs; whnf) ?_)
  refine wpL_op rfl rfl rfl (OpA.eql rfl rfl rfl ?_)
  refine wpL_op rfl rfl rfl (OpA.asn rfl (by with_reducible conv => lhs; whnf) ?_)
  refine wpL_nil ?_
  refine wpA_cond rfl (fun b3 => ?_) (fun b3 => ?_)
  try simp only [decide_eq_true_eq, decide_eq_false_iff_not, beq_iff_eq, bne_iff_ne, beq_eq_false_iff_ne, bne_eq_false_iff_eq, Bool.not_eq_true', Bool.not_eq_false', Int.not_lt, Int.not_le, gt_iff_lt, ge_iff_le, ne_eq] at b3
  refine wpA_draw (m := 10) mo (by kernel_rfl) rfl ?_
  refine DetK.op rfl (OpA.mv rfl (by with_reducible conv => lhs; whnf) ⟨rfl, rfl⟩) ?_
  refine DetK.op rfl (OpA.mv rfl (by with_reducible conv => lhs; whnf) ⟨rfl, rfl⟩) ?_
  refine DetK.op rfl (OpA.ixN rfl ts48 rfl rfl (by first | exact nat_lit0 | exact nat_lit1 | exact nat_lit2 | exact nat_add1 _ | exact nat_add _ _ | exact rfl | exact nat_sub1 (by omega) | exact nat_sub (by omega) | exact natp1 (nat_sub (by omega)) | exact nat_of (by omega)) (by omega) ⟨rfl, rfl⟩) ?_
  refine DetK.op rfl (OpA.load rfl ti25 rfl (.tail .head) (rowsD_get (by omega)) rfl ⟨rfl, rfl⟩) ?_
  refine DetK.op rfl (OpA.mv rfl (by with_reducible conv => lhs; whnf) ⟨rfl, rfl⟩) ?_
  refine DetK.op rfl (OpA.mv rfl (by with_reducible conv => lhs; whnf) ⟨rfl, rfl⟩) ?_
  refine DetK.op rfl (OpA.fieldAddr rfl tf24_2 rfl ⟨rfl, rfl⟩) ?_
  refine DetK.op rfl (OpA.load rfl ti3 rfl (.tail (.tail .head)) (by first | rfl | exact getM _ _ _ (by omega) | exact getO (by omega) | exact getL _ _ (by omega) | (simp; done)) (by first | rfl | exact getM _ _ _ (by omega) | exact getO (by omega) | exact getL _ _ (by omega) | (simp; done)) ⟨rfl, rfl⟩) ?_
  refine DetK.op rfl (OpA.muli rfl rfl rfl (by omega) ⟨rfl, rfl⟩) ?_
  refine DetK.op rfl (OpA.ixN rfl ts25 rfl rfl (by first | exact nat_lit0 | exact nat_lit1 | exact nat_lit2 | exact nat_add1 _ | exact nat_add _ _ | exact rfl | exact nat_sub1 (by omega) | exact nat_sub (by omega) | exact natp1 (nat_sub (by omega)) | exact nat_of (by omega)) (by omega) ⟨rfl, rfl⟩) ?_
  refine DetK.nil ?_
  refine wpL_eff rfl rfl (OpA.storeI rfl ti3 rfl rfl (hT2.lt (by omega) (by omega)) .head ?_)
  refine wpL_nil ?_
  refine wpA_region ?_
  refine wpL_op rfl rfl rfl (OpA.addi rfl rfl rfl (by omega) ?_)
  refine wpL_op rfl rfl rfl (OpA.mv rfl (by with_reducible conv => lhs; whnf) ?_)
  refine wpL_nil ?_
  exact ⟨_, _, by omega, ⟨k1 + 1, _, rfl, ⟨by omega, hT2.set (by omega) (by omega) (by first | (rw [bkv_a (by omega), show b.length - (b.length - k1) = k1 by omega]; done) | (rw [bkv_b (by omega), show a.length - (a.length - k0) = k0 by omega]; done) | (rw [bkv_step (i := a.length - k0) (j := b.length - k1) (by omega) (by omega)]; rfl)) (by intro i j h1 h2 h3; first | omega | (dsimp only at *; omega))⟩, rfl, rfl⟩, Cov.asg ⟨rfl, rfl, rfl, rfl, rfl, rfl, rfl, rfl, rfl, rfl, rfl, rfl, trivial⟩⟩
  try simp only [decide_eq_true_eq, decide_eq_false_iff_not, beq_iff_eq, bne_iff_ne, beq_eq_false_iff_ne, bne_eq_false_iff_eq, Bool.not_eq_true', Bool.not_eq_false', Int.not_lt, Int.not_le, gt_iff_lt, ge_iff_le, ne_eq] at b3
  refine wpA_seq ?_
  refine wpA_region ?_
  refine wpL_op rfl rfl rfl (OpA.mv rfl (by with_reducible conv => lhs; whnf) ?_)
  refine wpL_op rfl rfl rfl (OpA.eql rfl rfl rfl ?_)
  refine wpL_op rfl rfl rfl (OpA.asn rfl (by with_reducible conv => lhs; whnf) ?_)
  refine wpL_nil ?_
  refine wpA_cond rfl (fun b4 => ?_) (fun b4 => ?_)
  try simp only [decide_eq_true_eq, decide_eq_false_iff_not, beq_iff_eq, bne_iff_ne, beq_eq_false_iff_ne, bne_eq_false_iff_eq, Bool.not_eq_true', Bool.not_eq_false', Int.not_lt, Int.not_le, gt_iff_lt, ge_iff_le, ne_eq] at b4
  refine wpA_draw (m := 10) mo (by kernel_rfl) rfl ?_
  refine DetK.op rfl (OpA.mv rfl (by with_reducible conv => lhs; whnf) ⟨rfl, rfl⟩) ?_
  refine DetK.op rfl (OpA.mv rfl (by with_reducible conv => lhs; whnf) ⟨rfl, rfl⟩) ?_
  refine DetK.op rfl (OpA.ixN rfl ts48 rfl rfl (by first | exact nat_lit0 | exact nat_lit1 | exact nat_lit2 | exact nat_add1 _ | exact nat_add _ _ | exact rfl | exact nat_sub1 (by omega) | exact nat_sub (by omega) | exact natp1 (nat_sub (by omega)) | exact nat_of (by omega)) (by omega) ⟨rfl, rfl⟩) ?_
  refine DetK.op rfl (OpA.load rfl ti25 rfl (.tail .head) (rowsD_get (by omega)) rfl ⟨rfl, rfl⟩) ?_
  refine DetK.op rfl (OpA.mv rfl (by with_reducible conv => lhs; whnf) ⟨rfl, rfl⟩) ?_
  refine DetK.op rfl (OpA.mv rfl (by with_reducible conv => lhs; whnf) ⟨rfl, rfl⟩) ?_
  refine DetK.op rfl (OpA.fieldAddr rfl tf24_1 rfl ⟨rfl, rfl⟩) ?_
  refine DetK.op rfl (OpA.load rfl ti3 rfl (.tail (.tail .head)) (by first | rfl | exact getM _ _ _ (by omega) | exact getO (by omega) | exact getL _ _ (by omega) | (simp; done)) (by first | rfl | exact getM _ _ _ (by omega) | exact getO (by omega) | exact getL _ _ (by omega) | (simp; done)) ⟨rfl, rfl⟩) ?_
  refine DetK.op rfl (OpA.muli rfl rfl rfl (by omega) ⟨rfl, rfl⟩) ?_
  refine DetK.op rfl (OpA.ixN rfl ts25 rfl rfl (by first | exact nat_lit0 | exact nat_lit1 | exact nat_lit2 | exact nat_add1 _ | exact nat_add _ _ | exact rfl | exact nat_sub1 (by omega) | exact nat_sub (by omega) | exact natp1 (nat_sub (by omega)) | exact nat_of (by omega)) (by omega) ⟨rfl, rfl⟩) ?_
  refine DetK.nil ?_
  refine wpL_eff rfl rfl (OpA.storeI rfl ti3 rfl rfl (hT2.lt (by omega) (by omega)) .head ?_)
  refine wpL_nil ?_
  refine wpA_region ?_
  refine wpL_op rfl rfl rfl (OpA.addi rfl rfl rfl (by omega) ?_)
  refine wpL_op rfl rfl rfl (OpA.mv rfl (by with_reducible conv => lhs; whnf) ?_)
  refine wpL_nil ?_
  exact ⟨_, _, by omega, ⟨k1 + 1, _, rfl, ⟨by omega, hT2.set (by omega) (by omega) (by first | (rw [bkv_a (by omega), show b.length - (b.length - k1) = k1 by omega]; done) | (rw [bkv_b (by omega), show a.length - (a.length - k0) = k0 by omega]; done) | (rw [bkv_step (i := a.length - k0) (j := b.length - k1) (by omega) (by omega)]; rfl)) (by intro i j h1 h2 h3; first | omega | (dsimp only at *; omega))⟩, rfl, rfl⟩, Cov.asg ⟨rfl, rfl, rfl, rfl, rfl, rfl, rfl, rfl, rfl, rfl, rfl, rfl, trivial⟩⟩
  try simp only [decide_eq_true_eq, decide_eq_false_iff_not, beq_iff_eq, bne_iff_ne, beq_eq_false_iff_ne, bne_eq_false_iff_eq, Bool.not_eq_true', Bool.not_eq_false', Int.not_lt, Int.not_le, gt_iff_lt, ge_iff_le, ne_eq] at b4
  have hpb := pairF_bd (x := a[a.length - k0]'(by omega)) (y := b[b.length - k1]'(by omega)) hcc.1
  refine wpA_draw (m := 49) mo (by kernel_rfl) rfl ?_
  refine DetK.op rfl (OpA.mv rfl (by with_reducible conv => lhs; whnf) ⟨rfl, rfl⟩) ?_
  refine DetK.op rfl (OpA.mv rfl (by with_reducible conv => lhs; whnf) ⟨rfl, rfl⟩) ?_
  refine DetK.op rfl (OpA.ixN rfl ts48 rfl rfl (by first | exact nat_lit0 | exact nat_lit1 | exact nat_lit2 | exact nat_add1 _ | exact nat_add _ _ | exact rfl | exact nat_sub1 (by omega) | exact nat_sub (by omega) | exact natp1 (nat_sub (by omega)) | exact nat_of (by omega)) (by omega) ⟨rfl, rfl⟩) ?_
  refine DetK.op rfl (OpA.load rfl ti25 rfl (.tail .head) (rowsD_get (by omega)) rfl ⟨rfl, rfl⟩) ?_
  refine DetK.op rfl (OpA.mv rfl (by with_reducible conv => lhs; whnf) ⟨rfl, rfl⟩) ?_
  refine DetK.op rfl (OpA.mv rfl (by with_reducible conv => lhs; whnf) ⟨rfl, rfl⟩) ?_
  refine DetK.op rfl (OpA.mv rfl (by with_reducible conv => lhs; whnf) ⟨rfl, rfl⟩) ?_
  refine DetK.op rfl (OpA.addi rfl rfl rfl (by omega) ⟨rfl, rfl⟩) ?_
  refine DetK.op rfl (OpA.ixN rfl ts48 rfl rfl (by first | exact nat_lit0 | exact nat_lit1 | exact nat_lit2 | exact nat_add1 _ | exact nat_add _ _ | exact rfl | exact nat_sub1 (by omega) | exact nat_sub (by omega) | exact natp1 (nat_sub (by omega)) | exact nat_of (by omega)) (by omega) ⟨rfl, rfl⟩) ?_
  refine DetK.op rfl (OpA.load rfl ti25 rfl (.tail .head) (rowsD_get (by omega)) rfl ⟨rfl, rfl⟩) ?_
  refine DetK.op rfl (OpA.mv rfl (by with_reducible conv => lhs; whnf) ⟨rfl, rfl⟩) ?_
  refine DetK.op rfl (OpA.addi rfl rfl rfl (by omega) ⟨rfl, rfl⟩) ?_
  refine DetK.op rfl (OpA.ixN rfl ts25 rfl rfl (by first | exact nat_lit0 | exact nat_lit1 | exact nat_lit2 | exact nat_add1 _ | exact nat_add _ _ | exact rfl | exact nat_sub1 (by omega) | exact nat_sub (by omega) | exact natp1 (nat_sub (by omega)) | exact nat_of (by omega)) (by omega) ⟨rfl, rfl⟩) ?_
  refine DetK.op rfl (OpA.load rfl ti3 rfl .head (hT2.get (i := a.length - k0 + 1) (j := b.length - k1 + 1) (by omega) (by omega) (by first | omega | (dsimp only; omega))) rfl ⟨rfl, rfl⟩) ?_
  refine DetK.op rfl (OpA.mv rfl (by with_reducible conv => lhs; whnf) ⟨rfl, rfl⟩) ?_
  refine DetK.op rfl (OpA.mv rfl (by with_reducible conv => lhs; whnf) ⟨rfl, rfl⟩) ?_
  first
    | refine DetK.op rfl (OpA.iixN rfl ts22 rfl rfl rfl (by first | exact nat_lit0 | exact nat_lit1 | exact nat_lit2 | exact nat_add1 _ | exact nat_add _ _ | exact rfl | exact nat_sub1 (by omega) | exact nat_sub (by omega) | exact natp1 (nat_sub (by omega)) | exact nat_of (by omega)) (by first | rfl | exact getM _ _ _ (by omega) | exact getO (by omega) | exact getL _ _ (by omega) | (simp; done)) ⟨rfl, rfl⟩) ?_
    | refine DetK.op rfl (OpA.ixN rfl ts22 rfl rfl (by first | exact nat_lit0 | exact nat_lit1 | exact nat_lit2 | exact nat_add1 _ | exact nat_add _ _ | exact rfl | exact nat_sub1 (by omega) | exact nat_sub (by omega) | exact natp1 (nat_sub (by omega)) | exact nat_of (by omega)) (by omega) ⟨rfl, rfl⟩) ?_
  first
    | refine DetK.op rfl (OpA.load_whole rfl ti40 rfl rfl (by first | exact .head | exact .tail .head | exact .tail (.tail .head) | exact .tail (.tail (.tail .head)) | exact .tail (.tail (.tail (.tail .head)))) (by first | rfl | exact getM _ _ _ (by omega) | exact getO (by omega) | exact getL _ _ (by omega) | (simp; done)) ⟨_, rfl⟩ ⟨rfl, rfl⟩) ?_
    | refine DetK.op rfl (OpA.iload_whole rfl ti40 rfl ⟨_, rfl, rfl⟩ ⟨rfl, rfl⟩) ?_
    | refine DetK.op rfl (OpA.load_agg rfl ti40 rfl (by first | exact .head | exact .tail .head | exact .tail (.tail .head) | exact .tail (.tail (.tail .head)) | exact .tail (.tail (.tail (.tail .head)))) (by first | rfl | exact getM _ _ _ (by omega) | exact getO (by omega) | exact getL _ _ (by omega) | (simp; done)) rfl rfl ⟨rfl, rfl⟩) ?_
    | refine DetK.op rfl (OpA.iload_agg rfl ti40 rfl rfl rfl ⟨rfl, rfl⟩) ?_
  refine DetK.op rfl (OpA.mv rfl (by with_reducible conv => lhs; whnf) ⟨rfl, rfl⟩) ?_
  refine DetK.op rfl (OpA.mv rfl (by with_reducible conv => lhs; whnf) ⟨rfl, rfl⟩) ?_
  first
    | refine DetK.op rfl (OpA.iixN rfl ts22 rfl rfl rfl (by first | exact nat_lit0 | exact nat_lit1 | exact nat_lit2 | exact nat_add1 _ | exact nat_add _ _ | exact rfl | exact nat_sub1 (by omega) | exact nat_sub (by omega) | exact natp1 (nat_sub (by omega)) | exact nat_of (by omega)) (by first | rfl | exact getM _ _ _ (by omega) | exact getO (by omega) | exact getL _ _ (by omega) | (simp; done)) ⟨rfl, rfl⟩) ?_
    | refine DetK.op rfl (OpA.ixN rfl ts22 rfl rfl (by first | exact nat_lit0 | exact nat_lit1 | exact nat_lit2 | exact nat_add1 _ | exact nat_add _ _ | exact rfl | exact nat_sub1 (by omega) | exact nat_sub (by omega) | exact natp1 (nat_sub (by omega)) | exact nat_of (by omega)) (by omega) ⟨rfl, rfl⟩) ?_
  first
    | refine DetK.op rfl (OpA.load_whole rfl ti40 rfl rfl (by first | exact .head | exact .tail .head | exact .tail (.tail .head) | exact .tail (.tail (.tail .head)) | exact .tail (.tail (.tail (.tail .head)))) (by first | rfl | exact getM _ _ _ (by omega) | exact getO (by omega) | exact getL _ _ (by omega) | (simp; done)) ⟨_, rfl⟩ ⟨rfl, rfl⟩) ?_
    | refine DetK.op rfl (OpA.iload_whole rfl ti40 rfl ⟨_, rfl, rfl⟩ ⟨rfl, rfl⟩) ?_
    | refine DetK.op rfl (OpA.load_agg rfl ti40 rfl (by first | exact .head | exact .tail .head | exact .tail (.tail .head) | exact .tail (.tail (.tail .head)) | exact .tail (.tail (.tail (.tail .head)))) (by first | rfl | exact getM _ _ _ (by omega) | exact getO (by omega) | exact getL _ _ (by omega) | (simp; done)) rfl rfl ⟨rfl, rfl⟩) ?_
    | refine DetK.op rfl (OpA.iload_agg rfl ti40 rfl rfl rfl ⟨rfl, rfl⟩) ?_
  first
    | refine DetK.op rfl (OpA.load_whole rfl ti24 rfl rfl (.tail (.tail .head)) (by first | rfl | exact getM _ _ _ (by omega) | exact getO (by omega) | exact getL _ _ (by omega) | (simp; done)) ⟨_, rfl⟩ ⟨rfl, rfl⟩) ?_
    | refine DetK.op rfl (OpA.load_agg rfl ti24 rfl (.tail (.tail .head)) (by first | rfl | exact getM _ _ _ (by omega) | exact getO (by omega) | exact getL _ _ (by omega) | (simp; done)) rfl rfl ⟨rfl, rfl⟩) ?_
  refine DetK.op rfl (OpA.call rfl rfl rfl en40 (pair_fun _ _ _) (by rintro _ rfl; exact ⟨rfl, rfl⟩)) ?_
  refine DetK.op rfl (OpA.addi rfl rfl rfl (by omega) ⟨rfl, rfl⟩) ?_
  refine DetK.op rfl (OpA.mv rfl (by with_reducible conv => lhs; whnf) ⟨rfl, rfl⟩) ?_
  refine DetK.op rfl (OpA.mv rfl (by with_reducible conv => lhs; whnf) ⟨rfl, rfl⟩) ?_
  refine DetK.op rfl (OpA.addi rfl rfl rfl (by omega) ⟨rfl, rfl⟩) ?_
  refine DetK.op rfl (OpA.ixN rfl ts48 rfl rfl (by first | exact nat_lit0 | exact nat_lit1 | exact nat_lit2 | exact nat_add1 _ | exact nat_add _ _ | exact rfl | exact nat_sub1 (by omega) | exact nat_sub (by omega) | exact natp1 (nat_sub (by omega)) | exact nat_of (by omega)) (by omega) ⟨rfl, rfl⟩) ?_
  refine DetK.op rfl (OpA.load rfl ti25 rfl (.tail .head) (rowsD_get (by omega)) rfl ⟨rfl, rfl⟩) ?_
  refine DetK.op rfl (OpA.mv rfl (by with_reducible conv => lhs; whnf) ⟨rfl, rfl⟩) ?_
  refine DetK.op rfl (OpA.ixN rfl ts25 rfl rfl (by first | exact nat_lit0 | exact nat_lit1 | exact nat_lit2 | exact nat_add1 _ | exact nat_add _ _ | exact rfl | exact nat_sub1 (by omega) | exact nat_sub (by omega) | exact natp1 (nat_sub (by omega)) | exact nat_of (by omega)) (by omega) ⟨rfl, rfl⟩) ?_
  refine DetK.op rfl (OpA.load rfl ti3 rfl .head (hT2.get (i := a.length - k0 + 1) (j := b.length - k1) (by omega) (by omega) (by first | omega | (dsimp only; omega))) rfl ⟨rfl, rfl⟩) ?_
  refine DetK.op rfl (OpA.fieldAddr rfl tf24_1 rfl ⟨rfl, rfl⟩) ?_
  refine DetK.op rfl (OpA.load rfl ti3 rfl (.tail (.tail .head)) (by first | rfl | exact getM _ _ _ (by omega) | exact getO (by omega) | exact getL _ _ (by omega) | (simp; done)) (by first | rfl | exact getM _ _ _ (by omega) | exact getO (by omega) | exact getL _ _ (by omega) | (simp; done)) ⟨rfl, rfl⟩) ?_
  refine DetK.op rfl (OpA.addi rfl rfl rfl (by omega) ⟨rfl, rfl⟩) ?_
  refine DetK.op rfl (OpA.mv rfl (by with_reducible conv => lhs; whnf) ⟨rfl, rfl⟩) ?_
  refine DetK.op rfl (OpA.mv rfl (by with_reducible conv => lhs; whnf) ⟨rfl, rfl⟩) ?_
  refine DetK.op rfl (OpA.ixN rfl ts48 rfl rfl (by first | exact nat_lit0 | exact nat_lit1 | exact nat_lit2 | exact nat_add1 _ | exact nat_add _ _ | exact rfl | exact nat_sub1 (by omega) | exact nat_sub (by omega) | exact natp1 (nat_sub (by omega)) | exact nat_of (by omega)) (by omega) ⟨rfl, rfl⟩) ?_
  refine DetK.op rfl (OpA.load rfl ti25 rfl (.tail .head) (rowsD_get (by omega)) rfl ⟨rfl, rfl⟩) ?_
  refine DetK.op rfl (OpA.mv rfl (by with_reducible conv => lhs; whnf) ⟨rfl, rfl⟩) ?_
  refine DetK.op rfl (OpA.addi rfl rfl rfl (by omega) ⟨rfl, rfl⟩) ?_
  refine DetK.op rfl (OpA.ixN rfl ts25 rfl rfl (by first | exact nat_lit0 | exact nat_lit1 | exact nat_lit2 | exact nat_add1 _ | exact nat_add _ _ | exact rfl | exact nat_sub1 (by omega) | exact nat_sub (by omega) | exact natp1 (nat_sub (by omega)) | exact nat_of (by omega)) (by omega) ⟨rfl, rfl⟩) ?_
  refine DetK.op rfl (OpA.load rfl ti3 rfl .head (hT2.get (i := a.length - k0) (j := b.length - k1 + 1) (by omega) (by omega) (by first | omega | (dsimp only; omega))) rfl ⟨rfl, rfl⟩) ?_
  refine DetK.op rfl (OpA.fieldAddr rfl tf24_2 rfl ⟨rfl, rfl⟩) ?_
  refine DetK.op rfl (OpA.load rfl ti3 rfl (.tail (.tail .head)) (by first | rfl | exact getM _ _ _ (by omega) | exact getO (by omega) | exact getL _ _ (by omega) | (simp; done)) (by first | rfl | exact getM _ _ _ (by omega) | exact getO (by omega) | exact getL _ _ (by omega) | (simp; done)) ⟨rfl, rfl⟩) ?_
  refine DetK.op rfl (OpA.addi rfl rfl rfl (by omega) ⟨rfl, rfl⟩) ?_
  refine DetK.op rfl (OpA.min (l := [_, _]) rfl rfl rfl rfl ⟨rfl, rfl⟩) ?_
  refine DetK.op rfl (OpA.ixN rfl ts25 rfl rfl (by first | exact nat_lit0 | exact nat_lit1 | exact nat_lit2 | exact nat_add1 _ | exact nat_add _ _ | exact rfl | exact nat_sub1 (by omega) | exact nat_sub (by omega) | exact natp1 (nat_sub (by omega)) | exact nat_of (by omega)) (by omega) ⟨rfl, rfl⟩) ?_
  refine DetK.nil ?_
  refine wpL_eff rfl rfl (OpA.storeI rfl ti3 rfl rfl (hT2.lt (by omega) (by omega)) .head ?_)
  refine wpL_nil ?_
  refine wpA_region ?_
  refine wpL_op rfl rfl rfl (OpA.addi rfl rfl rfl (by omega) ?_)
  refine wpL_op rfl rfl rfl (OpA.mv rfl (by with_reducible conv => lhs; whnf) ?_)
  refine wpL_nil ?_
  exact ⟨_, _, by omega, ⟨k1 + 1, _, rfl, ⟨by omega, hT2.set (by omega) (by omega) (by first | (rw [bkv_a (by omega), show b.length - (b.length - k1) = k1 by omega]; done) | (rw [bkv_b (by omega), show a.length - (a.length - k0) = k0 by omega]; done) | (rw [bkv_step (i := a.length - k0) (j := b.length - k1) (by omega) (by omega)]; rfl)) (by intro i j h1 h2 h3; first | omega | (dsimp only at *; omega))⟩, rfl, rfl⟩, Cov.asg ⟨rfl, rfl, rfl, rfl, rfl, rfl, rfl, rfl, rfl, rfl, rfl, rfl, trivial⟩⟩
  try simp only [decide_eq_true_eq, decide_eq_false_iff_not, beq_iff_eq, bne_iff_ne, beq_eq_false_iff_ne, bne_eq_false_iff_eq, Bool.not_eq_true', Bool.not_eq_false', Int.not_lt, Int.not_le, gt_iff_lt, ge_iff_le, ne_eq] at b2
  refine wpA_exit ?_
  refine wpA_region ?_
  refine wpL_op rfl rfl rfl (OpA.addi rfl rfl rfl (by omega) ?_)
  refine wpL_op rfl rfl rfl (OpA.mv rfl (by with_reducible conv => lhs; whnf) ?_)
  refine wpL_nil ?_
  exact ⟨_, _, by omega, ⟨k0 + 1, _, rfl, ⟨by omega, hT2.less (by intro i j h1 h2 h3; first | omega | (dsimp only at *; omega))⟩, rfl, rfl⟩, Cov.asg ⟨rfl, rfl, rfl, rfl, rfl, rfl, rfl, rfl, rfl, trivial⟩⟩
  try simp only [decide_eq_true_eq, decide_eq_false_iff_not, beq_iff_eq, bne_iff_ne, beq_eq_false_iff_ne, bne_eq_false_iff_eq, Bool.not_eq_true', Bool.not_eq_false', Int.not_lt, Int.not_le, gt_iff_lt, ge_iff_le, ne_eq] at b1
  refine wpA_exit ?_
  refine wpA_seq ?_
  refine wpA_region ?_
  refine wpL_op rfl rfl rfl (OpA.mv rfl (by with_reducible conv => lhs; whnf) ?_)
  refine wpL_op rfl rfl rfl (OpA.asn rfl (by with_reducible conv => lhs; whnf) ?_)
  refine wpL_nil ?_
  refine wpA_ret ?_
  refine ⟨_, (.tmp (by with_reducible conv => lhs; whnf) .nil), _, (hT.snap (by intro i j h1 h2; first | omega | (dsimp only; omega)) (by first | exact .head | exact .tail .head) (by first | exact .head | exact .tail .head) .nil), ?_⟩
  (try simp only [tupD]) <;> (rfl)

theorem fronts_fun (a b : List Lexeme) (c : Costs) (hck : checkF a b c = 0) : Fun false Try.prog 42 [encWords a, encWords b, encCosts c] (fun d => d = encTable (frontF a b c)) := by
  obtain ⟨hok, ha, hb⟩ := checkF_ok hck
  have hcc := checkF_zero hck
  refine Fun.of_body Try.func42 rfl Try.ntmps42 rfl ?_
  refine wpA_seq ?_
  refine wpA_region ?_
  refine wpL_op rfl rfl rfl (OpA.bx (sz := 3) rfl (by with_reducible conv => lhs; whnf) (.of rfl) (fun c5 _ => ?_))
  refine wpL_op rfl rfl rfl (OpA.asn rfl (by with_reducible conv => lhs; whnf) ?_)
  refine wpL_nil ?_
  refine wpA_seq ?_
  refine wpA_region ?_
  refine wpL_op rfl rfl rfl (OpA.mv rfl (by with_reducible conv => lhs; whnf) ?_)
  first
    | refine wpL_op rfl rfl rfl (OpA.len rfl rfl rfl rfl ts22.desc (.inl ⟨_, _, rfl, (List.length_map _).symm⟩) ?_)
    | refine wpL_op rfl rfl rfl (OpA.len rfl rfl rfl rfl ts22.desc (.inl ⟨_, _, rfl, rfl⟩) ?_)
    | refine wpL_op rfl rfl rfl (OpA.len rfl rfl rfl rfl ts22.desc (.inr (.inl ⟨_, _, _, rfl⟩)) ?_)
    | refine wpL_op rfl rfl rfl (OpA.len rfl rfl rfl rfl ts22.desc (.inr (.inr ⟨rfl, rfl⟩)) ?_)
  refine wpL_op rfl rfl rfl (OpA.addi rfl rfl rfl (by omega) ?_)
  refine wpL_op rfl rfl rfl (OpA.mv rfl (by with_reducible conv => lhs; whnf) ?_)
  first
    | refine wpL_op rfl rfl rfl (OpA.len rfl rfl rfl rfl ts22.desc (.inl ⟨_, _, rfl, (List.length_map _).symm⟩) ?_)
    | refine wpL_op rfl rfl rfl (OpA.len rfl rfl rfl rfl ts22.desc (.inl ⟨_, _, rfl, rfl⟩) ?_)
    | refine wpL_op rfl rfl rfl (OpA.len rfl rfl rfl rfl ts22.desc (.inr (.inl ⟨_, _, _, rfl⟩)) ?_)
    | refine wpL_op rfl rfl rfl (OpA.len rfl rfl rfl rfl ts22.desc (.inr (.inr ⟨rfl, rfl⟩)) ?_)
  refine wpL_op rfl rfl rfl (OpA.addi rfl rfl rfl (by omega) ?_)
  refine wpL_op rfl rfl rfl (OpA.callH rfl rfl rfl en48 (h1 := []) (h2 := [(c5, .cells 3 [encCosts c])]) (.refl _) (table_h (a.length + 1) (b.length + 1) (by omega) (by omega)) ?_)
  rintro _ _ ⟨tr, tc, rfl, rfl⟩
  refine wpL_op rfl rfl rfl (OpA.asn rfl (by with_reducible conv => lhs; whnf) ?_)
  refine wpL_nil ?_
  refine wpA_seq ?_
  refine wpA_seq ?_
  refine wpA_region ?_
  refine wpL_op rfl rfl rfl (OpA.mv rfl (by with_reducible conv => lhs; whnf) ?_)
  first
    | refine wpL_op rfl rfl rfl (OpA.len rfl rfl rfl rfl ts22.desc (.inl ⟨_, _, rfl, (List.length_map _).symm⟩) ?_)
    | refine wpL_op rfl rfl rfl (OpA.len rfl rfl rfl rfl ts22.desc (.inl ⟨_, _, rfl, rfl⟩) ?_)
    | refine wpL_op rfl rfl rfl (OpA.len rfl rfl rfl rfl ts22.desc (.inr (.inl ⟨_, _, _, rfl⟩)) ?_)
    | refine wpL_op rfl rfl rfl (OpA.len rfl rfl rfl rfl ts22.desc (.inr (.inr ⟨rfl, rfl⟩)) ?_)
  refine wpL_op rfl rfl rfl (OpA.addi rfl rfl rfl (by omega) ?_)
  refine wpL_op rfl rfl rfl (OpA.mv rfl (by with_reducible conv => lhs; whnf) ?_)
  refine wpL_nil ?_
  refine wpA_block ?_
  refine wpA_loopE (fun mm fr h => ∃ (k0 : Nat) (l : List Int), mm = a.length + 1 - k0 ∧ (k0 ≤ a.length + 1 ∧ Tab l a.length b.length (fun i _ => i < k0) (fkv a b c)) ∧ fr = asg [(0, encWords a), (1, encWords b), (5, .ptr c5 3 0 0), (6, .v (.slice none 0 0)), (7, .own tr 1 0 (a.length + 1)), (19, .i (a.length + 1)), (20, .i k0)] ∧ h = [(tc, .cells 1 (l.map D.i)), (tr, .cells 1 (rowsD tc (a.length + 1) (b.length + 1))), (c5, .cells 3 [encCosts c])]) ⟨_, _, ⟨0, List.replicate ((a.length + 1) * (b.length + 1)) 0, rfl, ⟨by omega, Tab.zero (by intro i j h1 h2; first | omega | (dsimp only; omega))⟩, rfl, rfl⟩, Cov.asg ⟨rfl, rfl, rfl, rfl, rfl, rfl, rfl, trivial⟩⟩ ?_
  rintro k fr h ⟨k0, l, rfl, ⟨hk0, hT⟩, rfl, rfl⟩
  refine wpA_seq ?_
  refine wpA_region ?_
  refine wpL_op rfl rfl rfl (OpA.lss rfl rfl rfl ?_)
  refine wpL_nil ?_
  refine wpA_seq ?_
  refine wpA_cond rfl (fun b1 => ?_) (fun b1 => ?_)
  try simp only [decide_eq_true_eq, decide_eq_false_iff_not, beq_iff_eq, bne_iff_ne, beq_eq_false_iff_ne, bne_eq_false_iff_eq, Bool.not_eq_true', Bool.not_eq_false', Int.not_lt, Int.not_le, gt_iff_lt, ge_iff_le, ne_eq] at b1
  refine wpA_skip ?_
  refine wpA_seq ?_
  refine wpA_block ?_
  refine wpA_seq ?_
  refine wpA_region ?_
  refine wpL_op rfl rfl rfl (OpA.mv rfl (by with_reducible conv => lhs; whnf) ?_)
  refine wpL_op rfl rfl rfl (OpA.asn rfl (by with_reducible conv => lhs; whnf) ?_)
  refine wpL_nil ?_
  refine wpA_seq ?_
  refine wpA_region ?_
  refine wpL_op rfl rfl rfl (OpA.mv rfl (by with_reducible conv => lhs; whnf) ?_)
  first
    | refine wpL_op rfl rfl rfl (OpA.len rfl rfl rfl rfl ts22.desc (.inl ⟨_, _, rfl, (List.length_map _).symm⟩) ?_)
    | refine wpL_op rfl rfl rfl (OpA.len rfl rfl rfl rfl ts22.desc (.inl ⟨_, _, rfl, rfl⟩) ?_)
    | refine wpL_op rfl rfl rfl (OpA.len rfl rfl rfl rfl ts22.desc (.inr (.inl ⟨_, _, _, rfl⟩)) ?_)
    | refine wpL_op rfl rfl rfl (OpA.len rfl rfl rfl rfl ts22.desc (.inr (.inr ⟨rfl, rfl⟩)) ?_)
  refine wpL_op rfl rfl rfl (OpA.addi rfl rfl rfl (by omega) ?_)
  refine wpL_op rfl rfl rfl (OpA.mv rfl (by with_reducible conv => lhs; whnf) ?_)
  refine wpL_nil ?_
  refine wpA_block ?_
  refine wpA_loopE (fun mm fr h => ∃ (k1 : Nat) (l2 : List Int), mm = b.length + 1 - k1 ∧ (k1 ≤ b.length + 1 ∧ Tab l2 a.length b.length (fun i j => i < k0 ∨ (i = k0 ∧ j < k1)) (fkv a b c)) ∧ fr = asg [(0, encWords a), (1, encWords b), (5, .ptr c5 3 0 0), (6, .v (.slice none 0 0)), (7, .own tr 1 0 (a.length + 1)), (8, .i k0), (19, .i (a.length + 1)), (20, .i k0), (25, .i (b.length + 1)), (26, .i k1)] ∧ h = [(tc, .cells 1 (l2.map D.i)), (tr, .cells 1 (rowsD tc (a.length + 1) (b.length + 1))), (c5, .cells 3 [encCosts c])]) ⟨_, _, ⟨0, l, rfl, ⟨by omega, hT.less (by intro i j h1 h2 h3; first | omega | (dsimp only at *; omega))⟩, rfl, rfl⟩, Cov.asg ⟨rfl, rfl, rfl, rfl, rfl, rfl, rfl, rfl, rfl, rfl, trivial⟩⟩ ?_
  rintro k fr h ⟨k1, l2, rfl, ⟨hk1, hT2⟩, rfl, rfl⟩
  have hx11 := fkv_bd hok ha hb (k0 - 1) (k1 - 1)
  have hx10 := fkv_bd hok ha hb (k0 - 1) (k1)
  have hx01 := fkv_bd hok ha hb (k0) (k1 - 1)
  have g1 : 0 ≤ (k1 : Int) * c.add := Int.mul_nonneg (by omega) (by omega)
  have g2 : (k1 : Int) * c.add ≤ 1025 * 1000 := Int.mul_le_mul (by omega) (by omega) (by omega) (by omega)
  have g3 : 0 ≤ (k0 : Int) * c.drop := Int.mul_nonneg (by omega) (by omega)
  have g4 : (k0 : Int) * c.drop ≤ 1025 * 1000 := Int.mul_le_mul (by omega) (by omega) (by omega) (by omega)
  refine wpA_seq ?_
  refine wpA_region ?_
  refine wpL_op rfl rfl rfl (OpA.lss rfl rfl rfl ?_)
  refine wpL_nil ?_
  refine wpA_seq ?_
  refine wpA_cond rfl (fun b2 => ?_) (fun b2 => ?_)
  try simp only [decide_eq_true_eq, decide_eq_false_iff_not, beq_iff_eq, bne_iff_ne, beq_eq_false_iff_ne, bne_eq_false_iff_eq, Bool.not_eq_true', Bool.not_eq_false', Int.not_lt, Int.not_le, gt_iff_lt, ge_iff_le, ne_eq] at b2
  refine wpA_skip ?_
  refine wpA_seq ?_
  refine wpA_block ?_
  refine wpA_seq ?_
  refine wpA_region ?_
  refine wpL_op rfl rfl rfl (OpA.mv rfl (by with_reducible conv => lhs; whnf) ?_)
  refine wpL_op rfl rfl rfl (OpA.asn rfl (by with_reducible conv => lhs; whnf) ?_)
  refine wpL_nil ?_
  refine wpA_block ?_
  refine wpA_seq ?_
  refine wpA_region ?_
  refine wpL_op rfl rfl rfl (OpA.mv rfl (by with_reducible conv => lhs; whnf) ?_)
  refine wpL_op rfl rfl rfl (OpA.eql rfl rfl rfl ?_)
  refine wpL_op rfl rfl rfl (OpA.asn rfl (by with_reducible conv => lhs; whnf) ?_)
  refine wpL_nil ?_
  refine wpA_cond rfl (fun b3 => ?_) (fun b3 => ?_)
  try simp only [decide_eq_true_eq, decide_eq_false_iff_not, beq_iff_eq, bne_iff_ne, beq_eq_false_iff_ne, bne_eq_false_iff_eq, Bool.not_eq_true', Bool.not_eq_false', Int.not_lt, Int.not_le, gt_iff_lt, ge_iff_le, ne_eq] at b3
  refine wpA_draw (m := 10) mo (by kernel_rfl) rfl ?_
  refine DetK.op rfl (OpA.mv rfl (by with_reducible conv => lhs; whnf) ⟨rfl, rfl⟩) ?_
  refine DetK.op rfl (OpA.mv rfl (by with_reducible conv => lhs; whnf) ⟨rfl, rfl⟩) ?_
  refine DetK.op rfl (OpA.ixN rfl ts48 rfl rfl (by first | exact nat_lit0 | exact nat_lit1 | exact nat_lit2 | exact nat_add1 _ | exact nat_add _ _ | exact rfl | exact nat_sub1 (by omega) | exact nat_sub (by omega) | exact natp1 (nat_sub (by omega)) | exact nat_of (by omega)) (by omega) ⟨rfl, rfl⟩) ?_
  refine DetK.op rfl (OpA.load rfl ti25 rfl (.tail .head) (rowsD_get (by omega)) rfl ⟨rfl, rfl⟩) ?_
  refine DetK.op rfl (OpA.mv rfl (by with_reducible conv => lhs; whnf) ⟨rfl, rfl⟩) ?_
  refine DetK.op rfl (OpA.mv rfl (by with_reducible conv => lhs; whnf) ⟨rfl, rfl⟩) ?_
  refine DetK.op rfl (OpA.fieldAddr rfl tf24_2 rfl ⟨rfl, rfl⟩) ?_
  refine DetK.op rfl (OpA.load rfl ti3 rfl (.tail (.tail .head)) (by first | rfl | exact getM _ _ _ (by omega) | exact getO (by omega) | exact getL _ _ (by omega) | (simp; done)) (by first | rfl | exact getM _ _ _ (by omega) | exact getO (by omega) | exact getL _ _ (by omega) | (simp; done)) ⟨rfl, rfl⟩) ?_
  refine DetK.op rfl (OpA.muli rfl rfl rfl (by omega) ⟨rfl, rfl⟩) ?_
  refine DetK.op rfl (OpA.ixN rfl ts25 rfl rfl (by first | exact nat_lit0 | exact nat_lit1 | exact nat_lit2 | exact nat_add1 _ | exact nat_add _ _ | exact rfl | exact nat_sub1 (by omega) | exact nat_sub (by omega) | exact natp1 (nat_sub (by omega)) | exact nat_of (by omega)) (by omega) ⟨rfl, rfl⟩) ?_
  refine DetK.nil ?_
  refine wpL_eff rfl rfl (OpA.storeI rfl ti3 rfl rfl (hT2.lt (by omega) (by omega)) .head ?_)
  refine wpL_nil ?_
  refine wpA_region ?_
  refine wpL_op rfl rfl rfl (OpA.addi rfl rfl rfl (by omega) ?_)
  refine wpL_op rfl rfl rfl (OpA.mv rfl (by with_reducible conv => lhs; whnf) ?_)
  refine wpL_nil ?_
  exact ⟨_, _, by omega, ⟨k1 + 1, _, rfl, ⟨by omega, hT2.set (by omega) (by omega) (by first | (rw [show k0 = 0 by omega, fkv_a (by omega)]; done) | (rw [show k1 = 0 by omega, fkv_b (by omega)]; done) | (rw [fkv_step' (i := k0) (j := k1) (by omega) (by omega) (by omega) (by omega)]; rfl)) (by intro i j h1 h2 h3; first | omega | (dsimp only at *; omega))⟩, rfl, rfl⟩, Cov.asg ⟨rfl, rfl, rfl, rfl, rfl, rfl, rfl, rfl, rfl, rfl, trivial⟩⟩
  try simp only [decide_eq_true_eq, decide_eq_false_iff_not, beq_iff_eq, bne_iff_ne, beq_eq_false_iff_ne, bne_eq_false_iff_eq, Bool.not_eq_true', Bool.not_eq_false', Int.not_lt, Int.not_le, gt_iff_lt, ge_iff_le, ne_eq] at b3
  refine wpA_seq ?_
  refine wpA_region ?_
  refine wpL_op rfl rfl rfl (OpA.mv rfl (by with_reducible conv => lhs; whnf) ?_)
  refine wpL_op rfl rfl rfl (OpA.eql rfl rfl rfl ?_)
  refine wpL_op rfl rfl rfl (OpA.asn rfl (by with_reducible conv => lhs; whnf) ?_)
  refine wpL_nil ?_
  refine wpA_cond rfl (fun b4 => ?_) (fun b4 => ?_)
  try simp only [decide_eq_true_eq, decide_eq_false_iff_not, beq_iff_eq, bne_iff_ne, beq_eq_false_iff_ne, bne_eq_false_iff_eq, Bool.not_eq_true', Bool.not_eq_false', Int.not_lt, Int.not_le, gt_iff_lt, ge_iff_le, ne_eq] at b4
  refine wpA_draw (m := 10) mo (by kernel_rfl) rfl ?_
  refine DetK.op rfl (OpA.mv rfl (by with_reducible conv => lhs; whnf) ⟨rfl, rfl⟩) ?_
  refine DetK.op rfl (OpA.mv rfl (by with_reducible conv => lhs; whnf) ⟨rfl, rfl⟩) ?_
  refine DetK.op rfl (OpA.ixN rfl ts48 rfl rfl (by first | exact nat_lit0 | exact nat_lit1 | exact nat_lit2 | exact nat_add1 _ | exact nat_add _ _ | exact rfl | exact nat_sub1 (by omega) | exact nat_sub (by omega) | exact natp1 (nat_sub (by omega)) | exact nat_of (by omega)) (by omega) ⟨rfl, rfl⟩) ?_
  refine DetK.op rfl (OpA.load rfl ti25 rfl (.tail .head) (rowsD_get (by omega)) rfl ⟨rfl, rfl⟩) ?_
  refine DetK.op rfl (OpA.mv rfl (by with_reducible conv => lhs; whnf) ⟨rfl, rfl⟩) ?_
  refine DetK.op rfl (OpA.mv rfl (by with_reducible conv => lhs; whnf) ⟨rfl, rfl⟩) ?_
  refine DetK.op rfl (OpA.fieldAddr rfl tf24_1 rfl ⟨rfl, rfl⟩) ?_
  refine DetK.op rfl (OpA.load rfl ti3 rfl (.tail (.tail .head)) (by first | rfl | exact getM _ _ _ (by omega) | exact getO (by omega) | exact getL _ _ (by omega) | (simp; done)) (by first | rfl | exact getM _ _ _ (by omega) | exact getO (by omega) | exact getL _ _ (by omega) | (simp; done)) ⟨rfl, rfl⟩) ?_
  refine DetK.op rfl (OpA.muli rfl rfl rfl (by omega) ⟨rfl, rfl⟩) ?_
  refine DetK.op rfl (OpA.ixN rfl ts25 rfl rfl (by first | exact nat_lit0 | exact nat_lit1 | exact nat_lit2 | exact nat_add1 _ | exact nat_add _ _ | exact rfl | exact nat_sub1 (by omega) | exact nat_sub (by omega) | exact natp1 (nat_sub (by omega)) | exact nat_of (by omega)) (by omega) ⟨rfl, rfl⟩) ?_
  refine DetK.nil ?_
  refine wpL_eff rfl rfl (OpA.storeI rfl ti3 rfl rfl (hT2.lt (by omega) (by omega)) .head ?_)
  refine wpL_nil ?_
  refine wpA_region ?_
  refine wpL_op rfl rfl rfl (OpA.addi rfl rfl rfl (by omega) ?_)
  refine wpL_op rfl rfl rfl (OpA.mv rfl (by with_reducible conv => lhs; whnf) ?_)
  refine wpL_nil ?_
  exact ⟨_, _, by omega, ⟨k1 + 1, _, rfl, ⟨by omega, hT2.set (by omega) (by omega) (by first | (rw [show k0 = 0 by omega, fkv_a (by omega)]; done) | (rw [show k1 = 0 by omega, fkv_b (by omega)]; done) | (rw [fkv_step' (i := k0) (j := k1) (by omega) (by omega) (by omega) (by omega)]; rfl)) (by intro i j h1 h2 h3; first | omega | (dsimp only at *; omega))⟩, rfl, rfl⟩, Cov.asg ⟨rfl, rfl, rfl, rfl, rfl, rfl, rfl, rfl, rfl, rfl, trivial⟩⟩
  try simp only [decide_eq_true_eq, decide_eq_false_iff_not, beq_iff_eq, bne_iff_ne, beq_eq_false_iff_ne, bne_eq_false_iff_eq, Bool.not_eq_true', Bool.not_eq_false', Int.not_lt, Int.not_le, gt_iff_lt, ge_iff_le, ne_eq] at b4
  have hpb := pairF_bd (x := a[k0 - 1]'(by omega)) (y := b[k1 - 1]'(by omega)) hcc.1
  refine wpA_draw (m := 51) mo (by kernel_rfl) rfl ?_
  refine DetK.op rfl (OpA.mv rfl (by with_reducible conv => lhs; whnf) ⟨rfl, rfl⟩) ?_
  refine DetK.op rfl (OpA.mv rfl (by with_reducible conv => lhs; whnf) ⟨rfl, rfl⟩) ?_
  refine DetK.op rfl (OpA.ixN rfl ts48 rfl rfl (by first | exact nat_lit0 | exact nat_lit1 | exact nat_lit2 | exact nat_add1 _ | exact nat_add _ _ | exact rfl | exact nat_sub1 (by omega) | exact nat_sub (by omega) | exact natp1 (nat_sub (by omega)) | exact nat_of (by omega)) (by omega) ⟨rfl, rfl⟩) ?_
  refine DetK.op rfl (OpA.load rfl ti25 rfl (.tail .head) (rowsD_get (by omega)) rfl ⟨rfl, rfl⟩) ?_
  refine DetK.op rfl (OpA.mv rfl (by with_reducible conv => lhs; whnf) ⟨rfl, rfl⟩) ?_
  refine DetK.op rfl (OpA.mv rfl (by with_reducible conv => lhs; whnf) ⟨rfl, rfl⟩) ?_
  refine DetK.op rfl (OpA.mv rfl (by with_reducible conv => lhs; whnf) ⟨rfl, rfl⟩) ?_
  refine DetK.op rfl (OpA.subi rfl rfl rfl (by omega) ⟨rfl, rfl⟩) ?_
  refine DetK.op rfl (OpA.ixN rfl ts48 rfl rfl (by first | exact nat_lit0 | exact nat_lit1 | exact nat_lit2 | exact nat_add1 _ | exact nat_add _ _ | exact rfl | exact nat_sub1 (by omega) | exact nat_sub (by omega) | exact natp1 (nat_sub (by omega)) | exact nat_of (by omega)) (by omega) ⟨rfl, rfl⟩) ?_
  refine DetK.op rfl (OpA.load rfl ti25 rfl (.tail .head) (rowsD_get (by omega)) rfl ⟨rfl, rfl⟩) ?_
  refine DetK.op rfl (OpA.mv rfl (by with_reducible conv => lhs; whnf) ⟨rfl, rfl⟩) ?_
  refine DetK.op rfl (OpA.subi rfl rfl rfl (by omega) ⟨rfl, rfl⟩) ?_
  refine DetK.op rfl (OpA.ixN rfl ts25 rfl rfl (by first | exact nat_lit0 | exact nat_lit1 | exact nat_lit2 | exact nat_add1 _ | exact nat_add _ _ | exact rfl | exact nat_sub1 (by omega) | exact nat_sub (by omega) | exact natp1 (nat_sub (by omega)) | exact nat_of (by omega)) (by omega) ⟨rfl, rfl⟩) ?_
  refine DetK.op rfl (OpA.load rfl ti3 rfl .head (hT2.get (i := k0 - 1) (j := k1 - 1) (by omega) (by omega) (by first | omega | (dsimp only; omega))) rfl ⟨rfl, rfl⟩) ?_
  refine DetK.op rfl (OpA.mv rfl (by with_reducible conv => lhs; whnf) ⟨rfl, rfl⟩) ?_
  refine DetK.op rfl (OpA.mv rfl (by with_reducible conv => lhs; whnf) ⟨rfl, rfl⟩) ?_
  refine DetK.op rfl (OpA.subi rfl rfl rfl (by omega) ⟨rfl, rfl⟩) ?_
  first
    | refine DetK.op rfl (OpA.iixN rfl ts22 rfl rfl rfl (by first | exact nat_lit0 | exact nat_lit1 | exact nat_lit2 | exact nat_add1 _ | exact nat_add _ _ | exact rfl | exact nat_sub1 (by omega) | exact nat_sub (by omega) | exact natp1 (nat_sub (by omega)) | exact nat_of (by omega)) (by first | rfl | exact getM _ _ _ (by omega) | exact getO (by omega) | exact getL _ _ (by omega) | (simp; done)) ⟨rfl, rfl⟩) ?_
    | refine DetK.op rfl (OpA.ixN rfl ts22 rfl rfl (by first | exact nat_lit0 | exact nat_lit1 | exact nat_lit2 | exact nat_add1 _ | exact nat_add _ _ | exact rfl | exact nat_sub1 (by omega) | exact nat_sub (by omega) | exact natp1 (nat_sub (by omega)) | exact nat_of (by omega)) (by omega) ⟨rfl, rfl⟩) ?_
  first
    | refine DetK.op rfl (OpA.load_whole rfl ti40 rfl rfl (by first | exact .head | exact .tail .head | exact .tail (.tail .head) | exact .tail (.tail (.tail .head)) | exact .tail (.tail (.tail (.tail .head)))) (by first | rfl | exact getM _ _ _ (by omega) | exact getO (by omega) | exact getL _ _ (by omega) | (simp; done)) ⟨_, rfl⟩ ⟨rfl, rfl⟩) ?_
    | refine DetK.op rfl (OpA.iload_whole rfl ti40 rfl ⟨_, rfl, rfl⟩ ⟨rfl, rfl⟩) ?_
    | refine DetK.op rfl (OpA.load_agg rfl ti40 rfl (by first | exact .head | exact .tail .head | exact .tail (.tail .head) | exact .tail (.tail (.tail .head)) | exact .tail (.tail (.tail (.tail .head)))) (by first | rfl | exact getM _ _ _ (by omega) | exact getO (by omega) | exact getL _ _ (by omega) | (simp; done)) rfl rfl ⟨rfl, rfl⟩) ?_
    | refine DetK.op rfl (OpA.iload_agg rfl ti40 rfl rfl rfl ⟨rfl, rfl⟩) ?_
  refine DetK.op rfl (OpA.mv rfl (by with_reducible conv => lhs; whnf) ⟨rfl, rfl⟩) ?_
  refine DetK.op rfl (OpA.mv rfl (by with_reducible conv => lhs; whnf) ⟨rfl, rfl⟩) ?_
  refine DetK.op rfl (OpA.subi rfl rfl rfl (by omega) ⟨rfl, rfl⟩) ?_
  first
    | refine DetK.op rfl (OpA.iixN rfl ts22 rfl rfl rfl (by first | exact nat_lit0 | exact nat_lit1 | exact nat_lit2 | exact nat_add1 _ | exact nat_add _ _ | exact rfl | exact nat_sub1 (by omega) | exact nat_sub (by omega) | exact natp1 (nat_sub (by omega)) | exact nat_of (by omega)) (by first | rfl | exact getM _ _ _ (by omega) | exact getO (by omega) | exact getL _ _ (by omega) | (simp; done)) ⟨rfl, rfl⟩) ?_
    | refine DetK.op rfl (OpA.ixN rfl ts22 rfl rfl (by first | exact nat_lit0 | exact nat_lit1 | exact nat_lit2 | exact nat_add1 _ | exact nat_add _ _ | exact rfl | exact nat_sub1 (by omega) | exact nat_sub (by omega) | exact natp1 (nat_sub (by omega)) | exact nat_of (by omega)) (by omega) ⟨rfl, rfl⟩) ?_
  first
    | refine DetK.op rfl (OpA.load_whole rfl ti40 rfl rfl (by first | exact .head | exact .tail .head | exact .tail (.tail .head) | exact .tail (.tail (.tail .head)) | exact .tail (.tail (.tail (.tail .head)))) (by first | rfl | exact getM _ _ _ (by omega) | exact getO (by omega) | exact getL _ _ (by omega) | (simp; done)) ⟨_, rfl⟩ ⟨rfl, rfl⟩) ?_
    | refine DetK.op rfl (OpA.iload_whole rfl ti40 rfl ⟨_, rfl, rfl⟩ ⟨rfl, rfl⟩) ?_
    | refine DetK.op rfl (OpA.load_agg rfl ti40 rfl (by first | exact .head | exact .tail .head | exact .tail (.tail .head) | exact .tail (.tail (.tail .head)) | exact .tail (.tail (.tail (.tail .head)))) (by first | rfl | exact getM _ _ _ (by omega) | exact getO (by omega) | exact getL _ _ (by omega) | (simp; done)) rfl rfl ⟨rfl, rfl⟩) ?_
    | refine DetK.op rfl (OpA.iload_agg rfl ti40 rfl rfl rfl ⟨rfl, rfl⟩) ?_
  first
    | refine DetK.op rfl (OpA.load_whole rfl ti24 rfl rfl (.tail (.tail .head)) (by first | rfl | exact getM _ _ _ (by omega) | exact getO (by omega) | exact getL _ _ (by omega) | (simp; done)) ⟨_, rfl⟩ ⟨rfl, rfl⟩) ?_
    | refine DetK.op rfl (OpA.load_agg rfl ti24 rfl (.tail (.tail .head)) (by first | rfl | exact getM _ _ _ (by omega) | exact getO (by omega) | exact getL _ _ (by omega) | (simp; done)) rfl rfl ⟨rfl, rfl⟩) ?_
  refine DetK.op rfl (OpA.call rfl rfl rfl en40 (pair_fun _ _ _) (by rintro _ rfl; exact ⟨rfl, rfl⟩)) ?_
  refine DetK.op rfl (OpA.addi rfl rfl rfl (by omega) ⟨rfl, rfl⟩) ?_
  refine DetK.op rfl (OpA.mv rfl (by with_reducible conv => lhs; whnf) ⟨rfl, rfl⟩) ?_
  refine DetK.op rfl (OpA.mv rfl (by with_reducible conv => lhs; whnf) ⟨rfl, rfl⟩) ?_
  refine DetK.op rfl (OpA.subi rfl rfl rfl (by omega) ⟨rfl, rfl⟩) ?_
  refine DetK.op rfl (OpA.ixN rfl ts48 rfl rfl (by first | exact nat_lit0 | exact nat_lit1 | exact nat_lit2 | exact nat_add1 _ | exact nat_add _ _ | exact rfl | exact nat_sub1 (by omega) | exact nat_sub (by omega) | exact natp1 (nat_sub (by omega)) | exact nat_of (by omega)) (by omega) ⟨rfl, rfl⟩) ?_
  refine DetK.op rfl (OpA.load rfl ti25 rfl (.tail .head) (rowsD_get (by omega)) rfl ⟨rfl, rfl⟩) ?_
  refine DetK.op rfl (OpA.mv rfl (by with_reducible conv => lhs; whnf) ⟨rfl, rfl⟩) ?_
  refine DetK.op rfl (OpA.ixN rfl ts25 rfl rfl (by first | exact nat_lit0 | exact nat_lit1 | exact nat_lit2 | exact nat_add1 _ | exact nat_add _ _ | exact rfl | exact nat_sub1 (by omega) | exact nat_sub (by omega) | exact natp1 (nat_sub (by omega)) | exact nat_of (by omega)) (by omega) ⟨rfl, rfl⟩) ?_
  refine DetK.op rfl (OpA.load rfl ti3 rfl .head (hT2.get (i := k0 - 1) (j := k1) (by omega) (by omega) (by first | omega | (dsimp only; omega))) rfl ⟨rfl, rfl⟩) ?_
  refine DetK.op rfl (OpA.fieldAddr rfl tf24_1 rfl ⟨rfl, rfl⟩) ?_
  refine DetK.op rfl (OpA.load rfl ti3 rfl (.tail (.tail .head)) (by first | rfl | exact getM _ _ _ (by omega) | exact getO (by omega) | exact getL _ _ (by omega) | (simp; done)) (by first | rfl | exact getM _ _ _ (by omega) | exact getO (by omega) | exact getL _ _ (by omega) | (simp; done)) ⟨rfl, rfl⟩) ?_
  refine DetK.op rfl (OpA.addi rfl rfl rfl (by omega) ⟨rfl, rfl⟩) ?_
  refine DetK.op rfl (OpA.mv rfl (by with_reducible conv => lhs; whnf) ⟨rfl, rfl⟩) ?_
  refine DetK.op rfl (OpA.mv rfl (by with_reducible conv => lhs; whnf) ⟨rfl, rfl⟩) ?_
  refine DetK.op rfl (OpA.ixN rfl ts48 rfl rfl (by first | exact nat_lit0 | exact nat_lit1 | exact nat_lit2 | exact nat_add1 _ | exact nat_add _ _ | exact rfl | exact nat_sub1 (by omega) | exact nat_sub (by omega) | exact natp1 (nat_sub (by omega)) | exact nat_of (by omega)) (by omega) ⟨rfl, rfl⟩) ?_
  refine DetK.op rfl (OpA.load rfl ti25 rfl (.tail .head) (rowsD_get (by omega)) rfl ⟨rfl, rfl⟩) ?_
  refine DetK.op rfl (OpA.mv rfl (by with_reducible conv => lhs; whnf) ⟨rfl, rfl⟩) ?_
  refine DetK.op rfl (OpA.subi rfl rfl rfl (by omega) ⟨rfl, rfl⟩) ?_
  refine DetK.op rfl (OpA.ixN rfl ts25 rfl rfl (by first | exact nat_lit0 | exact nat_lit1 | exact nat_lit2 | exact nat_add1 _ | exact nat_add _ _ | exact rfl | exact nat_sub1 (by omega) | exact nat_sub (by omega) | exact natp1 (nat_sub (by omega)) | exact nat_of (by omega)) (by omega) ⟨rfl, rfl⟩) ?_
  refine DetK.op rfl (OpA.load rfl ti3 rfl .head (hT2.get (i := k0) (j := k1 - 1) (by omega) (by omega) (by first | omega | (dsimp only; omega))) rfl ⟨rfl, rfl⟩) ?_
  refine DetK.op rfl (OpA.fieldAddr rfl tf24_2 rfl ⟨rfl, rfl⟩) ?_
  refine DetK.op rfl (OpA.load rfl ti3 rfl (.tail (.tail .head)) (by first | rfl | exact getM _ _ _ (by omega) | exact getO (by omega) | exact getL _ _ (by omega) | (simp; done)) (by first | rfl | exact getM _ _ _ (by omega) | exact getO (by omega) | exact getL _ _ (by omega) | (simp; done)) ⟨rfl, rfl⟩) ?_
  refine DetK.op rfl (OpA.addi rfl rfl rfl (by omega) ⟨rfl, rfl⟩) ?_
  refine DetK.op rfl (OpA.min (l := [_, _]) rfl rfl rfl rfl ⟨rfl, rfl⟩) ?_
  refine DetK.op rfl (OpA.ixN rfl ts25 rfl rfl (by first | exact nat_lit0 | exact nat_lit1 | exact nat_lit2 | exact nat_add1 _ | exact nat_add _ _ | exact rfl | exact nat_sub1 (by omega) | exact nat_sub (by omega) | exact natp1 (nat_sub (by omega)) | exact nat_of (by omega)) (by omega) ⟨rfl, rfl⟩) ?_
  refine DetK.nil ?_
  refine wpL_eff rfl rfl (OpA.storeI rfl ti3 rfl rfl (hT2.lt (by omega) (by omega)) .head ?_)
  refine wpL_nil ?_
  refine wpA_region ?_
  refine wpL_op rfl rfl rfl (OpA.addi rfl rfl rfl (by omega) ?_)
  refine wpL_op rfl rfl rfl (OpA.mv rfl (by with_reducible conv => lhs; whnf) ?_)
  refine wpL_nil ?_
  exact ⟨_, _, by omega, ⟨k1 + 1, _, rfl, ⟨by omega, hT2.set (by omega) (by omega) (by first | (rw [show k0 = 0 by omega, fkv_a (by omega)]; done) | (rw [show k1 = 0 by omega, fkv_b (by omega)]; done) | (rw [fkv_step' (i := k0) (j := k1) (by omega) (by omega) (by omega) (by omega)]; rfl)) (by intro i j h1 h2 h3; first | omega | (dsimp only at *; omega))⟩, rfl, rfl⟩, Cov.asg ⟨rfl, rfl, rfl, rfl, rfl, rfl, rfl, rfl, rfl, rfl, trivial⟩⟩
  try simp only [decide_eq_true_eq, decide_eq_false_iff_not, beq_iff_eq, bne_iff_ne, beq_eq_false_iff_ne, bne_eq_false_iff_eq, Bool.not_eq_true', Bool.not_eq_false', Int.not_lt, Int.not_le, gt_iff_lt, ge_iff_le, ne_eq] at b2
  refine wpA_exit ?_
  refine wpA_region ?_
  refine wpL_op rfl rfl rfl (OpA.addi rfl rfl rfl (by omega) ?_)
  refine wpL_op rfl rfl rfl (OpA.mv rfl (by with_reducible conv => lhs; whnf) ?_)
  refine wpL_nil ?_
  exact ⟨_, _, by omega, ⟨k0 + 1, _, rfl, ⟨by omega, hT2.less (by intro i j h1 h2 h3; first | omega | (dsimp only at *; omega))⟩, rfl, rfl⟩, Cov.asg ⟨rfl, rfl, rfl, rfl, rfl, rfl, rfl, trivial⟩⟩
  try simp only [decide_eq_true_eq, decide_eq_false_iff_not, beq_iff_eq, bne_iff_ne, beq_eq_false_iff_ne, bne_eq_false_iff_eq, Bool.not_eq_true', Bool.not_eq_false', Int.not_lt, Int.not_le, gt_iff_lt, ge_iff_le, ne_eq] at b1
  refine wpA_exit ?_
  refine wpA_seq ?_
  refine wpA_region ?_
  refine wpL_op rfl rfl rfl (OpA.mv rfl (by with_reducible conv => lhs; whnf) ?_)
  refine wpL_op rfl rfl rfl (OpA.asn rfl (by with_reducible conv => lhs; whnf) ?_)
  refine wpL_nil ?_
  refine wpA_ret ?_
  refine ⟨_, (.tmp (by with_reducible conv => lhs; whnf) .nil), _, (hT.snap (by intro i j h1 h2; first | omega | (dsimp only; omega)) (by first | exact .head | exact .tail .head) (by first | exact .head | exact .tail .head) .nil), ?_⟩
  (try simp only [tupD]) <;> (rfl)
end Go.Proofs.Ythggcjnmodeehaa
