/-
  walks
-/
import Derived.Test.YthggcjnmodeehaaW8
set_option linter.all false
namespace Go.Proofs.Ythggcjnmodeehaa
open Go Go.Lic

set_option maxRecDepth 8000 in
theorem rests_fun (a b : List Lexeme) (c : Costs) (hck : checkF a b c = 0) : Fun false Try.prog 41 [encWords a, encWords b, encCosts c] (fun d => d = encTable (backF a b c)) := by
  obtain ⟨hok, ha, hb⟩ := checkF_ok hck
  have hcc := checkF_zero hck
  refine Fun.of_body Try.func41 rfl Try.ntmps41 rfl ?_
  refine wpA_seq ?_
  refine wpA_region ?_
  refine wpL_op rfl rfl rfl (OpA.bx (sz := 3) rfl (by with_reducible conv => lhs; whnf) (.of rfl) (fun c5 _ => ?_))
  refine wpL_op rfl rfl rfl (OpA.asn rfl (by with_reducible conv => lhs; whnf) ?_)
  refine wpL_nil ?_
  refine wpA_seq ?_
  refine wpA_region ?_
  refine wpL_op rfl rfl rfl (OpA.mv rfl (by with_reducible conv => lhs; whnf) ?_)
  first
    | refine wpL_op rfl rfl rfl (OpA.len rfl rfl rfl rfl ts22.desc (.inl ⟨_, _, rfl, (List.length_map _).symm⟩) ?_)
    | refine wpL_op rfl rfl rfl (OpA.len rfl rfl rfl rfl ts22.desc (.inl ⟨_, _, rfl, rfl⟩) ?_)
    | refine wpL_op rfl rfl rfl (OpA.len rfl rfl rfl rfl ts22.desc (.inr (.inl ⟨_, _, _, rfl⟩)) ?_)
    | refine wpL_op rfl rfl rfl (OpA.len rfl rfl rfl rfl ts22.desc (.inr (.inr ⟨rfl, rfl⟩)) ?_)
  refine wpL_op rfl rfl rfl (OpA.addi rfl rfl rfl (by omega) ?_)
  refine wpL_op rfl rfl rfl (OpA.makeSlice (d := .v (.slice none 0 0)) rfl ts48 rfl rfl tz25 (fun _ _ => .v _) (.of rfl) (by omega) (by omega) (by omega) (by omega) (fun c14 => ?_))
  refine wpL_op rfl rfl rfl (OpA.asn rfl (by with_reducible conv => lhs; whnf) ?_)
  refine wpL_nil ?_
  refine wpA_seq ?_
  refine wpA_seq ?_
  refine wpA_region ?_
  refine wpL_op rfl rfl rfl (OpA.mv rfl (by with_reducible conv => lhs; whnf) ?_)
  first
    | refine wpL_op rfl rfl rfl (OpA.len rfl rfl rfl rfl ts22.desc (.inl ⟨_, _, rfl, (List.length_map _).symm⟩) ?_)
    | refine wpL_op rfl rfl rfl (OpA.len rfl rfl rfl rfl ts22.desc (.inl ⟨_, _, rfl, rfl⟩) ?_)
    | refine wpL_op rfl rfl rfl (OpA.len rfl rfl rfl rfl ts22.desc (.inr (.inl ⟨_, _, _, rfl⟩)) ?_)
    | refine wpL_op rfl rfl rfl (OpA.len rfl rfl rfl rfl ts22.desc (.inr (.inr ⟨rfl, rfl⟩)) ?_)
  refine wpL_op rfl rfl rfl (OpA.asn rfl (by with_reducible conv => lhs; whnf) ?_)
  refine wpL_nil ?_
  refine wpA_block ?_
  refine wpA_loopP (fun mm fr h => ∃ (t : Int) (es : List D) (hs : Heap), mm = (t + 1).toNat ∧ (-1 ≤ t ∧ t ≤ a.length ∧ OwnRows hs es a.length b.length (fun i => t < i) (bkv a b c) ∧ Has c5 (.cells 3 [encCosts c]) hs) ∧ fr = asg [(0, encWords a), (1, encWords b), (5, .ptr c5 3 0 0), (6, .v (.slice none 0 0)), (7, .own c14 1 0 (a.length + 1)), (8, .i t)] ∧ h = (c14, .cells 1 es) :: hs) ⟨_, _, _, ⟨(a.length : Int), List.replicate (a.length + 1) (.v (.slice none 0 0)), _, rfl, ⟨by omega, by omega, OwnRows.zero (by intro i h1 h2; first | omega | (dsimp only at *; omega)), .head⟩, rfl, rfl⟩, .refl _, Cov.asg ⟨rfl, rfl, rfl, rfl, rfl, rfl, trivial⟩⟩ ?_
  rintro k fr h ⟨t, es, hs, rfl, ⟨ht0, ht1, hR, hc5⟩, rfl, rfl⟩
  refine wpA_seq ?_
  refine wpA_seq ?_
  refine wpA_region ?_
  refine wpL_op rfl rfl rfl (OpA.mv rfl (by with_reducible conv => lhs; whnf) ?_)
  refine wpL_op rfl rfl rfl (OpA.geq rfl rfl rfl ?_)
  refine wpL_nil ?_
  refine wpA_cond rfl (fun b1 => ?_) (fun b1 => ?_)
  try simp only [decide_eq_true_eq, decide_eq_false_iff_not, beq_iff_eq, bne_iff_ne, beq_eq_false_iff_ne, bne_eq_false_iff_eq, Bool.not_eq_true', Bool.not_eq_false', Int.not_lt, Int.not_le, gt_iff_lt, ge_iff_le, ne_eq] at b1
  obtain ⟨k, rfl⟩ : ∃ k : Nat, t = k := ⟨t.toNat, by omega⟩
  refine wpA_skip ?_
  refine wpA_seq ?_
  refine wpA_block ?_
  refine wpA_seq ?_
  refine wpA_region ?_
  refine wpL_op rfl rfl rfl (OpA.mv rfl (by with_reducible conv => lhs; whnf) ?_)
  refine wpL_op rfl rfl rfl (OpA.mv rfl (by with_reducible conv => lhs; whnf) ?_)
  refine wpL_op rfl rfl rfl (OpA.mv rfl (by with_reducible conv => lhs; whnf) ?_)
  first
    | refine wpL_op rfl rfl rfl (OpA.len rfl rfl rfl rfl ts22.desc (.inl ⟨_, _, rfl, (List.length_map _).symm⟩) ?_)
    | refine wpL_op rfl rfl rfl (OpA.len rfl rfl rfl rfl ts22.desc (.inl ⟨_, _, rfl, rfl⟩) ?_)
    | refine wpL_op rfl rfl rfl (OpA.len rfl rfl rfl rfl ts22.desc (.inr (.inl ⟨_, _, _, rfl⟩)) ?_)
    | refine wpL_op rfl rfl rfl (OpA.len rfl rfl rfl rfl ts22.desc (.inr (.inr ⟨rfl, rfl⟩)) ?_)
  refine wpL_op rfl rfl rfl (OpA.addi rfl rfl rfl (by omega) ?_)
  refine wpL_op rfl rfl rfl (OpA.makeSlice (d := .v (.int .i64 0)) rfl ts25 rfl rfl tz3 (fun _ _ => .v _) (.of rfl) (by omega) (by omega) (by omega) (by omega) (fun c26 => ?_))
  refine wpL_op rfl rfl rfl (OpA.ixN rfl ts48 rfl rfl (by first | exact nat_lit0 | exact nat_lit1 | exact nat_lit2 | exact nat_add1 _ | exact nat_add _ _ | exact rfl | exact nat_sub1 (by omega) | exact nat_sub (by omega) | exact natp1 (nat_sub (by omega)) | exact nat_of (by omega)) (by omega) ?_)
  refine wpL_eff rfl rfl (OpA.storeR rfl ti25 rfl rfl rfl (.of rfl) (by rw [hR.1]; omega) hR.2.1 (.tail .head) ?_)
  refine wpL_nil ?_
  refine wpA_seq ?_
  refine wpA_region ?_
  refine wpL_op rfl rfl rfl (OpA.mv rfl (by with_reducible conv => lhs; whnf) ?_)
  first
    | refine wpL_op rfl rfl rfl (OpA.len rfl rfl rfl rfl ts22.desc (.inl ⟨_, _, rfl, (List.length_map _).symm⟩) ?_)
    | refine wpL_op rfl rfl rfl (OpA.len rfl rfl rfl rfl ts22.desc (.inl ⟨_, _, rfl, rfl⟩) ?_)
    | refine wpL_op rfl rfl rfl (OpA.len rfl rfl rfl rfl ts22.desc (.inr (.inl ⟨_, _, _, rfl⟩)) ?_)
    | refine wpL_op rfl rfl rfl (OpA.len rfl rfl rfl rfl ts22.desc (.inr (.inr ⟨rfl, rfl⟩)) ?_)
  refine wpL_op rfl rfl rfl (OpA.asn rfl (by with_reducible conv => lhs; whnf) ?_)
  refine wpL_nil ?_
  refine wpA_block ?_
  refine wpA_loopE (fun mm fr h => ∃ (u : Int) (l : List Int), mm = (u + 1).toNat ∧ (-1 ≤ u ∧ u ≤ b.length ∧ l.length = b.length + 1 ∧ ∀ j, j ≤ b.length → u < (j : Int) → l[j]? = some (bkv a b c k j)) ∧ fr = asg [(0, encWords a), (1, encWords b), (5, .ptr c5 3 0 0), (6, .v (.slice none 0 0)), (7, .own c14 1 0 (a.length + 1)), (8, .i k), (9, .i u)] ∧ h = (c26, .cells 1 (l.map D.i)) :: (c14, .cells 1 (es.set (0 + k) (.own c26 1 0 (b.length + 1)))) :: hs) ⟨_, _, ⟨(b.length : Int), List.replicate (b.length + 1) 0, rfl, ⟨by omega, by omega, by simp, by intro j h1 h2; omega⟩, rfl, (by rw [List.map_replicate]; rfl)⟩, Cov.asg ⟨rfl, rfl, rfl, rfl, rfl, rfl, rfl, trivial⟩⟩ ?_
  rintro k fr h ⟨u, l, rfl, ⟨hu0, hu1, hl, hL⟩, rfl, rfl⟩
  have hk2 : (es.set (0 + k) (.own c26 1 0 (b.length + 1)))[k]? = some (.own c26 1 0 (b.length + 1)) := by rw [Nat.zero_add, List.getElem?_set_self (by rw [hR.1]; omega)]
  have hR2 : OwnRows hs (es.set (0 + k) (.own c26 1 0 (b.length + 1))) a.length b.length (fun i => (k : Int) < i) (bkv a b c) := hR.set (by intro i h1 h2; first | omega | (dsimp only at *; omega))
  refine wpA_seq ?_
  refine wpA_seq ?_
  refine wpA_region ?_
  refine wpL_op rfl rfl rfl (OpA.mv rfl (by with_reducible conv => lhs; whnf) ?_)
  refine wpL_op rfl rfl rfl (OpA.geq rfl rfl rfl ?_)
  refine wpL_nil ?_
  refine wpA_cond rfl (fun b2 => ?_) (fun b2 => ?_)
  try simp only [decide_eq_true_eq, decide_eq_false_iff_not, beq_iff_eq, bne_iff_ne, beq_eq_false_iff_ne, bne_eq_false_iff_eq, Bool.not_eq_true', Bool.not_eq_false', Int.not_lt, Int.not_le, gt_iff_lt, ge_iff_le, ne_eq] at b2
  obtain ⟨j, rfl⟩ : ∃ j : Nat, u = j := ⟨u.toNat, by omega⟩
  have hx00 := bkv_bd hok ha hb (k) (j)
  have hx11 := bkv_bd hok ha hb (k + 1) (j + 1)
  have hx10 := bkv_bd hok ha hb (k + 1) (j)
  have hx01 := bkv_bd hok ha hb (k) (j + 1)
  have hr0 := bkv_r0 (a := a) (b := b) (c := c) (i := k) (j := j)
  have hr1 := bkv_r1 (a := a) (b := b) (c := c) (i := k) (j := j)
  have hr2 := bkv_r2 (a := a) (b := b) (c := c) (i := k) (j := j)
  have hk2 : (es.set (0 + k) (.own c26 1 0 (b.length + 1)))[k]? = some (.own c26 1 0 (b.length + 1)) := by rw [Nat.zero_add, List.getElem?_set_self (by rw [hR.1]; omega)]
  have hR2 : OwnRows hs (es.set (0 + k) (.own c26 1 0 (b.length + 1))) a.length b.length (fun i => (k : Int) < i) (bkv a b c) := hR.set (by intro i h1 h2; first | omega | (dsimp only at *; omega))
  refine wpA_skip ?_
  refine wpA_seq ?_
  refine wpA_block ?_
  refine wpA_seq ?_
  refine wpA_region ?_
  refine wpL_op rfl rfl rfl (OpA.asn rfl (by with_reducible conv => lhs; whnf) ?_)
  refine wpL_nil ?_
  refine wpA_seq ?_
  refine wpA_seq ?_
  refine wpA_region ?_
  refine wpL_op rfl rfl rfl (OpA.mv rfl (by with_reducible conv => lhs; whnf) ?_)
  refine wpL_op rfl rfl rfl (OpA.mv rfl (by with_reducible conv => lhs; whnf) ?_)
  first
    | refine wpL_op rfl rfl rfl (OpA.len rfl rfl rfl rfl ts22.desc (.inl ⟨_, _, rfl, (List.length_map _).symm⟩) ?_)
    | refine wpL_op rfl rfl rfl (OpA.len rfl rfl rfl rfl ts22.desc (.inl ⟨_, _, rfl, rfl⟩) ?_)
    | refine wpL_op rfl rfl rfl (OpA.len rfl rfl rfl rfl ts22.desc (.inr (.inl ⟨_, _, _, rfl⟩)) ?_)
    | refine wpL_op rfl rfl rfl (OpA.len rfl rfl rfl rfl ts22.desc (.inr (.inr ⟨rfl, rfl⟩)) ?_)
  refine wpL_op rfl rfl rfl (OpA.lss rfl rfl rfl ?_)
  refine wpL_nil ?_
  refine wpA_cond rfl (fun b3 => ?_) (fun b3 => ?_)
  try simp only [decide_eq_true_eq, decide_eq_false_iff_not, beq_iff_eq, bne_iff_ne, beq_eq_false_iff_ne, bne_eq_false_iff_eq, Bool.not_eq_true', Bool.not_eq_false', Int.not_lt, Int.not_le, gt_iff_lt, ge_iff_le, ne_eq] at b3
  obtain ⟨cn, hcn, hHn⟩ := hR2.at (k + 1) (by omega) (by first | omega | (dsimp only; omega))
  refine wpA_draw (m := 12) mo (by kernel_rfl) rfl ?_
  refine DetK.op rfl (OpA.mv rfl (by with_reducible conv => lhs; whnf) ⟨rfl, rfl⟩) ?_
  refine DetK.op rfl (OpA.mv rfl (by with_reducible conv => lhs; whnf) ⟨rfl, rfl⟩) ?_
  refine DetK.op rfl (OpA.addi rfl rfl rfl (by omega) ⟨rfl, rfl⟩) ?_
  refine DetK.op rfl (OpA.ixN rfl ts48 rfl rfl (by first | exact nat_lit0 | exact nat_lit1 | exact nat_lit2 | exact nat_add1 _ | exact nat_add _ _ | exact rfl | exact nat_sub1 (by omega) | exact nat_sub (by omega) | exact natp1 (nat_sub (by omega)) | exact nat_of (by omega)) (by omega) ⟨rfl, rfl⟩) ?_
  refine DetK.op rfl (OpA.load rfl ti25 rfl (.tail .head) (at0 hcn) rfl ⟨rfl, rfl⟩) ?_
  refine DetK.op rfl (OpA.mv rfl (by with_reducible conv => lhs; whnf) ⟨rfl, rfl⟩) ?_
  refine DetK.op rfl (OpA.ixN rfl ts25 rfl rfl (by first | exact nat_lit0 | exact nat_lit1 | exact nat_lit2 | exact nat_add1 _ | exact nat_add _ _ | exact rfl | exact nat_sub1 (by omega) | exact nat_sub (by omega) | exact natp1 (nat_sub (by omega)) | exact nat_of (by omega)) (by omega) ⟨rfl, rfl⟩) ?_
  refine DetK.op rfl (OpA.load rfl ti3 rfl (.tail (.tail hHn)) (at0 (cellB (by omega))) rfl ⟨rfl, rfl⟩) ?_
  refine DetK.op rfl (OpA.fieldAddr rfl tf24_1 rfl ⟨rfl, rfl⟩) ?_
  refine DetK.op rfl (OpA.load rfl ti3 rfl (.tail (.tail hc5)) (by first | rfl | exact getM _ _ _ (by omega) | exact getO (by omega) | exact getL _ _ (by omega) | (simp; done)) (by first | rfl | exact getM _ _ _ (by omega) | exact getO (by omega) | exact getL _ _ (by omega) | (simp; done)) ⟨rfl, rfl⟩) ?_
  refine DetK.op rfl (OpA.addi rfl rfl rfl (by omega) ⟨rfl, rfl⟩) ?_
  refine DetK.op rfl (OpA.asn rfl (by with_reducible conv => lhs; whnf) ⟨rfl, rfl⟩) ?_
  refine DetK.nil ?_
  refine wpL_nil ?_
  refine wpA_seq ?_
  refine wpA_seq ?_
  refine wpA_draw (m := 23) mo (by kernel_rfl) rfl ?_
  refine DetK.op rfl (OpA.mv rfl (by with_reducible conv => lhs; whnf) ⟨rfl, rfl⟩) ?_
  refine DetK.op rfl (OpA.mv rfl (by with_reducible conv => lhs; whnf) ⟨rfl, rfl⟩) ?_
  first
    | refine DetK.op rfl (OpA.len rfl rfl rfl rfl ts22.desc (.inl ⟨_, _, rfl, (List.length_map _).symm⟩) ⟨rfl, rfl⟩) ?_
    | refine DetK.op rfl (OpA.len rfl rfl rfl rfl ts22.desc (.inl ⟨_, _, rfl, rfl⟩) ⟨rfl, rfl⟩) ?_
    | refine DetK.op rfl (OpA.len rfl rfl rfl rfl ts22.desc (.inr (.inl ⟨_, _, _, rfl⟩)) ⟨rfl, rfl⟩) ?_
    | refine DetK.op rfl (OpA.len rfl rfl rfl rfl ts22.desc (.inr (.inr ⟨rfl, rfl⟩)) ⟨rfl, rfl⟩) ?_
  refine DetK.op rfl (OpA.lss rfl rfl rfl ⟨rfl, rfl⟩) ?_
  refine DetK.op rfl (OpA.mv rfl (by with_reducible conv => lhs; whnf) ⟨rfl, rfl⟩) ?_
  refine DetK_split (s := 53) rfl (fun b4 => ?_) (fun b4 => ?_)
  try simp only [decide_eq_true_eq, decide_eq_false_iff_not, beq_iff_eq, bne_iff_ne, beq_eq_false_iff_ne, bne_eq_false_iff_eq, Bool.not_eq_true', Bool.not_eq_false', Int.not_lt, Int.not_le, gt_iff_lt, ge_iff_le, ne_eq] at b4
  refine DetK.opg rfl rfl rfl rfl (OpA.mv rfl (by with_reducible conv => lhs; whnf) ⟨rfl, rfl⟩) ?_
  refine DetK.opg rfl rfl rfl rfl (OpA.lss rfl rfl rfl ⟨rfl, rfl⟩) ?_
  refine DetK.opg rfl rfl rfl rfl (OpA.mv rfl (by with_reducible conv => lhs; whnf) ⟨rfl, rfl⟩) ?_
  refine DetK_split (s := 56) rfl (fun b5 => ?_) (fun b5 => ?_)
  try simp only [decide_eq_true_eq, decide_eq_false_iff_not, beq_iff_eq, bne_iff_ne, beq_eq_false_iff_ne, bne_eq_false_iff_eq, Bool.not_eq_true', Bool.not_eq_false', Int.not_lt, Int.not_le, gt_iff_lt, ge_iff_le, ne_eq] at b5
  exfalso; first | contradiction | omega
  try simp only [decide_eq_true_eq, decide_eq_false_iff_not, beq_iff_eq, bne_iff_ne, beq_eq_false_iff_ne, bne_eq_false_iff_eq, Bool.not_eq_true', Bool.not_eq_false', Int.not_lt, Int.not_le, gt_iff_lt, ge_iff_le, ne_eq] at b5
  refine DetK.opg rfl rfl rfl rfl (OpA.mv rfl (by with_reducible conv => lhs; whnf) ⟨rfl, rfl⟩) ?_
  refine DetK.opg rfl rfl rfl rfl (OpA.mv rfl (by with_reducible conv => lhs; whnf) ⟨rfl, rfl⟩) ?_
  refine DetK.opg rfl rfl rfl rfl (OpA.ixN rfl ts48 rfl rfl (by first | exact nat_lit0 | exact nat_lit1 | exact nat_lit2 | exact nat_add1 _ | exact nat_add _ _ | exact rfl | exact nat_sub1 (by omega) | exact nat_sub (by omega) | exact natp1 (nat_sub (by omega)) | exact nat_of (by omega)) (by omega) ⟨rfl, rfl⟩) ?_
  refine DetK.opg rfl rfl rfl rfl (OpA.load rfl ti25 rfl (.tail .head) (at0 hk2) rfl ⟨rfl, rfl⟩) ?_
  refine DetK.opg rfl rfl rfl rfl (OpA.mv rfl (by with_reducible conv => lhs; whnf) ⟨rfl, rfl⟩) ?_
  refine DetK.opg rfl rfl rfl rfl (OpA.addi rfl rfl rfl (by omega) ⟨rfl, rfl⟩) ?_
  refine DetK.opg rfl rfl rfl rfl (OpA.ixN rfl ts25 rfl rfl (by first | exact nat_lit0 | exact nat_lit1 | exact nat_lit2 | exact nat_add1 _ | exact nat_add _ _ | exact rfl | exact nat_sub1 (by omega) | exact nat_sub (by omega) | exact natp1 (nat_sub (by omega)) | exact nat_of (by omega)) (by omega) ⟨rfl, rfl⟩) ?_
  refine DetK.opg rfl rfl rfl rfl (OpA.load rfl ti3 rfl .head (mapI (hL (j + 1) (by omega) (by omega))) rfl ⟨rfl, rfl⟩) ?_
  refine DetK.opg rfl rfl rfl rfl (OpA.fieldAddr rfl tf24_2 rfl ⟨rfl, rfl⟩) ?_
  refine DetK.opg rfl rfl rfl rfl (OpA.load rfl ti3 rfl (.tail (.tail hc5)) (by first | rfl | exact getM _ _ _ (by omega) | exact getO (by omega) | exact getL _ _ (by omega) | (simp; done)) (by first | rfl | exact getM _ _ _ (by omega) | exact getO (by omega) | exact getL _ _ (by omega) | (simp; done)) ⟨rfl, rfl⟩) ?_
  refine DetK.opg rfl rfl rfl rfl (OpA.addi rfl rfl rfl (by omega) ⟨rfl, rfl⟩) ?_
  refine DetK.opg rfl rfl rfl rfl (OpA.mv rfl (by with_reducible conv => lhs; whnf) ⟨rfl, rfl⟩) ?_
  refine DetK.opg rfl rfl rfl rfl (OpA.lss rfl rfl rfl ⟨rfl, rfl⟩) ?_
  refine DetK.opg rfl rfl rfl rfl (OpA.pck rfl rfl (by with_reducible conv => lhs; whnf) ⟨rfl, rfl⟩) ?_
  refine DetK.op rfl (OpA.pck rfl rfl (by with_reducible conv => lhs; whnf) ⟨rfl, rfl⟩) ?_
  refine DetK.nil ?_
  refine wpL_nil ?_
  refine wpA_cond rfl (fun b6 => ?_) (fun b6 => ?_)
  try simp only [decide_eq_true_eq, decide_eq_false_iff_not, beq_iff_eq, bne_iff_ne, beq_eq_false_iff_ne, bne_eq_false_iff_eq, Bool.not_eq_true', Bool.not_eq_false', Int.not_lt, Int.not_le, gt_iff_lt, ge_iff_le, ne_eq] at b6
  refine wpA_draw (m := 12) mo (by kernel_rfl) rfl ?_
  refine DetK.op rfl (OpA.mv rfl (by with_reducible conv => lhs; whnf) ⟨rfl, rfl⟩) ?_
  refine DetK.op rfl (OpA.mv rfl (by with_reducible conv => lhs; whnf) ⟨rfl, rfl⟩) ?_
  refine DetK.op rfl (OpA.ixN rfl ts48 rfl rfl (by first | exact nat_lit0 | exact nat_lit1 | exact nat_lit2 | exact nat_add1 _ | exact nat_add _ _ | exact rfl | exact nat_sub1 (by omega) | exact nat_sub (by omega) | exact natp1 (nat_sub (by omega)) | exact nat_of (by omega)) (by omega) ⟨rfl, rfl⟩) ?_
  refine DetK.op rfl (OpA.load rfl ti25 rfl (.tail .head) (at0 hk2) rfl ⟨rfl, rfl⟩) ?_
  refine DetK.op rfl (OpA.mv rfl (by with_reducible conv => lhs; whnf) ⟨rfl, rfl⟩) ?_
  refine DetK.op rfl (OpA.addi rfl rfl rfl (by omega) ⟨rfl, rfl⟩) ?_
  refine DetK.op rfl (OpA.ixN rfl ts25 rfl rfl (by first | exact nat_lit0 | exact nat_lit1 | exact nat_lit2 | exact nat_add1 _ | exact nat_add _ _ | exact rfl | exact nat_sub1 (by omega) | exact nat_sub (by omega) | exact natp1 (nat_sub (by omega)) | exact nat_of (by omega)) (by omega) ⟨rfl, rfl⟩) ?_
  refine DetK.op rfl (OpA.load rfl ti3 rfl .head (mapI (hL (j + 1) (by omega) (by omega))) rfl ⟨rfl, rfl⟩) ?_
  refine DetK.op rfl (OpA.fieldAddr rfl tf24_2 rfl ⟨rfl, rfl⟩) ?_
  refine DetK.op rfl (OpA.load rfl ti3 rfl (.tail (.tail hc5)) (by first | rfl | exact getM _ _ _ (by omega) | exact getO (by omega) | exact getL _ _ (by omega) | (simp; done)) (by first | rfl | exact getM _ _ _ (by omega) | exact getO (by omega) | exact getL _ _ (by omega) | (simp; done)) ⟨rfl, rfl⟩) ?_
  refine DetK.op rfl (OpA.addi rfl rfl rfl (by omega) ⟨rfl, rfl⟩) ?_
  refine DetK.op rfl (OpA.asn rfl (by with_reducible conv => lhs; whnf) ⟨rfl, rfl⟩) ?_
  refine DetK.nil ?_
  refine wpL_nil ?_
  refine wpA_seq ?_
  refine wpA_seq ?_
  refine wpA_draw (m := 34) mo (by kernel_rfl) rfl ?_
  refine DetK.op rfl (OpA.mv rfl (by with_reducible conv => lhs; whnf) ⟨rfl, rfl⟩) ?_
  refine DetK.op rfl (OpA.mv rfl (by with_reducible conv => lhs; whnf) ⟨rfl, rfl⟩) ?_
  first
    | refine DetK.op rfl (OpA.len rfl rfl rfl rfl ts22.desc (.inl ⟨_, _, rfl, (List.length_map _).symm⟩) ⟨rfl, rfl⟩) ?_
    | refine DetK.op rfl (OpA.len rfl rfl rfl rfl ts22.desc (.inl ⟨_, _, rfl, rfl⟩) ⟨rfl, rfl⟩) ?_
    | refine DetK.op rfl (OpA.len rfl rfl rfl rfl ts22.desc (.inr (.inl ⟨_, _, _, rfl⟩)) ⟨rfl, rfl⟩) ?_
    | refine DetK.op rfl (OpA.len rfl rfl rfl rfl ts22.desc (.inr (.inr ⟨rfl, rfl⟩)) ⟨rfl, rfl⟩) ?_
  refine DetK.op rfl (OpA.lss rfl rfl rfl ⟨rfl, rfl⟩) ?_
  refine DetK.op rfl (OpA.mv rfl (by with_reducible conv => lhs; whnf) ⟨rfl, rfl⟩) ?_
  refine DetK_split (s := 87) rfl (fun b7 => ?_) (fun b7 => ?_)
  try simp only [decide_eq_true_eq, decide_eq_false_iff_not, beq_iff_eq, bne_iff_ne, beq_eq_false_iff_ne, bne_eq_false_iff_eq, Bool.not_eq_true', Bool.not_eq_false', Int.not_lt, Int.not_le, gt_iff_lt, ge_iff_le, ne_eq] at b7
  refine DetK.opg rfl rfl rfl rfl (OpA.mv rfl (by with_reducible conv => lhs; whnf) ⟨rfl, rfl⟩) ?_
  refine DetK.opg rfl rfl rfl rfl (OpA.mv rfl (by with_reducible conv => lhs; whnf) ⟨rfl, rfl⟩) ?_
  first
    | refine DetK.opg rfl rfl rfl rfl (OpA.len rfl rfl rfl rfl ts22.desc (.inl ⟨_, _, rfl, (List.length_map _).symm⟩) ⟨rfl, rfl⟩) ?_
    | refine DetK.opg rfl rfl rfl rfl (OpA.len rfl rfl rfl rfl ts22.desc (.inl ⟨_, _, rfl, rfl⟩) ⟨rfl, rfl⟩) ?_
    | refine DetK.opg rfl rfl rfl rfl (OpA.len rfl rfl rfl rfl ts22.desc (.inr (.inl ⟨_, _, _, rfl⟩)) ⟨rfl, rfl⟩) ?_
    | refine DetK.opg rfl rfl rfl rfl (OpA.len rfl rfl rfl rfl ts22.desc (.inr (.inr ⟨rfl, rfl⟩)) ⟨rfl, rfl⟩) ?_
  refine DetK.opg rfl rfl rfl rfl (OpA.lss rfl rfl rfl ⟨rfl, rfl⟩) ?_
  refine DetK.op rfl (OpA.pck rfl rfl (by with_reducible conv => lhs; whnf) ⟨rfl, rfl⟩) ?_
  refine DetK.op rfl (OpA.mv rfl (by with_reducible conv => lhs; whnf) ⟨rfl, rfl⟩) ?_
  refine DetK_split (s := 93) rfl (fun b8 => ?_) (fun b8 => ?_)
  try simp only [decide_eq_true_eq, decide_eq_false_iff_not, beq_iff_eq, bne_iff_ne, beq_eq_false_iff_ne, bne_eq_false_iff_eq, Bool.not_eq_true', Bool.not_eq_false', Int.not_lt, Int.not_le, gt_iff_lt, ge_iff_le, ne_eq] at b8
  have hpb := pairF_bd (x := a[k]'(by omega)) (y := b[j]'(by omega)) hcc.1
  have hr3 := bkv_r3 (a := a) (b := b) (c := c) (i := k) (j := j) (by omega) (by omega)
  refine DetK.opg rfl rfl rfl rfl (OpA.mv rfl (by with_reducible conv => lhs; whnf) ⟨rfl, rfl⟩) ?_
  refine DetK.opg rfl rfl rfl rfl (OpA.mv rfl (by with_reducible conv => lhs; whnf) ⟨rfl, rfl⟩) ?_
  refine DetK.opg rfl rfl rfl rfl (OpA.addi rfl rfl rfl (by omega) ⟨rfl, rfl⟩) ?_
  refine DetK.opg rfl rfl rfl rfl (OpA.ixN rfl ts48 rfl rfl (by first | exact nat_lit0 | exact nat_lit1 | exact nat_lit2 | exact nat_add1 _ | exact nat_add _ _ | exact rfl | exact nat_sub1 (by omega) | exact nat_sub (by omega) | exact natp1 (nat_sub (by omega)) | exact nat_of (by omega)) (by omega) ⟨rfl, rfl⟩) ?_
  refine DetK.opg rfl rfl rfl rfl (OpA.load rfl ti25 rfl (.tail .head) (at0 hcn) rfl ⟨rfl, rfl⟩) ?_
  refine DetK.opg rfl rfl rfl rfl (OpA.mv rfl (by with_reducible conv => lhs; whnf) ⟨rfl, rfl⟩) ?_
  refine DetK.opg rfl rfl rfl rfl (OpA.addi rfl rfl rfl (by omega) ⟨rfl, rfl⟩) ?_
  refine DetK.opg rfl rfl rfl rfl (OpA.ixN rfl ts25 rfl rfl (by first | exact nat_lit0 | exact nat_lit1 | exact nat_lit2 | exact nat_add1 _ | exact nat_add _ _ | exact rfl | exact nat_sub1 (by omega) | exact nat_sub (by omega) | exact natp1 (nat_sub (by omega)) | exact nat_of (by omega)) (by omega) ⟨rfl, rfl⟩) ?_
  refine DetK.opg rfl rfl rfl rfl (OpA.load rfl ti3 rfl (.tail (.tail hHn)) (at0 (cellB (by omega))) rfl ⟨rfl, rfl⟩) ?_
  refine DetK.opg rfl rfl rfl rfl (OpA.mv rfl (by with_reducible conv => lhs; whnf) ⟨rfl, rfl⟩) ?_
  refine DetK.opg rfl rfl rfl rfl (OpA.mv rfl (by with_reducible conv => lhs; whnf) ⟨rfl, rfl⟩) ?_
  first
    | refine DetK.opg rfl rfl rfl rfl (OpA.iixN rfl ts22 rfl rfl rfl (by first | exact nat_lit0 | exact nat_lit1 | exact nat_lit2 | exact nat_add1 _ | exact nat_add _ _ | exact rfl | exact nat_sub1 (by omega) | exact nat_sub (by omega) | exact natp1 (nat_sub (by omega)) | exact nat_of (by omega)) (by first | rfl | exact getM _ _ _ (by omega) | exact getO (by omega) | exact getL _ _ (by omega) | (simp; done)) ⟨rfl, rfl⟩) ?_
    | refine DetK.opg rfl rfl rfl rfl (OpA.ixN rfl ts22 rfl rfl (by first | exact nat_lit0 | exact nat_lit1 | exact nat_lit2 | exact nat_add1 _ | exact nat_add _ _ | exact rfl | exact nat_sub1 (by omega) | exact nat_sub (by omega) | exact natp1 (nat_sub (by omega)) | exact nat_of (by omega)) (by omega) ⟨rfl, rfl⟩) ?_
  first
    | refine DetK.opg rfl rfl rfl rfl (OpA.load_whole rfl ti40 rfl rfl (by first | exact .head | exact .tail .head | exact .tail (.tail .head) | exact .tail (.tail (.tail .head)) | exact .tail (.tail (.tail (.tail .head)))) (by first | rfl | exact getM _ _ _ (by omega) | exact getO (by omega) | exact getL _ _ (by omega) | (simp; done)) ⟨_, rfl⟩ ⟨rfl, rfl⟩) ?_
    | refine DetK.opg rfl rfl rfl rfl (OpA.iload_whole rfl ti40 rfl ⟨_, rfl, rfl⟩ ⟨rfl, rfl⟩) ?_
    | refine DetK.opg rfl rfl rfl rfl (OpA.load_agg rfl ti40 rfl (by first | exact .head | exact .tail .head | exact .tail (.tail .head) | exact .tail (.tail (.tail .head)) | exact .tail (.tail (.tail (.tail .head)))) (by first | rfl | exact getM _ _ _ (by omega) | exact getO (by omega) | exact getL _ _ (by omega) | (simp; done)) rfl rfl ⟨rfl, rfl⟩) ?_
    | refine DetK.opg rfl rfl rfl rfl (OpA.iload_agg rfl ti40 rfl rfl rfl ⟨rfl, rfl⟩) ?_
  refine DetK.opg rfl rfl rfl rfl (OpA.mv rfl (by with_reducible conv => lhs; whnf) ⟨rfl, rfl⟩) ?_
  refine DetK.opg rfl rfl rfl rfl (OpA.mv rfl (by with_reducible conv => lhs; whnf) ⟨rfl, rfl⟩) ?_
  first
    | refine DetK.opg rfl rfl rfl rfl (OpA.iixN rfl ts22 rfl rfl rfl (by first | exact nat_lit0 | exact nat_lit1 | exact nat_lit2 | exact nat_add1 _ | exact nat_add _ _ | exact rfl | exact nat_sub1 (by omega) | exact nat_sub (by omega) | exact natp1 (nat_sub (by omega)) | exact nat_of (by omega)) (by first | rfl | exact getM _ _ _ (by omega) | exact getO (by omega) | exact getL _ _ (by omega) | (simp; done)) ⟨rfl, rfl⟩) ?_
    | refine DetK.opg rfl rfl rfl rfl (OpA.ixN rfl ts22 rfl rfl (by first | exact nat_lit0 | exact nat_lit1 | exact nat_lit2 | exact nat_add1 _ | exact nat_add _ _ | exact rfl | exact nat_sub1 (by omega) | exact nat_sub (by omega) | exact natp1 (nat_sub (by omega)) | exact nat_of (by omega)) (by omega) ⟨rfl, rfl⟩) ?_
  first
    | refine DetK.opg rfl rfl rfl rfl (OpA.load_whole rfl ti40 rfl rfl (by first | exact .head | exact .tail .head | exact .tail (.tail .head) | exact .tail (.tail (.tail .head)) | exact .tail (.tail (.tail (.tail .head)))) (by first | rfl | exact getM _ _ _ (by omega) | exact getO (by omega) | exact getL _ _ (by omega) | (simp; done)) ⟨_, rfl⟩ ⟨rfl, rfl⟩) ?_
    | refine DetK.opg rfl rfl rfl rfl (OpA.iload_whole rfl ti40 rfl ⟨_, rfl, rfl⟩ ⟨rfl, rfl⟩) ?_
    | refine DetK.opg rfl rfl rfl rfl (OpA.load_agg rfl ti40 rfl (by first | exact .head | exact .tail .head | exact .tail (.tail .head) | exact .tail (.tail (.tail .head)) | exact .tail (.tail (.tail (.tail .head)))) (by first | rfl | exact getM _ _ _ (by omega) | exact getO (by omega) | exact getL _ _ (by omega) | (simp; done)) rfl rfl ⟨rfl, rfl⟩) ?_
    | refine DetK.opg rfl rfl rfl rfl (OpA.iload_agg rfl ti40 rfl rfl rfl ⟨rfl, rfl⟩) ?_
  first
    | refine DetK.opg rfl rfl rfl rfl (OpA.load_whole rfl ti24 rfl rfl (.tail (.tail hc5)) (by first | rfl | exact getM _ _ _ (by omega) | exact getO (by omega) | exact getL _ _ (by omega) | (simp; done)) ⟨_, rfl⟩ ⟨rfl, rfl⟩) ?_
    | refine DetK.opg rfl rfl rfl rfl (OpA.load_agg rfl ti24 rfl (.tail (.tail hc5)) (by first | rfl | exact getM _ _ _ (by omega) | exact getO (by omega) | exact getL _ _ (by omega) | (simp; done)) rfl rfl ⟨rfl, rfl⟩) ?_
  refine DetK.opg rfl rfl rfl rfl (OpA.call rfl rfl rfl en38 (price_fun _ _ _) (by rintro _ rfl; exact ⟨rfl, rfl⟩)) ?_
  refine DetK.opg rfl rfl rfl rfl (OpA.addi rfl rfl rfl (by omega) ⟨rfl, rfl⟩) ?_
  refine DetK.opg rfl rfl rfl rfl (OpA.mv rfl (by with_reducible conv => lhs; whnf) ⟨rfl, rfl⟩) ?_
  refine DetK.opg rfl rfl rfl rfl (OpA.lss rfl rfl rfl ⟨rfl, rfl⟩) ?_
  refine DetK.op rfl (OpA.pck rfl rfl (by with_reducible conv => lhs; whnf) ⟨rfl, rfl⟩) ?_
  refine DetK.nil ?_
  refine wpL_nil ?_
  refine wpA_cond rfl (fun b9 => ?_) (fun b9 => ?_)
  try simp only [decide_eq_true_eq, decide_eq_false_iff_not, beq_iff_eq, bne_iff_ne, beq_eq_false_iff_ne, bne_eq_false_iff_eq, Bool.not_eq_true', Bool.not_eq_false', Int.not_lt, Int.not_le, gt_iff_lt, ge_iff_le, ne_eq] at b9
  refine wpA_draw (m := 21) mo (by kernel_rfl) rfl ?_
  refine DetK.op rfl (OpA.mv rfl (by with_reducible conv => lhs; whnf) ⟨rfl, rfl⟩) ?_
  refine DetK.op rfl (OpA.mv rfl (by with_reducible conv => lhs; whnf) ⟨rfl, rfl⟩) ?_
  refine DetK.op rfl (OpA.addi rfl rfl rfl (by omega) ⟨rfl, rfl⟩) ?_
  refine DetK.op rfl (OpA.ixN rfl ts48 rfl rfl (by first | exact nat_lit0 | exact nat_lit1 | exact nat_lit2 | exact nat_add1 _ | exact nat_add _ _ | exact rfl | exact nat_sub1 (by omega) | exact nat_sub (by omega) | exact natp1 (nat_sub (by omega)) | exact nat_of (by omega)) (by omega) ⟨rfl, rfl⟩) ?_
  refine DetK.op rfl (OpA.load rfl ti25 rfl (.tail .head) (at0 hcn) rfl ⟨rfl, rfl⟩) ?_
  refine DetK.op rfl (OpA.mv rfl (by with_reducible conv => lhs; whnf) ⟨rfl, rfl⟩) ?_
  refine DetK.op rfl (OpA.addi rfl rfl rfl (by omega) ⟨rfl, rfl⟩) ?_
  refine DetK.op rfl (OpA.ixN rfl ts25 rfl rfl (by first | exact nat_lit0 | exact nat_lit1 | exact nat_lit2 | exact nat_add1 _ | exact nat_add _ _ | exact rfl | exact nat_sub1 (by omega) | exact nat_sub (by omega) | exact natp1 (nat_sub (by omega)) | exact nat_of (by omega)) (by omega) ⟨rfl, rfl⟩) ?_
  refine DetK.op rfl (OpA.load rfl ti3 rfl (.tail (.tail hHn)) (at0 (cellB (by omega))) rfl ⟨rfl, rfl⟩) ?_
  refine DetK.op rfl (OpA.mv rfl (by with_reducible conv => lhs; whnf) ⟨rfl, rfl⟩) ?_
  refine DetK.op rfl (OpA.mv rfl (by with_reducible conv => lhs; whnf) ⟨rfl, rfl⟩) ?_
  first
    | refine DetK.op rfl (OpA.iixN rfl ts22 rfl rfl rfl (by first | exact nat_lit0 | exact nat_lit1 | exact nat_lit2 | exact nat_add1 _ | exact nat_add _ _ | exact rfl | exact nat_sub1 (by omega) | exact nat_sub (by omega) | exact natp1 (nat_sub (by omega)) | exact nat_of (by omega)) (by first | rfl | exact getM _ _ _ (by omega) | exact getO (by omega) | exact getL _ _ (by omega) | (simp; done)) ⟨rfl, rfl⟩) ?_
    | refine DetK.op rfl (OpA.ixN rfl ts22 rfl rfl (by first | exact nat_lit0 | exact nat_lit1 | exact nat_lit2 | exact nat_add1 _ | exact nat_add _ _ | exact rfl | exact nat_sub1 (by omega) | exact nat_sub (by omega) | exact natp1 (nat_sub (by omega)) | exact nat_of (by omega)) (by omega) ⟨rfl, rfl⟩) ?_
  first
    | refine DetK.op rfl (OpA.load_whole rfl ti40 rfl rfl (by first | exact .head | exact .tail .head | exact .tail (.tail .head) | exact .tail (.tail (.tail .head)) | exact .tail (.tail (.tail (.tail .head)))) (by first | rfl | exact getM _ _ _ (by omega) | exact getO (by omega) | exact getL _ _ (by omega) | (simp; done)) ⟨_, rfl⟩ ⟨rfl, rfl⟩) ?_
    | refine DetK.op rfl (OpA.iload_whole rfl ti40 rfl ⟨_, rfl, rfl⟩ ⟨rfl, rfl⟩) ?_
    | refine DetK.op rfl (OpA.load_agg rfl ti40 rfl (by first | exact .head | exact .tail .head | exact .tail (.tail .head) | exact .tail (.tail (.tail .head)) | exact .tail (.tail (.tail (.tail .head)))) (by first | rfl | exact getM _ _ _ (by omega) | exact getO (by omega) | exact getL _ _ (by omega) | (simp; done)) rfl rfl ⟨rfl, rfl⟩) ?_
    | refine DetK.op rfl (OpA.iload_agg rfl ti40 rfl rfl rfl ⟨rfl, rfl⟩) ?_
  refine DetK.op rfl (OpA.mv rfl (by with_reducible conv => lhs; whnf) ⟨rfl, rfl⟩) ?_
  refine DetK.op rfl (OpA.mv rfl (by with_reducible conv => lhs; whnf) ⟨rfl, rfl⟩) ?_
  first
    | refine DetK.op rfl (OpA.iixN rfl ts22 rfl rfl rfl (by first | exact nat_lit0 | exact nat_lit1 | exact nat_lit2 | exact nat_add1 _ | exact nat_add _ _ | exact rfl | exact nat_sub1 (by omega) | exact nat_sub (by omega) | exact natp1 (nat_sub (by omega)) | exact nat_of (by omega)) (by first | rfl | exact getM _ _ _ (by omega) | exact getO (by omega) | exact getL _ _ (by omega) | (simp; done)) ⟨rfl, rfl⟩) ?_
    | refine DetK.op rfl (OpA.ixN rfl ts22 rfl rfl (by first | exact nat_lit0 | exact nat_lit1 | exact nat_lit2 | exact nat_add1 _ | exact nat_add _ _ | exact rfl | exact nat_sub1 (by omega) | exact nat_sub (by omega) | exact natp1 (nat_sub (by omega)) | exact nat_of (by omega)) (by omega) ⟨rfl, rfl⟩) ?_
  first
    | refine DetK.op rfl (OpA.load_whole rfl ti40 rfl rfl (by first | exact .head | exact .tail .head | exact .tail (.tail .head) | exact .tail (.tail (.tail .head)) | exact .tail (.tail (.tail (.tail .head)))) (by first | rfl | exact getM _ _ _ (by omega) | exact getO (by omega) | exact getL _ _ (by omega) | (simp; done)) ⟨_, rfl⟩ ⟨rfl, rfl⟩) ?_
    | refine DetK.op rfl (OpA.iload_whole rfl ti40 rfl ⟨_, rfl, rfl⟩ ⟨rfl, rfl⟩) ?_
    | refine DetK.op rfl (OpA.load_agg rfl ti40 rfl (by first | exact .head | exact .tail .head | exact .tail (.tail .head) | exact .tail (.tail (.tail .head)) | exact .tail (.tail (.tail (.tail .head)))) (by first | rfl | exact getM _ _ _ (by omega) | exact getO (by omega) | exact getL _ _ (by omega) | (simp; done)) rfl rfl ⟨rfl, rfl⟩) ?_
    | refine DetK.op rfl (OpA.iload_agg rfl ti40 rfl rfl rfl ⟨rfl, rfl⟩) ?_
  first
    | refine DetK.op rfl (OpA.load_whole rfl ti24 rfl rfl (.tail (.tail hc5)) (by first | rfl | exact getM _ _ _ (by omega) | exact getO (by omega) | exact getL _ _ (by omega) | (simp; done)) ⟨_, rfl⟩ ⟨rfl, rfl⟩) ?_
    | refine DetK.op rfl (OpA.load_agg rfl ti24 rfl (.tail (.tail hc5)) (by first | rfl | exact getM _ _ _ (by omega) | exact getO (by omega) | exact getL _ _ (by omega) | (simp; done)) rfl rfl ⟨rfl, rfl⟩) ?_
  refine DetK.op rfl (OpA.call rfl rfl rfl en38 (price_fun _ _ _) (by rintro _ rfl; exact ⟨rfl, rfl⟩)) ?_
  refine DetK.op rfl (OpA.addi rfl rfl rfl (by omega) ⟨rfl, rfl⟩) ?_
  refine DetK.op rfl (OpA.asn rfl (by with_reducible conv => lhs; whnf) ⟨rfl, rfl⟩) ?_
  refine DetK.nil ?_
  refine wpL_nil ?_
  refine wpA_seq ?_
  refine wpA_seq ?_
  refine wpA_region ?_
  refine wpL_op rfl rfl rfl (OpA.mv rfl (by with_reducible conv => lhs; whnf) ?_)
  refine wpL_op rfl rfl rfl (OpA.lss rfl rfl rfl ?_)
  refine wpL_nil ?_
  refine wpA_cond rfl (fun b10 => ?_) (fun b10 => ?_)
  try simp only [decide_eq_true_eq, decide_eq_false_iff_not, beq_iff_eq, bne_iff_ne, beq_eq_false_iff_ne, bne_eq_false_iff_eq, Bool.not_eq_true', Bool.not_eq_false', Int.not_lt, Int.not_le, gt_iff_lt, ge_iff_le, ne_eq] at b10
  exfalso; first | contradiction | omega
  try simp only [decide_eq_true_eq, decide_eq_false_iff_not, beq_iff_eq, bne_iff_ne, beq_eq_false_iff_ne, bne_eq_false_iff_eq, Bool.not_eq_true', Bool.not_eq_false', Int.not_lt, Int.not_le, gt_iff_lt, ge_iff_le, ne_eq] at b10
  refine wpA_skip ?_
  refine wpA_region ?_
  refine wpL_op rfl rfl rfl (OpA.mv rfl (by with_reducible conv => lhs; whnf) ?_)
  refine wpL_op rfl rfl rfl (OpA.mv rfl (by with_reducible conv => lhs; whnf) ?_)
  refine wpL_op rfl rfl rfl (OpA.ixN rfl ts48 rfl rfl (by first | exact nat_lit0 | exact nat_lit1 | exact nat_lit2 | exact nat_add1 _ | exact nat_add _ _ | exact rfl | exact nat_sub1 (by omega) | exact nat_sub (by omega) | exact natp1 (nat_sub (by omega)) | exact nat_of (by omega)) (by omega) ?_)
  refine wpL_op rfl rfl rfl (OpA.load rfl ti25 rfl (.tail .head) (at0 hk2) rfl ?_)
  refine wpL_op rfl rfl rfl (OpA.mv rfl (by with_reducible conv => lhs; whnf) ?_)
  refine wpL_op rfl rfl rfl (OpA.mv rfl (by with_reducible conv => lhs; whnf) ?_)
  refine wpL_op rfl rfl rfl (OpA.ixN rfl ts25 rfl rfl (by first | exact nat_lit0 | exact nat_lit1 | exact nat_lit2 | exact nat_add1 _ | exact nat_add _ _ | exact rfl | exact nat_sub1 (by omega) | exact nat_sub (by omega) | exact natp1 (nat_sub (by omega)) | exact nat_of (by omega)) (by omega) ?_)
  refine wpL_eff rfl rfl (OpA.storeI rfl ti3 rfl rfl (by omega) .head ?_)
  refine wpL_nil ?_
  refine wpA_region ?_
  refine wpL_op rfl rfl rfl (OpA.mv rfl (by with_reducible conv => lhs; whnf) ?_)
  refine wpL_op rfl rfl rfl (OpA.subi rfl rfl rfl (by omega) ?_)
  refine wpL_op rfl rfl rfl (OpA.asn rfl (by with_reducible conv => lhs; whnf) ?_)
  refine wpL_nil ?_
  exact ⟨_, _, by omega, ⟨(j : Int) - 1, _, rfl, ⟨by omega, by omega, by rw [List.length_set]; omega, cell_set hl (by omega) hL (by omega)⟩, rfl, rfl⟩, Cov.asg ⟨rfl, rfl, rfl, rfl, rfl, rfl, rfl, trivial⟩⟩
  try simp only [decide_eq_true_eq, decide_eq_false_iff_not, beq_iff_eq, bne_iff_ne, beq_eq_false_iff_ne, bne_eq_false_iff_eq, Bool.not_eq_true', Bool.not_eq_false', Int.not_lt, Int.not_le, gt_iff_lt, ge_iff_le, ne_eq] at b9
  refine wpA_skip ?_
  refine wpA_seq ?_
  refine wpA_seq ?_
  refine wpA_region ?_
  refine wpL_op rfl rfl rfl (OpA.mv rfl (by with_reducible conv => lhs; whnf) ?_)
  refine wpL_op rfl rfl rfl (OpA.lss rfl rfl rfl ?_)
  refine wpL_nil ?_
  refine wpA_cond rfl (fun b11 => ?_) (fun b11 => ?_)
  try simp only [decide_eq_true_eq, decide_eq_false_iff_not, beq_iff_eq, bne_iff_ne, beq_eq_false_iff_ne, bne_eq_false_iff_eq, Bool.not_eq_true', Bool.not_eq_false', Int.not_lt, Int.not_le, gt_iff_lt, ge_iff_le, ne_eq] at b11
  exfalso; first | contradiction | omega
  try simp only [decide_eq_true_eq, decide_eq_false_iff_not, beq_iff_eq, bne_iff_ne, beq_eq_false_iff_ne, bne_eq_false_iff_eq, Bool.not_eq_true', Bool.not_eq_false', Int.not_lt, Int.not_le, gt_iff_lt, ge_iff_le, ne_eq] at b11
  refine wpA_skip ?_
  refine wpA_region ?_
  refine wpL_op rfl rfl rfl (OpA.mv rfl (by with_reducible conv => lhs; whnf) ?_)
  refine wpL_op rfl rfl rfl (OpA.mv rfl (by with_reducible conv => lhs; whnf) ?_)
  refine wpL_op rfl rfl rfl (OpA.ixN rfl ts48 rfl rfl (by first | exact nat_lit0 | exact nat_lit1 | exact nat_lit2 | exact nat_add1 _ | exact nat_add _ _ | exact rfl | exact nat_sub1 (by omega) | exact nat_sub (by omega) | exact natp1 (nat_sub (by omega)) | exact nat_of (by omega)) (by omega) ?_)
  refine wpL_op rfl rfl rfl (OpA.load rfl ti25 rfl (.tail .head) (at0 hk2) rfl ?_)
  refine wpL_op rfl rfl rfl (OpA.mv rfl (by with_reducible conv => lhs; whnf) ?_)
  refine wpL_op rfl rfl rfl (OpA.mv rfl (by with_reducible conv => lhs; whnf) ?_)
  refine wpL_op rfl rfl rfl (OpA.ixN rfl ts25 rfl rfl (by first | exact nat_lit0 | exact nat_lit1 | exact nat_lit2 | exact nat_add1 _ | exact nat_add _ _ | exact rfl | exact nat_sub1 (by omega) | exact nat_sub (by omega) | exact natp1 (nat_sub (by omega)) | exact nat_of (by omega)) (by omega) ?_)
  refine wpL_eff rfl rfl (OpA.storeI rfl ti3 rfl rfl (by omega) .head ?_)
  refine wpL_nil ?_
  refine wpA_region ?_
  refine wpL_op rfl rfl rfl (OpA.mv rfl (by with_reducible conv => lhs; whnf) ?_)
  refine wpL_op rfl rfl rfl (OpA.subi rfl rfl rfl (by omega) ?_)
  refine wpL_op rfl rfl rfl (OpA.asn rfl (by with_reducible conv => lhs; whnf) ?_)
  refine wpL_nil ?_
  exact ⟨_, _, by omega, ⟨(j : Int) - 1, _, rfl, ⟨by omega, by omega, by rw [List.length_set]; omega, cell_set hl (by omega) hL (by omega)⟩, rfl, rfl⟩, Cov.asg ⟨rfl, rfl, rfl, rfl, rfl, rfl, rfl, trivial⟩⟩
  try simp only [decide_eq_true_eq, decide_eq_false_iff_not, beq_iff_eq, bne_iff_ne, beq_eq_false_iff_ne, bne_eq_false_iff_eq, Bool.not_eq_true', Bool.not_eq_false', Int.not_lt, Int.not_le, gt_iff_lt, ge_iff_le, ne_eq] at b8
  exfalso; first | contradiction | omega
  try simp only [decide_eq_true_eq, decide_eq_false_iff_not, beq_iff_eq, bne_iff_ne, beq_eq_false_iff_ne, bne_eq_false_iff_eq, Bool.not_eq_true', Bool.not_eq_false', Int.not_lt, Int.not_le, gt_iff_lt, ge_iff_le, ne_eq] at b7
  exfalso; first | contradiction | omega
  try simp only [decide_eq_true_eq, decide_eq_false_iff_not, beq_iff_eq, bne_iff_ne, beq_eq_false_iff_ne, bne_eq_false_iff_eq, Bool.not_eq_true', Bool.not_eq_false', Int.not_lt, Int.not_le, gt_iff_lt, ge_iff_le, ne_eq] at b6
  refine wpA_skip ?_
  refine wpA_seq ?_
  refine wpA_seq ?_
  refine wpA_draw (m := 34) mo (by kernel_rfl) rfl ?_
  refine DetK.op rfl (OpA.mv rfl (by with_reducible conv => lhs; whnf) ⟨rfl, rfl⟩) ?_
  refine DetK.op rfl (OpA.mv rfl (by with_reducible conv => lhs; whnf) ⟨rfl, rfl⟩) ?_
  first
    | refine DetK.op rfl (OpA.len rfl rfl rfl rfl ts22.desc (.inl ⟨_, _, rfl, (List.length_map _).symm⟩) ⟨rfl, rfl⟩) ?_
    | refine DetK.op rfl (OpA.len rfl rfl rfl rfl ts22.desc (.inl ⟨_, _, rfl, rfl⟩) ⟨rfl, rfl⟩) ?_
    | refine DetK.op rfl (OpA.len rfl rfl rfl rfl ts22.desc (.inr (.inl ⟨_, _, _, rfl⟩)) ⟨rfl, rfl⟩) ?_
    | refine DetK.op rfl (OpA.len rfl rfl rfl rfl ts22.desc (.inr (.inr ⟨rfl, rfl⟩)) ⟨rfl, rfl⟩) ?_
  refine DetK.op rfl (OpA.lss rfl rfl rfl ⟨rfl, rfl⟩) ?_
  refine DetK.op rfl (OpA.mv rfl (by with_reducible conv => lhs; whnf) ⟨rfl, rfl⟩) ?_
  refine DetK_split (s := 87) rfl (fun b12 => ?_) (fun b12 => ?_)
  try simp only [decide_eq_true_eq, decide_eq_false_iff_not, beq_iff_eq, bne_iff_ne, beq_eq_false_iff_ne, bne_eq_false_iff_eq, Bool.not_eq_true', Bool.not_eq_false', Int.not_lt, Int.not_le, gt_iff_lt, ge_iff_le, ne_eq] at b12
  refine DetK.opg rfl rfl rfl rfl (OpA.mv rfl (by with_reducible conv => lhs; whnf) ⟨rfl, rfl⟩) ?_
  refine DetK.opg rfl rfl rfl rfl (OpA.mv rfl (by with_reducible conv => lhs; whnf) ⟨rfl, rfl⟩) ?_
  first
    | refine DetK.opg rfl rfl rfl rfl (OpA.len rfl rfl rfl rfl ts22.desc (.inl ⟨_, _, rfl, (List.length_map _).symm⟩) ⟨rfl, rfl⟩) ?_
    | refine DetK.opg rfl rfl rfl rfl (OpA.len rfl rfl rfl rfl ts22.desc (.inl ⟨_, _, rfl, rfl⟩) ⟨rfl, rfl⟩) ?_
    | refine DetK.opg rfl rfl rfl rfl (OpA.len rfl rfl rfl rfl ts22.desc (.inr (.inl ⟨_, _, _, rfl⟩)) ⟨rfl, rfl⟩) ?_
    | refine DetK.opg rfl rfl rfl rfl (OpA.len rfl rfl rfl rfl ts22.desc (.inr (.inr ⟨rfl, rfl⟩)) ⟨rfl, rfl⟩) ?_
  refine DetK.opg rfl rfl rfl rfl (OpA.lss rfl rfl rfl ⟨rfl, rfl⟩) ?_
  refine DetK.op rfl (OpA.pck rfl rfl (by with_reducible conv => lhs; whnf) ⟨rfl, rfl⟩) ?_
  refine DetK.op rfl (OpA.mv rfl (by with_reducible conv => lhs; whnf) ⟨rfl, rfl⟩) ?_
  refine DetK_split (s := 93) rfl (fun b13 => ?_) (fun b13 => ?_)
  try simp only [decide_eq_true_eq, decide_eq_false_iff_not, beq_iff_eq, bne_iff_ne, beq_eq_false_iff_ne, bne_eq_false_iff_eq, Bool.not_eq_true', Bool.not_eq_false', Int.not_lt, Int.not_le, gt_iff_lt, ge_iff_le, ne_eq] at b13
  have hpb := pairF_bd (x := a[k]'(by omega)) (y := b[j]'(by omega)) hcc.1
  have hr3 := bkv_r3 (a := a) (b := b) (c := c) (i := k) (j := j) (by omega) (by omega)
  refine DetK.opg rfl rfl rfl rfl (OpA.mv rfl (by with_reducible conv => lhs; whnf) ⟨rfl, rfl⟩) ?_
  refine DetK.opg rfl rfl rfl rfl (OpA.mv rfl (by with_reducible conv => lhs; whnf) ⟨rfl, rfl⟩) ?_
  refine DetK.opg rfl rfl rfl rfl (OpA.addi rfl rfl rfl (by omega) ⟨rfl, rfl⟩) ?_
  refine DetK.opg rfl rfl rfl rfl (OpA.ixN rfl ts48 rfl rfl (by first | exact nat_lit0 | exact nat_lit1 | exact nat_lit2 | exact nat_add1 _ | exact nat_add _ _ | exact rfl | exact nat_sub1 (by omega) | exact nat_sub (by omega) | exact natp1 (nat_sub (by omega)) | exact nat_of (by omega)) (by omega) ⟨rfl, rfl⟩) ?_
  refine DetK.opg rfl rfl rfl rfl (OpA.load rfl ti25 rfl (.tail .head) (at0 hcn) rfl ⟨rfl, rfl⟩) ?_
  refine DetK.opg rfl rfl rfl rfl (OpA.mv rfl (by with_reducible conv => lhs; whnf) ⟨rfl, rfl⟩) ?_
  refine DetK.opg rfl rfl rfl rfl (OpA.addi rfl rfl rfl (by omega) ⟨rfl, rfl⟩) ?_
  refine DetK.opg rfl rfl rfl rfl (OpA.ixN rfl ts25 rfl rfl (by first | exact nat_lit0 | exact nat_lit1 | exact nat_lit2 | exact nat_add1 _ | exact nat_add _ _ | exact rfl | exact nat_sub1 (by omega) | exact nat_sub (by omega) | exact natp1 (nat_sub (by omega)) | exact nat_of (by omega)) (by omega) ⟨rfl, rfl⟩) ?_
  refine DetK.opg rfl rfl rfl rfl (OpA.load rfl ti3 rfl (.tail (.tail hHn)) (at0 (cellB (by omega))) rfl ⟨rfl, rfl⟩) ?_
  refine DetK.opg rfl rfl rfl rfl (OpA.mv rfl (by with_reducible conv => lhs; whnf) ⟨rfl, rfl⟩) ?_
  refine DetK.opg rfl rfl rfl rfl (OpA.mv rfl (by with_reducible conv => lhs; whnf) ⟨rfl, rfl⟩) ?_
  first
    | refine DetK.opg rfl rfl rfl rfl (OpA.iixN rfl ts22 rfl rfl rfl (by first | exact nat_lit0 | exact nat_lit1 | exact nat_lit2 | exact nat_add1 _ | exact nat_add _ _ | exact rfl | exact nat_sub1 (by omega) | exact nat_sub (by omega) | exact natp1 (nat_sub (by omega)) | exact nat_of (by omega)) (by first | rfl | exact getM _ _ _ (by omega) | exact getO (by omega) | exact getL _ _ (by omega) | (simp; done)) ⟨rfl, rfl⟩) ?_
    | refine DetK.opg rfl rfl rfl rfl (OpA.ixN rfl ts22 rfl rfl (by first | exact nat_lit0 | exact nat_lit1 | exact nat_lit2 | exact nat_add1 _ | exact nat_add _ _ | exact rfl | exact nat_sub1 (by omega) | exact nat_sub (by omega) | exact natp1 (nat_sub (by omega)) | exact nat_of (by omega)) (by omega) ⟨rfl, rfl⟩) ?_
  first
    | refine DetK.opg rfl rfl rfl rfl (OpA.load_whole rfl ti40 rfl rfl (by first | exact .head | exact .tail .head | exact .tail (.tail .head) | exact .tail (.tail (.tail .head)) | exact .tail (.tail (.tail (.tail .head)))) (by first | rfl | exact getM _ _ _ (by omega) | exact getO (by omega) | exact getL _ _ (by omega) | (simp; done)) ⟨_, rfl⟩ ⟨rfl, rfl⟩) ?_
    | refine DetK.opg rfl rfl rfl rfl (OpA.iload_whole rfl ti40 rfl ⟨_, rfl, rfl⟩ ⟨rfl, rfl⟩) ?_
    | refine DetK.opg rfl rfl rfl rfl (OpA.load_agg rfl ti40 rfl (by first | exact .head | exact .tail .head | exact .tail (.tail .head) | exact .tail (.tail (.tail .head)) | exact .tail (.tail (.tail (.tail .head)))) (by first | rfl | exact getM _ _ _ (by omega) | exact getO (by omega) | exact getL _ _ (by omega) | (simp; done)) rfl rfl ⟨rfl, rfl⟩) ?_
    | refine DetK.opg rfl rfl rfl rfl (OpA.iload_agg rfl ti40 rfl rfl rfl ⟨rfl, rfl⟩) ?_
  refine DetK.opg rfl rfl rfl rfl (OpA.mv rfl (by with_reducible conv => lhs; whnf) ⟨rfl, rfl⟩) ?_
  refine DetK.opg rfl rfl rfl rfl (OpA.mv rfl (by with_reducible conv => lhs; whnf) ⟨rfl, rfl⟩) ?_
  first
    | refine DetK.opg rfl rfl rfl rfl (OpA.iixN rfl ts22 rfl rfl rfl (by first | exact nat_lit0 | exact nat_lit1 | exact nat_lit2 | exact nat_add1 _ | exact nat_add _ _ | exact rfl | exact nat_sub1 (by omega) | exact nat_sub (by omega) | exact natp1 (nat_sub (by omega)) | exact nat_of (by omega)) (by first | rfl | exact getM _ _ _ (by omega) | exact getO (by omega) | exact getL _ _ (by omega) | (simp; done)) ⟨rfl, rfl⟩) ?_
    | refine DetK.opg rfl rfl rfl rfl (OpA.ixN rfl ts22 rfl rfl (by first | exact nat_lit0 | exact nat_lit1 | exact nat_lit2 | exact nat_add1 _ | exact nat_add _ _ | exact rfl | exact nat_sub1 (by omega) | exact nat_sub (by omega) | exact natp1 (nat_sub (by omega)) | exact nat_of (by omega)) (by omega) ⟨rfl, rfl⟩) ?_
  first
    | refine DetK.opg rfl rfl rfl rfl (OpA.load_whole rfl ti40 rfl rfl (by first | exact .head | exact .tail .head | exact .tail (.tail .head) | exact .tail (.tail (.tail .head)) | exact .tail (.tail (.tail (.tail .head)))) (by first | rfl | exact getM _ _ _ (by omega) | exact getO (by omega) | exact getL _ _ (by omega) | (simp; done)) ⟨_, rfl⟩ ⟨rfl, rfl⟩) ?_
    | refine DetK.opg rfl rfl rfl rfl (OpA.iload_whole rfl ti40 rfl ⟨_, rfl, rfl⟩ ⟨rfl, rfl⟩) ?_
    | refine DetK.opg rfl rfl rfl rfl (OpA.load_agg rfl ti40 rfl (by first | exact .head | exact .tail .head | exact .tail (.tail .head) | exact .tail (.tail (.tail .head)) | exact .tail (.tail (.tail (.tail .head)))) (by first | rfl | exact getM _ _ _ (by omega) | exact getO (by omega) | exact getL _ _ (by omega) | (simp; done)) rfl rfl ⟨rfl, rfl⟩) ?_
    | refine DetK.opg rfl rfl rfl rfl (OpA.iload_agg rfl ti40 rfl rfl rfl ⟨rfl, rfl⟩) ?_
  first
    | refine DetK.opg rfl rfl rfl rfl (OpA.load_whole rfl ti24 rfl rfl (.tail (.tail hc5)) (by first | rfl | exact getM _ _ _ (by omega) | exact getO (by omega) | exact getL _ _ (by omega) | (simp; done)) ⟨_, rfl⟩ ⟨rfl, rfl⟩) ?_
    | refine DetK.opg rfl rfl rfl rfl (OpA.load_agg rfl ti24 rfl (.tail (.tail hc5)) (by first | rfl | exact getM _ _ _ (by omega) | exact getO (by omega) | exact getL _ _ (by omega) | (simp; done)) rfl rfl ⟨rfl, rfl⟩) ?_
  refine DetK.opg rfl rfl rfl rfl (OpA.call rfl rfl rfl en38 (price_fun _ _ _) (by rintro _ rfl; exact ⟨rfl, rfl⟩)) ?_
  refine DetK.opg rfl rfl rfl rfl (OpA.addi rfl rfl rfl (by omega) ⟨rfl, rfl⟩) ?_
  refine DetK.opg rfl rfl rfl rfl (OpA.mv rfl (by with_reducible conv => lhs; whnf) ⟨rfl, rfl⟩) ?_
  refine DetK.opg rfl rfl rfl rfl (OpA.lss rfl rfl rfl ⟨rfl, rfl⟩) ?_
  refine DetK.op rfl (OpA.pck rfl rfl (by with_reducible conv => lhs; whnf) ⟨rfl, rfl⟩) ?_
  refine DetK.nil ?_
  refine wpL_nil ?_
  refine wpA_cond rfl (fun b14 => ?_) (fun b14 => ?_)
  try simp only [decide_eq_true_eq, decide_eq_false_iff_not, beq_iff_eq, bne_iff_ne, beq_eq_false_iff_ne, bne_eq_false_iff_eq, Bool.not_eq_true', Bool.not_eq_false', Int.not_lt, Int.not_le, gt_iff_lt, ge_iff_le, ne_eq] at b14
  refine wpA_draw (m := 21) mo (by kernel_rfl) rfl ?_
  refine DetK.op rfl (OpA.mv rfl (by with_reducible conv => lhs; whnf) ⟨rfl, rfl⟩) ?_
  refine DetK.op rfl (OpA.mv rfl (by with_reducible conv => lhs; whnf) ⟨rfl, rfl⟩) ?_
  refine DetK.op rfl (OpA.addi rfl rfl rfl (by omega) ⟨rfl, rfl⟩) ?_
  refine DetK.op rfl (OpA.ixN rfl ts48 rfl rfl (by first | exact nat_lit0 | exact nat_lit1 | exact nat_lit2 | exact nat_add1 _ | exact nat_add _ _ | exact rfl | exact nat_sub1 (by omega) | exact nat_sub (by omega) | exact natp1 (nat_sub (by omega)) | exact nat_of (by omega)) (by omega) ⟨rfl, rfl⟩) ?_
  refine DetK.op rfl (OpA.load rfl ti25 rfl (.tail .head) (at0 hcn) rfl ⟨rfl, rfl⟩) ?_
  refine DetK.op rfl (OpA.mv rfl (by with_reducible conv => lhs; whnf) ⟨rfl, rfl⟩) ?_
  refine DetK.op rfl (OpA.addi rfl rfl rfl (by omega) ⟨rfl, rfl⟩) ?_
  refine DetK.op rfl (OpA.ixN rfl ts25 rfl rfl (by first | exact nat_lit0 | exact nat_lit1 | exact nat_lit2 | exact nat_add1 _ | exact nat_add _ _ | exact rfl | exact nat_sub1 (by omega) | exact nat_sub (by omega) | exact natp1 (nat_sub (by omega)) | exact nat_of (by omega)) (by omega) ⟨rfl, rfl⟩) ?_
  refine DetK.op rfl (OpA.load rfl ti3 rfl (.tail (.tail hHn)) (at0 (cellB (by omega))) rfl ⟨rfl, rfl⟩) ?_
  refine DetK.op rfl (OpA.mv rfl (by with_reducible conv => lhs; whnf) ⟨rfl, rfl⟩) ?_
  refine DetK.op rfl (OpA.mv rfl (by with_reducible conv => lhs; whnf) ⟨rfl, rfl⟩) ?_
  first
    | refine DetK.op rfl (OpA.iixN rfl ts22 rfl rfl rfl (by first | exact nat_lit0 | exact nat_lit1 | exact nat_lit2 | exact nat_add1 _ | exact nat_add _ _ | exact rfl | exact nat_sub1 (by omega) | exact nat_sub (by omega) | exact natp1 (nat_sub (by omega)) | exact nat_of (by omega)) (by first | rfl | exact getM _ _ _ (by omega) | exact getO (by omega) | exact getL _ _ (by omega) | (simp; done)) ⟨rfl, rfl⟩) ?_
    | refine DetK.op rfl (OpA.ixN rfl ts22 rfl rfl (by first | exact nat_lit0 | exact nat_lit1 | exact nat_lit2 | exact nat_add1 _ | exact nat_add _ _ | exact rfl | exact nat_sub1 (by omega) | exact nat_sub (by omega) | exact natp1 (nat_sub (by omega)) | exact nat_of (by omega)) (by omega) ⟨rfl, rfl⟩) ?_
  first
    | refine DetK.op rfl (OpA.load_whole rfl ti40 rfl rfl (by first | exact .head | exact .tail .head | exact .tail (.tail .head) | exact .tail (.tail (.tail .head)) | exact .tail (.tail (.tail (.tail .head)))) (by first | rfl | exact getM _ _ _ (by omega) | exact getO (by omega) | exact getL _ _ (by omega) | (simp; done)) ⟨_, rfl⟩ ⟨rfl, rfl⟩) ?_
    | refine DetK.op rfl (OpA.iload_whole rfl ti40 rfl ⟨_, rfl, rfl⟩ ⟨rfl, rfl⟩) ?_
    | refine DetK.op rfl (OpA.load_agg rfl ti40 rfl (by first | exact .head | exact .tail .head | exact .tail (.tail .head) | exact .tail (.tail (.tail .head)) | exact .tail (.tail (.tail (.tail .head)))) (by first | rfl | exact getM _ _ _ (by omega) | exact getO (by omega) | exact getL _ _ (by omega) | (simp; done)) rfl rfl ⟨rfl, rfl⟩) ?_
    | refine DetK.op rfl (OpA.iload_agg rfl ti40 rfl rfl rfl ⟨rfl, rfl⟩) ?_
  refine DetK.op rfl (OpA.mv rfl (by with_reducible conv => lhs; whnf) ⟨rfl, rfl⟩) ?_
  refine DetK.op rfl (OpA.mv rfl (by with_reducible conv => lhs; whnf) ⟨rfl, rfl⟩) ?_
  first
    | refine DetK.op rfl (OpA.iixN rfl ts22 rfl rfl rfl (by first | exact nat_lit0 | exact nat_lit1 | exact nat_lit2 | exact nat_add1 _ | exact nat_add _ _ | exact rfl | exact nat_sub1 (by omega) | exact nat_sub (by omega) | exact natp1 (nat_sub (by omega)) | exact nat_of (by omega)) (by first | rfl | exact getM _ _ _ (by omega) | exact getO (by omega) | exact getL _ _ (by omega) | (simp; done)) ⟨rfl, rfl⟩) ?_
    | refine DetK.op rfl (OpA.ixN rfl ts22 rfl rfl (by first | exact nat_lit0 | exact nat_lit1 | exact nat_lit2 | exact nat_add1 _ | exact nat_add _ _ | exact rfl | exact nat_sub1 (by omega) | exact nat_sub (by omega) | exact natp1 (nat_sub (by omega)) | exact nat_of (by omega)) (by omega) ⟨rfl, rfl⟩) ?_
  first
    | refine DetK.op rfl (OpA.load_whole rfl ti40 rfl rfl (by first | exact .head | exact .tail .head | exact .tail (.tail .head) | exact .tail (.tail (.tail .head)) | exact .tail (.tail (.tail (.tail .head)))) (by first | rfl | exact getM _ _ _ (by omega) | exact getO (by omega) | exact getL _ _ (by omega) | (simp; done)) ⟨_, rfl⟩ ⟨rfl, rfl⟩) ?_
    | refine DetK.op rfl (OpA.iload_whole rfl ti40 rfl ⟨_, rfl, rfl⟩ ⟨rfl, rfl⟩) ?_
    | refine DetK.op rfl (OpA.load_agg rfl ti40 rfl (by first | exact .head | exact .tail .head | exact .tail (.tail .head) | exact .tail (.tail (.tail .head)) | exact .tail (.tail (.tail (.tail .head)))) (by first | rfl | exact getM _ _ _ (by omega) | exact getO (by omega) | exact getL _ _ (by omega) | (simp; done)) rfl rfl ⟨rfl, rfl⟩) ?_
    | refine DetK.op rfl (OpA.iload_agg rfl ti40 rfl rfl rfl ⟨rfl, rfl⟩) ?_
  first
    | refine DetK.op rfl (OpA.load_whole rfl ti24 rfl rfl (.tail (.tail hc5)) (by first | rfl | exact getM _ _ _ (by omega) | exact getO (by omega) | exact getL _ _ (by omega) | (simp; done)) ⟨_, rfl⟩ ⟨rfl, rfl⟩) ?_
    | refine DetK.op rfl (OpA.load_agg rfl ti24 rfl (.tail (.tail hc5)) (by first | rfl | exact getM _ _ _ (by omega) | exact getO (by omega) | exact getL _ _ (by omega) | (simp; done)) rfl rfl ⟨rfl, rfl⟩) ?_
  refine DetK.op rfl (OpA.call rfl rfl rfl en38 (price_fun _ _ _) (by rintro _ rfl; exact ⟨rfl, rfl⟩)) ?_
  refine DetK.op rfl (OpA.addi rfl rfl rfl (by omega) ⟨rfl, rfl⟩) ?_
  refine DetK.op rfl (OpA.asn rfl (by with_reducible conv => lhs; whnf) ⟨rfl, rfl⟩) ?_
  refine DetK.nil ?_
  refine wpL_nil ?_
  refine wpA_seq ?_
  refine wpA_seq ?_
  refine wpA_region ?_
  refine wpL_op rfl rfl rfl (OpA.mv rfl (by with_reducible conv => lhs; whnf) ?_)
  refine wpL_op rfl rfl rfl (OpA.lss rfl rfl rfl ?_)
  refine wpL_nil ?_
  refine wpA_cond rfl (fun b15 => ?_) (fun b15 => ?_)
  try simp only [decide_eq_true_eq, decide_eq_false_iff_not, beq_iff_eq, bne_iff_ne, beq_eq_false_iff_ne, bne_eq_false_iff_eq, Bool.not_eq_true', Bool.not_eq_false', Int.not_lt, Int.not_le, gt_iff_lt, ge_iff_le, ne_eq] at b15
  exfalso; first | contradiction | omega
  try simp only [decide_eq_true_eq, decide_eq_false_iff_not, beq_iff_eq, bne_iff_ne, beq_eq_false_iff_ne, bne_eq_false_iff_eq, Bool.not_eq_true', Bool.not_eq_false', Int.not_lt, Int.not_le, gt_iff_lt, ge_iff_le, ne_eq] at b15
  refine wpA_skip ?_
  refine wpA_region ?_
  refine wpL_op rfl rfl rfl (OpA.mv rfl (by with_reducible conv => lhs; whnf) ?_)
  refine wpL_op rfl rfl rfl (OpA.mv rfl (by with_reducible conv => lhs; whnf) ?_)
  refine wpL_op rfl rfl rfl (OpA.ixN rfl ts48 rfl rfl (by first | exact nat_lit0 | exact nat_lit1 | exact nat_lit2 | exact nat_add1 _ | exact nat_add _ _ | exact rfl | exact nat_sub1 (by omega) | exact nat_sub (by omega) | exact natp1 (nat_sub (by omega)) | exact nat_of (by omega)) (by omega) ?_)
  refine wpL_op rfl rfl rfl (OpA.load rfl ti25 rfl (.tail .head) (at0 hk2) rfl ?_)
  refine wpL_op rfl rfl rfl (OpA.mv rfl (by with_reducible conv => lhs; whnf) ?_)
  refine wpL_op rfl rfl rfl (OpA.mv rfl (by with_reducible conv => lhs; whnf) ?_)
  refine wpL_op rfl rfl rfl (OpA.ixN rfl ts25 rfl rfl (by first | exact nat_lit0 | exact nat_lit1 | exact nat_lit2 | exact nat_add1 _ | exact nat_add _ _ | exact rfl | exact nat_sub1 (by omega) | exact nat_sub (by omega) | exact natp1 (nat_sub (by omega)) | exact nat_of (by omega)) (by omega) ?_)
  refine wpL_eff rfl rfl (OpA.storeI rfl ti3 rfl rfl (by omega) .head ?_)
  refine wpL_nil ?_
  refine wpA_region ?_
  refine wpL_op rfl rfl rfl (OpA.mv rfl (by with_reducible conv => lhs; whnf) ?_)
  refine wpL_op rfl rfl rfl (OpA.subi rfl rfl rfl (by omega) ?_)
  refine wpL_op rfl rfl rfl (OpA.asn rfl (by with_reducible conv => lhs; whnf) ?_)
  refine wpL_nil ?_
  exact ⟨_, _, by omega, ⟨(j : Int) - 1, _, rfl, ⟨by omega, by omega, by rw [List.length_set]; omega, cell_set hl (by omega) hL (by omega)⟩, rfl, rfl⟩, Cov.asg ⟨rfl, rfl, rfl, rfl, rfl, rfl, rfl, trivial⟩⟩
  try simp only [decide_eq_true_eq, decide_eq_false_iff_not, beq_iff_eq, bne_iff_ne, beq_eq_false_iff_ne, bne_eq_false_iff_eq, Bool.not_eq_true', Bool.not_eq_false', Int.not_lt, Int.not_le, gt_iff_lt, ge_iff_le, ne_eq] at b14
  refine wpA_skip ?_
  refine wpA_seq ?_
  refine wpA_seq ?_
  refine wpA_region ?_
  refine wpL_op rfl rfl rfl (OpA.mv rfl (by with_reducible conv => lhs; whnf) ?_)
  refine wpL_op rfl rfl rfl (OpA.lss rfl rfl rfl ?_)
  refine wpL_nil ?_
  refine wpA_cond rfl (fun b16 => ?_) (fun b16 => ?_)
  try simp only [decide_eq_true_eq, decide_eq_false_iff_not, beq_iff_eq, bne_iff_ne, beq_eq_false_iff_ne, bne_eq_false_iff_eq, Bool.not_eq_true', Bool.not_eq_false', Int.not_lt, Int.not_le, gt_iff_lt, ge_iff_le, ne_eq] at b16
  exfalso; first | contradiction | omega
  try simp only [decide_eq_true_eq, decide_eq_false_iff_not, beq_iff_eq, bne_iff_ne, beq_eq_false_iff_ne, bne_eq_false_iff_eq, Bool.not_eq_true', Bool.not_eq_false', Int.not_lt, Int.not_le, gt_iff_lt, ge_iff_le, ne_eq] at b16
  refine wpA_skip ?_
  refine wpA_region ?_
  refine wpL_op rfl rfl rfl (OpA.mv rfl (by with_reducible conv => lhs; whnf) ?_)
  refine wpL_op rfl rfl rfl (OpA.mv rfl (by with_reducible conv => lhs; whnf) ?_)
  refine wpL_op rfl rfl rfl (OpA.ixN rfl ts48 rfl rfl (by first | exact nat_lit0 | exact nat_lit1 | exact nat_lit2 | exact nat_add1 _ | exact nat_add _ _ | exact rfl | exact nat_sub1 (by omega) | exact nat_sub (by omega) | exact natp1 (nat_sub (by omega)) | exact nat_of (by omega)) (by omega) ?_)
  refine wpL_op rfl rfl rfl (OpA.load rfl ti25 rfl (.tail .head) (at0 hk2) rfl ?_)
  refine wpL_op rfl rfl rfl (OpA.mv rfl (by with_reducible conv => lhs; whnf) ?_)
  refine wpL_op rfl rfl rfl (OpA.mv rfl (by with_reducible conv => lhs; whnf) ?_)
  refine wpL_op rfl rfl rfl (OpA.ixN rfl ts25 rfl rfl (by first | exact nat_lit0 | exact nat_lit1 | exact nat_lit2 | exact nat_add1 _ | exact nat_add _ _ | exact rfl | exact nat_sub1 (by omega) | exact nat_sub (by omega) | exact natp1 (nat_sub (by omega)) | exact nat_of (by omega)) (by omega) ?_)
  refine wpL_eff rfl rfl (OpA.storeI rfl ti3 rfl rfl (by omega) .head ?_)
  refine wpL_nil ?_
  refine wpA_region ?_
  refine wpL_op rfl rfl rfl (OpA.mv rfl (by with_reducible conv => lhs; whnf) ?_)
  refine wpL_op rfl rfl rfl (OpA.subi rfl rfl rfl (by omega) ?_)
  refine wpL_op rfl rfl rfl (OpA.asn rfl (by with_reducible conv => lhs; whnf) ?_)
  refine wpL_nil ?_
  exact ⟨_, _, by omega, ⟨(j : Int) - 1, _, rfl, ⟨by omega, by omega, by rw [List.length_set]; omega, cell_set hl (by omega) hL (by omega)⟩, rfl, rfl⟩, Cov.asg ⟨rfl, rfl, rfl, rfl, rfl, rfl, rfl, trivial⟩⟩
  try simp only [decide_eq_true_eq, decide_eq_false_iff_not, beq_iff_eq, bne_iff_ne, beq_eq_false_iff_ne, bne_eq_false_iff_eq, Bool.not_eq_true', Bool.not_eq_false', Int.not_lt, Int.not_le, gt_iff_lt, ge_iff_le, ne_eq] at b13
  exfalso; first | contradiction | omega
  try simp only [decide_eq_true_eq, decide_eq_false_iff_not, beq_iff_eq, bne_iff_ne, beq_eq_false_iff_ne, bne_eq_false_iff_eq, Bool.not_eq_true', Bool.not_eq_false', Int.not_lt, Int.not_le, gt_iff_lt, ge_iff_le, ne_eq] at b12
  exfalso; first | contradiction | omega
  try simp only [decide_eq_true_eq, decide_eq_false_iff_not, beq_iff_eq, bne_iff_ne, beq_eq_false_iff_ne, bne_eq_false_iff_eq, Bool.not_eq_true', Bool.not_eq_false', Int.not_lt, Int.not_le, gt_iff_lt, ge_iff_le, ne_eq] at b4
  refine DetK.skip rfl rfl rfl rfl ?_
  refine DetK.skip rfl rfl rfl rfl ?_
  refine DetK.skip rfl rfl rfl rfl ?_
  refine DetK.skipU rfl rfl rfl ?_
  refine DetK.skipU rfl rfl rfl ?_
  refine DetK.skipU rfl rfl rfl ?_
  refine DetK.skipU rfl rfl rfl ?_
  refine DetK.skipU rfl rfl rfl ?_
  refine DetK.skipU rfl rfl rfl ?_
  refine DetK.skipU rfl rfl rfl ?_
  refine DetK.skipU rfl rfl rfl ?_
  refine DetK.skipU rfl rfl rfl ?_
  refine DetK.skipU rfl rfl rfl ?_
  refine DetK.skipU rfl rfl rfl ?_
  refine DetK.skipU rfl rfl rfl ?_
  refine DetK.skipU rfl rfl rfl ?_
  refine DetK.skip rfl rfl rfl rfl ?_
  refine DetK.op rfl (OpA.pck rfl rfl (by with_reducible conv => lhs; whnf) ⟨rfl, rfl⟩) ?_
  refine DetK.nil ?_
  refine wpL_nil ?_
  refine wpA_condF rfl ?_
  refine wpA_skip ?_
  refine wpA_seq ?_
  refine wpA_seq ?_
  refine wpA_draw (m := 34) mo (by kernel_rfl) rfl ?_
  refine DetK.op rfl (OpA.mv rfl (by with_reducible conv => lhs; whnf) ⟨rfl, rfl⟩) ?_
  refine DetK.op rfl (OpA.mv rfl (by with_reducible conv => lhs; whnf) ⟨rfl, rfl⟩) ?_
  first
    | refine DetK.op rfl (OpA.len rfl rfl rfl rfl ts22.desc (.inl ⟨_, _, rfl, (List.length_map _).symm⟩) ⟨rfl, rfl⟩) ?_
    | refine DetK.op rfl (OpA.len rfl rfl rfl rfl ts22.desc (.inl ⟨_, _, rfl, rfl⟩) ⟨rfl, rfl⟩) ?_
    | refine DetK.op rfl (OpA.len rfl rfl rfl rfl ts22.desc (.inr (.inl ⟨_, _, _, rfl⟩)) ⟨rfl, rfl⟩) ?_
    | refine DetK.op rfl (OpA.len rfl rfl rfl rfl ts22.desc (.inr (.inr ⟨rfl, rfl⟩)) ⟨rfl, rfl⟩) ?_
  refine DetK.op rfl (OpA.lss rfl rfl rfl ⟨rfl, rfl⟩) ?_
  refine DetK.op rfl (OpA.mv rfl (by with_reducible conv => lhs; whnf) ⟨rfl, rfl⟩) ?_
  refine DetK_split (s := 87) rfl (fun b17 => ?_) (fun b17 => ?_)
  try simp only [decide_eq_true_eq, decide_eq_false_iff_not, beq_iff_eq, bne_iff_ne, beq_eq_false_iff_ne, bne_eq_false_iff_eq, Bool.not_eq_true', Bool.not_eq_false', Int.not_lt, Int.not_le, gt_iff_lt, ge_iff_le, ne_eq] at b17
  refine DetK.opg rfl rfl rfl rfl (OpA.mv rfl (by with_reducible conv => lhs; whnf) ⟨rfl, rfl⟩) ?_
  refine DetK.opg rfl rfl rfl rfl (OpA.mv rfl (by with_reducible conv => lhs; whnf) ⟨rfl, rfl⟩) ?_
  first
    | refine DetK.opg rfl rfl rfl rfl (OpA.len rfl rfl rfl rfl ts22.desc (.inl ⟨_, _, rfl, (List.length_map _).symm⟩) ⟨rfl, rfl⟩) ?_
    | refine DetK.opg rfl rfl rfl rfl (OpA.len rfl rfl rfl rfl ts22.desc (.inl ⟨_, _, rfl, rfl⟩) ⟨rfl, rfl⟩) ?_
    | refine DetK.opg rfl rfl rfl rfl (OpA.len rfl rfl rfl rfl ts22.desc (.inr (.inl ⟨_, _, _, rfl⟩)) ⟨rfl, rfl⟩) ?_
    | refine DetK.opg rfl rfl rfl rfl (OpA.len rfl rfl rfl rfl ts22.desc (.inr (.inr ⟨rfl, rfl⟩)) ⟨rfl, rfl⟩) ?_
  refine DetK.opg rfl rfl rfl rfl (OpA.lss rfl rfl rfl ⟨rfl, rfl⟩) ?_
  refine DetK.op rfl (OpA.pck rfl rfl (by with_reducible conv => lhs; whnf) ⟨rfl, rfl⟩) ?_
  refine DetK.op rfl (OpA.mv rfl (by with_reducible conv => lhs; whnf) ⟨rfl, rfl⟩) ?_
  refine DetK_split (s := 93) rfl (fun b18 => ?_) (fun b18 => ?_)
  try simp only [decide_eq_true_eq, decide_eq_false_iff_not, beq_iff_eq, bne_iff_ne, beq_eq_false_iff_ne, bne_eq_false_iff_eq, Bool.not_eq_true', Bool.not_eq_false', Int.not_lt, Int.not_le, gt_iff_lt, ge_iff_le, ne_eq] at b18
  exfalso; first | contradiction | omega
  try simp only [decide_eq_true_eq, decide_eq_false_iff_not, beq_iff_eq, bne_iff_ne, beq_eq_false_iff_ne, bne_eq_false_iff_eq, Bool.not_eq_true', Bool.not_eq_false', Int.not_lt, Int.not_le, gt_iff_lt, ge_iff_le, ne_eq] at b18
  refine DetK.skip rfl rfl rfl rfl ?_
  refine DetK.skip rfl rfl rfl rfl ?_
  refine DetK.skip rfl rfl rfl rfl ?_
  refine DetK.skip rfl rfl rfl rfl ?_
  refine DetK.skip rfl rfl rfl rfl ?_
  refine DetK.skip rfl rfl rfl rfl ?_
  refine DetK.skip rfl rfl rfl rfl ?_
  refine DetK.skip rfl rfl rfl rfl ?_
  refine DetK.skip rfl rfl rfl rfl ?_
  refine DetK.skip rfl rfl rfl rfl ?_
  refine DetK.skip rfl rfl rfl rfl ?_
  refine DetK.skip rfl rfl rfl rfl ?_
  refine DetK.skip rfl rfl rfl rfl ?_
  refine DetK.skip rfl rfl rfl rfl ?_
  refine DetK.skip rfl rfl rfl rfl ?_
  refine DetK.skip rfl rfl rfl rfl ?_
  refine DetK.skip rfl rfl rfl rfl ?_
  refine DetK.skip rfl rfl rfl rfl ?_
  refine DetK.skip rfl rfl rfl rfl ?_
  refine DetK.skip rfl rfl rfl rfl ?_
  refine DetK.skip rfl rfl rfl rfl ?_
  refine DetK.skip rfl rfl rfl rfl ?_
  refine DetK.op rfl (OpA.pck rfl rfl (by with_reducible conv => lhs; whnf) ⟨rfl, rfl⟩) ?_
  refine DetK.nil ?_
  refine wpL_nil ?_
  refine wpA_condF rfl ?_
  refine wpA_skip ?_
  refine wpA_seq ?_
  refine wpA_seq ?_
  refine wpA_region ?_
  refine wpL_op rfl rfl rfl (OpA.mv rfl (by with_reducible conv => lhs; whnf) ?_)
  refine wpL_op rfl rfl rfl (OpA.lss rfl rfl rfl ?_)
  refine wpL_nil ?_
  refine wpA_cond rfl (fun b19 => ?_) (fun b19 => ?_)
  try simp only [decide_eq_true_eq, decide_eq_false_iff_not, beq_iff_eq, bne_iff_ne, beq_eq_false_iff_ne, bne_eq_false_iff_eq, Bool.not_eq_true', Bool.not_eq_false', Int.not_lt, Int.not_le, gt_iff_lt, ge_iff_le, ne_eq] at b19
  exfalso; first | contradiction | omega
  try simp only [decide_eq_true_eq, decide_eq_false_iff_not, beq_iff_eq, bne_iff_ne, beq_eq_false_iff_ne, bne_eq_false_iff_eq, Bool.not_eq_true', Bool.not_eq_false', Int.not_lt, Int.not_le, gt_iff_lt, ge_iff_le, ne_eq] at b19
  refine wpA_skip ?_
  refine wpA_region ?_
  refine wpL_op rfl rfl rfl (OpA.mv rfl (by with_reducible conv => lhs; whnf) ?_)
  refine wpL_op rfl rfl rfl (OpA.mv rfl (by with_reducible conv => lhs; whnf) ?_)
  refine wpL_op rfl rfl rfl (OpA.ixN rfl ts48 rfl rfl (by first | exact nat_lit0 | exact nat_lit1 | exact nat_lit2 | exact nat_add1 _ | exact nat_add _ _ | exact rfl | exact nat_sub1 (by omega) | exact nat_sub (by omega) | exact natp1 (nat_sub (by omega)) | exact nat_of (by omega)) (by omega) ?_)
  refine wpL_op rfl rfl rfl (OpA.load rfl ti25 rfl (.tail .head) (at0 hk2) rfl ?_)
  refine wpL_op rfl rfl rfl (OpA.mv rfl (by with_reducible conv => lhs; whnf) ?_)
  refine wpL_op rfl rfl rfl (OpA.mv rfl (by with_reducible conv => lhs; whnf) ?_)
  refine wpL_op rfl rfl rfl (OpA.ixN rfl ts25 rfl rfl (by first | exact nat_lit0 | exact nat_lit1 | exact nat_lit2 | exact nat_add1 _ | exact nat_add _ _ | exact rfl | exact nat_sub1 (by omega) | exact nat_sub (by omega) | exact natp1 (nat_sub (by omega)) | exact nat_of (by omega)) (by omega) ?_)
  refine wpL_eff rfl rfl (OpA.storeI rfl ti3 rfl rfl (by omega) .head ?_)
  refine wpL_nil ?_
  refine wpA_region ?_
  refine wpL_op rfl rfl rfl (OpA.mv rfl (by with_reducible conv => lhs; whnf) ?_)
  refine wpL_op rfl rfl rfl (OpA.subi rfl rfl rfl (by omega) ?_)
  refine wpL_op rfl rfl rfl (OpA.asn rfl (by with_reducible conv => lhs; whnf) ?_)
  refine wpL_nil ?_
  exact ⟨_, _, by omega, ⟨(j : Int) - 1, _, rfl, ⟨by omega, by omega, by rw [List.length_set]; omega, cell_set hl (by omega) hL (by omega)⟩, rfl, rfl⟩, Cov.asg ⟨rfl, rfl, rfl, rfl, rfl, rfl, rfl, trivial⟩⟩
  try simp only [decide_eq_true_eq, decide_eq_false_iff_not, beq_iff_eq, bne_iff_ne, beq_eq_false_iff_ne, bne_eq_false_iff_eq, Bool.not_eq_true', Bool.not_eq_false', Int.not_lt, Int.not_le, gt_iff_lt, ge_iff_le, ne_eq] at b17
  exfalso; first | contradiction | omega
  try simp only [decide_eq_true_eq, decide_eq_false_iff_not, beq_iff_eq, bne_iff_ne, beq_eq_false_iff_ne, bne_eq_false_iff_eq, Bool.not_eq_true', Bool.not_eq_false', Int.not_lt, Int.not_le, gt_iff_lt, ge_iff_le, ne_eq] at b3
  refine wpA_skip ?_
  refine wpA_seq ?_
  refine wpA_seq ?_
  refine wpA_draw (m := 23) mo (by kernel_rfl) rfl ?_
  refine DetK.op rfl (OpA.mv rfl (by with_reducible conv => lhs; whnf) ⟨rfl, rfl⟩) ?_
  refine DetK.op rfl (OpA.mv rfl (by with_reducible conv => lhs; whnf) ⟨rfl, rfl⟩) ?_
  first
    | refine DetK.op rfl (OpA.len rfl rfl rfl rfl ts22.desc (.inl ⟨_, _, rfl, (List.length_map _).symm⟩) ⟨rfl, rfl⟩) ?_
    | refine DetK.op rfl (OpA.len rfl rfl rfl rfl ts22.desc (.inl ⟨_, _, rfl, rfl⟩) ⟨rfl, rfl⟩) ?_
    | refine DetK.op rfl (OpA.len rfl rfl rfl rfl ts22.desc (.inr (.inl ⟨_, _, _, rfl⟩)) ⟨rfl, rfl⟩) ?_
    | refine DetK.op rfl (OpA.len rfl rfl rfl rfl ts22.desc (.inr (.inr ⟨rfl, rfl⟩)) ⟨rfl, rfl⟩) ?_
  refine DetK.op rfl (OpA.lss rfl rfl rfl ⟨rfl, rfl⟩) ?_
  refine DetK.op rfl (OpA.mv rfl (by with_reducible conv => lhs; whnf) ⟨rfl, rfl⟩) ?_
  refine DetK_split (s := 53) rfl (fun b20 => ?_) (fun b20 => ?_)
  try simp only [decide_eq_true_eq, decide_eq_false_iff_not, beq_iff_eq, bne_iff_ne, beq_eq_false_iff_ne, bne_eq_false_iff_eq, Bool.not_eq_true', Bool.not_eq_false', Int.not_lt, Int.not_le, gt_iff_lt, ge_iff_le, ne_eq] at b20
  refine DetK.opg rfl rfl rfl rfl (OpA.mv rfl (by with_reducible conv => lhs; whnf) ⟨rfl, rfl⟩) ?_
  refine DetK.opg rfl rfl rfl rfl (OpA.lss rfl rfl rfl ⟨rfl, rfl⟩) ?_
  refine DetK.opg rfl rfl rfl rfl (OpA.mv rfl (by with_reducible conv => lhs; whnf) ⟨rfl, rfl⟩) ?_
  refine DetK_split (s := 56) rfl (fun b21 => ?_) (fun b21 => ?_)
  try simp only [decide_eq_true_eq, decide_eq_false_iff_not, beq_iff_eq, bne_iff_ne, beq_eq_false_iff_ne, bne_eq_false_iff_eq, Bool.not_eq_true', Bool.not_eq_false', Int.not_lt, Int.not_le, gt_iff_lt, ge_iff_le, ne_eq] at b21
  refine DetK.skip rfl rfl rfl rfl ?_
  refine DetK.skip rfl rfl rfl rfl ?_
  refine DetK.skip rfl rfl rfl rfl ?_
  refine DetK.skip rfl rfl rfl rfl ?_
  refine DetK.skip rfl rfl rfl rfl ?_
  refine DetK.skip rfl rfl rfl rfl ?_
  refine DetK.skip rfl rfl rfl rfl ?_
  refine DetK.skip rfl rfl rfl rfl ?_
  refine DetK.skip rfl rfl rfl rfl ?_
  refine DetK.skip rfl rfl rfl rfl ?_
  refine DetK.skip rfl rfl rfl rfl ?_
  refine DetK.skip rfl rfl rfl rfl ?_
  refine DetK.skip rfl rfl rfl rfl ?_
  refine DetK.opg rfl rfl rfl rfl (OpA.pck rfl rfl (by with_reducible conv => lhs; whnf) ⟨rfl, rfl⟩) ?_
  refine DetK.op rfl (OpA.pck rfl rfl (by with_reducible conv => lhs; whnf) ⟨rfl, rfl⟩) ?_
  refine DetK.nil ?_
  refine wpL_nil ?_
  refine wpA_condT rfl ?_
  refine wpA_draw (m := 12) mo (by kernel_rfl) rfl ?_
  refine DetK.op rfl (OpA.mv rfl (by with_reducible conv => lhs; whnf) ⟨rfl, rfl⟩) ?_
  refine DetK.op rfl (OpA.mv rfl (by with_reducible conv => lhs; whnf) ⟨rfl, rfl⟩) ?_
  refine DetK.op rfl (OpA.ixN rfl ts48 rfl rfl (by first | exact nat_lit0 | exact nat_lit1 | exact nat_lit2 | exact nat_add1 _ | exact nat_add _ _ | exact rfl | exact nat_sub1 (by omega) | exact nat_sub (by omega) | exact natp1 (nat_sub (by omega)) | exact nat_of (by omega)) (by omega) ⟨rfl, rfl⟩) ?_
  refine DetK.op rfl (OpA.load rfl ti25 rfl (.tail .head) (at0 hk2) rfl ⟨rfl, rfl⟩) ?_
  refine DetK.op rfl (OpA.mv rfl (by with_reducible conv => lhs; whnf) ⟨rfl, rfl⟩) ?_
  refine DetK.op rfl (OpA.addi rfl rfl rfl (by omega) ⟨rfl, rfl⟩) ?_
  refine DetK.op rfl (OpA.ixN rfl ts25 rfl rfl (by first | exact nat_lit0 | exact nat_lit1 | exact nat_lit2 | exact nat_add1 _ | exact nat_add _ _ | exact rfl | exact nat_sub1 (by omega) | exact nat_sub (by omega) | exact natp1 (nat_sub (by omega)) | exact nat_of (by omega)) (by omega) ⟨rfl, rfl⟩) ?_
  refine DetK.op rfl (OpA.load rfl ti3 rfl .head (mapI (hL (j + 1) (by omega) (by omega))) rfl ⟨rfl, rfl⟩) ?_
  refine DetK.op rfl (OpA.fieldAddr rfl tf24_2 rfl ⟨rfl, rfl⟩) ?_
  refine DetK.op rfl (OpA.load rfl ti3 rfl (.tail (.tail hc5)) (by first | rfl | exact getM _ _ _ (by omega) | exact getO (by omega) | exact getL _ _ (by omega) | (simp; done)) (by first | rfl | exact getM _ _ _ (by omega) | exact getO (by omega) | exact getL _ _ (by omega) | (simp; done)) ⟨rfl, rfl⟩) ?_
  refine DetK.op rfl (OpA.addi rfl rfl rfl (by omega) ⟨rfl, rfl⟩) ?_
  refine DetK.op rfl (OpA.asn rfl (by with_reducible conv => lhs; whnf) ⟨rfl, rfl⟩) ?_
  refine DetK.nil ?_
  refine wpL_nil ?_
  refine wpA_seq ?_
  refine wpA_seq ?_
  refine wpA_draw (m := 34) mo (by kernel_rfl) rfl ?_
  refine DetK.op rfl (OpA.mv rfl (by with_reducible conv => lhs; whnf) ⟨rfl, rfl⟩) ?_
  refine DetK.op rfl (OpA.mv rfl (by with_reducible conv => lhs; whnf) ⟨rfl, rfl⟩) ?_
  first
    | refine DetK.op rfl (OpA.len rfl rfl rfl rfl ts22.desc (.inl ⟨_, _, rfl, (List.length_map _).symm⟩) ⟨rfl, rfl⟩) ?_
    | refine DetK.op rfl (OpA.len rfl rfl rfl rfl ts22.desc (.inl ⟨_, _, rfl, rfl⟩) ⟨rfl, rfl⟩) ?_
    | refine DetK.op rfl (OpA.len rfl rfl rfl rfl ts22.desc (.inr (.inl ⟨_, _, _, rfl⟩)) ⟨rfl, rfl⟩) ?_
    | refine DetK.op rfl (OpA.len rfl rfl rfl rfl ts22.desc (.inr (.inr ⟨rfl, rfl⟩)) ⟨rfl, rfl⟩) ?_
  refine DetK.op rfl (OpA.lss rfl rfl rfl ⟨rfl, rfl⟩) ?_
  refine DetK.op rfl (OpA.mv rfl (by with_reducible conv => lhs; whnf) ⟨rfl, rfl⟩) ?_
  refine DetK_split (s := 87) rfl (fun b22 => ?_) (fun b22 => ?_)
  try simp only [decide_eq_true_eq, decide_eq_false_iff_not, beq_iff_eq, bne_iff_ne, beq_eq_false_iff_ne, bne_eq_false_iff_eq, Bool.not_eq_true', Bool.not_eq_false', Int.not_lt, Int.not_le, gt_iff_lt, ge_iff_le, ne_eq] at b22
  exfalso; first | contradiction | omega
  try simp only [decide_eq_true_eq, decide_eq_false_iff_not, beq_iff_eq, bne_iff_ne, beq_eq_false_iff_ne, bne_eq_false_iff_eq, Bool.not_eq_true', Bool.not_eq_false', Int.not_lt, Int.not_le, gt_iff_lt, ge_iff_le, ne_eq] at b22
  refine DetK.skip rfl rfl rfl rfl ?_
  refine DetK.skip rfl rfl rfl rfl ?_
  refine DetK.skip rfl rfl rfl rfl ?_
  refine DetK.skip rfl rfl rfl rfl ?_
  refine DetK.op rfl (OpA.pck rfl rfl (by with_reducible conv => lhs; whnf) ⟨rfl, rfl⟩) ?_
  refine DetK.op rfl (OpA.mv rfl (by with_reducible conv => lhs; whnf) ⟨rfl, rfl⟩) ?_
  refine DetK.skip rfl rfl rfl rfl ?_
  refine DetK.skip rfl rfl rfl rfl ?_
  refine DetK.skip rfl rfl rfl rfl ?_
  refine DetK.skip rfl rfl rfl rfl ?_
  refine DetK.skip rfl rfl rfl rfl ?_
  refine DetK.skip rfl rfl rfl rfl ?_
  refine DetK.skip rfl rfl rfl rfl ?_
  refine DetK.skip rfl rfl rfl rfl ?_
  refine DetK.skip rfl rfl rfl rfl ?_
  refine DetK.skip rfl rfl rfl rfl ?_
  refine DetK.skip rfl rfl rfl rfl ?_
  refine DetK.skip rfl rfl rfl rfl ?_
  refine DetK.skip rfl rfl rfl rfl ?_
  refine DetK.skip rfl rfl rfl rfl ?_
  refine DetK.skip rfl rfl rfl rfl ?_
  refine DetK.skip rfl rfl rfl rfl ?_
  refine DetK.skip rfl rfl rfl rfl ?_
  refine DetK.skip rfl rfl rfl rfl ?_
  refine DetK.skip rfl rfl rfl rfl ?_
  refine DetK.skip rfl rfl rfl rfl ?_
  refine DetK.skip rfl rfl rfl rfl ?_
  refine DetK.skip rfl rfl rfl rfl ?_
  refine DetK.op rfl (OpA.pck rfl rfl (by with_reducible conv => lhs; whnf) ⟨rfl, rfl⟩) ?_
  refine DetK.nil ?_
  refine wpL_nil ?_
  refine wpA_condF rfl ?_
  refine wpA_skip ?_
  refine wpA_seq ?_
  refine wpA_seq ?_
  refine wpA_region ?_
  refine wpL_op rfl rfl rfl (OpA.mv rfl (by with_reducible conv => lhs; whnf) ?_)
  refine wpL_op rfl rfl rfl (OpA.lss rfl rfl rfl ?_)
  refine wpL_nil ?_
  refine wpA_cond rfl (fun b23 => ?_) (fun b23 => ?_)
  try simp only [decide_eq_true_eq, decide_eq_false_iff_not, beq_iff_eq, bne_iff_ne, beq_eq_false_iff_ne, bne_eq_false_iff_eq, Bool.not_eq_true', Bool.not_eq_false', Int.not_lt, Int.not_le, gt_iff_lt, ge_iff_le, ne_eq] at b23
  exfalso; first | contradiction | omega
  try simp only [decide_eq_true_eq, decide_eq_false_iff_not, beq_iff_eq, bne_iff_ne, beq_eq_false_iff_ne, bne_eq_false_iff_eq, Bool.not_eq_true', Bool.not_eq_false', Int.not_lt, Int.not_le, gt_iff_lt, ge_iff_le, ne_eq] at b23
  refine wpA_skip ?_
  refine wpA_region ?_
  refine wpL_op rfl rfl rfl (OpA.mv rfl (by with_reducible conv => lhs; whnf) ?_)
  refine wpL_op rfl rfl rfl (OpA.mv rfl (by with_reducible conv => lhs; whnf) ?_)
  refine wpL_op rfl rfl rfl (OpA.ixN rfl ts48 rfl rfl (by first | exact nat_lit0 | exact nat_lit1 | exact nat_lit2 | exact nat_add1 _ | exact nat_add _ _ | exact rfl | exact nat_sub1 (by omega) | exact nat_sub (by omega) | exact natp1 (nat_sub (by omega)) | exact nat_of (by omega)) (by omega) ?_)
  refine wpL_op rfl rfl rfl (OpA.load rfl ti25 rfl (.tail .head) (at0 hk2) rfl ?_)
  refine wpL_op rfl rfl rfl (OpA.mv rfl (by with_reducible conv => lhs; whnf) ?_)
  refine wpL_op rfl rfl rfl (OpA.mv rfl (by with_reducible conv => lhs; whnf) ?_)
  refine wpL_op rfl rfl rfl (OpA.ixN rfl ts25 rfl rfl (by first | exact nat_lit0 | exact nat_lit1 | exact nat_lit2 | exact nat_add1 _ | exact nat_add _ _ | exact rfl | exact nat_sub1 (by omega) | exact nat_sub (by omega) | exact natp1 (nat_sub (by omega)) | exact nat_of (by omega)) (by omega) ?_)
  refine wpL_eff rfl rfl (OpA.storeI rfl ti3 rfl rfl (by omega) .head ?_)
  refine wpL_nil ?_
  refine wpA_region ?_
  refine wpL_op rfl rfl rfl (OpA.mv rfl (by with_reducible conv => lhs; whnf) ?_)
  refine wpL_op rfl rfl rfl (OpA.subi rfl rfl rfl (by omega) ?_)
  refine wpL_op rfl rfl rfl (OpA.asn rfl (by with_reducible conv => lhs; whnf) ?_)
  refine wpL_nil ?_
  exact ⟨_, _, by omega, ⟨(j : Int) - 1, _, rfl, ⟨by omega, by omega, by rw [List.length_set]; omega, cell_set hl (by omega) hL (by omega)⟩, rfl, rfl⟩, Cov.asg ⟨rfl, rfl, rfl, rfl, rfl, rfl, rfl, trivial⟩⟩
  try simp only [decide_eq_true_eq, decide_eq_false_iff_not, beq_iff_eq, bne_iff_ne, beq_eq_false_iff_ne, bne_eq_false_iff_eq, Bool.not_eq_true', Bool.not_eq_false', Int.not_lt, Int.not_le, gt_iff_lt, ge_iff_le, ne_eq] at b21
  exfalso; first | contradiction | omega
  try simp only [decide_eq_true_eq, decide_eq_false_iff_not, beq_iff_eq, bne_iff_ne, beq_eq_false_iff_ne, bne_eq_false_iff_eq, Bool.not_eq_true', Bool.not_eq_false', Int.not_lt, Int.not_le, gt_iff_lt, ge_iff_le, ne_eq] at b20
  refine DetK.skip rfl rfl rfl rfl ?_
  refine DetK.skip rfl rfl rfl rfl ?_
  refine DetK.skip rfl rfl rfl rfl ?_
  refine DetK.skipU rfl rfl rfl ?_
  refine DetK.skipU rfl rfl rfl ?_
  refine DetK.skipU rfl rfl rfl ?_
  refine DetK.skipU rfl rfl rfl ?_
  refine DetK.skipU rfl rfl rfl ?_
  refine DetK.skipU rfl rfl rfl ?_
  refine DetK.skipU rfl rfl rfl ?_
  refine DetK.skipU rfl rfl rfl ?_
  refine DetK.skipU rfl rfl rfl ?_
  refine DetK.skipU rfl rfl rfl ?_
  refine DetK.skipU rfl rfl rfl ?_
  refine DetK.skipU rfl rfl rfl ?_
  refine DetK.skipU rfl rfl rfl ?_
  refine DetK.skip rfl rfl rfl rfl ?_
  refine DetK.op rfl (OpA.pck rfl rfl (by with_reducible conv => lhs; whnf) ⟨rfl, rfl⟩) ?_
  refine DetK.nil ?_
  refine wpL_nil ?_
  refine wpA_condF rfl ?_
  refine wpA_skip ?_
  refine wpA_seq ?_
  refine wpA_seq ?_
  refine wpA_draw (m := 34) mo (by kernel_rfl) rfl ?_
  refine DetK.op rfl (OpA.mv rfl (by with_reducible conv => lhs; whnf) ⟨rfl, rfl⟩) ?_
  refine DetK.op rfl (OpA.mv rfl (by with_reducible conv => lhs; whnf) ⟨rfl, rfl⟩) ?_
  first
    | refine DetK.op rfl (OpA.len rfl rfl rfl rfl ts22.desc (.inl ⟨_, _, rfl, (List.length_map _).symm⟩) ⟨rfl, rfl⟩) ?_
    | refine DetK.op rfl (OpA.len rfl rfl rfl rfl ts22.desc (.inl ⟨_, _, rfl, rfl⟩) ⟨rfl, rfl⟩) ?_
    | refine DetK.op rfl (OpA.len rfl rfl rfl rfl ts22.desc (.inr (.inl ⟨_, _, _, rfl⟩)) ⟨rfl, rfl⟩) ?_
    | refine DetK.op rfl (OpA.len rfl rfl rfl rfl ts22.desc (.inr (.inr ⟨rfl, rfl⟩)) ⟨rfl, rfl⟩) ?_
  refine DetK.op rfl (OpA.lss rfl rfl rfl ⟨rfl, rfl⟩) ?_
  refine DetK.op rfl (OpA.mv rfl (by with_reducible conv => lhs; whnf) ⟨rfl, rfl⟩) ?_
  refine DetK_split (s := 87) rfl (fun b24 => ?_) (fun b24 => ?_)
  try simp only [decide_eq_true_eq, decide_eq_false_iff_not, beq_iff_eq, bne_iff_ne, beq_eq_false_iff_ne, bne_eq_false_iff_eq, Bool.not_eq_true', Bool.not_eq_false', Int.not_lt, Int.not_le, gt_iff_lt, ge_iff_le, ne_eq] at b24
  exfalso; first | contradiction | omega
  try simp only [decide_eq_true_eq, decide_eq_false_iff_not, beq_iff_eq, bne_iff_ne, beq_eq_false_iff_ne, bne_eq_false_iff_eq, Bool.not_eq_true', Bool.not_eq_false', Int.not_lt, Int.not_le, gt_iff_lt, ge_iff_le, ne_eq] at b24
  refine DetK.skip rfl rfl rfl rfl ?_
  refine DetK.skip rfl rfl rfl rfl ?_
  refine DetK.skip rfl rfl rfl rfl ?_
  refine DetK.skip rfl rfl rfl rfl ?_
  refine DetK.op rfl (OpA.pck rfl rfl (by with_reducible conv => lhs; whnf) ⟨rfl, rfl⟩) ?_
  refine DetK.op rfl (OpA.mv rfl (by with_reducible conv => lhs; whnf) ⟨rfl, rfl⟩) ?_
  refine DetK.skip rfl rfl rfl rfl ?_
  refine DetK.skip rfl rfl rfl rfl ?_
  refine DetK.skip rfl rfl rfl rfl ?_
  refine DetK.skip rfl rfl rfl rfl ?_
  refine DetK.skip rfl rfl rfl rfl ?_
  refine DetK.skip rfl rfl rfl rfl ?_
  refine DetK.skip rfl rfl rfl rfl ?_
  refine DetK.skip rfl rfl rfl rfl ?_
  refine DetK.skip rfl rfl rfl rfl ?_
  refine DetK.skip rfl rfl rfl rfl ?_
  refine DetK.skip rfl rfl rfl rfl ?_
  refine DetK.skip rfl rfl rfl rfl ?_
  refine DetK.skip rfl rfl rfl rfl ?_
  refine DetK.skip rfl rfl rfl rfl ?_
  refine DetK.skip rfl rfl rfl rfl ?_
  refine DetK.skip rfl rfl rfl rfl ?_
  refine DetK.skip rfl rfl rfl rfl ?_
  refine DetK.skip rfl rfl rfl rfl ?_
  refine DetK.skip rfl rfl rfl rfl ?_
  refine DetK.skip rfl rfl rfl rfl ?_
  refine DetK.skip rfl rfl rfl rfl ?_
  refine DetK.skip rfl rfl rfl rfl ?_
  refine DetK.op rfl (OpA.pck rfl rfl (by with_reducible conv => lhs; whnf) ⟨rfl, rfl⟩) ?_
  refine DetK.nil ?_
  refine wpL_nil ?_
  refine wpA_condF rfl ?_
  refine wpA_skip ?_
  refine wpA_seq ?_
  refine wpA_seq ?_
  refine wpA_region ?_
  refine wpL_op rfl rfl rfl (OpA.mv rfl (by with_reducible conv => lhs; whnf) ?_)
  refine wpL_op rfl rfl rfl (OpA.lss rfl rfl rfl ?_)
  refine wpL_nil ?_
  refine wpA_cond rfl (fun b25 => ?_) (fun b25 => ?_)
  try simp only [decide_eq_true_eq, decide_eq_false_iff_not, beq_iff_eq, bne_iff_ne, beq_eq_false_iff_ne, bne_eq_false_iff_eq, Bool.not_eq_true', Bool.not_eq_false', Int.not_lt, Int.not_le, gt_iff_lt, ge_iff_le, ne_eq] at b25
  refine wpA_region ?_
  refine wpL_op rfl rfl rfl (OpA.asn rfl (by with_reducible conv => lhs; whnf) ?_)
  refine wpL_nil ?_
  refine wpA_region ?_
  refine wpL_op rfl rfl rfl (OpA.mv rfl (by with_reducible conv => lhs; whnf) ?_)
  refine wpL_op rfl rfl rfl (OpA.mv rfl (by with_reducible conv => lhs; whnf) ?_)
  refine wpL_op rfl rfl rfl (OpA.ixN rfl ts48 rfl rfl (by first | exact nat_lit0 | exact nat_lit1 | exact nat_lit2 | exact nat_add1 _ | exact nat_add _ _ | exact rfl | exact nat_sub1 (by omega) | exact nat_sub (by omega) | exact natp1 (nat_sub (by omega)) | exact nat_of (by omega)) (by omega) ?_)
  refine wpL_op rfl rfl rfl (OpA.load rfl ti25 rfl (.tail .head) (at0 hk2) rfl ?_)
  refine wpL_op rfl rfl rfl (OpA.mv rfl (by with_reducible conv => lhs; whnf) ?_)
  refine wpL_op rfl rfl rfl (OpA.mv rfl (by with_reducible conv => lhs; whnf) ?_)
  refine wpL_op rfl rfl rfl (OpA.ixN rfl ts25 rfl rfl (by first | exact nat_lit0 | exact nat_lit1 | exact nat_lit2 | exact nat_add1 _ | exact nat_add _ _ | exact rfl | exact nat_sub1 (by omega) | exact nat_sub (by omega) | exact natp1 (nat_sub (by omega)) | exact nat_of (by omega)) (by omega) ?_)
  refine wpL_eff rfl rfl (OpA.storeI rfl ti3 rfl rfl (by omega) .head ?_)
  refine wpL_nil ?_
  refine wpA_region ?_
  refine wpL_op rfl rfl rfl (OpA.mv rfl (by with_reducible conv => lhs; whnf) ?_)
  refine wpL_op rfl rfl rfl (OpA.subi rfl rfl rfl (by omega) ?_)
  refine wpL_op rfl rfl rfl (OpA.asn rfl (by with_reducible conv => lhs; whnf) ?_)
  refine wpL_nil ?_
  exact ⟨_, _, by omega, ⟨(j : Int) - 1, _, rfl, ⟨by omega, by omega, by rw [List.length_set]; omega, cell_set hl (by omega) hL (by omega)⟩, rfl, rfl⟩, Cov.asg ⟨rfl, rfl, rfl, rfl, rfl, rfl, rfl, trivial⟩⟩
  try simp only [decide_eq_true_eq, decide_eq_false_iff_not, beq_iff_eq, bne_iff_ne, beq_eq_false_iff_ne, bne_eq_false_iff_eq, Bool.not_eq_true', Bool.not_eq_false', Int.not_lt, Int.not_le, gt_iff_lt, ge_iff_le, ne_eq] at b25
  exfalso; first | contradiction | omega
  try simp only [decide_eq_true_eq, decide_eq_false_iff_not, beq_iff_eq, bne_iff_ne, beq_eq_false_iff_ne, bne_eq_false_iff_eq, Bool.not_eq_true', Bool.not_eq_false', Int.not_lt, Int.not_le, gt_iff_lt, ge_iff_le, ne_eq] at b2
  refine wpA_exit ?_
  refine wpA_region ?_
  refine wpL_op rfl rfl rfl (OpA.mv rfl (by with_reducible conv => lhs; whnf) ?_)
  refine wpL_op rfl rfl rfl (OpA.subi rfl rfl rfl (by omega) ?_)
  refine wpL_op rfl rfl rfl (OpA.asn rfl (by with_reducible conv => lhs; whnf) ?_)
  refine wpL_nil ?_
  exact ⟨_, _, _, by omega, ⟨(k : Int) - 1, _, _, rfl, ⟨by omega, by omega, hR2.push hk2 hl (fun j hj => hL j hj (by omega)) (by intro i h1 h2; first | omega | (dsimp only at *; omega)), .tail hc5⟩, rfl, rfl⟩, .swap _ _ _, Cov.asg ⟨rfl, rfl, rfl, rfl, rfl, rfl, trivial⟩⟩
  try simp only [decide_eq_true_eq, decide_eq_false_iff_not, beq_iff_eq, bne_iff_ne, beq_eq_false_iff_ne, bne_eq_false_iff_eq, Bool.not_eq_true', Bool.not_eq_false', Int.not_lt, Int.not_le, gt_iff_lt, ge_iff_le, ne_eq] at b1
  refine wpA_exit ?_
  refine wpA_seq ?_
  refine wpA_region ?_
  refine wpL_op rfl rfl rfl (OpA.mv rfl (by with_reducible conv => lhs; whnf) ?_)
  refine wpL_op rfl rfl rfl (OpA.asn rfl (by with_reducible conv => lhs; whnf) ?_)
  refine wpL_nil ?_
  refine wpA_ret ?_
  refine ⟨_, (.tmp (by with_reducible conv => lhs; whnf) .nil), _, (hR.snap (by intro i h1; first | omega | (dsimp only; omega)) .head (fun _ _ h => .tail h) .nil), ?_⟩
  (try simp only [tupD]) <;> (rfl)
end Go.Proofs.Ythggcjnmodeehaa
