/-
  walks
-/
import Derived.Test.YthggcjnmodeehaaW10
import Derived.Test.YthggcjnmodeehaaSpec4
set_option linter.all false
namespace Go.Proofs.Ythggcjnmodeehaa
open Go Go.Lic

theorem words_fun (s : ByteArray) (hlen : s.size ≤ 1000000) : Fun false Try.prog 32 [.s s] (fun d => d = encWords (wordsF s)) := by
  refine Fun.of_body Try.func32 rfl Try.ntmps32 rfl ?_
  refine wpA_seq ?_
  refine wpA_region ?_
  refine wpL_op rfl rfl rfl (OpA.asn rfl (by with_reducible conv => lhs; whnf) ?_)
  refine wpL_nil ?_
  refine wpA_seq ?_
  refine wpA_region ?_
  refine wpL_op rfl rfl rfl (OpA.asn rfl (by with_reducible conv => lhs; whnf) ?_)
  refine wpL_nil ?_
  refine wpA_seq ?_
  refine wpA_seq ?_
  refine wpA_region ?_
  refine wpL_op rfl rfl rfl (OpA.mv rfl (by with_reducible conv => lhs; whnf) ?_)
  refine wpL_op rfl rfl rfl (OpA.slen rfl rfl rfl rfl td9 rfl ?_)
  refine wpL_op rfl rfl rfl (OpA.mv rfl (by with_reducible conv => lhs; whnf) ?_)
  refine wpL_nil ?_
  refine wpA_block ?_
  refine wpA_ghost (s := 3) (sz := 2) rfl rfl (fun g3 => ?_)
  refine wpA_loopE (fun mm fr h => ∃ (k0 : Nat) (g : Nat) (pre : List D) (xs : List D) (n : Nat), mm = s.size - k0 ∧ (k0 ≤ s.size ∧ xs = ((List.range k0).map (wordF s)).map encLex ∧ xs.length = n ∧ n ≤ k0) ∧ fr = asg [(0, .s s), (2, .v (.slice none 0 0)), (3, .own g 2 pre.length n), (6, .i s.size), (7, .i k0)] ∧ h = [(g, .cells 2 (pre ++ xs))]) ⟨_, _, ⟨0, _, [], [], 0, rfl, ⟨by omega, rfl, rfl, by omega⟩, rfl, rfl⟩, Cov.asg ⟨rfl, rfl, rfl, rfl, rfl, trivial⟩⟩ ?_
  rintro k fr h ⟨k0, g, pre, xs, n, rfl, ⟨hk0, hxs, hn, hnk⟩, rfl, rfl⟩
  refine wpA_seq ?_
  refine wpA_region ?_
  refine wpL_op rfl rfl rfl (OpA.lss rfl rfl rfl ?_)
  refine wpL_nil ?_
  refine wpA_seq ?_
  refine wpA_cond rfl (fun b1 => ?_) (fun b1 => ?_)
  try simp only [decide_eq_true_eq, decide_eq_false_iff_not, beq_iff_eq, bne_iff_ne, beq_eq_false_iff_ne, bne_eq_false_iff_eq, Bool.not_eq_true', Bool.not_eq_false', Int.not_lt, Int.not_le, gt_iff_lt, ge_iff_le, ne_eq] at b1
  refine wpA_skip ?_
  refine wpA_seq ?_
  refine wpA_block ?_
  refine wpA_seq ?_
  refine wpA_region ?_
  refine wpL_op rfl rfl rfl (OpA.mv rfl (by with_reducible conv => lhs; whnf) ?_)
  refine wpL_op rfl rfl rfl (OpA.asn rfl (by with_reducible conv => lhs; whnf) ?_)
  refine wpL_nil ?_
  refine wpA_region ?_
  refine wpL_op rfl rfl rfl (OpA.mv rfl (by with_reducible conv => lhs; whnf) ?_)
  refine wpL_op rfl rfl rfl (OpA.mv rfl (by with_reducible conv => lhs; whnf) ?_)
  refine wpL_op rfl rfl rfl (OpA.mv rfl (by with_reducible conv => lhs; whnf) ?_)
  refine wpL_op rfl rfl rfl (OpA.mv rfl (by with_reducible conv => lhs; whnf) ?_)
  refine wpL_op rfl rfl rfl (OpA.addi rfl rfl rfl (by omega) ?_)
  refine wpL_op rfl rfl rfl (OpA.sslice rfl td9 rfl (.some rfl (by omega)) (.some rfl (by omega)) (by omega) (by omega) ?_)
  refine wpL_op rfl rfl rfl (OpA.buildO (zs := [.v (.string ⟨#[]⟩), .v (.int .i64 0)]) rfl tp40 tz40 (fun _ _ => (.cons (.v _) (.cons (.v _) .nil))) (.cons (.of (sz := 1) rfl) .nil) rfl ?_)
  refine wpL_op rfl rfl rfl (OpA.ibuildSliceO rfl ts22 rfl (.cons (.of (sz := 2) rfl) .nil) (by decide) ?_)
  first
    | refine wpL_op rfl rfl rfl (OpA.appendV rfl rfl rfl rfl ts22 rfl (fun _ _ => .head) (by first | exact .list | exact .nil | exact .own .head (by omega)) (by first | omega | (simp; omega)) (by first | omega | (simp; omega)) (by first | omega | (simp; omega)) (fun c18 p18 => ?_))
    | refine wpL_op rfl rfl rfl (OpA.appendV (pre := []) rfl rfl rfl rfl ts22 rfl (fun _ _ => .head) (by first | exact .list | exact .nil | exact .own .head (by omega)) (by first | omega | (simp; omega)) (by first | omega | (simp; omega)) (by first | omega | (simp; omega)) (fun c18 p18 => ?_))
  refine wpL_op rfl rfl rfl (OpA.asn rfl (by with_reducible conv => lhs; whnf) ?_)
  refine wpL_nil ?_
  refine wpA_region ?_
  refine wpL_op rfl rfl rfl (OpA.addi rfl rfl rfl (by omega) ?_)
  refine wpL_op rfl rfl rfl (OpA.mv rfl (by with_reducible conv => lhs; whnf) ?_)
  refine wpL_nil ?_
  exact ⟨_, _, by omega, ⟨k0 + 1, _, _, xs ++ [.agg [.s (s.extract k0 (k0 + 1)), .i 0]], n + 1, rfl, ⟨by omega, words_snoc hxs, by (simp at *; omega), by omega⟩, rfl, rfl⟩, Cov.asg ⟨rfl, rfl, rfl, rfl, rfl, trivial⟩⟩
  try simp only [decide_eq_true_eq, decide_eq_false_iff_not, beq_iff_eq, bne_iff_ne, beq_eq_false_iff_ne, bne_eq_false_iff_eq, Bool.not_eq_true', Bool.not_eq_false', Int.not_lt, Int.not_le, gt_iff_lt, ge_iff_le, ne_eq] at b1
  refine wpA_exit ?_
  refine wpA_seq ?_
  refine wpA_region ?_
  refine wpL_op rfl rfl rfl (OpA.mv rfl (by with_reducible conv => lhs; whnf) ?_)
  refine wpL_op rfl rfl rfl (OpA.asn rfl (by with_reducible conv => lhs; whnf) ?_)
  refine wpL_nil ?_
  refine wpA_ret ?_
  refine ⟨_, (.tmp (by with_reducible conv => lhs; whnf) .nil), _, (.vec .head hn (by intro hf; cases hf) .nil), ?_⟩
  (try simp only [tupD]) <;> (rw [hxs, show k0 = s.size by omega]; rfl)

theorem awake_17 : Fun false Try.prog 17 [encWords (wordsF abc), encWords (wordsF acd), encCosts costs322] (fun d => d = .tup [encAl ⟨4, [1, 3, 1, 4]⟩, .i 0]) := by
  have := align_fun (wordsF abc) (wordsF acd) costs322
  rw [awake_align] at this
  exact this
theorem awake_12 : Fun false Try.prog 12 [encWords (wordsF abc), encWords (wordsF acd), encCosts costs322, encAl ⟨4, [1, 3, 1, 4]⟩] (fun d => d = .i 0) := by
  have := checkAl_fun (wordsF abc) (wordsF acd) costs322 ⟨4, [1, 3, 1, 4]⟩ (by decide)
  rw [awake_check] at this
  exact this
theorem awake_20 : Fun false Try.prog 20 [encInts [1, 3, 1, 4], encInts [1, 3, 1, 4]] (fun d => d = .b true) := by
  have := equal_ints [1, 3, 1, 4] [1, 3, 1, 4] (by decide)
  simpa using this

theorem awake_fun  : Fun false Try.prog 10 [] (fun d => d = .b true) := by
  refine Fun.of_body Try.func10 rfl Try.ntmps10 rfl ?_
  refine wpA_seq ?_
  refine wpA_region ?_
  refine wpL_op rfl rfl rfl (OpA.asn rfl (by with_reducible conv => lhs; whnf) ?_)
  refine wpL_nil ?_
  refine wpA_seq ?_
  refine wpA_region ?_
  refine wpL_op rfl rfl rfl (OpA.buildO (zs := [.v (.int .i64 0), .v (.int .i64 0), .v (.int .i64 0)]) rfl tp24 tz24 (fun _ _ => (.cons (.v _) (.cons (.v _) (.cons (.v _) .nil)))) (.cons (.of (sz := 1) rfl) (.cons (.of (sz := 1) rfl) (.cons (.of (sz := 1) rfl) .nil))) rfl ?_)
  refine wpL_op rfl rfl rfl (OpA.alloc (sz := 3) (d := .agg [.v (.int .i64 0), .v (.int .i64 0), .v (.int .i64 0)]) rfl tz24 (fun _ _ => .agg (vs := [.int .i64 0, .int .i64 0, .int .i64 0]) (.cons (.v _) (.cons (.v _) (.cons (.v _) .nil)))) (.of rfl) (fun c1 _ => ?_))
  refine wpL_eff rfl rfl (OpA.storeW rfl ti24 rfl (by with_reducible conv => lhs; whnf) (.of rfl) (by first | rfl | exact getM _ _ _ (by omega) | exact getO (by omega) | exact getL _ _ (by omega) | (simp; done)) rfl .head ?_)
  refine wpL_nil ?_
  refine wpA_seq ?_
  refine wpA_drawV (m := 10) (p := 7) (q := 8) (tp := 2) (sz := 2) mo (by kernel_rfl) rfl ?_
  refine DetK1.op rfl rfl rfl (OpA.call rfl rfl rfl en32 (words_fun abc (by decide)) (by rintro _ rfl; exact ⟨rfl, rfl⟩)) ?_
  refine DetK1.op rfl rfl rfl (OpA.call rfl rfl rfl en32 (words_fun acd (by decide)) (by rintro _ rfl; exact ⟨rfl, rfl⟩)) ?_
  first
    | refine DetK1.op rfl rfl rfl (OpA.load_whole rfl ti24 rfl rfl .head (by first | rfl | exact getM _ _ _ (by omega) | exact getO (by omega) | exact getL _ _ (by omega) | (simp; done)) ⟨_, rfl⟩ ⟨rfl, rfl⟩) ?_
    | refine DetK1.op rfl rfl rfl (OpA.load_agg rfl ti24 rfl .head (by first | rfl | exact getM _ _ _ (by omega) | exact getO (by omega) | exact getL _ _ (by omega) | (simp; done)) rfl rfl ⟨rfl, rfl⟩) ?_
  refine DetK1.op rfl rfl rfl (OpA.call rfl rfl rfl en17 (awake_17) (by rintro _ rfl; exact ⟨rfl, rfl⟩)) ?_
  refine DetK1.op rfl rfl rfl (OpA.mv rfl (by with_reducible conv => lhs; whnf) ⟨rfl, rfl⟩) ?_
  refine DetK1.op rfl rfl rfl (OpA.extract rfl rfl rfl ⟨rfl, rfl⟩) ?_
  refine DetK1.op rfl rfl rfl (OpA.extract rfl rfl rfl ⟨rfl, rfl⟩) ?_
  refine DetK1.alloc rfl rfl rfl tzs27 ?_
  refine DetK1.store rfl rfl rfl ti27 (by with_reducible conv => lhs; whnf) (.of rfl) ?_
  refine DetK1.op rfl rfl rfl (OpA.asn rfl (by with_reducible conv => lhs; whnf) ⟨rfl, rfl⟩) ?_
  refine DetK1.nil ?_
  refine ⟨_, rfl, .of rfl, fun c2 => ?_⟩
  refine wpL_nil ?_
  refine wpA_seq ?_
  refine wpA_draw (m := 22) mo (by kernel_rfl) rfl ?_
  refine DetK.op rfl (OpA.mv rfl (by with_reducible conv => lhs; whnf) ⟨rfl, rfl⟩) ?_
  refine DetK.op rfl (OpA.eql rfl rfl rfl ⟨rfl, rfl⟩) ?_
  refine DetK.op rfl (OpA.mv rfl (by with_reducible conv => lhs; whnf) ⟨rfl, rfl⟩) ?_
  refine DetK_split (s := 14) rfl (fun b1 => ?_) (fun b1 => ?_)
  try simp only [decide_eq_true_eq, decide_eq_false_iff_not, beq_iff_eq, bne_iff_ne, beq_eq_false_iff_ne, bne_eq_false_iff_eq, Bool.not_eq_true', Bool.not_eq_false', Int.not_lt, Int.not_le, gt_iff_lt, ge_iff_le, ne_eq] at b1
  first
    | (exfalso; (first | contradiction | omega); trace "PRUNED awake_fun T .")
    | (refine DetK.opg rfl rfl rfl rfl (OpA.fieldAddr rfl tf27_0 rfl ⟨rfl, rfl⟩) ?_
       refine DetK.opg rfl rfl rfl rfl (OpA.load rfl ti3 rfl .head (by first | rfl | exact getM _ _ _ (by omega) | exact getO (by omega) | exact getL _ _ (by omega) | (simp; done)) (by first | rfl | exact getM _ _ _ (by omega) | exact getO (by omega) | exact getL _ _ (by omega) | (simp; done)) ⟨rfl, rfl⟩) ?_
       refine DetK.opg rfl rfl rfl rfl (OpA.eql rfl rfl rfl ⟨rfl, rfl⟩) ?_
       refine DetK.op rfl (OpA.pck rfl rfl (by with_reducible conv => lhs; whnf) ⟨rfl, rfl⟩) ?_
       refine DetK.op rfl (OpA.mv rfl (by with_reducible conv => lhs; whnf) ⟨rfl, rfl⟩) ?_
       refine DetK_split (s := 19) rfl (fun b2 => ?_) (fun b2 => ?_)
       try simp only [decide_eq_true_eq, decide_eq_false_iff_not, beq_iff_eq, bne_iff_ne, beq_eq_false_iff_ne, bne_eq_false_iff_eq, Bool.not_eq_true', Bool.not_eq_false', Int.not_lt, Int.not_le, gt_iff_lt, ge_iff_le, ne_eq] at b2
       first
         | (exfalso; (first | contradiction | omega); trace "PRUNED awake_fun TT .")
         | (refine DetK.opg rfl rfl rfl rfl (OpA.fieldAddr rfl tf27_1 rfl ⟨rfl, rfl⟩) ?_
            refine DetK.opg rfl rfl rfl rfl (OpA.load rfl ti25 rfl .head (by first | rfl | exact getM _ _ _ (by omega) | exact getO (by omega) | exact getL _ _ (by omega) | (simp; done)) (by first | rfl | exact getM _ _ _ (by omega) | exact getO (by omega) | exact getL _ _ (by omega) | (simp; done)) ⟨rfl, rfl⟩) ?_
            refine DetK.opg rfl rfl rfl rfl (OpA.ibuildSliceO rfl ts25 rfl (.cons (.of (sz := 1) rfl) (.cons (.of (sz := 1) rfl) (.cons (.of (sz := 1) rfl) (.cons (.of (sz := 1) rfl) .nil)))) (by decide) ⟨rfl, rfl⟩) ?_
            refine DetK.opg rfl rfl rfl rfl (OpA.call rfl rfl rfl en20 (awake_20) (by rintro _ rfl; exact ⟨rfl, rfl⟩)) ?_
            refine DetK.op rfl (OpA.pck rfl rfl (by with_reducible conv => lhs; whnf) ⟨rfl, rfl⟩) ?_
            refine DetK.op rfl (OpA.mv rfl (by with_reducible conv => lhs; whnf) ⟨rfl, rfl⟩) ?_
            refine DetK_split (s := 25) rfl (fun b3 => ?_) (fun b3 => ?_)
            try simp only [decide_eq_true_eq, decide_eq_false_iff_not, beq_iff_eq, bne_iff_ne, beq_eq_false_iff_ne, bne_eq_false_iff_eq, Bool.not_eq_true', Bool.not_eq_false', Int.not_lt, Int.not_le, gt_iff_lt, ge_iff_le, ne_eq] at b3
            first
              | (exfalso; (first | contradiction | omega); trace "PRUNED awake_fun TTT .")
              | (refine DetK.opg rfl rfl rfl rfl (OpA.call rfl rfl rfl en32 (words_fun abc (by decide)) (by rintro _ rfl; exact ⟨rfl, rfl⟩)) ?_
                 refine DetK.opg rfl rfl rfl rfl (OpA.call rfl rfl rfl en32 (words_fun acd (by decide)) (by rintro _ rfl; exact ⟨rfl, rfl⟩)) ?_
                 first
                   | refine DetK.opg rfl rfl rfl rfl (OpA.load_whole rfl ti24 rfl rfl (.tail .head) (by first | rfl | exact getM _ _ _ (by omega) | exact getO (by omega) | exact getL _ _ (by omega) | (simp; done)) ⟨_, rfl⟩ ⟨rfl, rfl⟩) ?_
                   | refine DetK.opg rfl rfl rfl rfl (OpA.load_agg rfl ti24 rfl (.tail .head) (by first | rfl | exact getM _ _ _ (by omega) | exact getO (by omega) | exact getL _ _ (by omega) | (simp; done)) rfl rfl ⟨rfl, rfl⟩) ?_
                 first
                   | refine DetK.opg rfl rfl rfl rfl (OpA.load_whole rfl ti27 rfl rfl .head (by first | rfl | exact getM _ _ _ (by omega) | exact getO (by omega) | exact getL _ _ (by omega) | (simp; done)) ⟨_, rfl⟩ ⟨rfl, rfl⟩) ?_
                   | refine DetK.opg rfl rfl rfl rfl (OpA.load_agg rfl ti27 rfl .head (by first | rfl | exact getM _ _ _ (by omega) | exact getO (by omega) | exact getL _ _ (by omega) | (simp; done)) rfl rfl ⟨rfl, rfl⟩) ?_
                 refine DetK.opg rfl rfl rfl rfl (OpA.call rfl rfl rfl en12 (awake_12) (by rintro _ rfl; exact ⟨rfl, rfl⟩)) ?_
                 refine DetK.opg rfl rfl rfl rfl (OpA.eql rfl rfl rfl ⟨rfl, rfl⟩) ?_
                 refine DetK.op rfl (OpA.pck rfl rfl (by with_reducible conv => lhs; whnf) ⟨rfl, rfl⟩) ?_
                 refine DetK.op rfl (OpA.asn rfl (by with_reducible conv => lhs; whnf) ⟨rfl, rfl⟩) ?_
                 refine DetK.nil ?_
                 refine wpL_nil ?_
                 refine wpA_ret ?_
                 refine ⟨_, (.tmp (by with_reducible conv => lhs; whnf) .nil), _, (.same rfl .nil), ?_⟩
                 (try simp only [tupD]) <;> (rfl))
            try simp only [decide_eq_true_eq, decide_eq_false_iff_not, beq_iff_eq, bne_iff_ne, beq_eq_false_iff_ne, bne_eq_false_iff_eq, Bool.not_eq_true', Bool.not_eq_false', Int.not_lt, Int.not_le, gt_iff_lt, ge_iff_le, ne_eq] at b3
            first
              | (exfalso; (first | contradiction | omega); trace "PRUNED awake_fun TTF .")
              | (refine DetK.skip rfl rfl rfl rfl ?_
                 refine DetK.skip rfl rfl rfl rfl ?_
                 refine DetK.skip rfl rfl rfl rfl ?_
                 refine DetK.skip rfl rfl rfl rfl ?_
                 refine DetK.skip rfl rfl rfl rfl ?_
                 refine DetK.skip rfl rfl rfl rfl ?_
                 refine DetK.op rfl (OpA.pck rfl rfl (by with_reducible conv => lhs; whnf) ⟨rfl, rfl⟩) ?_
                 refine DetK.op rfl (OpA.asn rfl (by with_reducible conv => lhs; whnf) ⟨rfl, rfl⟩) ?_
                 refine DetK.nil ?_
                 refine wpL_nil ?_
                 refine wpA_ret ?_
                 refine ⟨_, (.tmp (by with_reducible conv => lhs; whnf) .nil), _, (.same rfl .nil), ?_⟩
                 (try simp only [tupD]) <;> (rfl)))
       try simp only [decide_eq_true_eq, decide_eq_false_iff_not, beq_iff_eq, bne_iff_ne, beq_eq_false_iff_ne, bne_eq_false_iff_eq, Bool.not_eq_true', Bool.not_eq_false', Int.not_lt, Int.not_le, gt_iff_lt, ge_iff_le, ne_eq] at b2
       first
         | (exfalso; (first | contradiction | omega); trace "PRUNED awake_fun TF .")
         | (refine DetK.skip rfl rfl rfl rfl ?_
            refine DetK.skip rfl rfl rfl rfl ?_
            refine DetK.skip rfl rfl rfl rfl ?_
            refine DetK.skip rfl rfl rfl rfl ?_
            refine DetK.op rfl (OpA.pck rfl rfl (by with_reducible conv => lhs; whnf) ⟨rfl, rfl⟩) ?_
            refine DetK.op rfl (OpA.mv rfl (by with_reducible conv => lhs; whnf) ⟨rfl, rfl⟩) ?_
            refine DetK.skip rfl rfl rfl rfl ?_
            refine DetK.skip rfl rfl rfl rfl ?_
            refine DetK.skip rfl rfl rfl rfl ?_
            refine DetK.skip rfl rfl rfl rfl ?_
            refine DetK.skip rfl rfl rfl rfl ?_
            refine DetK.skip rfl rfl rfl rfl ?_
            refine DetK.op rfl (OpA.pck rfl rfl (by with_reducible conv => lhs; whnf) ⟨rfl, rfl⟩) ?_
            refine DetK.op rfl (OpA.asn rfl (by with_reducible conv => lhs; whnf) ⟨rfl, rfl⟩) ?_
            refine DetK.nil ?_
            refine wpL_nil ?_
            refine wpA_ret ?_
            refine ⟨_, (.tmp (by with_reducible conv => lhs; whnf) .nil), _, (.same rfl .nil), ?_⟩
            (try simp only [tupD]) <;> (rfl)))
  try simp only [decide_eq_true_eq, decide_eq_false_iff_not, beq_iff_eq, bne_iff_ne, beq_eq_false_iff_ne, bne_eq_false_iff_eq, Bool.not_eq_true', Bool.not_eq_false', Int.not_lt, Int.not_le, gt_iff_lt, ge_iff_le, ne_eq] at b1
  first
    | (exfalso; (first | contradiction | omega); trace "PRUNED awake_fun F .")
    | (refine DetK.skip rfl rfl rfl rfl ?_
       refine DetK.skip rfl rfl rfl rfl ?_
       refine DetK.skip rfl rfl rfl rfl ?_
       refine DetK.op rfl (OpA.pck rfl rfl (by with_reducible conv => lhs; whnf) ⟨rfl, rfl⟩) ?_
       refine DetK.op rfl (OpA.mv rfl (by with_reducible conv => lhs; whnf) ⟨rfl, rfl⟩) ?_
       refine DetK.skip rfl rfl rfl rfl ?_
       refine DetK.skip rfl rfl rfl rfl ?_
       refine DetK.skip rfl rfl rfl rfl ?_
       refine DetK.skip rfl rfl rfl rfl ?_
       refine DetK.op rfl (OpA.pck rfl rfl (by with_reducible conv => lhs; whnf) ⟨rfl, rfl⟩) ?_
       refine DetK.op rfl (OpA.mv rfl (by with_reducible conv => lhs; whnf) ⟨rfl, rfl⟩) ?_
       refine DetK.skip rfl rfl rfl rfl ?_
       refine DetK.skip rfl rfl rfl rfl ?_
       refine DetK.skip rfl rfl rfl rfl ?_
       refine DetK.skip rfl rfl rfl rfl ?_
       refine DetK.skip rfl rfl rfl rfl ?_
       refine DetK.skip rfl rfl rfl rfl ?_
       refine DetK.op rfl (OpA.pck rfl rfl (by with_reducible conv => lhs; whnf) ⟨rfl, rfl⟩) ?_
       refine DetK.op rfl (OpA.asn rfl (by with_reducible conv => lhs; whnf) ⟨rfl, rfl⟩) ?_
       refine DetK.nil ?_
       refine wpL_nil ?_
       refine wpA_ret ?_
       refine ⟨_, (.tmp (by with_reducible conv => lhs; whnf) .nil), _, (.same rfl .nil), ?_⟩
       (try simp only [tupD]) <;> (rfl))
end Go.Proofs.Ythggcjnmodeehaa
