/-
  walks
-/
import Derived.Test.YtkifpidbpoghlaaGreatDoorQl2
import Derived.Test.YtkifpidbpoghlaaGreatDoorQW1
set_option linter.all false
namespace Go.Proofs.YtkifpidbpoghlaaGreatDoor
open Go Go.Lic
theorem kept_fun (x : Alignment) (hlen : x.steps.length ≤ 1000000) : Fun false Tryz.prog 15 [encAl x] (fun d => d = encPairs (keptF x)) := by
 refine Fun.of_body Tryz.func15 rfl Tryz.ntmps15 rfl ?_
 refine zac (zaa ?_)
 refine wL (OpA.bx (sz := 2) rfl zW (.of rfl) (fun c1 _ => ?_))
 refine wL (OpA.a ?_)
 refine zab (zac (zaa (wL (OpA.a (zab (zac (zaa (wL (OpA.a (wL (OpA.a (zab (zac (zac (zaa ?_)))))))))))))))
 refine wL (OpA.fieldAddr rfl tf43_1 rfl ?_)
 refine wL (OpA.load rfl ti41 rfl .head zC zC ?_)
 first
   | refine wL (OpA.len rfl rfl rfl rfl ts41.desc (.inl ⟨_, _, rfl, (List.length_map _).symm⟩) ?_)
   | refine wL (OpA.len rfl rfl rfl rfl ts41.desc (.inl ⟨_, _, rfl, rfl⟩) ?_)
   | refine wL (OpA.len rfl rfl rfl rfl ts41.desc (.inr (.inl ⟨_, _, _, rfl⟩)) ?_)
   | refine wL (OpA.len rfl rfl rfl rfl ts41.desc (.inr (.inr ⟨rfl, rfl⟩)) ?_)
 refine wL (OpA.m ?_)
 refine zab (zag ?_)
 refine wpA_ghost (s := 3) (sz := 2) rfl rfl (fun g3 => ?_)
 refine wpA_loopE (fun mm fr h => ∃ (k0 : Nat) (i : Nat) (j : Nat) (o : List (Int × Int)) (g : Nat) (pre : List D) (xs : List D) (n : Nat), mm = x.steps.length - k0 ∧ (k0 ≤ x.steps.length ∧ keptR (x.steps.take k0) = some (i, j, o) ∧ i ≤ k0 ∧ j ≤ k0 ∧ xs = o.map encPair ∧ xs.length = n ∧ n ≤ k0) ∧ fr = asg [(2, .v (.slice none 0 0)), (3, .own g 2 pre.length n), (4, .i i), (5, .i j), (9, encInts x.steps), (10, .i x.steps.length), (11, .i k0)] ∧ h = [(g, .cells 2 (pre ++ xs)), (c1, .cells 2 [encAl x])]) ⟨_, _, ⟨0, 0, 0, [], _, [], [], 0, rfl, ⟨by omega, rfl, by omega, by omega, rfl, rfl, by omega⟩, rfl, rfl⟩, cvZ⟩ ?_
 rintro k fr h ⟨k0, i, j, o, g, pre, xs, n, rfl, ⟨hk0, hst, hi, hj, hxs, hn, hnk⟩, rfl, rfl⟩
 refine zac (zaa ?_)
 refine wL (OpA.lss rfl rfl rfl ?_)
 refine zab (zac ?_)
 refine zae rfl (fun b1 => ?_) (fun b1 => ?_)
 try replace b1 := zI b1
 first
   | (exfalso; (first | contradiction | omega); trace "PRUNED kept_fun L0T .")
   | (refine zai ?_
      refine zac (zag (zac (zaa ?_)))
      first
        | refine wL (OpA.iixN rfl ts41 rfl rfl rfl zN zC ?_)
        | refine wL (OpA.ixN rfl ts41 rfl rfl zN (by omega) ?_)
      first
        | refine wL (OpA.load rfl ti3 rfl zH zC zC ?_)
        | refine wL (OpA.iload rfl ti3 rfl zC ?_)
      refine wL (OpA.a ?_)
      refine zab (zac (zaa (wL (OpA.m (zab (zag (zac (zaa ?_))))))))
      refine wL (OpA.eql rfl rfl rfl ?_)
      refine wL (OpA.a ?_)
      refine zab ?_
      refine zae rfl (fun b2 => ?_) (fun b2 => ?_)
      try replace b2 := zI b2
      first
        | (exfalso; (first | contradiction | omega); trace "PRUNED kept_fun L0TT .")
        | (refine zac ?_
           refine zaa (wL (OpA.m (wL (OpA.m (wL (OpA.m ?_))))))
           refine wL (OpA.buildArr (zs := [.v (.int .i64 0), .v (.int .i64 0)]) rfl td108 ti3 tz108 (fun _ _ => (.cons (.v _) (.cons (.v _) .nil))) (.cons (.of (sz := 1) rfl) (.cons (.of (sz := 1) rfl) .nil)) rfl ?_)
           refine wL (OpA.ibuildSliceO rfl ts52 rfl (.cons (.of (sz := 2) rfl) .nil) (by decide) ?_)
           first
             | refine wL (OpA.appendV rfl rfl rfl rfl ts52 rfl (fun _ _ => .head) (by first | exact .list | exact .nil | exact .own .head (by omega)) zM zM zM (fun c23 p23 => ?_))
             | refine wL (OpA.appendV (pre := []) rfl rfl rfl rfl ts52 rfl (fun _ _ => .head) (by first | exact .list | exact .nil | exact .own .head (by omega)) zM zM zM (fun c23 p23 => ?_))
           refine wL (OpA.a ?_)
           refine zab (zaa (wL (OpA.m ?_)))
           refine wL (OpA.addi rfl rfl rfl (by omega) ?_)
           refine wL (OpA.m ?_)
           refine wL (OpA.addi rfl rfl rfl (by omega) ?_)
           refine wL (OpA.a ?_)
           refine wL (OpA.a ?_)
           refine zab (zaa ?_)
           refine wL (OpA.addi rfl rfl rfl (by omega) ?_)
           refine wL (OpA.m ?_)
           refine zab ?_
           first
             | exact ⟨_, _, by omega, ⟨k0 + 1, i + 1, j + 1, o ++ [((i : Int), (j : Int))], _, _, xs ++ [.agg [.i (i : Int), .i (j : Int)]], n + 1, rfl, ⟨by omega, keptR_succ (by omega) hst (by first | exact kept1 (by omega) | exact kept2 (by omega) | exact kept3 (by omega) | exact kept4 (by omega)), by omega, by omega, by first | exact snoc_pair hxs | exact hxs, by (simp at *; omega), by omega⟩, rfl, rfl⟩, cvZ⟩
             | exact ⟨_, _, by omega, ⟨k0 + 1, i + 1, j + 1, o, _, _, xs, n, rfl, ⟨by omega, keptR_succ (by omega) hst (by first | exact kept1 (by omega) | exact kept2 (by omega) | exact kept3 (by omega) | exact kept4 (by omega)), by omega, by omega, by first | exact snoc_pair hxs | exact hxs, by (simp at *; omega), by omega⟩, rfl, rfl⟩, cvZ⟩
             | exact ⟨_, _, by omega, ⟨k0 + 1, i + 1, j, o, _, _, xs, n, rfl, ⟨by omega, keptR_succ (by omega) hst (by first | exact kept1 (by omega) | exact kept2 (by omega) | exact kept3 (by omega) | exact kept4 (by omega)), by omega, by omega, by first | exact snoc_pair hxs | exact hxs, by (simp at *; omega), by omega⟩, rfl, rfl⟩, cvZ⟩
             | exact ⟨_, _, by omega, ⟨k0 + 1, i, j + 1, o, _, _, xs, n, rfl, ⟨by omega, keptR_succ (by omega) hst (by first | exact kept1 (by omega) | exact kept2 (by omega) | exact kept3 (by omega) | exact kept4 (by omega)), by omega, by omega, by first | exact snoc_pair hxs | exact hxs, by (simp at *; omega), by omega⟩, rfl, rfl⟩, cvZ⟩)
      try replace b2 := zI b2
      first
        | (exfalso; (first | contradiction | omega); trace "PRUNED kept_fun L0TF .")
        | (refine zac ?_
           refine zaa ?_
           refine wL (OpA.eql rfl rfl rfl ?_)
           refine wL (OpA.a ?_)
           refine zab ?_
           refine zae rfl (fun b3 => ?_) (fun b3 => ?_)
           try replace b3 := zI b3
           first
             | (exfalso; (first | contradiction | omega); trace "PRUNED kept_fun L0TFT .")
             | (refine zaa ?_
                refine wL (OpA.m ?_)
                refine wL (OpA.addi rfl rfl rfl (by omega) ?_)
                refine wL (OpA.m ?_)
                refine wL (OpA.addi rfl rfl rfl (by omega) ?_)
                refine wL (OpA.a ?_)
                refine wL (OpA.a ?_)
                refine zab (zaa ?_)
                refine wL (OpA.addi rfl rfl rfl (by omega) ?_)
                refine wL (OpA.m ?_)
                refine zab ?_
                first
                  | exact ⟨_, _, by omega, ⟨k0 + 1, i + 1, j + 1, o ++ [((i : Int), (j : Int))], _, _, xs ++ [.agg [.i (i : Int), .i (j : Int)]], n + 1, rfl, ⟨by omega, keptR_succ (by omega) hst (by first | exact kept1 (by omega) | exact kept2 (by omega) | exact kept3 (by omega) | exact kept4 (by omega)), by omega, by omega, by first | exact snoc_pair hxs | exact hxs, by (simp at *; omega), by omega⟩, rfl, rfl⟩, cvZ⟩
                  | exact ⟨_, _, by omega, ⟨k0 + 1, i + 1, j + 1, o, _, _, xs, n, rfl, ⟨by omega, keptR_succ (by omega) hst (by first | exact kept1 (by omega) | exact kept2 (by omega) | exact kept3 (by omega) | exact kept4 (by omega)), by omega, by omega, by first | exact snoc_pair hxs | exact hxs, by (simp at *; omega), by omega⟩, rfl, rfl⟩, cvZ⟩
                  | exact ⟨_, _, by omega, ⟨k0 + 1, i + 1, j, o, _, _, xs, n, rfl, ⟨by omega, keptR_succ (by omega) hst (by first | exact kept1 (by omega) | exact kept2 (by omega) | exact kept3 (by omega) | exact kept4 (by omega)), by omega, by omega, by first | exact snoc_pair hxs | exact hxs, by (simp at *; omega), by omega⟩, rfl, rfl⟩, cvZ⟩
                  | exact ⟨_, _, by omega, ⟨k0 + 1, i, j + 1, o, _, _, xs, n, rfl, ⟨by omega, keptR_succ (by omega) hst (by first | exact kept1 (by omega) | exact kept2 (by omega) | exact kept3 (by omega) | exact kept4 (by omega)), by omega, by omega, by first | exact snoc_pair hxs | exact hxs, by (simp at *; omega), by omega⟩, rfl, rfl⟩, cvZ⟩)
           try replace b3 := zI b3
           first
             | (exfalso; (first | contradiction | omega); trace "PRUNED kept_fun L0TFF .")
             | (refine zac ?_
                refine zaa ?_
                refine wL (OpA.eql rfl rfl rfl ?_)
                refine wL (OpA.a ?_)
                refine zab ?_
                refine zae rfl (fun b4 => ?_) (fun b4 => ?_)
                try replace b4 := zI b4
                first
                  | (exfalso; (first | contradiction | omega); trace "PRUNED kept_fun L0TFFT .")
                  | (refine zaa ?_
                     refine wL (OpA.m ?_)
                     refine wL (OpA.addi rfl rfl rfl (by omega) ?_)
                     refine wL (OpA.a ?_)
                     refine zab (zaa ?_)
                     refine wL (OpA.addi rfl rfl rfl (by omega) ?_)
                     refine wL (OpA.m ?_)
                     refine zab ?_
                     first
                       | exact ⟨_, _, by omega, ⟨k0 + 1, i + 1, j + 1, o ++ [((i : Int), (j : Int))], _, _, xs ++ [.agg [.i (i : Int), .i (j : Int)]], n + 1, rfl, ⟨by omega, keptR_succ (by omega) hst (by first | exact kept1 (by omega) | exact kept2 (by omega) | exact kept3 (by omega) | exact kept4 (by omega)), by omega, by omega, by first | exact snoc_pair hxs | exact hxs, by (simp at *; omega), by omega⟩, rfl, rfl⟩, cvZ⟩
                       | exact ⟨_, _, by omega, ⟨k0 + 1, i + 1, j + 1, o, _, _, xs, n, rfl, ⟨by omega, keptR_succ (by omega) hst (by first | exact kept1 (by omega) | exact kept2 (by omega) | exact kept3 (by omega) | exact kept4 (by omega)), by omega, by omega, by first | exact snoc_pair hxs | exact hxs, by (simp at *; omega), by omega⟩, rfl, rfl⟩, cvZ⟩
                       | exact ⟨_, _, by omega, ⟨k0 + 1, i + 1, j, o, _, _, xs, n, rfl, ⟨by omega, keptR_succ (by omega) hst (by first | exact kept1 (by omega) | exact kept2 (by omega) | exact kept3 (by omega) | exact kept4 (by omega)), by omega, by omega, by first | exact snoc_pair hxs | exact hxs, by (simp at *; omega), by omega⟩, rfl, rfl⟩, cvZ⟩
                       | exact ⟨_, _, by omega, ⟨k0 + 1, i, j + 1, o, _, _, xs, n, rfl, ⟨by omega, keptR_succ (by omega) hst (by first | exact kept1 (by omega) | exact kept2 (by omega) | exact kept3 (by omega) | exact kept4 (by omega)), by omega, by omega, by first | exact snoc_pair hxs | exact hxs, by (simp at *; omega), by omega⟩, rfl, rfl⟩, cvZ⟩)
                try replace b4 := zI b4
                first
                  | (exfalso; (first | contradiction | omega); trace "PRUNED kept_fun L0TFFF .")
                  | (refine zac ?_
                     refine zaa ?_
                     refine wL (OpA.eql rfl rfl rfl ?_)
                     refine wL (OpA.a ?_)
                     refine zab ?_
                     refine zae rfl (fun b5 => ?_) (fun b5 => ?_)
                     try replace b5 := zI b5
                     first
                       | (exfalso; (first | contradiction | omega); trace "PRUNED kept_fun L0TFFFT .")
                       | (refine zaa ?_
                          refine wL (OpA.m ?_)
                          refine wL (OpA.addi rfl rfl rfl (by omega) ?_)
                          refine wL (OpA.a ?_)
                          refine zab (zaa ?_)
                          refine wL (OpA.addi rfl rfl rfl (by omega) ?_)
                          refine wL (OpA.m ?_)
                          refine zab ?_
                          first
                            | exact ⟨_, _, by omega, ⟨k0 + 1, i + 1, j + 1, o ++ [((i : Int), (j : Int))], _, _, xs ++ [.agg [.i (i : Int), .i (j : Int)]], n + 1, rfl, ⟨by omega, keptR_succ (by omega) hst (by first | exact kept1 (by omega) | exact kept2 (by omega) | exact kept3 (by omega) | exact kept4 (by omega)), by omega, by omega, by first | exact snoc_pair hxs | exact hxs, by (simp at *; omega), by omega⟩, rfl, rfl⟩, cvZ⟩
                            | exact ⟨_, _, by omega, ⟨k0 + 1, i + 1, j + 1, o, _, _, xs, n, rfl, ⟨by omega, keptR_succ (by omega) hst (by first | exact kept1 (by omega) | exact kept2 (by omega) | exact kept3 (by omega) | exact kept4 (by omega)), by omega, by omega, by first | exact snoc_pair hxs | exact hxs, by (simp at *; omega), by omega⟩, rfl, rfl⟩, cvZ⟩
                            | exact ⟨_, _, by omega, ⟨k0 + 1, i + 1, j, o, _, _, xs, n, rfl, ⟨by omega, keptR_succ (by omega) hst (by first | exact kept1 (by omega) | exact kept2 (by omega) | exact kept3 (by omega) | exact kept4 (by omega)), by omega, by omega, by first | exact snoc_pair hxs | exact hxs, by (simp at *; omega), by omega⟩, rfl, rfl⟩, cvZ⟩
                            | exact ⟨_, _, by omega, ⟨k0 + 1, i, j + 1, o, _, _, xs, n, rfl, ⟨by omega, keptR_succ (by omega) hst (by first | exact kept1 (by omega) | exact kept2 (by omega) | exact kept3 (by omega) | exact kept4 (by omega)), by omega, by omega, by first | exact snoc_pair hxs | exact hxs, by (simp at *; omega), by omega⟩, rfl, rfl⟩, cvZ⟩)
                     try replace b5 := zI b5
                     first
                       | (exfalso; (first | contradiction | omega); trace "PRUNED kept_fun L0TFFFF .")
                       | (refine zac ?_
                          refine zaa (wL (OpA.a (zab (zal ?_))))
                          refine ⟨_, (.tmp zW .nil), _, (.nilv (sz := 2) .nil), ?_⟩
                          (try simp only [tupD]) <;> (rw [keptF_none (keptR_none (by omega) hst (keptNone (by omega)))]; rfl))))))
 try replace b1 := zI b1
 first
   | (exfalso; (first | contradiction | omega); trace "PRUNED kept_fun L0F .")
   | (refine wpA_exit ?_
      refine zac (zaa (wL (OpA.m (wL (OpA.a (zab (zal ?_)))))))
      refine ⟨_, (.tmp zW .nil), _, (.vec (by first | exact .head | exact .tail .head) hn (by intro hf; cases hf) .nil), ?_⟩
      (try simp only [tupD]) <;> (rw [keptF_some (by omega) hst, hxs]; rfl))
end Go.Proofs.YtkifpidbpoghlaaGreatDoor
