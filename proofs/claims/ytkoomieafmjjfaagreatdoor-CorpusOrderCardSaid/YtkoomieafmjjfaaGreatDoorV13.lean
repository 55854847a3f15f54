/-
  walks and contracts
-/
import Derived.Test.YtkoomieafmjjfaaGreatDoorV0
import Derived.Test.YtkoomieafmjjfaaGreatDoorDo2
set_option linter.all false
namespace Go.Proofs.YtkoomieafmjjfaaGreatDoor
open Go Go.Lic Go.Sort Go.Proofs

attribute [local irreducible] rotF offF conF offsF consF roundF roundR permF sumF newS absF clF wrF ssF


set_option maxHeartbeats 2000000 in
set_option maxRecDepth 10000 in
theorem rot_w (x : Int) (k : Int)  (Q : Int → Prop) (h : rot_vc x k Q) : Fun false Tryz.prog 183 [(D.k .u64) x, D.i k] (fun d => ∃ r, d = (D.k .u64) r ∧ Q r) := by
  unfold rot_vc at h
  refine Fun.of_body Tryz.func183 rfl Tryz.ntmps183 rfl ?_
  refine wpA_seq ?_
  refine wpA_region ?_
  refine wL (OpA.a ?_)
  refine wpL_nil ?_
  refine wpA_seq ?_
  refine wpA_region ?_
  refine wL (OpA.m ?_)
  refine wL (OpA.conv rfl td3 td132 rfl ?_)
  refine wL (OpA.band rfl rfl rfl ?_)
  refine wL (OpA.a ?_)
  refine wpL_nil ?_
  refine wpA_seq ?_
  obtain ⟨q1, q2, h⟩ := h
  refine wpA_region ?_
  iterate 2 refine wL (OpA.m ?_)
  refine wL (OpA.shl rfl rfl rfl q1 ?_)
  iterate 2 refine wL (OpA.m ?_)
  refine wL (OpA.sub rfl rfl rfl ?_)
  refine wL (OpA.shr rfl rfl rfl q2 ?_)
  refine wL (OpA.bor rfl rfl rfl ?_)
  refine wL (OpA.a ?_)
  refine wpL_nil ?_
  refine wpA_ret ?_
  exact ⟨_, (.tmp (d := (D.k .u64) (gor .u64 (gshl .u64 x (gand .u64 (IntKind.u64.wrap k) 63)) (gshr .u64 x (IntKind.u64.wrap (64 - (gand .u64 (IntKind.u64.wrap k) 63)))))) rfl .nil), _, (.same rfl .nil), ⟨(gor .u64 (gshl .u64 x (gand .u64 (IntKind.u64.wrap k) 63)) (gshr .u64 x (IntKind.u64.wrap (64 - (gand .u64 (IntKind.u64.wrap k) 63))))), rfl, h⟩⟩
theorem rot_c (x : Int) (k : Int)   : Fun false Tryz.prog 183 [(D.k .u64) x, D.i k] (fun d => d = (D.k .u64) (rotF x k)) :=
  Fun.at (enc := fun r => (D.k .u64) r) (v := rotF x k) (rot_w x k  (fun r => r = rotF x k) (rot_ok x k _  rfl))

set_option maxHeartbeats 2000000 in
set_option maxRecDepth 10000 in
theorem offs_w   (Q : (List Int) → Prop) (h : offs_vc  Q) : Fun false Tryz.prog 172 [] (fun d => ∃ r, d = (encArr 25 D.i) r ∧ Q r) := by
  unfold offs_vc at h
  refine Fun.of_body Tryz.func172 rfl Tryz.ntmps172 rfl ?_
  refine wpA_seq ?_
  refine wpA_region ?_
  refine wL (OpA.alloc (sz := 25) (d := (encArr 25 D.i) (List.replicate 25 0)) rfl tz188 (fun _ _ => .agg (.cons (.v _) (.cons (.v _) (.cons (.v _) (.cons (.v _) (.cons (.v _) (.cons (.v _) (.cons (.v _) (.cons (.v _) (.cons (.v _) (.cons (.v _) (.cons (.v _) (.cons (.v _) (.cons (.v _) (.cons (.v _) (.cons (.v _) (.cons (.v _) (.cons (.v _) (.cons (.v _) (.cons (.v _) (.cons (.v _) (.cons (.v _) (.cons (.v _) (.cons (.v _) (.cons (.v _) (.cons (.v _) .nil)))))))))))))))))))))))))) (.of rfl) (fun c1 _ => ?_))
  refine wpL_nil ?_
  refine wpA_seq ?_
  refine wpA_region ?_
  refine wL (OpA.buildArrV (k := .i64) (xs := [0, 1, 62, 28, 27, 36, 44, 6, 55, 20, 3, 10, 43, 25, 39, 41, 45, 15, 21, 8, 18, 2, 61, 56, 14]) rfl td188 ti3 tz188 rfl rfl rfl rfl ?_)
  refine wE (OpA.storeW rfl ti188 rfl (by with_reducible conv => lhs; whnf) (.of rfl) rfl rfl .head ?_)
  refine wpL_nil ?_
  refine wpA_ret ?_
  exact ⟨_, (.cell (.whole ti188 rfl rfl .head rfl ⟨_, rfl⟩) .nil), _, (.same rfl .nil), ⟨[0, 1, 62, 28, 27, 36, 44, 6, 55, 20, 3, 10, 43, 25, 39, 41, 45, 15, 21, 8, 18, 2, 61, 56, 14], rfl, h⟩⟩
theorem offs_c    : Fun false Tryz.prog 172 [] (fun d => d = (encArr 25 D.i) (offsF )) :=
  Fun.at (enc := fun r => (encArr 25 D.i) r) (v := offsF ) (offs_w   (fun r => r = offsF ) (offs_ok  _  rfl))

set_option maxHeartbeats 2000000 in
set_option maxRecDepth 10000 in
theorem cons_w   (Q : (List Int) → Prop) (h : cons_vc  Q) : Fun false Tryz.prog 173 [] (fun d => ∃ r, d = (encArr 24 (D.k .u64)) r ∧ Q r) := by
  unfold cons_vc at h
  refine Fun.of_body Tryz.func173 rfl Tryz.ntmps173 rfl ?_
  refine wpA_seq ?_
  refine wpA_region ?_
  refine wL (OpA.alloc (sz := 24) (d := (encArr 24 (D.k .u64)) (List.replicate 24 0)) rfl tz190 (fun _ _ => .agg (.cons (.v _) (.cons (.v _) (.cons (.v _) (.cons (.v _) (.cons (.v _) (.cons (.v _) (.cons (.v _) (.cons (.v _) (.cons (.v _) (.cons (.v _) (.cons (.v _) (.cons (.v _) (.cons (.v _) (.cons (.v _) (.cons (.v _) (.cons (.v _) (.cons (.v _) (.cons (.v _) (.cons (.v _) (.cons (.v _) (.cons (.v _) (.cons (.v _) (.cons (.v _) (.cons (.v _) .nil))))))))))))))))))))))))) (.of rfl) (fun c1 _ => ?_))
  refine wpL_nil ?_
  refine wpA_seq ?_
  refine wpA_region ?_
  refine wL (OpA.buildArrV (k := .u64) (xs := [1, 32898, 9223372036854808714, 9223372039002292224, 32907, 2147483649, 9223372039002292353, 9223372036854808585, 138, 136, 2147516425, 2147483658, 2147516555, 9223372036854775947, 9223372036854808713, 9223372036854808579, 9223372036854808578, 9223372036854775936, 32778, 9223372039002259466, 9223372039002292353, 9223372036854808704, 2147483649, 9223372039002292232]) rfl td190 ti130 tz190 rfl rfl rfl rfl ?_)
  refine wE (OpA.storeW rfl ti190 rfl (by with_reducible conv => lhs; whnf) (.of rfl) rfl rfl .head ?_)
  refine wpL_nil ?_
  refine wpA_ret ?_
  exact ⟨_, (.cell (.whole ti190 rfl rfl .head rfl ⟨_, rfl⟩) .nil), _, (.same rfl .nil), ⟨[1, 32898, 9223372036854808714, 9223372039002292224, 32907, 2147483649, 9223372039002292353, 9223372036854808585, 138, 136, 2147516425, 2147483658, 2147516555, 9223372036854775947, 9223372036854808713, 9223372036854808579, 9223372036854808578, 9223372036854775936, 32778, 9223372039002259466, 9223372039002292353, 9223372036854808704, 2147483649, 9223372039002292232], rfl, h⟩⟩
theorem cons_c    : Fun false Tryz.prog 173 [] (fun d => d = (encArr 24 (D.k .u64)) (consF )) :=
  Fun.at (enc := fun r => (encArr 24 (D.k .u64)) r) (v := consF ) (cons_w   (fun r => r = consF ) (cons_ok  _  rfl))

set_option maxHeartbeats 2000000 in
set_option maxRecDepth 10000 in
theorem round_w (s_ : (List Int)) (offset : (List Int)) (constant : Int)  (Q : (List Int) → Prop) (h : round_vc s_ offset constant Q) : Fun false Tryz.prog 174 [(encArr 25 (D.k .u64)) s_, (encArr 25 D.i) offset, (D.k .u64) constant] (fun d => ∃ r, d = (encArr 25 (D.k .u64)) r ∧ Q r) := by
  unfold round_vc at h
  refine Fun.of_body Tryz.func174 rfl Tryz.ntmps174 rfl ?_
  refine wpA_seq ?_
  refine wpA_region ?_
  refine wL (OpA.bx (sz := 25) rfl (by with_reducible conv => lhs; whnf) (.of rfl) (fun c1 _ => ?_))
  refine wL (OpA.bx (sz := 25) rfl (by with_reducible conv => lhs; whnf) (.of rfl) (fun c2 _ => ?_))
  refine wL (OpA.alloc (sz := 25) (d := (encArr 25 (D.k .u64)) (List.replicate 25 0)) rfl tz131 (fun _ _ => .agg (.cons (.v _) (.cons (.v _) (.cons (.v _) (.cons (.v _) (.cons (.v _) (.cons (.v _) (.cons (.v _) (.cons (.v _) (.cons (.v _) (.cons (.v _) (.cons (.v _) (.cons (.v _) (.cons (.v _) (.cons (.v _) (.cons (.v _) (.cons (.v _) (.cons (.v _) (.cons (.v _) (.cons (.v _) (.cons (.v _) (.cons (.v _) (.cons (.v _) (.cons (.v _) (.cons (.v _) (.cons (.v _) .nil)))))))))))))))))))))))))) (.of rfl) (fun c3 _ => ?_))
  refine wpL_nil ?_
  refine wpA_seq ?_
  refine wpA_region ?_
  refine wL (OpA.alloc (sz := 5) (d := (encArr 5 (D.k .u64)) (List.replicate 5 0)) rfl tz172 (fun _ _ => .agg (.cons (.v _) (.cons (.v _) (.cons (.v _) (.cons (.v _) (.cons (.v _) .nil)))))) (.of rfl) (fun c4 _ => ?_))
  refine wpL_nil ?_
  iterate 2 refine wpA_seq ?_
  refine wpA_region ?_
  refine wL (OpA.load_whole rfl ti131 rfl rfl (.tail (.tail (.tail .head))) rfl ⟨_, rfl⟩ ?_)
  refine wL (OpA.m ?_)
  refine wpL_nil ?_
  refine wpA_block ?_
  refine wpA_lfp (S := (List Int) × Int) (G := Unit) () (fun gg ss => asg [(2, (D.k .u64) constant), (3, .ptr c1 25 0 0), (4, .ptr c2 25 0 0), (6, .ptr c3 25 0 0), (7, .ptr c4 5 0 0), (17, (encArr 25 (D.k .u64)) s_), (18, D.i ss.2)]) (fun gg ss => [(c4, .cells 5 [(encArr 5 (D.k .u64)) ss.1]), (c3, .cells 25 [(encArr 25 (D.k .u64)) (List.replicate 25 0)]), (c2, .cells 25 [(encArr 25 D.i) offset]), (c1, .cells 25 [(encArr 25 (D.k .u64)) s_])]) h (Cov.asg ⟨rfl, rfl, rfl, rfl, rfl, rfl, rfl, trivial⟩) (.refl _) ?_
  rintro again5 _ ⟨c, x⟩ h
  have h : round_L1 s_ offset constant Q again5 c x := h
  unfold round_L1 at h
  show wpA _ _ _ _ (asg [(2, (D.k .u64) constant), (3, .ptr c1 25 0 0), (4, .ptr c2 25 0 0), (6, .ptr c3 25 0 0), (7, .ptr c4 5 0 0), (17, (encArr 25 (D.k .u64)) s_), (18, D.i x)]) [(c4, .cells 5 [(encArr 5 (D.k .u64)) c]), (c3, .cells 25 [(encArr 25 (D.k .u64)) (List.replicate 25 0)]), (c2, .cells 25 [(encArr 25 D.i) offset]), (c1, .cells 25 [(encArr 25 (D.k .u64)) s_])]
  refine wpA_seq ?_
  refine wpA_region ?_
  refine wL (OpA.lss rfl rfl rfl ?_)
  refine wpL_nil ?_
  refine wpA_seq ?_
  refine wpA_cond rfl (fun b6 => ?_) (fun b6 => ?_)
  have h := h.1 (decT b6)
  refine wpA_skip ?_
  refine wpA_seq ?_
  refine wpA_block ?_
  refine wpA_seq ?_
  obtain ⟨q1, h⟩ := h
  refine wpA_region ?_
  refine wL (OpA.m ?_)
  refine wL (OpA.aindexV rfl td131 ti130 rfl rfl q1 ?_)
  iterate 2 refine wL (OpA.a ?_)
  refine wpL_nil ?_
  obtain ⟨q1, q2, q3, h⟩ := h
  refine wpA_region ?_
  refine wL (OpA.m ?_)
  refine wL (OpA.remN rfl rfl rfl q1 ?_)
  refine wL (OpA.aixV rfl td172 ti130 rfl rfl q2 ?_)
  refine wL (OpA.load rfl ti130 rfl .head rfl (arrAt0 q2) ?_)
  refine wL (OpA.m ?_)
  refine wL (OpA.bxor rfl rfl rfl ?_)
  refine wL (OpA.aixV rfl td172 ti130 rfl rfl q2 ?_)
  refine wE (OpA.store (e := (encArr 5 (D.k .u64)) c) (e' := (encArr 5 (D.k .u64)) (si c (x % 5) (gxor .u64 (gi c (x % 5)) (gi s_ x)))) rfl ti130 rfl (.of rfl) rfl (arrFit0 q2) (arrSet0 q2 q3) .head ?_)
  refine wpL_nil ?_
  obtain ⟨q1, h⟩ := h
  refine wpA_region ?_
  refine wL (OpA.addi rfl rfl rfl q1 ?_)
  refine wL (OpA.m ?_)
  refine wpL_nil ?_
  exact ⟨(), ((si c (x % 5) (gxor .u64 (gi c (x % 5)) (gi s_ x))), (x + 1)), h, (Cov.asg ⟨rfl, rfl, rfl, rfl, rfl, rfl, rfl, trivial⟩), (.refl _)⟩
  have h := h.2 (decF b6)
  refine wpA_exit ?_
  refine wpA_seq ?_
  refine wpA_region ?_
  refine wL (OpA.alloc (sz := 25) (d := (encArr 25 (D.k .u64)) (List.replicate 25 0)) rfl tz131 (fun _ _ => .agg (.cons (.v _) (.cons (.v _) (.cons (.v _) (.cons (.v _) (.cons (.v _) (.cons (.v _) (.cons (.v _) (.cons (.v _) (.cons (.v _) (.cons (.v _) (.cons (.v _) (.cons (.v _) (.cons (.v _) (.cons (.v _) (.cons (.v _) (.cons (.v _) (.cons (.v _) (.cons (.v _) (.cons (.v _) (.cons (.v _) (.cons (.v _) (.cons (.v _) (.cons (.v _) (.cons (.v _) (.cons (.v _) .nil)))))))))))))))))))))))))) (.of rfl) (fun c7 _ => ?_))
  refine wpL_nil ?_
  iterate 2 refine wpA_seq ?_
  refine wpA_region ?_
  refine wL (OpA.load_whole rfl ti131 rfl rfl (.tail (.tail (.tail (.tail .head)))) rfl ⟨_, rfl⟩ ?_)
  refine wL (OpA.m ?_)
  refine wpL_nil ?_
  refine wpA_block ?_
  refine wpA_lfp (S := (List Int) × Int) (G := Unit) () (fun gg ss => asg [(2, (D.k .u64) constant), (3, .ptr c1 25 0 0), (4, .ptr c2 25 0 0), (6, .ptr c3 25 0 0), (7, .ptr c4 5 0 0), (10, .ptr c7 25 0 0), (30, (encArr 25 (D.k .u64)) s_), (31, D.i ss.2)]) (fun gg ss => [(c7, .cells 25 [(encArr 25 (D.k .u64)) ss.1]), (c4, .cells 5 [(encArr 5 (D.k .u64)) c]), (c3, .cells 25 [(encArr 25 (D.k .u64)) (List.replicate 25 0)]), (c2, .cells 25 [(encArr 25 D.i) offset]), (c1, .cells 25 [(encArr 25 (D.k .u64)) s_])]) h (Cov.asg ⟨rfl, rfl, rfl, rfl, rfl, rfl, rfl, rfl, trivial⟩) (.refl _) ?_
  rintro again8 _ ⟨t, x1⟩ h
  have h : round_L2 s_ offset constant c Q again8 t x1 := h
  unfold round_L2 at h
  show wpA _ _ _ _ (asg [(2, (D.k .u64) constant), (3, .ptr c1 25 0 0), (4, .ptr c2 25 0 0), (6, .ptr c3 25 0 0), (7, .ptr c4 5 0 0), (10, .ptr c7 25 0 0), (30, (encArr 25 (D.k .u64)) s_), (31, D.i x1)]) [(c7, .cells 25 [(encArr 25 (D.k .u64)) t]), (c4, .cells 5 [(encArr 5 (D.k .u64)) c]), (c3, .cells 25 [(encArr 25 (D.k .u64)) (List.replicate 25 0)]), (c2, .cells 25 [(encArr 25 D.i) offset]), (c1, .cells 25 [(encArr 25 (D.k .u64)) s_])]
  refine wpA_seq ?_
  refine wpA_region ?_
  refine wL (OpA.lss rfl rfl rfl ?_)
  refine wpL_nil ?_
  refine wpA_seq ?_
  refine wpA_cond rfl (fun b9 => ?_) (fun b9 => ?_)
  have h := h.1 (decT b9)
  refine wpA_skip ?_
  refine wpA_seq ?_
  refine wpA_block ?_
  refine wpA_seq ?_
  obtain ⟨q1, h⟩ := h
  refine wpA_region ?_
  refine wL (OpA.m ?_)
  refine wL (OpA.aindexV rfl td131 ti130 rfl rfl q1 ?_)
  iterate 2 refine wL (OpA.a ?_)
  refine wpL_nil ?_
  refine wpA_seq ?_
  obtain ⟨q1, q2, h⟩ := h
  refine wpA_region ?_
  refine wL (OpA.m ?_)
  refine wL (OpA.remN rfl rfl rfl q1 ?_)
  refine wL (OpA.m ?_)
  refine wL (OpA.quoN rfl rfl rfl q2 ?_)
  iterate 2 refine wL (OpA.a ?_)
  refine wpL_nil ?_
  refine wpA_seq ?_
  obtain ⟨q1, q2, q3, q4, q5, q6, h⟩ := h
  refine wpA_draw (m := 15) mo (by kernel_rfl) rfl ?_
  iterate 2 refine dL (OpA.m ⟨rfl, rfl⟩) ?_
  refine dL (OpA.addi rfl rfl rfl q1 ⟨rfl, rfl⟩) ?_
  refine dL (OpA.remN rfl rfl rfl q2 ⟨rfl, rfl⟩) ?_
  refine dL (OpA.aixV rfl td172 ti130 rfl rfl q3 ⟨rfl, rfl⟩) ?_
  refine dL (OpA.load rfl ti130 rfl (.tail .head) rfl (arrAt0 q3) ⟨rfl, rfl⟩) ?_
  refine dL (OpA.m ⟨rfl, rfl⟩) ?_
  refine dL (OpA.addi rfl rfl rfl q4 ⟨rfl, rfl⟩) ?_
  refine dL (OpA.remN rfl rfl rfl q5 ⟨rfl, rfl⟩) ?_
  refine dL (OpA.aixV rfl td172 ti130 rfl rfl q6 ⟨rfl, rfl⟩) ?_
  refine dL (OpA.load rfl ti130 rfl (.tail .head) rfl (arrAt0 q6) ⟨rfl, rfl⟩) ?_
  refine dL (OpA.call rfl rfl rfl en183 (rot_c (gi c (((x1 % 5) + 1) % 5)) 1 ) (by rintro _ rfl; exact ⟨rfl, rfl⟩)) ?_
  iterate 2 refine dL (OpA.bxor rfl rfl rfl ⟨rfl, rfl⟩) ?_
  refine dL (OpA.a ⟨rfl, rfl⟩) ?_
  refine DetK.nil ?_
  refine wpL_nil ?_
  obtain ⟨q1, q2, q3, q4, q5, q6, q7, q8, q9, h⟩ := h
  refine wpA_region ?_
  iterate 2 refine wL (OpA.m ?_)
  refine wL (OpA.muli rfl rfl rfl q1 ?_)
  refine wL (OpA.m ?_)
  refine wL (OpA.muli rfl rfl rfl q2 ?_)
  refine wL (OpA.addi rfl rfl rfl q3 ?_)
  refine wL (OpA.remN rfl rfl rfl q4 ?_)
  refine wL (OpA.muli rfl rfl rfl q5 ?_)
  refine wL (OpA.addi rfl rfl rfl q6 ?_)
  iterate 2 refine wL (OpA.m ?_)
  refine wL (OpA.aixV rfl td188 ti3 rfl rfl q7 ?_)
  refine wL (OpA.load rfl ti3 rfl (.tail (.tail (.tail .head))) rfl (arrAt0 q7) ?_)
  refine wL (OpA.call rfl rfl rfl en183 (rot_c (gxor .u64 (gi s_ x1) (gxor .u64 (gi c (((x1 % 5) + 4) % 5)) (rotF (gi c (((x1 % 5) + 1) % 5)) 1))) (gi offset x1) ) ?_)
  rintro _ rfl
  refine wL (OpA.aixV rfl td131 ti130 rfl rfl q8 ?_)
  refine wE (OpA.store (e := (encArr 25 (D.k .u64)) t) (e' := (encArr 25 (D.k .u64)) (si t ((x1 / 5) + (5 * (((2 * (x1 % 5)) + (3 * (x1 / 5))) % 5))) (rotF (gxor .u64 (gi s_ x1) (gxor .u64 (gi c (((x1 % 5) + 4) % 5)) (rotF (gi c (((x1 % 5) + 1) % 5)) 1))) (gi offset x1)))) rfl ti130 rfl (.of rfl) rfl (arrFit0 q8) (arrSet0 q8 q9) .head ?_)
  refine wpL_nil ?_
  obtain ⟨q1, h⟩ := h
  refine wpA_region ?_
  refine wL (OpA.addi rfl rfl rfl q1 ?_)
  refine wL (OpA.m ?_)
  refine wpL_nil ?_
  exact ⟨(), ((si t ((x1 / 5) + (5 * (((2 * (x1 % 5)) + (3 * (x1 / 5))) % 5))) (rotF (gxor .u64 (gi s_ x1) (gxor .u64 (gi c (((x1 % 5) + 4) % 5)) (rotF (gi c (((x1 % 5) + 1) % 5)) 1))) (gi offset x1))), (x1 + 1)), h, (Cov.asg ⟨rfl, rfl, rfl, rfl, rfl, rfl, rfl, rfl, trivial⟩), (.refl _)⟩
  have h := h.2 (decF b9)
  refine wpA_exit ?_
  iterate 2 refine wpA_seq ?_
  refine wpA_region ?_
  refine wL (OpA.m ?_)
  refine wpL_nil ?_
  refine wpA_block ?_
  refine wpA_lfp (S := (List Int) × Int) (G := Unit) () (fun gg ss => asg [(2, (D.k .u64) constant), (3, .ptr c1 25 0 0), (6, .ptr c3 25 0 0), (10, .ptr c7 25 0 0), (69, D.i ss.2)]) (fun gg ss => [(c7, .cells 25 [(encArr 25 (D.k .u64)) t]), (c4, .cells 5 [(encArr 5 (D.k .u64)) c]), (c3, .cells 25 [(encArr 25 (D.k .u64)) (List.replicate 25 0)]), (c2, .cells 25 [(encArr 25 D.i) offset]), (c1, .cells 25 [(encArr 25 (D.k .u64)) ss.1])]) h (Cov.asg ⟨rfl, rfl, rfl, rfl, rfl, trivial⟩) (.refl _) ?_
  rintro again10 _ ⟨s_1, x2⟩ h
  have h : round_L3 constant t Q again10 s_1 x2 := h
  unfold round_L3 at h
  show wpA _ _ _ _ (asg [(2, (D.k .u64) constant), (3, .ptr c1 25 0 0), (6, .ptr c3 25 0 0), (10, .ptr c7 25 0 0), (69, D.i x2)]) [(c7, .cells 25 [(encArr 25 (D.k .u64)) t]), (c4, .cells 5 [(encArr 5 (D.k .u64)) c]), (c3, .cells 25 [(encArr 25 (D.k .u64)) (List.replicate 25 0)]), (c2, .cells 25 [(encArr 25 D.i) offset]), (c1, .cells 25 [(encArr 25 (D.k .u64)) s_1])]
  refine wpA_seq ?_
  refine wpA_region ?_
  refine wL (OpA.lss rfl rfl rfl ?_)
  refine wpL_nil ?_
  refine wpA_seq ?_
  refine wpA_cond rfl (fun b11 => ?_) (fun b11 => ?_)
  have h := h.1 (decT b11)
  refine wpA_skip ?_
  refine wpA_seq ?_
  refine wpA_block ?_
  refine wpA_seq ?_
  refine wpA_region ?_
  refine wL (OpA.m ?_)
  refine wL (OpA.a ?_)
  refine wpL_nil ?_
  refine wpA_seq ?_
  obtain ⟨q1, q2, h⟩ := h
  refine wpA_region ?_
  iterate 2 refine wL (OpA.m ?_)
  refine wL (OpA.remN rfl rfl rfl q1 ?_)
  refine wL (OpA.subi rfl rfl rfl q2 ?_)
  refine wL (OpA.a ?_)
  refine wpL_nil ?_
  obtain ⟨q1, q2, q3, q4, q5, q6, q7, q8, q9, q10, h⟩ := h
  refine wpA_draw (m := 22) mo (by kernel_rfl) rfl ?_
  iterate 2 refine dL (OpA.m ⟨rfl, rfl⟩) ?_
  refine dL (OpA.aixV rfl td131 ti130 rfl rfl q1 ⟨rfl, rfl⟩) ?_
  refine dL (OpA.load rfl ti130 rfl .head rfl (arrAt0 q1) ⟨rfl, rfl⟩) ?_
  iterate 2 refine dL (OpA.m ⟨rfl, rfl⟩) ?_
  refine dL (OpA.addi rfl rfl rfl q2 ⟨rfl, rfl⟩) ?_
  refine dL (OpA.remN rfl rfl rfl q3 ⟨rfl, rfl⟩) ?_
  refine dL (OpA.addi rfl rfl rfl q4 ⟨rfl, rfl⟩) ?_
  refine dL (OpA.aixV rfl td131 ti130 rfl rfl q5 ⟨rfl, rfl⟩) ?_
  refine dL (OpA.load rfl ti130 rfl .head rfl (arrAt0 q5) ⟨rfl, rfl⟩) ?_
  refine dL (OpA.unot rfl rfl ⟨rfl, rfl⟩) ?_
  iterate 2 refine dL (OpA.m ⟨rfl, rfl⟩) ?_
  refine dL (OpA.addi rfl rfl rfl q6 ⟨rfl, rfl⟩) ?_
  refine dL (OpA.remN rfl rfl rfl q7 ⟨rfl, rfl⟩) ?_
  refine dL (OpA.addi rfl rfl rfl q8 ⟨rfl, rfl⟩) ?_
  refine dL (OpA.aixV rfl td131 ti130 rfl rfl q9 ⟨rfl, rfl⟩) ?_
  refine dL (OpA.load rfl ti130 rfl .head rfl (arrAt0 q9) ⟨rfl, rfl⟩) ?_
  refine dL (OpA.band rfl rfl rfl ⟨rfl, rfl⟩) ?_
  refine dL (OpA.bxor rfl rfl rfl ⟨rfl, rfl⟩) ?_
  refine dL (OpA.aixV rfl td131 ti130 rfl rfl q1 ⟨rfl, rfl⟩) ?_
  refine DetK.nil ?_
  refine wE (OpA.store (e := (encArr 25 (D.k .u64)) s_1) (e' := (encArr 25 (D.k .u64)) (si s_1 x2 (gxor .u64 (gi t x2) (gand .u64 (gnot .u64 (gi t ((x2 - (x2 % 5)) + ((x2 + 1) % 5)))) (gi t ((x2 - (x2 % 5)) + ((x2 + 2) % 5))))))) rfl ti130 rfl (.of rfl) rfl (arrFit0 q1) (arrSet0 q1 q10) (.tail (.tail (.tail (.tail .head)))) ?_)
  refine wpL_nil ?_
  obtain ⟨q1, h⟩ := h
  refine wpA_region ?_
  refine wL (OpA.addi rfl rfl rfl q1 ?_)
  refine wL (OpA.m ?_)
  refine wpL_nil ?_
  exact ⟨(), ((si s_1 x2 (gxor .u64 (gi t x2) (gand .u64 (gnot .u64 (gi t ((x2 - (x2 % 5)) + ((x2 + 1) % 5)))) (gi t ((x2 - (x2 % 5)) + ((x2 + 2) % 5)))))), (x2 + 1)), h, (Cov.asg ⟨rfl, rfl, rfl, rfl, rfl, trivial⟩), (.refl _)⟩
  have h := h.2 (decF b11)
  refine wpA_exit ?_
  refine wpA_seq ?_
  obtain ⟨q1, q2, h⟩ := h
  refine wpA_region ?_
  refine wL (OpA.aixV rfl td131 ti130 rfl rfl q1 ?_)
  refine wL (OpA.load rfl ti130 rfl (.tail (.tail (.tail (.tail .head)))) rfl (arrAt0 q1) ?_)
  refine wL (OpA.m ?_)
  refine wL (OpA.bxor rfl rfl rfl ?_)
  refine wL (OpA.aixV rfl td131 ti130 rfl rfl q1 ?_)
  refine wE (OpA.store (e := (encArr 25 (D.k .u64)) s_1) (e' := (encArr 25 (D.k .u64)) (si s_1 0 (gxor .u64 (gi s_1 0) constant))) rfl ti130 rfl (.of rfl) rfl (arrFit0 q1) (arrSet0 q1 q2) (.tail (.tail (.tail (.tail .head)))) ?_)
  refine wpL_nil ?_
  refine wpA_seq ?_
  refine wpA_region ?_
  refine wL (OpA.load_whole rfl ti131 rfl rfl (.tail (.tail (.tail (.tail .head)))) rfl ⟨_, rfl⟩ ?_)
  refine wE (OpA.storeW rfl ti131 rfl (by with_reducible conv => lhs; whnf) (.of rfl) rfl rfl (.tail (.tail .head)) ?_)
  refine wpL_nil ?_
  refine wpA_ret ?_
  exact ⟨_, (.cell (.whole ti131 rfl rfl (.tail (.tail .head)) rfl ⟨_, rfl⟩) .nil), _, (.same rfl .nil), ⟨(si s_1 0 (gxor .u64 (gi s_1 0) constant)), rfl, h⟩⟩
theorem round_c (s_ : (List Int)) (offset : (List Int)) (constant : Int)  (hp0 : s_.length = 25) : Fun false Tryz.prog 174 [(encArr 25 (D.k .u64)) s_, (encArr 25 D.i) offset, (D.k .u64) constant] (fun d => d = (encArr 25 (D.k .u64)) (roundF s_ offset constant)) :=
  Fun.at (enc := fun r => (encArr 25 (D.k .u64)) r) (v := roundF s_ offset constant) (round_w s_ offset constant  (fun r => r = roundF s_ offset constant) (round_ok s_ offset constant _ hp0 rfl))

set_option maxHeartbeats 2000000 in
set_option maxRecDepth 10000 in
theorem perm_w (state : (List Int))  (Q : (List Int) → Prop) (h : perm_vc state Q) : Fun false Tryz.prog 151 [(encArr 25 (D.k .u64)) state] (fun d => ∃ r, d = (encArr 25 (D.k .u64)) r ∧ Q r) := by
  unfold perm_vc at h
  refine Fun.of_body Tryz.func151 rfl Tryz.ntmps151 rfl ?_
  refine wpA_seq ?_
  refine wpA_region ?_
  refine wL (OpA.bx (sz := 25) rfl (by with_reducible conv => lhs; whnf) (.of rfl) (fun c1 _ => ?_))
  refine wL (OpA.alloc (sz := 25) (d := (encArr 25 (D.k .u64)) (List.replicate 25 0)) rfl tz131 (fun _ _ => .agg (.cons (.v _) (.cons (.v _) (.cons (.v _) (.cons (.v _) (.cons (.v _) (.cons (.v _) (.cons (.v _) (.cons (.v _) (.cons (.v _) (.cons (.v _) (.cons (.v _) (.cons (.v _) (.cons (.v _) (.cons (.v _) (.cons (.v _) (.cons (.v _) (.cons (.v _) (.cons (.v _) (.cons (.v _) (.cons (.v _) (.cons (.v _) (.cons (.v _) (.cons (.v _) (.cons (.v _) (.cons (.v _) .nil)))))))))))))))))))))))))) (.of rfl) (fun c2 _ => ?_))
  refine wpL_nil ?_
  refine wpA_seq ?_
  refine wpA_region ?_
  refine wL (OpA.call rfl rfl rfl en172 (offs_c  ) ?_)
  rintro _ rfl
  refine wL (OpA.alloc (sz := 25) (d := (encArr 25 D.i) (List.replicate 25 0)) rfl tz188 (fun _ _ => .agg (.cons (.v _) (.cons (.v _) (.cons (.v _) (.cons (.v _) (.cons (.v _) (.cons (.v _) (.cons (.v _) (.cons (.v _) (.cons (.v _) (.cons (.v _) (.cons (.v _) (.cons (.v _) (.cons (.v _) (.cons (.v _) (.cons (.v _) (.cons (.v _) (.cons (.v _) (.cons (.v _) (.cons (.v _) (.cons (.v _) (.cons (.v _) (.cons (.v _) (.cons (.v _) (.cons (.v _) (.cons (.v _) .nil)))))))))))))))))))))))))) (.of rfl) (fun c3 _ => ?_))
  refine wE (OpA.storeW rfl ti188 rfl (by with_reducible conv => lhs; whnf) (.of rfl) rfl rfl .head ?_)
  refine wpL_nil ?_
  iterate 2 refine wpA_seq ?_
  refine wpA_region ?_
  refine wL (OpA.call rfl rfl rfl en173 (cons_c  ) ?_)
  rintro _ rfl
  refine wL (OpA.m ?_)
  refine wpL_nil ?_
  refine wpA_block ?_
  refine wpA_lfp (S := (List Int) × Int) (G := Unit) () (fun gg ss => asg [(1, .ptr c1 25 0 0), (2, .ptr c2 25 0 0), (3, .ptr c3 25 0 0), (7, (encArr 24 (D.k .u64)) consF), (8, D.i ss.2)]) (fun gg ss => [(c3, .cells 25 [(encArr 25 D.i) offsF]), (c2, .cells 25 [(encArr 25 (D.k .u64)) (List.replicate 25 0)]), (c1, .cells 25 [(encArr 25 (D.k .u64)) ss.1])]) h (Cov.asg ⟨rfl, rfl, rfl, rfl, rfl, trivial⟩) (.refl _) ?_
  rintro again4 _ ⟨state1, x⟩ h
  have h : perm_L1 Q again4 state1 x := h
  unfold perm_L1 at h
  show wpA _ _ _ _ (asg [(1, .ptr c1 25 0 0), (2, .ptr c2 25 0 0), (3, .ptr c3 25 0 0), (7, (encArr 24 (D.k .u64)) consF), (8, D.i x)]) [(c3, .cells 25 [(encArr 25 D.i) offsF]), (c2, .cells 25 [(encArr 25 (D.k .u64)) (List.replicate 25 0)]), (c1, .cells 25 [(encArr 25 (D.k .u64)) state1])]
  refine wpA_seq ?_
  refine wpA_region ?_
  refine wL (OpA.lss rfl rfl rfl ?_)
  refine wpL_nil ?_
  refine wpA_seq ?_
  refine wpA_cond rfl (fun b5 => ?_) (fun b5 => ?_)
  have h := h.1 (decT b5)
  refine wpA_skip ?_
  refine wpA_seq ?_
  refine wpA_block ?_
  refine wpA_seq ?_
  obtain ⟨q1, h⟩ := h
  refine wpA_region ?_
  refine wL (OpA.aindexV rfl td190 ti130 rfl rfl q1 ?_)
  refine wL (OpA.a ?_)
  refine wpL_nil ?_
  obtain ⟨q1, h⟩ := h
  refine wpA_region ?_
  refine wL (OpA.load_whole rfl ti131 rfl rfl (.tail (.tail .head)) rfl ⟨_, rfl⟩ ?_)
  refine wL (OpA.load_whole rfl ti188 rfl rfl .head rfl ⟨_, rfl⟩ ?_)
  refine wL (OpA.m ?_)
  refine wL (OpA.call rfl rfl rfl en174 (round_c state1 offsF (gi consF x) q1) ?_)
  rintro _ rfl
  refine wE (OpA.storeW rfl ti131 rfl (by with_reducible conv => lhs; whnf) (.of rfl) rfl rfl (.tail (.tail .head)) ?_)
  refine wpL_nil ?_
  obtain ⟨q1, h⟩ := h
  refine wpA_region ?_
  refine wL (OpA.addi rfl rfl rfl q1 ?_)
  refine wL (OpA.m ?_)
  refine wpL_nil ?_
  exact ⟨(), ((roundF state1 offsF (gi consF x)), (x + 1)), h, (Cov.asg ⟨rfl, rfl, rfl, rfl, rfl, trivial⟩), (.refl _)⟩
  have h := h.2 (decF b5)
  refine wpA_exit ?_
  refine wpA_seq ?_
  refine wpA_region ?_
  refine wL (OpA.load_whole rfl ti131 rfl rfl (.tail (.tail .head)) rfl ⟨_, rfl⟩ ?_)
  refine wE (OpA.storeW rfl ti131 rfl (by with_reducible conv => lhs; whnf) (.of rfl) rfl rfl (.tail .head) ?_)
  refine wpL_nil ?_
  refine wpA_ret ?_
  exact ⟨_, (.cell (.whole ti131 rfl rfl (.tail .head) rfl ⟨_, rfl⟩) .nil), _, (.same rfl .nil), ⟨state1, rfl, h⟩⟩
theorem perm_c (state : (List Int))  (hp0 : state.length = 25) : Fun false Tryz.prog 151 [(encArr 25 (D.k .u64)) state] (fun d => d = (encArr 25 (D.k .u64)) (permF state)) :=
  Fun.at (enc := fun r => (encArr 25 (D.k .u64)) r) (v := permF state) (perm_w state  (fun r => r = permF state) (perm_ok state _ hp0 rfl))

set_option maxHeartbeats 2000000 in
set_option maxRecDepth 10000 in
theorem new_w   (Q : DigestSponge → Prop) (h : new_vc  Q) : CallH Tryz.prog 102 [] [] (fun d h' => ∃ (r : DigestSponge) (g : Nat × Nat × List D × List D), d = .ptr g.1 54 0 0 ∧ h' = [(g.1, .cells 54 [.agg (arrC 25 (D.k .u64) r.state ++ ([.own g.2.1 1 g.2.2.1.length r.rest.length, D.i r.taken] ++ (arrC 25 (D.k .u64) r.seen ++ ([D.s r.tail, D.s r.sum]))))]), (g.2.1, .cells 1 (winL (D.k .u8) g.2.2.1 r.rest g.2.2.2))] ∧ Q r) := by
  unfold new_vc at h
  refine CallH.of_bodyP Tryz.func102 rfl Tryz.ntmps102 rfl ?_
  refine wpA_seq ?_
  refine wpA_region ?_
  refine wL (OpA.a ?_)
  refine wpL_nil ?_
  refine wpA_seq ?_
  refine wpA_region ?_
  refine wL (OpA.buildO (zs := [.v (.int .u64 0), .v (.int .u64 0), .v (.int .u64 0), .v (.int .u64 0), .v (.int .u64 0), .v (.int .u64 0), .v (.int .u64 0), .v (.int .u64 0), .v (.int .u64 0), .v (.int .u64 0), .v (.int .u64 0), .v (.int .u64 0), .v (.int .u64 0), .v (.int .u64 0), .v (.int .u64 0), .v (.int .u64 0), .v (.int .u64 0), .v (.int .u64 0), .v (.int .u64 0), .v (.int .u64 0), .v (.int .u64 0), .v (.int .u64 0), .v (.int .u64 0), .v (.int .u64 0), .v (.int .u64 0), .v (.slice none 0 0), .v (.int .i64 0), .v (.int .u64 0), .v (.int .u64 0), .v (.int .u64 0), .v (.int .u64 0), .v (.int .u64 0), .v (.int .u64 0), .v (.int .u64 0), .v (.int .u64 0), .v (.int .u64 0), .v (.int .u64 0), .v (.int .u64 0), .v (.int .u64 0), .v (.int .u64 0), .v (.int .u64 0), .v (.int .u64 0), .v (.int .u64 0), .v (.int .u64 0), .v (.int .u64 0), .v (.int .u64 0), .v (.int .u64 0), .v (.int .u64 0), .v (.int .u64 0), .v (.int .u64 0), .v (.int .u64 0), .v (.int .u64 0), .v (.string ⟨#[]⟩), .v (.string ⟨#[]⟩)]) rfl tp150 tz150 (fun _ _ => (.cons (.v _) (.cons (.v _) (.cons (.v _) (.cons (.v _) (.cons (.v _) (.cons (.v _) (.cons (.v _) (.cons (.v _) (.cons (.v _) (.cons (.v _) (.cons (.v _) (.cons (.v _) (.cons (.v _) (.cons (.v _) (.cons (.v _) (.cons (.v _) (.cons (.v _) (.cons (.v _) (.cons (.v _) (.cons (.v _) (.cons (.v _) (.cons (.v _) (.cons (.v _) (.cons (.v _) (.cons (.v _) (.cons (.v _) (.cons (.v _) (.cons (.v _) (.cons (.v _) (.cons (.v _) (.cons (.v _) (.cons (.v _) (.cons (.v _) (.cons (.v _) (.cons (.v _) (.cons (.v _) (.cons (.v _) (.cons (.v _) (.cons (.v _) (.cons (.v _) (.cons (.v _) (.cons (.v _) (.cons (.v _) (.cons (.v _) (.cons (.v _) (.cons (.v _) (.cons (.v _) (.cons (.v _) (.cons (.v _) (.cons (.v _) (.cons (.v _) (.cons (.v _) (.cons (.v _) (.cons (.v _) .nil))))))))))))))))))))))))))))))))))))))))))))))))))))))) .nil rfl ?_)
  refine wL (OpA.bx (sz := 54) rfl (by with_reducible conv => lhs; whnf) (.of rfl) (fun c1 _ => ?_))
  refine wL (OpA.a ?_)
  refine wpL_nil ?_
  refine wpA_ghostM (c := c1) (sz1 := 54) (sz := 1) (es' := fun g2 => [.agg (arrC 25 (D.k .u64) (List.replicate 25 0) ++ ([.own g2 1 ([] : List D).length ([] : List Int).length, D.i 0] ++ (arrC 25 (D.k .u64) (List.replicate 25 0) ++ ([D.s ByteArray.empty, D.s ByteArray.empty]))))]) (fun _ => .head) (fun _ => (.same (.same (.same (.same (.same (.same (.same (.same (.same (.same (.same (.same (.same (.same (.same (.same (.same (.same (.same (.same (.same (.same (.same (.same (.same (.turn (.same (.same (.same (.same (.same (.same (.same (.same (.same (.same (.same (.same (.same (.same (.same (.same (.same (.same (.same (.same (.same (.same (.same (.same (.same (.same (.same (.same .nil))))))))))))))))))))))))))))))))))))))))))))))))))))))) (fun _ => rfl) (fun _ => by rintro d (_ | ⟨_, hd⟩); exact .of rfl; cases hd) (fun g2 => ?_)
  refine wpA_ret ?_
  exact ⟨_, (.tmp (d := .ptr c1 54 0 0) rfl .nil), [(c1, .cells 54 [.agg (arrC 25 (D.k .u64) (List.replicate 25 0) ++ ([.own g2 1 ([] : List D).length ([] : List Int).length, D.i 0] ++ (arrC 25 (D.k .u64) (List.replicate 25 0) ++ ([D.s ByteArray.empty, D.s ByteArray.empty]))))]), (g2, .cells 1 (winL (D.k .u8) ([] : List D) ([] : List Int) ([] : List D)))], [(c1, .cells 54 [.agg (arrC 25 (D.k .u64) (List.replicate 25 0) ++ ([.own g2 1 ([] : List D).length ([] : List Int).length, D.i 0] ++ (arrC 25 (D.k .u64) (List.replicate 25 0) ++ ([D.s ByteArray.empty, D.s ByteArray.empty]))))]), (g2, .cells 1 (winL (D.k .u8) ([] : List D) ([] : List Int) ([] : List D)))], pull1, (.refl _), (DigestSponge.mk (List.replicate 25 0) ([] : List Int) 0 (List.replicate 25 0) ByteArray.empty ByteArray.empty), (c1, g2, ([] : List D), ([] : List D)), rfl, rfl, h⟩
theorem new_c    : CallH Tryz.prog 102 [] [] (fun d h' => ∃ (g : Nat × Nat × List D × List D), d = .ptr g.1 54 0 0 ∧ h' = [(g.1, .cells 54 [.agg (arrC 25 (D.k .u64) ((newS ).state) ++ ([.own g.2.1 1 g.2.2.1.length ((newS ).rest).length, D.i ((newS ).taken)] ++ (arrC 25 (D.k .u64) ((newS ).seen) ++ ([D.s ((newS ).tail), D.s ((newS ).sum)]))))]), (g.2.1, .cells 1 (winL (D.k .u8) g.2.2.1 ((newS ).rest) g.2.2.2))]) :=
  (new_w   (fun r => r = newS ) (new_ok  _  rfl)).mono (by rintro d h' ⟨r, g, hd, hh, rfl⟩; exact ⟨g, hd, hh⟩)

set_option maxHeartbeats 2000000 in
set_option maxRecDepth 10000 in
theorem abs_w (s_ : DigestSponge) (c_s_ : Nat) (a_s_ : Nat) (i_s_ : Nat) (n_s_ : Nat) (b : (List Int)) (c_b : Nat) (pre_b post_b : List D)  (Q : DigestSponge → Prop) (h : abs_vc s_ b Q) : CallH Tryz.prog 125 [.ptr c_s_ 54 0 0, .own c_b 1 pre_b.length b.length] [(c_s_, .cells 54 [.agg (arrC 25 (D.k .u64) s_.state ++ ([.own a_s_ 1 i_s_ n_s_, D.i s_.taken] ++ (arrC 25 (D.k .u64) s_.seen ++ ([D.s s_.tail, D.s s_.sum]))))]), (c_b, .cells 1 (winL (D.k .u8) pre_b b post_b))] (fun d h' => ∃ (r : DigestSponge) (g : Unit), d = .tup [] ∧ h' = [(c_s_, .cells 54 [.agg (arrC 25 (D.k .u64) r.state ++ ([.own a_s_ 1 i_s_ n_s_, D.i r.taken] ++ (arrC 25 (D.k .u64) r.seen ++ ([D.s r.tail, D.s r.sum]))))]), (c_b, .cells 1 (winL (D.k .u8) pre_b b post_b))] ∧ Q r) := by
  unfold abs_vc at h
  refine CallH.of_bodyP Tryz.func125 rfl Tryz.ntmps125 rfl ?_
  iterate 2 refine wpA_seq ?_
  refine wpA_region ?_
  refine wL (OpA.m ?_)
  refine wL (OpA.len rfl rfl rfl rfl ts90.desc (.inr (.inl ⟨_, _, _, rfl⟩)) ?_)
  refine wL (OpA.m ?_)
  refine wpL_nil ?_
  refine wpA_block ?_
  refine wpA_lfp (S := (List Int) × Int) (G := Unit) () (fun gg ss => asg [(0, .ptr c_s_ 54 0 0), (1, .own c_b 1 pre_b.length b.length), (6, D.i (b.length : Int)), (7, D.i ss.2)]) (fun gg ss => [(c_s_, .cells 54 [.agg (arrC 25 (D.k .u64) ss.1 ++ ([.own a_s_ 1 i_s_ n_s_, D.i s_.taken] ++ (arrC 25 (D.k .u64) s_.seen ++ ([D.s s_.tail, D.s s_.sum]))))]), (c_b, .cells 1 (winL (D.k .u8) pre_b b post_b))]) h (Cov.asg ⟨rfl, rfl, rfl, rfl, trivial⟩) (.refl _) ?_
  rintro again1 _ ⟨s_state, x⟩ h
  have h : abs_L1 s_ b Q again1 s_state x := h
  unfold abs_L1 at h
  show wpA _ _ _ _ (asg [(0, .ptr c_s_ 54 0 0), (1, .own c_b 1 pre_b.length b.length), (6, D.i (b.length : Int)), (7, D.i x)]) [(c_s_, .cells 54 [.agg (arrC 25 (D.k .u64) s_state ++ ([.own a_s_ 1 i_s_ n_s_, D.i s_.taken] ++ (arrC 25 (D.k .u64) s_.seen ++ ([D.s s_.tail, D.s s_.sum]))))]), (c_b, .cells 1 (winL (D.k .u8) pre_b b post_b))]
  refine wpA_seq ?_
  refine wpA_region ?_
  refine wL (OpA.lss rfl rfl rfl ?_)
  refine wpL_nil ?_
  refine wpA_seq ?_
  refine wpA_cond rfl (fun b2 => ?_) (fun b2 => ?_)
  have h := h.1 (decT b2)
  refine wpA_skip ?_
  refine wpA_seq ?_
  refine wpA_block ?_
  refine wpA_seq ?_
  refine wpA_region ?_
  refine wL (OpA.m ?_)
  refine wL (OpA.a ?_)
  refine wpL_nil ?_
  obtain ⟨q1, q2, q3, q4, q5, q6, q7, h⟩ := h
  refine wpA_draw (m := 20) mo (by kernel_rfl) rfl ?_
  iterate 2 refine dL (OpA.m ⟨rfl, rfl⟩) ?_
  refine dL (OpA.quoN rfl rfl rfl q1 ⟨rfl, rfl⟩) ?_
  refine dL (OpA.nc rfl (by with_reducible conv => lhs; whnf) (.inl ⟨_, _, _, _, rfl⟩) ⟨rfl, rfl⟩) ?_
  refine dL (OpA.fieldAddr rfl tf150_0 rfl ⟨rfl, rfl⟩) ?_
  refine dL (OpA.aixV rfl td131 ti130 rfl rfl q2 ⟨rfl, rfl⟩) ?_
  refine dL (OpA.load rfl ti130 rfl .head rfl (arrAt (A := ([] : List D)) rfl q2) ⟨rfl, rfl⟩) ?_
  iterate 2 refine dL (OpA.m ⟨rfl, rfl⟩) ?_
  refine dL (OpA.ixV rfl ts90 rfl rfl q3 ⟨rfl, rfl⟩) ?_
  refine dL (OpA.load rfl ti5 rfl (.tail .head) (getV (enc := (D.k .u8)) q3) rfl ⟨rfl, rfl⟩) ?_
  refine dL (OpA.conv rfl td5 td130 rfl ⟨rfl, rfl⟩) ?_
  refine dL (OpA.m ⟨rfl, rfl⟩) ?_
  refine dL (OpA.remN rfl rfl rfl q4 ⟨rfl, rfl⟩) ?_
  refine dL (OpA.muli rfl rfl rfl q5 ⟨rfl, rfl⟩) ?_
  refine dL (OpA.shl rfl rfl rfl q6 ⟨rfl, rfl⟩) ?_
  refine dL (OpA.bxor rfl rfl rfl ⟨rfl, rfl⟩) ?_
  refine dL (OpA.nc rfl (by with_reducible conv => lhs; whnf) (.inl ⟨_, _, _, _, rfl⟩) ⟨rfl, rfl⟩) ?_
  refine dL (OpA.fieldAddr rfl tf150_0 rfl ⟨rfl, rfl⟩) ?_
  refine dL (OpA.aixV rfl td131 ti130 rfl rfl q2 ⟨rfl, rfl⟩) ?_
  refine DetK.nil ?_
  refine wE (OpA.store (e := .agg (arrC 25 (D.k .u64) s_state ++ ([.own a_s_ 1 i_s_ n_s_, D.i s_.taken] ++ (arrC 25 (D.k .u64) s_.seen ++ ([D.s s_.tail, D.s s_.sum]))))) (e' := .agg (arrC 25 (D.k .u64) (si s_state (x / 8) (gxor .u64 (gi s_state (x / 8)) (gshl .u64 (IntKind.u64.wrap (gi b x)) (8 * (x % 8))))) ++ ([.own a_s_ 1 i_s_ n_s_, D.i s_.taken] ++ (arrC 25 (D.k .u64) s_.seen ++ ([D.s s_.tail, D.s s_.sum]))))) rfl ti130 rfl (.of rfl) rfl (arrFit (A := ([] : List D)) rfl q2) (arrSet (A := ([] : List D)) rfl q2 q7) .head ?_)
  refine wpL_nil ?_
  obtain ⟨q1, h⟩ := h
  refine wpA_region ?_
  refine wL (OpA.addi rfl rfl rfl q1 ?_)
  refine wL (OpA.m ?_)
  refine wpL_nil ?_
  exact ⟨(), ((si s_state (x / 8) (gxor .u64 (gi s_state (x / 8)) (gshl .u64 (IntKind.u64.wrap (gi b x)) (8 * (x % 8))))), (x + 1)), h, (Cov.asg ⟨rfl, rfl, rfl, rfl, trivial⟩), (.refl _)⟩
  have h := h.2 (decF b2)
  refine wpA_exit ?_
  obtain ⟨q1, h⟩ := h
  refine wpA_region ?_
  iterate 2 refine wL (OpA.m ?_)
  refine wL (OpA.nc rfl (by with_reducible conv => lhs; whnf) (.inl ⟨_, _, _, _, rfl⟩) ?_)
  refine wL (OpA.fieldAddr rfl tf150_0 rfl ?_)
  refine wL (OpA.load_agg rfl ti131 rfl .head rfl rfl rfl ?_)
  refine wL (OpA.call rfl rfl rfl en151 (perm_c s_state q1) ?_)
  rintro _ rfl
  refine wL (OpA.nc rfl (by with_reducible conv => lhs; whnf) (.inl ⟨_, _, _, _, rfl⟩) ?_)
  refine wL (OpA.fieldAddr rfl tf150_0 rfl ?_)
  refine wE (OpA.store (e := .agg (arrC 25 (D.k .u64) s_state ++ ([.own a_s_ 1 i_s_ n_s_, D.i s_.taken] ++ (arrC 25 (D.k .u64) s_.seen ++ ([D.s s_.tail, D.s s_.sum]))))) (e' := .agg (arrC 25 (D.k .u64) (permF s_state) ++ ([.own a_s_ 1 i_s_ n_s_, D.i s_.taken] ++ (arrC 25 (D.k .u64) s_.seen ++ ([D.s s_.tail, D.s s_.sum]))))) rfl ti131 rfl (.of rfl) rfl (Nat.le_of_ble_eq_true rfl) arrPutH .head ?_)
  refine wpL_nil ?_
  exact ⟨_, .nil, [(c_s_, .cells 54 [.agg (arrC 25 (D.k .u64) (permF s_state) ++ ([.own a_s_ 1 i_s_ n_s_, D.i s_.taken] ++ (arrC 25 (D.k .u64) s_.seen ++ ([D.s s_.tail, D.s s_.sum]))))]), (c_b, .cells 1 (winL (D.k .u8) pre_b b post_b))], [(c_s_, .cells 54 [.agg (arrC 25 (D.k .u64) (permF s_state) ++ ([.own a_s_ 1 i_s_ n_s_, D.i s_.taken] ++ (arrC 25 (D.k .u64) s_.seen ++ ([D.s s_.tail, D.s s_.sum]))))]), (c_b, .cells 1 (winL (D.k .u8) pre_b b post_b))], (.refl _), (.refl _), (DigestSponge.mk (permF s_state) s_.rest s_.taken s_.seen s_.tail s_.sum), (), rfl, rfl, h⟩
theorem abs_c (s_ : DigestSponge) (c_s_ : Nat) (a_s_ : Nat) (i_s_ : Nat) (n_s_ : Nat) (b : (List Int)) (c_b : Nat) (pre_b post_b : List D)  (hp0 : b.length = 136) (hp1 : s_.state.length = 25) : CallH Tryz.prog 125 [.ptr c_s_ 54 0 0, .own c_b 1 pre_b.length b.length] [(c_s_, .cells 54 [.agg (arrC 25 (D.k .u64) s_.state ++ ([.own a_s_ 1 i_s_ n_s_, D.i s_.taken] ++ (arrC 25 (D.k .u64) s_.seen ++ ([D.s s_.tail, D.s s_.sum]))))]), (c_b, .cells 1 (winL (D.k .u8) pre_b b post_b))] (fun d h' => ∃ (g : Unit), d = .tup [] ∧ h' = [(c_s_, .cells 54 [.agg (arrC 25 (D.k .u64) ((absF s_ b).state) ++ ([.own a_s_ 1 i_s_ n_s_, D.i ((absF s_ b).taken)] ++ (arrC 25 (D.k .u64) ((absF s_ b).seen) ++ ([D.s ((absF s_ b).tail), D.s ((absF s_ b).sum)]))))]), (c_b, .cells 1 (winL (D.k .u8) pre_b b post_b))]) :=
  (abs_w s_ c_s_ a_s_ i_s_ n_s_ b c_b pre_b post_b  (fun r => r = absF s_ b) (abs_ok s_ b _ hp0 hp1 rfl)).mono (by rintro d h' ⟨r, g, hd, hh, rfl⟩; exact ⟨g, hd, hh⟩)

set_option maxHeartbeats 2000000 in
set_option maxRecDepth 10000 in
theorem cl_w (s_ : DigestSponge) (c_s_ : Nat) (c_s_1 : Nat) (pre_s_ : List D) (post_s_ : List D)  (Q : DigestSponge × DigestSponge → Prop) (h : cl_vc s_ Q) : CallH Tryz.prog 126 [.ptr c_s_ 54 0 0] [(c_s_, .cells 54 [.agg (arrC 25 (D.k .u64) s_.state ++ ([.own c_s_1 1 pre_s_.length s_.rest.length, D.i s_.taken] ++ (arrC 25 (D.k .u64) s_.seen ++ ([D.s s_.tail, D.s s_.sum]))))]), (c_s_1, .cells 1 (winL (D.k .u8) pre_s_ s_.rest post_s_))] (fun d h' => ∃ (r : DigestSponge × DigestSponge) (g : Nat × Nat × List D × List D × Nat × List D × List D), d = .ptr g.1 54 0 0 ∧ h' = [(g.1, .cells 54 [.agg (arrC 25 (D.k .u64) r.1.state ++ ([.own g.2.1 1 g.2.2.1.length r.1.rest.length, D.i r.1.taken] ++ (arrC 25 (D.k .u64) r.1.seen ++ ([D.s r.1.tail, D.s r.1.sum]))))]), (g.2.1, .cells 1 (winL (D.k .u8) g.2.2.1 r.1.rest g.2.2.2.1)), (c_s_, .cells 54 [.agg (arrC 25 (D.k .u64) r.2.state ++ ([.own g.2.2.2.2.1 1 g.2.2.2.2.2.1.length r.2.rest.length, D.i r.2.taken] ++ (arrC 25 (D.k .u64) r.2.seen ++ ([D.s r.2.tail, D.s r.2.sum]))))]), (g.2.2.2.2.1, .cells 1 (winL (D.k .u8) g.2.2.2.2.2.1 r.2.rest g.2.2.2.2.2.2))] ∧ Q r) := by
  unfold cl_vc at h
  refine CallH.of_bodyP Tryz.func126 rfl Tryz.ntmps126 rfl ?_
  refine wpA_seq ?_
  refine wpA_region ?_
  refine wL (OpA.a ?_)
  refine wpL_nil ?_
  refine wpA_seq ?_
  refine wpA_region ?_
  refine wL (OpA.m ?_)
  refine wL (OpA.nc rfl (by with_reducible conv => lhs; whnf) (.inl ⟨_, _, _, _, rfl⟩) ?_)
  refine wL (OpA.load_whole rfl ti150 rfl rfl .head rfl ⟨_, rfl⟩ ?_)
  refine wL (OpA.alloc (sz := 54) (d := .agg (arrC 25 (D.k .u64) (List.replicate 25 0) ++ ([.v (.slice none 0 0), D.i 0] ++ (arrC 25 (D.k .u64) (List.replicate 25 0) ++ ([D.s ByteArray.empty, D.s ByteArray.empty]))))) rfl tz150 (fun _ _ => .agg (.cons (.v _) (.cons (.v _) (.cons (.v _) (.cons (.v _) (.cons (.v _) (.cons (.v _) (.cons (.v _) (.cons (.v _) (.cons (.v _) (.cons (.v _) (.cons (.v _) (.cons (.v _) (.cons (.v _) (.cons (.v _) (.cons (.v _) (.cons (.v _) (.cons (.v _) (.cons (.v _) (.cons (.v _) (.cons (.v _) (.cons (.v _) (.cons (.v _) (.cons (.v _) (.cons (.v _) (.cons (.v _) (.cons (.v _) (.cons (.v _) (.cons (.v _) (.cons (.v _) (.cons (.v _) (.cons (.v _) (.cons (.v _) (.cons (.v _) (.cons (.v _) (.cons (.v _) (.cons (.v _) (.cons (.v _) (.cons (.v _) (.cons (.v _) (.cons (.v _) (.cons (.v _) (.cons (.v _) (.cons (.v _) (.cons (.v _) (.cons (.v _) (.cons (.v _) (.cons (.v _) (.cons (.v _) (.cons (.v _) (.cons (.v _) (.cons (.v _) (.cons (.v _) (.cons (.v _) (.cons (.v _) .nil))))))))))))))))))))))))))))))))))))))))))))))))))))))) (.of rfl) (fun c1 _ => ?_))
  refine wE (OpA.storeW rfl ti150 rfl (by with_reducible conv => lhs; whnf) (.of rfl) rfl rfl .head ?_)
  refine wpL_nil ?_
  refine wpA_seq ?_
  obtain ⟨q1, h⟩ := h
  refine wpA_region ?_
  refine wL (OpA.m ?_)
  refine wL (OpA.nc rfl (by with_reducible conv => lhs; whnf) (.inl ⟨_, _, _, _, rfl⟩) ?_)
  refine wL (OpA.fieldAddr rfl tf150_1 rfl ?_)
  refine wL (OpA.load rfl ti90 rfl (.tail .head) rfl rfl ?_)
  refine wL (OpA.appendNW (enc := (D.k .u8)) rfl rfl rfl rfl ts90 rfl (.own (.tail (.tail .head))) q1 (fun c2 pre3 => ?_))
  refine wL (OpA.fieldAddr rfl tf150_1 rfl ?_)
  refine wE (OpA.store (e' := .agg (arrC 25 (D.k .u64) s_.state ++ ([.own c2 1 pre3.length s_.rest.length, D.i s_.taken] ++ (arrC 25 (D.k .u64) s_.seen ++ ([D.s s_.tail, D.s s_.sum]))))) rfl ti90 rfl (.of rfl) rfl (Nat.le_of_ble_eq_true rfl) rfl (.tail .head) ?_)
  refine wpL_nil ?_
  refine wpA_seq ?_
  refine wpA_region ?_
  refine wL (OpA.a ?_)
  refine wpL_nil ?_
  refine wpA_ret ?_
  exact ⟨_, (.tmp (d := .ptr c1 54 0 0) rfl .nil), [(c1, .cells 54 [.agg (arrC 25 (D.k .u64) s_.state ++ ([.own c2 1 pre3.length s_.rest.length, D.i s_.taken] ++ (arrC 25 (D.k .u64) s_.seen ++ ([D.s s_.tail, D.s s_.sum]))))]), (c2, .cells 1 (winL (D.k .u8) pre3 s_.rest ([] : List D))), (c_s_, .cells 54 [.agg (arrC 25 (D.k .u64) s_.state ++ ([.own c_s_1 1 pre_s_.length s_.rest.length, D.i s_.taken] ++ (arrC 25 (D.k .u64) s_.seen ++ ([D.s s_.tail, D.s s_.sum]))))]), (c_s_1, .cells 1 (winL (D.k .u8) pre_s_ s_.rest post_s_))], [(c1, .cells 54 [.agg (arrC 25 (D.k .u64) s_.state ++ ([.own c2 1 pre3.length s_.rest.length, D.i s_.taken] ++ (arrC 25 (D.k .u64) s_.seen ++ ([D.s s_.tail, D.s s_.sum]))))]), (c2, .cells 1 (winL (D.k .u8) pre3 s_.rest ([] : List D))), (c_s_, .cells 54 [.agg (arrC 25 (D.k .u64) s_.state ++ ([.own c_s_1 1 pre_s_.length s_.rest.length, D.i s_.taken] ++ (arrC 25 (D.k .u64) s_.seen ++ ([D.s s_.tail, D.s s_.sum]))))]), (c_s_1, .cells 1 (winL (D.k .u8) pre_s_ s_.rest post_s_))], pull1, (.refl _), (s_, s_), (c1, c2, pre3, ([] : List D), c_s_1, pre_s_, post_s_), rfl, rfl, h⟩
theorem cl_c (s_ : DigestSponge) (c_s_ : Nat) (c_s_1 : Nat) (pre_s_ : List D) (post_s_ : List D)  (hp0 : s_.rest.length ≤ 136) : CallH Tryz.prog 126 [.ptr c_s_ 54 0 0] [(c_s_, .cells 54 [.agg (arrC 25 (D.k .u64) s_.state ++ ([.own c_s_1 1 pre_s_.length s_.rest.length, D.i s_.taken] ++ (arrC 25 (D.k .u64) s_.seen ++ ([D.s s_.tail, D.s s_.sum]))))]), (c_s_1, .cells 1 (winL (D.k .u8) pre_s_ s_.rest post_s_))] (fun d h' => ∃ (g : Nat × Nat × List D × List D × Nat × List D × List D), d = .ptr g.1 54 0 0 ∧ h' = [(g.1, .cells 54 [.agg (arrC 25 (D.k .u64) (((clF s_).1).state) ++ ([.own g.2.1 1 g.2.2.1.length (((clF s_).1).rest).length, D.i (((clF s_).1).taken)] ++ (arrC 25 (D.k .u64) (((clF s_).1).seen) ++ ([D.s (((clF s_).1).tail), D.s (((clF s_).1).sum)]))))]), (g.2.1, .cells 1 (winL (D.k .u8) g.2.2.1 (((clF s_).1).rest) g.2.2.2.1)), (c_s_, .cells 54 [.agg (arrC 25 (D.k .u64) (((clF s_).2).state) ++ ([.own g.2.2.2.2.1 1 g.2.2.2.2.2.1.length (((clF s_).2).rest).length, D.i (((clF s_).2).taken)] ++ (arrC 25 (D.k .u64) (((clF s_).2).seen) ++ ([D.s (((clF s_).2).tail), D.s (((clF s_).2).sum)]))))]), (g.2.2.2.2.1, .cells 1 (winL (D.k .u8) g.2.2.2.2.2.1 (((clF s_).2).rest) g.2.2.2.2.2.2))]) :=
  (cl_w s_ c_s_ c_s_1 pre_s_ post_s_  (fun r => r = clF s_) (cl_ok s_ _ hp0 rfl)).mono (by rintro d h' ⟨r, g, hd, hh, rfl⟩; exact ⟨g, hd, hh⟩)

abbrev wr_e0 (s_state1 : (List Int)) (xs1 : (List Int)) (s_taken1 : Int) (s_seen1 : (List Int)) (s_tail1 : ByteArray) (s_sum1 : ByteArray) := (absF (DigestSponge.mk s_state1 xs1 s_taken1 s_seen1 s_tail1 s_sum1) (lsub xs1 0 136))
set_option maxHeartbeats 2000000 in
set_option maxRecDepth 10000 in
theorem wr_w (s_ : DigestSponge) (c_s_ : Nat) (c_s_1 : Nat) (pre_s_ : List D) (post_s_ : List D) (parts : (List ByteArray))  (Q : Int × DigestSponge → Prop) (h : wr_vc s_ parts Q) : CallH Tryz.prog 103 [.ptr c_s_ 54 0 0, (encL 1 D.s) parts] [(c_s_, .cells 54 [.agg (arrC 25 (D.k .u64) s_.state ++ ([.own c_s_1 1 pre_s_.length s_.rest.length, D.i s_.taken] ++ (arrC 25 (D.k .u64) s_.seen ++ ([D.s s_.tail, D.s s_.sum]))))]), (c_s_1, .cells 1 (winL (D.k .u8) pre_s_ s_.rest post_s_))] (fun d h' => ∃ (r : Int × DigestSponge) (g : Nat × List D × List D), d = D.i r.1 ∧ h' = [(c_s_, .cells 54 [.agg (arrC 25 (D.k .u64) r.2.state ++ ([.own g.1 1 g.2.1.length r.2.rest.length, D.i r.2.taken] ++ (arrC 25 (D.k .u64) r.2.seen ++ ([D.s r.2.tail, D.s r.2.sum]))))]), (g.1, .cells 1 (winL (D.k .u8) g.2.1 r.2.rest g.2.2))] ∧ Q r) := by
  unfold wr_vc at h
  refine CallH.of_bodyP Tryz.func103 rfl Tryz.ntmps103 rfl ?_
  refine wpA_seq ?_
  refine wpA_region ?_
  refine wL (OpA.a ?_)
  refine wpL_nil ?_
  iterate 2 refine wpA_seq ?_
  refine wpA_region ?_
  refine wL (OpA.m ?_)
  refine wL (OpA.len rfl rfl rfl rfl ts118.desc (.inl ⟨_, _, rfl, (List.length_map _).symm⟩) ?_)
  refine wL (OpA.m ?_)
  refine wpL_nil ?_
  refine wpA_block ?_
  refine wpA_lfp (S := (List Int) × Int × (List Int) × ByteArray × ByteArray × (List Int) × Int) (G := Nat × List D × List D) (c_s_1, pre_s_, post_s_) (fun gg ss => asg [(0, .ptr c_s_ 54 0 0), (4, D.i 0), (7, (encL 1 D.s) parts), (8, D.i (parts.length : Int)), (9, D.i ss.2.2.2.2.2.2)]) (fun gg ss => [(c_s_, .cells 54 [.agg (arrC 25 (D.k .u64) ss.1 ++ ([.own gg.1 1 gg.2.1.length ss.2.2.2.2.2.1.length, D.i ss.2.1] ++ (arrC 25 (D.k .u64) ss.2.2.1 ++ ([D.s ss.2.2.2.1, D.s ss.2.2.2.2.1]))))]), (gg.1, .cells 1 (winL (D.k .u8) gg.2.1 ss.2.2.2.2.2.1 gg.2.2))]) h (Cov.asg ⟨rfl, rfl, rfl, rfl, rfl, trivial⟩) (.refl _) ?_
  rintro again1 ⟨cbs__rest, pres__rest, posts__rest⟩ ⟨s_state, s_taken, s_seen, s_tail, s_sum, xs, x⟩ h
  have h : wr_L1 parts Q again1 s_state s_taken s_seen s_tail s_sum xs x := h
  unfold wr_L1 at h
  show wpA _ _ _ _ (asg [(0, .ptr c_s_ 54 0 0), (4, D.i 0), (7, (encL 1 D.s) parts), (8, D.i (parts.length : Int)), (9, D.i x)]) [(c_s_, .cells 54 [.agg (arrC 25 (D.k .u64) s_state ++ ([.own cbs__rest 1 pres__rest.length xs.length, D.i s_taken] ++ (arrC 25 (D.k .u64) s_seen ++ ([D.s s_tail, D.s s_sum]))))]), (cbs__rest, .cells 1 (winL (D.k .u8) pres__rest xs posts__rest))]
  refine wpA_seq ?_
  refine wpA_region ?_
  refine wL (OpA.lss rfl rfl rfl ?_)
  refine wpL_nil ?_
  refine wpA_seq ?_
  refine wpA_cond rfl (fun b2 => ?_) (fun b2 => ?_)
  have h := h.1 (decT b2)
  refine wpA_skip ?_
  refine wpA_seq ?_
  refine wpA_block ?_
  refine wpA_seq ?_
  obtain ⟨q1, h⟩ := h
  refine wpA_region ?_
  refine wL (OpA.iixV (enc := D.s) rfl ts118 rfl rfl rfl q1 ?_)
  refine wL (OpA.iload rfl ti9 rfl rfl ?_)
  refine wL (OpA.a ?_)
  refine wpL_nil ?_
  refine wpA_seq ?_
  obtain ⟨q1, h⟩ := h
  refine wpA_region ?_
  refine wL (OpA.m ?_)
  refine wL (OpA.nc rfl (by with_reducible conv => lhs; whnf) (.inl ⟨_, _, _, _, rfl⟩) ?_)
  refine wL (OpA.fieldAddr rfl tf150_2 rfl ?_)
  refine wL (OpA.load rfl ti3 rfl .head rfl rfl ?_)
  refine wL (OpA.m ?_)
  refine wL (OpA.slen rfl rfl rfl rfl td9 rfl ?_)
  refine wL (OpA.addi rfl rfl rfl q1 ?_)
  refine wL (OpA.nc rfl (by with_reducible conv => lhs; whnf) (.inl ⟨_, _, _, _, rfl⟩) ?_)
  refine wL (OpA.fieldAddr rfl tf150_2 rfl ?_)
  refine wE (OpA.store (e' := .agg (arrC 25 (D.k .u64) s_state ++ ([.own cbs__rest 1 pres__rest.length xs.length, D.i (s_taken + ((gi parts x).size : Int))] ++ (arrC 25 (D.k .u64) s_seen ++ ([D.s s_tail, D.s s_sum]))))) rfl ti3 rfl (.of rfl) rfl (Nat.le_of_ble_eq_true rfl) rfl .head ?_)
  refine wpL_nil ?_
  refine wpA_seq ?_
  obtain ⟨q1, h⟩ := h
  refine wpA_region ?_
  iterate 2 refine wL (OpA.m ?_)
  refine wL (OpA.nc rfl (by with_reducible conv => lhs; whnf) (.inl ⟨_, _, _, _, rfl⟩) ?_)
  refine wL (OpA.fieldAddr rfl tf150_1 rfl ?_)
  refine wL (OpA.load rfl ti90 rfl .head rfl rfl ?_)
  refine wL (OpA.m ?_)
  refine wL (OpA.appendS rfl rfl rfl rfl ts90 td9 rfl (fun _ _ => (.tail .head)) rfl q1 (fun c3 pre4 => ?_))
  refine wL (OpA.nc rfl (by with_reducible conv => lhs; whnf) (.inl ⟨_, _, _, _, rfl⟩) ?_)
  refine wL (OpA.fieldAddr rfl tf150_1 rfl ?_)
  refine wE (OpA.store (e' := .agg (arrC 25 (D.k .u64) s_state ++ ([.own c3 1 pre4.length (xs ++ sbytes (gi parts x)).length, D.i (s_taken + ((gi parts x).size : Int))] ++ (arrC 25 (D.k .u64) s_seen ++ ([D.s s_tail, D.s s_sum]))))) rfl ti90 rfl (.of rfl) rfl (Nat.le_of_ble_eq_true rfl) rfl .head ?_)
  refine wpL_nil ?_
  refine wpA_block ?_
  refine wpA_lfp (S := (List Int) × Int × (List Int) × ByteArray × ByteArray × (List Int)) (G := Nat × List D × List D) (c3, pre4, ([] : List D)) (fun gg ss => asg [(0, .ptr c_s_ 54 0 0), (4, D.i 0), (7, (encL 1 D.s) parts), (8, D.i (parts.length : Int)), (9, D.i x)]) (fun gg ss => [(c_s_, .cells 54 [.agg (arrC 25 (D.k .u64) ss.1 ++ ([.own gg.1 1 gg.2.1.length ss.2.2.2.2.2.length, D.i ss.2.1] ++ (arrC 25 (D.k .u64) ss.2.2.1 ++ ([D.s ss.2.2.2.1, D.s ss.2.2.2.2.1]))))]), (gg.1, .cells 1 (winL (D.k .u8) gg.2.1 ss.2.2.2.2.2 gg.2.2))]) h (Cov.asg ⟨rfl, rfl, rfl, rfl, rfl, trivial⟩) (.refl _) ?_
  rintro again5 ⟨cbs__rest1, pres__rest1, posts__rest1⟩ ⟨s_state1, s_taken1, s_seen1, s_tail1, s_sum1, xs1⟩ h
  have h : wr_L2 x again1 again5 s_state1 s_taken1 s_seen1 s_tail1 s_sum1 xs1 := h
  unfold wr_L2 at h
  show wpA _ _ _ _ (asg [(0, .ptr c_s_ 54 0 0), (4, D.i 0), (7, (encL 1 D.s) parts), (8, D.i (parts.length : Int)), (9, D.i x)]) [(c_s_, .cells 54 [.agg (arrC 25 (D.k .u64) s_state1 ++ ([.own cbs__rest1 1 pres__rest1.length xs1.length, D.i s_taken1] ++ (arrC 25 (D.k .u64) s_seen1 ++ ([D.s s_tail1, D.s s_sum1]))))]), (cbs__rest1, .cells 1 (winL (D.k .u8) pres__rest1 xs1 posts__rest1))]
  iterate 2 refine wpA_seq ?_
  refine wpA_region ?_
  refine wL (OpA.m ?_)
  refine wL (OpA.nc rfl (by with_reducible conv => lhs; whnf) (.inl ⟨_, _, _, _, rfl⟩) ?_)
  refine wL (OpA.fieldAddr rfl tf150_1 rfl ?_)
  refine wL (OpA.load rfl ti90 rfl .head rfl rfl ?_)
  refine wL (OpA.len rfl rfl rfl rfl ts90.desc (.inr (.inl ⟨_, _, _, rfl⟩)) ?_)
  refine wL (OpA.geq rfl rfl rfl ?_)
  refine wpL_nil ?_
  refine wpA_cond rfl (fun b6 => ?_) (fun b6 => ?_)
  have h := h.1 (decT b6)
  refine wpA_skip ?_
  refine wpA_block ?_
  refine wpA_seq ?_
  obtain ⟨q1, q2, q3, h⟩ := h
  refine wpA_region ?_
  iterate 2 refine wL (OpA.m ?_)
  refine wL (OpA.nc rfl (by with_reducible conv => lhs; whnf) (.inl ⟨_, _, _, _, rfl⟩) ?_)
  refine wL (OpA.fieldAddr rfl tf150_1 rfl ?_)
  refine wL (OpA.load rfl ti90 rfl .head rfl rfl ?_)
  refine wL (OpA.sliceV (enc := (D.k .u8)) rfl ts90 rfl (.none _) (.some rfl) q1 (.tail .head) ?_)
  refine wL (OpA.callH rfl rfl rfl en125 (h1 := [(c_s_, .cells 54 [.agg (arrC 25 (D.k .u64) s_state1 ++ ([.own cbs__rest1 1 pres__rest1.length xs1.length, D.i s_taken1] ++ (arrC 25 (D.k .u64) s_seen1 ++ ([D.s s_tail1, D.s s_sum1]))))]), (cbs__rest1, .cells 1 (winL (D.k .u8) (pres__rest1 ++ (xs1.take (Int.toNat 0)).map (D.k .u8)) (lsub xs1 0 136) ((xs1.drop (Int.toNat 136)).map (D.k .u8) ++ posts__rest1)))]) (h2 := []) (.refl _) (abs_c (DigestSponge.mk s_state1 xs1 s_taken1 s_seen1 s_tail1 s_sum1) c_s_ cbs__rest1 pres__rest1.length xs1.length (lsub xs1 0 136) cbs__rest1 (pres__rest1 ++ (xs1.take (Int.toNat 0)).map (D.k .u8)) ((xs1.drop (Int.toNat 136)).map (D.k .u8) ++ posts__rest1) q2 q3) ?_)
  rintro _ _ ⟨_, rfl, rfl⟩
  refine wpL_widen (enc := (D.k .u8)) (pre := pres__rest1) (post := posts__rest1) (xs := xs1) q1 (.tail .head) ?_
  refine wpL_nil ?_
  obtain ⟨q1, q2, h⟩ := h
  refine wpA_region ?_
  iterate 2 refine wL (OpA.m ?_)
  refine wL (OpA.nc rfl (by with_reducible conv => lhs; whnf) (.inl ⟨_, _, _, _, rfl⟩) ?_)
  refine wL (OpA.fieldAddr rfl tf150_1 rfl ?_)
  refine wL (OpA.load rfl ti90 rfl .head rfl rfl ?_)
  refine wL (OpA.sliceV (enc := (D.k .u8)) rfl ts90 rfl (.some rfl) (.none _) q1 (.tail .head) ?_)
  refine wL (OpA.appendNW (enc := (D.k .u8)) rfl rfl rfl rfl ts90 rfl (.own (.tail .head)) q2 (fun c7 pre8 => ?_))
  refine wpL_widen (enc := (D.k .u8)) (pre := pres__rest1) (post := posts__rest1) (xs := xs1) q1 (.tail (.tail .head)) ?_
  refine wL (OpA.nc rfl (by with_reducible conv => lhs; whnf) (.inl ⟨_, _, _, _, rfl⟩) ?_)
  refine wL (OpA.fieldAddr rfl tf150_1 rfl ?_)
  refine wE (OpA.store (e' := .agg (arrC 25 (D.k .u64) ((wr_e0 s_state1 xs1 s_taken1 s_seen1 s_tail1 s_sum1).state) ++ ([.own c7 1 pre8.length (lsub xs1 136 (xs1.length : Int)).length, D.i ((wr_e0 s_state1 xs1 s_taken1 s_seen1 s_tail1 s_sum1).taken)] ++ (arrC 25 (D.k .u64) ((wr_e0 s_state1 xs1 s_taken1 s_seen1 s_tail1 s_sum1).seen) ++ ([D.s ((wr_e0 s_state1 xs1 s_taken1 s_seen1 s_tail1 s_sum1).tail), D.s ((wr_e0 s_state1 xs1 s_taken1 s_seen1 s_tail1 s_sum1).sum)]))))) rfl ti90 rfl (.of rfl) rfl (Nat.le_of_ble_eq_true rfl) rfl (.tail .head) ?_)
  refine wpL_keep (h1 := [(c_s_, .cells 54 [.agg (arrC 25 (D.k .u64) ((wr_e0 s_state1 xs1 s_taken1 s_seen1 s_tail1 s_sum1).state) ++ ([.own c7 1 pre8.length (lsub xs1 136 (xs1.length : Int)).length, D.i ((wr_e0 s_state1 xs1 s_taken1 s_seen1 s_tail1 s_sum1).taken)] ++ (arrC 25 (D.k .u64) ((wr_e0 s_state1 xs1 s_taken1 s_seen1 s_tail1 s_sum1).seen) ++ ([D.s ((wr_e0 s_state1 xs1 s_taken1 s_seen1 s_tail1 s_sum1).tail), D.s ((wr_e0 s_state1 xs1 s_taken1 s_seen1 s_tail1 s_sum1).sum)]))))]), (c7, .cells 1 (winL (D.k .u8) pre8 (lsub xs1 136 (xs1.length : Int)) ([] : List D))), (cbs__rest1, .cells 1 (winL (D.k .u8) pres__rest1 xs1 posts__rest1))]) (h0 := [(c_s_, .cells 54 [.agg (arrC 25 (D.k .u64) ((wr_e0 s_state1 xs1 s_taken1 s_seen1 s_tail1 s_sum1).state) ++ ([.own c7 1 pre8.length (lsub xs1 136 (xs1.length : Int)).length, D.i ((wr_e0 s_state1 xs1 s_taken1 s_seen1 s_tail1 s_sum1).taken)] ++ (arrC 25 (D.k .u64) ((wr_e0 s_state1 xs1 s_taken1 s_seen1 s_tail1 s_sum1).seen) ++ ([D.s ((wr_e0 s_state1 xs1 s_taken1 s_seen1 s_tail1 s_sum1).tail), D.s ((wr_e0 s_state1 xs1 s_taken1 s_seen1 s_tail1 s_sum1).sum)]))))]), (c7, .cells 1 (winL (D.k .u8) pre8 (lsub xs1 136 (xs1.length : Int)) ([] : List D)))]) pull1 (.cons₂ _ (.cons₂ _ (.cons _ (.refl _)))) ?_
  refine wpL_nil ?_
  exact ⟨(c7, pre8, ([] : List D)), ((wr_e0 s_state1 xs1 s_taken1 s_seen1 s_tail1 s_sum1).state, (wr_e0 s_state1 xs1 s_taken1 s_seen1 s_tail1 s_sum1).taken, (wr_e0 s_state1 xs1 s_taken1 s_seen1 s_tail1 s_sum1).seen, (wr_e0 s_state1 xs1 s_taken1 s_seen1 s_tail1 s_sum1).tail, (wr_e0 s_state1 xs1 s_taken1 s_seen1 s_tail1 s_sum1).sum, (lsub xs1 136 (xs1.length : Int))), h, (Cov.asg ⟨rfl, rfl, rfl, rfl, rfl, trivial⟩), (.refl _)⟩
  have h := h.2 (decF b6)
  refine wpA_exit ?_
  obtain ⟨q1, h⟩ := h
  refine wpA_region ?_
  refine wL (OpA.addi rfl rfl rfl q1 ?_)
  refine wL (OpA.m ?_)
  refine wpL_nil ?_
  exact ⟨(cbs__rest1, pres__rest1, posts__rest1), (s_state1, s_taken1, s_seen1, s_tail1, s_sum1, xs1, (x + 1)), h, (Cov.asg ⟨rfl, rfl, rfl, rfl, rfl, trivial⟩), (.refl _)⟩
  have h := h.2 (decF b2)
  refine wpA_exit ?_
  refine wpA_seq ?_
  refine wpA_region ?_
  refine wL (OpA.m ?_)
  refine wL (OpA.nc rfl (by with_reducible conv => lhs; whnf) (.inl ⟨_, _, _, _, rfl⟩) ?_)
  refine wL (OpA.fieldAddr rfl tf150_2 rfl ?_)
  refine wL (OpA.load rfl ti3 rfl .head rfl rfl ?_)
  refine wL (OpA.a ?_)
  refine wpL_nil ?_
  refine wpA_ret ?_
  exact ⟨_, (.tmp (d := D.i s_taken) rfl .nil), [(c_s_, .cells 54 [.agg (arrC 25 (D.k .u64) s_state ++ ([.own cbs__rest 1 pres__rest.length xs.length, D.i s_taken] ++ (arrC 25 (D.k .u64) s_seen ++ ([D.s s_tail, D.s s_sum]))))]), (cbs__rest, .cells 1 (winL (D.k .u8) pres__rest xs posts__rest))], [(c_s_, .cells 54 [.agg (arrC 25 (D.k .u64) s_state ++ ([.own cbs__rest 1 pres__rest.length xs.length, D.i s_taken] ++ (arrC 25 (D.k .u64) s_seen ++ ([D.s s_tail, D.s s_sum]))))]), (cbs__rest, .cells 1 (winL (D.k .u8) pres__rest xs posts__rest))], (.refl _), (.refl _), (s_taken, (DigestSponge.mk s_state xs s_taken s_seen s_tail s_sum)), (cbs__rest, pres__rest, posts__rest), rfl, rfl, h⟩
theorem wr_c (s_ : DigestSponge) (c_s_ : Nat) (c_s_1 : Nat) (pre_s_ : List D) (post_s_ : List D) (parts : (List ByteArray))  (hp0 : s_.state.length = 25) (hp1 : s_.rest.length ≤ 135) (hp2 : (0 : Int) ≤ s_.taken) (hp3 : s_.taken ≤ (1000000 : Int)) (hp4 : parts.length ≤ 6) (hp5 : ∀ p ∈ parts, p.size ≤ 1000000) : CallH Tryz.prog 103 [.ptr c_s_ 54 0 0, (encL 1 D.s) parts] [(c_s_, .cells 54 [.agg (arrC 25 (D.k .u64) s_.state ++ ([.own c_s_1 1 pre_s_.length s_.rest.length, D.i s_.taken] ++ (arrC 25 (D.k .u64) s_.seen ++ ([D.s s_.tail, D.s s_.sum]))))]), (c_s_1, .cells 1 (winL (D.k .u8) pre_s_ s_.rest post_s_))] (fun d h' => ∃ (g : Nat × List D × List D), d = D.i ((wrF s_ parts).1) ∧ h' = [(c_s_, .cells 54 [.agg (arrC 25 (D.k .u64) (((wrF s_ parts).2).state) ++ ([.own g.1 1 g.2.1.length (((wrF s_ parts).2).rest).length, D.i (((wrF s_ parts).2).taken)] ++ (arrC 25 (D.k .u64) (((wrF s_ parts).2).seen) ++ ([D.s (((wrF s_ parts).2).tail), D.s (((wrF s_ parts).2).sum)]))))]), (g.1, .cells 1 (winL (D.k .u8) g.2.1 (((wrF s_ parts).2).rest) g.2.2))]) :=
  (wr_w s_ c_s_ c_s_1 pre_s_ post_s_ parts  (fun r => r = wrF s_ parts) (wr_ok s_ parts _ hp0 hp1 hp2 hp3 hp4 hp5 rfl)).mono (by rintro d h' ⟨r, g, hd, hh, rfl⟩; exact ⟨g, hd, hh⟩)

abbrev ss_e0 (s_ : DigestSponge) := (si (gcopy (List.replicate (Int.toNat 136) 0) (((clF s_).1).rest)) ((((clF s_).1).rest).length : Int) 6)
set_option maxHeartbeats 2000000 in
set_option maxRecDepth 10000 in
theorem ss_w (s_ : DigestSponge) (c_s_ : Nat) (c_s_1 : Nat) (pre_s_ : List D) (post_s_ : List D)  (Q : ByteArray × DigestSponge → Prop) (h : ss_vc s_ Q) : CallH Tryz.prog 104 [.ptr c_s_ 54 0 0] [(c_s_, .cells 54 [.agg (arrC 25 (D.k .u64) s_.state ++ ([.own c_s_1 1 pre_s_.length s_.rest.length, D.i s_.taken] ++ (arrC 25 (D.k .u64) s_.seen ++ ([D.s s_.tail, D.s s_.sum]))))]), (c_s_1, .cells 1 (winL (D.k .u8) pre_s_ s_.rest post_s_))] (fun d h' => ∃ (r : ByteArray × DigestSponge) (g : Nat × List D × List D), d = D.s r.1 ∧ h' = [(c_s_, .cells 54 [.agg (arrC 25 (D.k .u64) r.2.state ++ ([.own g.1 1 g.2.1.length r.2.rest.length, D.i r.2.taken] ++ (arrC 25 (D.k .u64) r.2.seen ++ ([D.s r.2.tail, D.s r.2.sum]))))]), (g.1, .cells 1 (winL (D.k .u8) g.2.1 r.2.rest g.2.2))] ∧ Q r) := by
  unfold ss_vc at h
  refine CallH.of_bodyP Tryz.func104 rfl Tryz.ntmps104 rfl ?_
  refine wpA_seq ?_
  refine wpA_region ?_
  refine wL (OpA.a ?_)
  refine wpL_nil ?_
  iterate 2 refine wpA_seq ?_
  refine wpA_mid (asg [(0, .ptr c_s_ 54 0 0), (2, D.s (⟨#[]⟩ : ByteArray)), (34, D.b (((!decide (s_.sum = (⟨#[]⟩ : ByteArray))) && (aeq 25 s_.seen s_.state)) && (decide (s_.tail = (bstr s_.rest)))))]) [(c_s_, .cells 54 [.agg (arrC 25 (D.k .u64) s_.state ++ ([.own c_s_1 1 pre_s_.length s_.rest.length, D.i s_.taken] ++ (arrC 25 (D.k .u64) s_.seen ++ ([D.s s_.tail, D.s s_.sum]))))]), (c_s_1, .cells 1 (winL (D.k .u8) pre_s_ s_.rest post_s_))] ?_ ?_
  refine wpA_draw (m := 28) mo (by kernel_rfl) rfl ?_
  refine dL (OpA.m ⟨rfl, rfl⟩) ?_
  refine dL (OpA.nc rfl (by with_reducible conv => lhs; whnf) (.inl ⟨_, _, _, _, rfl⟩) ⟨rfl, rfl⟩) ?_
  refine dL (OpA.fieldAddr rfl tf150_5 rfl ⟨rfl, rfl⟩) ?_
  refine dL (OpA.load rfl ti9 rfl .head rfl rfl ⟨rfl, rfl⟩) ?_
  refine dL (OpA.sneq rfl rfl rfl ⟨rfl, rfl⟩) ?_
  refine dL (OpA.m ⟨rfl, rfl⟩) ?_
  refine DetK_split (s := 12) rfl (fun b11 => ?_) (fun b11 => ?_)
  refine dG (OpA.m ⟨rfl, rfl⟩) ?_
  refine dG (OpA.nc rfl (by with_reducible conv => lhs; whnf) (.inl ⟨_, _, _, _, rfl⟩) ⟨rfl, rfl⟩) ?_
  refine dG (OpA.fieldAddr rfl tf150_3 rfl ⟨rfl, rfl⟩) ?_
  refine dG (OpA.load_agg rfl ti131 rfl .head rfl rfl rfl ⟨rfl, rfl⟩) ?_
  refine dG (OpA.m ⟨rfl, rfl⟩) ?_
  refine dG (OpA.nc rfl (by with_reducible conv => lhs; whnf) (.inl ⟨_, _, _, _, rfl⟩) ⟨rfl, rfl⟩) ?_
  refine dG (OpA.fieldAddr rfl tf150_0 rfl ⟨rfl, rfl⟩) ?_
  refine dG (OpA.load_agg rfl ti131 rfl .head rfl rfl rfl ⟨rfl, rfl⟩) ?_
  refine dG (OpA.arrcmp rfl eg131 td131 ti130 td130 rfl rfl (.inl ⟨rfl, rfl⟩) ⟨rfl, rfl⟩) ?_
  refine dL (OpA.p ⟨rfl, rfl⟩) ?_
  refine dL (OpA.m ⟨rfl, rfl⟩) ?_
  refine DetK_split (s := 23) rfl (fun b12 => ?_) (fun b12 => ?_)
  refine dG (OpA.m ⟨rfl, rfl⟩) ?_
  refine dG (OpA.nc rfl (by with_reducible conv => lhs; whnf) (.inl ⟨_, _, _, _, rfl⟩) ⟨rfl, rfl⟩) ?_
  refine dG (OpA.fieldAddr rfl tf150_4 rfl ⟨rfl, rfl⟩) ?_
  refine dG (OpA.load rfl ti9 rfl .head rfl rfl ⟨rfl, rfl⟩) ?_
  refine dG (OpA.m ⟨rfl, rfl⟩) ?_
  refine dG (OpA.nc rfl (by with_reducible conv => lhs; whnf) (.inl ⟨_, _, _, _, rfl⟩) ⟨rfl, rfl⟩) ?_
  refine dG (OpA.fieldAddr rfl tf150_1 rfl ⟨rfl, rfl⟩) ?_
  refine dG (OpA.load rfl ti90 rfl .head rfl rfl ⟨rfl, rfl⟩) ?_
  refine dG (OpA.bytesStr rfl ts90.desc td5 td9 (.own (.tail .head)) ⟨rfl, rfl⟩) ?_
  refine dG (OpA.seql rfl rfl rfl ⟨rfl, rfl⟩) ?_
  refine dL (OpA.p ⟨rfl, rfl⟩) ?_
  refine DetK.nil ?_
  refine wpL_nil ?_
  exact ⟨(Cov.asg ⟨rfl, rfl, (congrArg D.b (Eq.symm (andN (andN b11 b12) rfl))), trivial⟩), (.refl _)⟩
  iterate 10 refine dS ?_
  refine dL (OpA.p ⟨rfl, rfl⟩) ?_
  refine DetK.nil ?_
  refine wpL_nil ?_
  exact ⟨(Cov.asg ⟨rfl, rfl, (congrArg D.b (Eq.symm (andS (andN b11 b12)))), trivial⟩), (.refl _)⟩
  iterate 9 refine dS ?_
  refine dL (OpA.p ⟨rfl, rfl⟩) ?_
  refine dL (OpA.m ⟨rfl, rfl⟩) ?_
  iterate 10 refine dS ?_
  refine dL (OpA.p ⟨rfl, rfl⟩) ?_
  refine DetK.nil ?_
  refine wpL_nil ?_
  exact ⟨(Cov.asg ⟨rfl, rfl, (congrArg D.b (Eq.symm (andS (andS b11)))), trivial⟩), (.refl _)⟩
  show wpA _ _ _ _ (asg [(0, .ptr c_s_ 54 0 0), (2, D.s (⟨#[]⟩ : ByteArray)), (34, D.b (((!decide (s_.sum = (⟨#[]⟩ : ByteArray))) && (aeq 25 s_.seen s_.state)) && (decide (s_.tail = (bstr s_.rest)))))]) [(c_s_, .cells 54 [.agg (arrC 25 (D.k .u64) s_.state ++ ([.own c_s_1 1 pre_s_.length s_.rest.length, D.i s_.taken] ++ (arrC 25 (D.k .u64) s_.seen ++ ([D.s s_.tail, D.s s_.sum]))))]), (c_s_1, .cells 1 (winL (D.k .u8) pre_s_ s_.rest post_s_))]
  refine wpA_cond rfl (fun b1 => ?_) (fun b1 => ?_)
  have h := h.1 ⟨⟨(ndecT (and1 (and1 b1))), (and2 (and1 b1))⟩, (decT (and2 b1))⟩
  refine wpA_seq ?_
  refine wpA_region ?_
  refine wL (OpA.m ?_)
  refine wL (OpA.nc rfl (by with_reducible conv => lhs; whnf) (.inl ⟨_, _, _, _, rfl⟩) ?_)
  refine wL (OpA.fieldAddr rfl tf150_5 rfl ?_)
  refine wL (OpA.load rfl ti9 rfl .head rfl rfl ?_)
  refine wL (OpA.a ?_)
  refine wpL_nil ?_
  refine wpA_ret ?_
  exact ⟨_, (.tmp (d := D.s s_.sum) rfl .nil), [(c_s_, .cells 54 [.agg (arrC 25 (D.k .u64) s_.state ++ ([.own c_s_1 1 pre_s_.length s_.rest.length, D.i s_.taken] ++ (arrC 25 (D.k .u64) s_.seen ++ ([D.s s_.tail, D.s s_.sum]))))]), (c_s_1, .cells 1 (winL (D.k .u8) pre_s_ s_.rest post_s_))], [(c_s_, .cells 54 [.agg (arrC 25 (D.k .u64) s_.state ++ ([.own c_s_1 1 pre_s_.length s_.rest.length, D.i s_.taken] ++ (arrC 25 (D.k .u64) s_.seen ++ ([D.s s_.tail, D.s s_.sum]))))]), (c_s_1, .cells 1 (winL (D.k .u8) pre_s_ s_.rest post_s_))], (.refl _), (.refl _), (s_.sum, s_), (c_s_1, pre_s_, post_s_), rfl, rfl, h⟩
  have h := h.2 ((and0 b1).imp (fun hh => ((and0 hh).imp (fun hh => (ndecF hh)) (fun hh => hh))) (fun hh => (decF hh)))
  refine wpA_skip ?_
  refine wpA_seq ?_
  obtain ⟨q1, h⟩ := h
  refine wpA_region ?_
  refine wL (OpA.m ?_)
  refine wL (OpA.callH rfl rfl rfl en126 (h1 := [(c_s_, .cells 54 [.agg (arrC 25 (D.k .u64) s_.state ++ ([.own c_s_1 1 pre_s_.length s_.rest.length, D.i s_.taken] ++ (arrC 25 (D.k .u64) s_.seen ++ ([D.s s_.tail, D.s s_.sum]))))]), (c_s_1, .cells 1 (winL (D.k .u8) pre_s_ s_.rest post_s_))]) (h2 := []) (.refl _) (cl_c s_ c_s_ c_s_1 pre_s_ post_s_ q1) ?_)
  rintro _ _ ⟨⟨c2, c_n3, pre_n3, post_n3, c4, pre5, post6⟩, rfl, rfl⟩
  refine wL (OpA.a ?_)
  refine wpL_nil ?_
  refine wpA_seq ?_
  obtain ⟨q1, h⟩ := h
  refine wpA_region ?_
  refine wL (OpA.makeSliceV (enc := (D.k .u8)) (v0 := 0) rfl ts90 rfl rfl tz5 (fun _ _ => .v _) (.of rfl) q1 (fun c7 => ?_))
  refine wL (OpA.a ?_)
  refine wpL_nil ?_
  refine wpA_seq ?_
  refine wpA_region ?_
  iterate 2 refine wL (OpA.m ?_)
  refine wL (OpA.nc rfl (by with_reducible conv => lhs; whnf) (.inl ⟨_, _, _, _, rfl⟩) ?_)
  refine wL (OpA.fieldAddr rfl tf150_1 rfl ?_)
  refine wL (OpA.load rfl ti90 rfl (.tail .head) rfl rfl ?_)
  refine wL (OpA_copyW rfl rfl rfl rfl ts90 rfl .head (.own (.tail (.tail .head))) ?_)
  refine wpL_nil ?_
  refine wpA_seq ?_
  refine wpA_cov (fr0 := asg [(0, .ptr c_s_ 54 0 0), (2, D.s (⟨#[]⟩ : ByteArray)), (3, .ptr c2 54 0 0), (4, .own c7 1 ([] : List D).length (gcopy (List.replicate (Int.toNat 136) 0) (((clF s_).1).rest)).length), (34, D.b (((!decide (s_.sum = (⟨#[]⟩ : ByteArray))) && (aeq 25 s_.seen s_.state)) && (decide (s_.tail = (bstr s_.rest))))), (39, .ptr c_s_ 54 0 0), (40, .ptr c2 54 0 0), (41, .own c7 1 ([] : List D).length (gcopy (List.replicate (Int.toNat 136) 0) (((clF s_).1).rest)).length), (42, .own c7 1 ([] : List D).length (gcopy (List.replicate (Int.toNat 136) 0) (((clF s_).1).rest)).length), (43, .ptr c2 54 0 0), (44, .ptr c2 54 0 0), (45, .ptr c2 54 0 25), (46, .own c_n3 1 pre_n3.length (((clF s_).1).rest).length), (47, D.i ((min (((clF s_).1).rest).length (List.replicate (Int.toNat 136) 0).length : Nat) : Int))]) (Cov.asg ⟨rfl, rfl, rfl, (congrArg (D.own c7 1 ([] : List D).length) (by simp only [si_length, gcopy_length])), rfl, rfl, rfl, (congrArg (D.own c7 1 ([] : List D).length) (by simp only [si_length, gcopy_length])), (congrArg (D.own c7 1 ([] : List D).length) (by simp only [si_length, gcopy_length])), rfl, rfl, rfl, rfl, rfl, trivial⟩) ?_
  obtain ⟨q1, h⟩ := h
  refine wpA_region ?_
  iterate 2 refine wL (OpA.m ?_)
  refine wL (OpA.nc rfl (by with_reducible conv => lhs; whnf) (.inl ⟨_, _, _, _, rfl⟩) ?_)
  refine wL (OpA.fieldAddr rfl tf150_1 rfl ?_)
  refine wL (OpA.load rfl ti90 rfl (.tail .head) rfl rfl ?_)
  refine wL (OpA.len rfl rfl rfl rfl ts90.desc (.inr (.inl ⟨_, _, _, rfl⟩)) ?_)
  refine wL (OpA.ixV rfl ts90 rfl rfl q1 ?_)
  refine wE (OpA.storeV (enc := (D.k .u8)) (v := 6) rfl ti5 rfl rfl (.of rfl) rfl q1 .head ?_)
  refine wpL_nil ?_
  refine wpA_seq ?_
  refine wpA_cov (fr0 := asg [(0, .ptr c_s_ 54 0 0), (2, D.s (⟨#[]⟩ : ByteArray)), (3, .ptr c2 54 0 0), (4, .own c7 1 ([] : List D).length (ss_e0 s_).length), (34, D.b (((!decide (s_.sum = (⟨#[]⟩ : ByteArray))) && (aeq 25 s_.seen s_.state)) && (decide (s_.tail = (bstr s_.rest))))), (39, .ptr c_s_ 54 0 0), (40, .ptr c2 54 0 0), (41, .own c7 1 ([] : List D).length (ss_e0 s_).length), (42, .own c7 1 ([] : List D).length (ss_e0 s_).length), (43, .ptr c2 54 0 0), (44, .ptr c2 54 0 0), (45, .ptr c2 54 0 25), (46, .own c_n3 1 pre_n3.length (((clF s_).1).rest).length), (47, D.i ((min (((clF s_).1).rest).length (List.replicate (Int.toNat 136) 0).length : Nat) : Int)), (48, .own c7 1 ([] : List D).length (ss_e0 s_).length), (49, .ptr c2 54 0 0), (50, .ptr c2 54 0 0), (51, .ptr c2 54 0 25), (52, .own c_n3 1 pre_n3.length (((clF s_).1).rest).length), (53, D.i ((((clF s_).1).rest).length : Int)), (54, .ptr c7 1 (([] : List D).length + (Int.toNat ((((clF s_).1).rest).length : Int))) 0)]) (Cov.asg ⟨rfl, rfl, rfl, (congrArg (D.own c7 1 ([] : List D).length) (by simp only [si_length, gcopy_length])), rfl, rfl, rfl, (congrArg (D.own c7 1 ([] : List D).length) (by simp only [si_length, gcopy_length])), (congrArg (D.own c7 1 ([] : List D).length) (by simp only [si_length, gcopy_length])), rfl, rfl, rfl, rfl, rfl, (congrArg (D.own c7 1 ([] : List D).length) (by simp only [si_length, gcopy_length])), rfl, rfl, rfl, rfl, rfl, rfl, trivial⟩) ?_
  obtain ⟨q1, h⟩ := h
  refine wpA_region ?_
  refine wL (OpA.m ?_)
  refine wL (OpA.ixV rfl ts90 rfl rfl q1 ?_)
  refine wL (OpA.load rfl ti5 rfl .head (getV (enc := (D.k .u8)) q1) rfl ?_)
  refine wL (OpA.bxor rfl rfl rfl ?_)
  refine wL (OpA.ixV rfl ts90 rfl rfl q1 ?_)
  refine wE (OpA.storeV (enc := (D.k .u8)) (v := (gxor .u8 (gi (ss_e0 s_) 135) 128)) rfl ti5 rfl rfl (.of rfl) rfl q1 .head ?_)
  refine wpL_nil ?_
  refine wpA_seq ?_
  refine wpA_cov (fr0 := asg [(0, .ptr c_s_ 54 0 0), (2, D.s (⟨#[]⟩ : ByteArray)), (3, .ptr c2 54 0 0), (4, .own c7 1 ([] : List D).length (si (ss_e0 s_) 135 (gxor .u8 (gi (ss_e0 s_) 135) 128)).length), (34, D.b (((!decide (s_.sum = (⟨#[]⟩ : ByteArray))) && (aeq 25 s_.seen s_.state)) && (decide (s_.tail = (bstr s_.rest))))), (39, .ptr c_s_ 54 0 0), (40, .ptr c2 54 0 0), (41, .own c7 1 ([] : List D).length (si (ss_e0 s_) 135 (gxor .u8 (gi (ss_e0 s_) 135) 128)).length), (42, .own c7 1 ([] : List D).length (si (ss_e0 s_) 135 (gxor .u8 (gi (ss_e0 s_) 135) 128)).length), (43, .ptr c2 54 0 0), (44, .ptr c2 54 0 0), (45, .ptr c2 54 0 25), (46, .own c_n3 1 pre_n3.length (((clF s_).1).rest).length), (47, D.i ((min (((clF s_).1).rest).length (List.replicate (Int.toNat 136) 0).length : Nat) : Int)), (48, .own c7 1 ([] : List D).length (si (ss_e0 s_) 135 (gxor .u8 (gi (ss_e0 s_) 135) 128)).length), (49, .ptr c2 54 0 0), (50, .ptr c2 54 0 0), (51, .ptr c2 54 0 25), (52, .own c_n3 1 pre_n3.length (((clF s_).1).rest).length), (53, D.i ((((clF s_).1).rest).length : Int)), (54, .ptr c7 1 (([] : List D).length + (Int.toNat ((((clF s_).1).rest).length : Int))) 0), (55, .own c7 1 ([] : List D).length (si (ss_e0 s_) 135 (gxor .u8 (gi (ss_e0 s_) 135) 128)).length), (56, .ptr c7 1 (([] : List D).length + (Int.toNat 135)) 0), (57, (D.k .u8) (gi (ss_e0 s_) 135)), (58, (D.k .u8) (gxor .u8 (gi (ss_e0 s_) 135) 128)), (59, .ptr c7 1 (([] : List D).length + (Int.toNat 135)) 0)]) (Cov.asg ⟨rfl, rfl, rfl, (congrArg (D.own c7 1 ([] : List D).length) (by simp only [si_length, gcopy_length])), rfl, rfl, rfl, (congrArg (D.own c7 1 ([] : List D).length) (by simp only [si_length, gcopy_length])), (congrArg (D.own c7 1 ([] : List D).length) (by simp only [si_length, gcopy_length])), rfl, rfl, rfl, rfl, rfl, (congrArg (D.own c7 1 ([] : List D).length) (by simp only [si_length, gcopy_length])), rfl, rfl, rfl, rfl, rfl, rfl, (congrArg (D.own c7 1 ([] : List D).length) (by simp only [si_length, gcopy_length])), rfl, rfl, rfl, rfl, trivial⟩) ?_
  obtain ⟨q1, q2, h⟩ := h
  refine wpA_region ?_
  iterate 2 refine wL (OpA.m ?_)
  refine wL (OpA.callH rfl rfl rfl en125 (h1 := [(c2, .cells 54 [.agg (arrC 25 (D.k .u64) (((clF s_).1).state) ++ ([.own c_n3 1 pre_n3.length (((clF s_).1).rest).length, D.i (((clF s_).1).taken)] ++ (arrC 25 (D.k .u64) (((clF s_).1).seen) ++ ([D.s (((clF s_).1).tail), D.s (((clF s_).1).sum)]))))]), (c7, .cells 1 (winL (D.k .u8) ([] : List D) (si (ss_e0 s_) 135 (gxor .u8 (gi (ss_e0 s_) 135) 128)) ([] : List D)))]) (h2 := [(c_n3, .cells 1 (winL (D.k .u8) pre_n3 (((clF s_).1).rest) post_n3)), (c_s_, .cells 54 [.agg (arrC 25 (D.k .u64) (((clF s_).2).state) ++ ([.own c4 1 pre5.length (((clF s_).2).rest).length, D.i (((clF s_).2).taken)] ++ (arrC 25 (D.k .u64) (((clF s_).2).seen) ++ ([D.s (((clF s_).2).tail), D.s (((clF s_).2).sum)]))))]), (c4, .cells 1 (winL (D.k .u8) pre5 (((clF s_).2).rest) post6))]) pull1 (abs_c ((clF s_).1) c2 c_n3 pre_n3.length (((clF s_).1).rest).length (si (ss_e0 s_) 135 (gxor .u8 (gi (ss_e0 s_) 135) 128)) c7 ([] : List D) ([] : List D) q1 q2) ?_)
  rintro _ _ ⟨_, rfl, rfl⟩
  refine wpL_perm (h' := [(c7, .cells 1 (winL (D.k .u8) ([] : List D) (si (ss_e0 s_) 135 (gxor .u8 (gi (ss_e0 s_) 135) 128)) ([] : List D))), (c2, .cells 54 [.agg (arrC 25 (D.k .u64) ((absF ((clF s_).1) (si (ss_e0 s_) 135 (gxor .u8 (gi (ss_e0 s_) 135) 128))).state) ++ ([.own c_n3 1 pre_n3.length (((clF s_).1).rest).length, D.i ((absF ((clF s_).1) (si (ss_e0 s_) 135 (gxor .u8 (gi (ss_e0 s_) 135) 128))).taken)] ++ (arrC 25 (D.k .u64) ((absF ((clF s_).1) (si (ss_e0 s_) 135 (gxor .u8 (gi (ss_e0 s_) 135) 128))).seen) ++ ([D.s ((absF ((clF s_).1) (si (ss_e0 s_) 135 (gxor .u8 (gi (ss_e0 s_) 135) 128))).tail), D.s ((absF ((clF s_).1) (si (ss_e0 s_) 135 (gxor .u8 (gi (ss_e0 s_) 135) 128))).sum)]))))]), (c_n3, .cells 1 (winL (D.k .u8) pre_n3 (((clF s_).1).rest) post_n3)), (c_s_, .cells 54 [.agg (arrC 25 (D.k .u64) (((clF s_).2).state) ++ ([.own c4 1 pre5.length (((clF s_).2).rest).length, D.i (((clF s_).2).taken)] ++ (arrC 25 (D.k .u64) (((clF s_).2).seen) ++ ([D.s (((clF s_).2).tail), D.s (((clF s_).2).sum)]))))]), (c4, .cells 1 (winL (D.k .u8) pre5 (((clF s_).2).rest) post6))]) pull1 ?_
  refine wpL_nil ?_
  refine wpA_seq ?_
  obtain ⟨q1, h⟩ := h
  refine wpA_region ?_
  refine wL (OpA.makeSliceV (enc := (D.k .u8)) (v0 := 0) rfl ts90 rfl rfl tz5 (fun _ _ => .v _) (.of rfl) q1 (fun c8 => ?_))
  refine wL (OpA.a ?_)
  refine wpL_nil ?_
  iterate 2 refine wpA_seq ?_
  refine wpA_region ?_
  refine wL (OpA.m ?_)
  refine wL (OpA.len rfl rfl rfl rfl ts90.desc (.inr (.inl ⟨_, _, _, rfl⟩)) ?_)
  refine wL (OpA.m ?_)
  refine wpL_nil ?_
  refine wpA_block ?_
  refine wpA_lfp (S := (List Int) × Int) (G := Nat × List D × List D) (c8, ([] : List D), ([] : List D)) (fun gg ss => asg [(0, .ptr c_s_ 54 0 0), (2, D.s (⟨#[]⟩ : ByteArray)), (3, .ptr c2 54 0 0), (5, .own gg.1 1 gg.2.1.length ss.1.length), (65, D.i ((List.replicate (Int.toNat 32) 0).length : Int)), (66, D.i ss.2)]) (fun gg ss => [(gg.1, .cells 1 (winL (D.k .u8) gg.2.1 ss.1 gg.2.2)), (c7, .cells 1 (winL (D.k .u8) ([] : List D) (si (ss_e0 s_) 135 (gxor .u8 (gi (ss_e0 s_) 135) 128)) ([] : List D))), (c2, .cells 54 [.agg (arrC 25 (D.k .u64) ((absF ((clF s_).1) (si (ss_e0 s_) 135 (gxor .u8 (gi (ss_e0 s_) 135) 128))).state) ++ ([.own c_n3 1 pre_n3.length (((clF s_).1).rest).length, D.i ((absF ((clF s_).1) (si (ss_e0 s_) 135 (gxor .u8 (gi (ss_e0 s_) 135) 128))).taken)] ++ (arrC 25 (D.k .u64) ((absF ((clF s_).1) (si (ss_e0 s_) 135 (gxor .u8 (gi (ss_e0 s_) 135) 128))).seen) ++ ([D.s ((absF ((clF s_).1) (si (ss_e0 s_) 135 (gxor .u8 (gi (ss_e0 s_) 135) 128))).tail), D.s ((absF ((clF s_).1) (si (ss_e0 s_) 135 (gxor .u8 (gi (ss_e0 s_) 135) 128))).sum)]))))]), (c_n3, .cells 1 (winL (D.k .u8) pre_n3 (((clF s_).1).rest) post_n3)), (c_s_, .cells 54 [.agg (arrC 25 (D.k .u64) (((clF s_).2).state) ++ ([.own c4 1 pre5.length (((clF s_).2).rest).length, D.i (((clF s_).2).taken)] ++ (arrC 25 (D.k .u64) (((clF s_).2).seen) ++ ([D.s (((clF s_).2).tail), D.s (((clF s_).2).sum)]))))]), (c4, .cells 1 (winL (D.k .u8) pre5 (((clF s_).2).rest) post6))]) h (Cov.asg ⟨rfl, rfl, rfl, rfl, rfl, rfl, trivial⟩) (.refl _) ?_
  rintro again9 ⟨cb63, pre63, post63⟩ ⟨out, x⟩ h
  have h : ss_L1 s_ Q again9 out x := h
  unfold ss_L1 at h
  show wpA _ _ _ _ (asg [(0, .ptr c_s_ 54 0 0), (2, D.s (⟨#[]⟩ : ByteArray)), (3, .ptr c2 54 0 0), (5, .own cb63 1 pre63.length out.length), (65, D.i ((List.replicate (Int.toNat 32) 0).length : Int)), (66, D.i x)]) [(cb63, .cells 1 (winL (D.k .u8) pre63 out post63)), (c7, .cells 1 (winL (D.k .u8) ([] : List D) (si (ss_e0 s_) 135 (gxor .u8 (gi (ss_e0 s_) 135) 128)) ([] : List D))), (c2, .cells 54 [.agg (arrC 25 (D.k .u64) ((absF ((clF s_).1) (si (ss_e0 s_) 135 (gxor .u8 (gi (ss_e0 s_) 135) 128))).state) ++ ([.own c_n3 1 pre_n3.length (((clF s_).1).rest).length, D.i ((absF ((clF s_).1) (si (ss_e0 s_) 135 (gxor .u8 (gi (ss_e0 s_) 135) 128))).taken)] ++ (arrC 25 (D.k .u64) ((absF ((clF s_).1) (si (ss_e0 s_) 135 (gxor .u8 (gi (ss_e0 s_) 135) 128))).seen) ++ ([D.s ((absF ((clF s_).1) (si (ss_e0 s_) 135 (gxor .u8 (gi (ss_e0 s_) 135) 128))).tail), D.s ((absF ((clF s_).1) (si (ss_e0 s_) 135 (gxor .u8 (gi (ss_e0 s_) 135) 128))).sum)]))))]), (c_n3, .cells 1 (winL (D.k .u8) pre_n3 (((clF s_).1).rest) post_n3)), (c_s_, .cells 54 [.agg (arrC 25 (D.k .u64) (((clF s_).2).state) ++ ([.own c4 1 pre5.length (((clF s_).2).rest).length, D.i (((clF s_).2).taken)] ++ (arrC 25 (D.k .u64) (((clF s_).2).seen) ++ ([D.s (((clF s_).2).tail), D.s (((clF s_).2).sum)]))))]), (c4, .cells 1 (winL (D.k .u8) pre5 (((clF s_).2).rest) post6))]
  refine wpA_seq ?_
  refine wpA_region ?_
  refine wL (OpA.lss rfl rfl rfl ?_)
  refine wpL_nil ?_
  refine wpA_seq ?_
  refine wpA_cond rfl (fun b10 => ?_) (fun b10 => ?_)
  have h := h.1 (decT b10)
  refine wpA_skip ?_
  refine wpA_seq ?_
  refine wpA_block ?_
  refine wpA_seq ?_
  refine wpA_region ?_
  refine wL (OpA.m ?_)
  refine wL (OpA.a ?_)
  refine wpL_nil ?_
  obtain ⟨q1, q2, q3, q4, q5, q6, h⟩ := h
  refine wpA_region ?_
  iterate 4 refine wL (OpA.m ?_)
  refine wL (OpA.quoN rfl rfl rfl q1 ?_)
  refine wL (OpA.nc rfl (by with_reducible conv => lhs; whnf) (.inl ⟨_, _, _, _, rfl⟩) ?_)
  refine wL (OpA.fieldAddr rfl tf150_0 rfl ?_)
  refine wL (OpA.aixV rfl td131 ti130 rfl rfl q2 ?_)
  refine wL (OpA.load rfl ti130 rfl (.tail (.tail .head)) rfl (arrAt (A := ([] : List D)) rfl q2) ?_)
  refine wL (OpA.m ?_)
  refine wL (OpA.remN rfl rfl rfl q3 ?_)
  refine wL (OpA.muli rfl rfl rfl q4 ?_)
  refine wL (OpA.shr rfl rfl rfl q5 ?_)
  refine wL (OpA.conv rfl td130 td5 rfl ?_)
  refine wL (OpA.ixV rfl ts90 rfl rfl q6 ?_)
  refine wE (OpA.storeV (enc := (D.k .u8)) (v := (IntKind.u8.wrap (gshr .u64 (gi ((absF ((clF s_).1) (si (ss_e0 s_) 135 (gxor .u8 (gi (ss_e0 s_) 135) 128))).state) (x / 8)) (8 * (x % 8))))) rfl ti5 rfl rfl (.of rfl) rfl q6 .head ?_)
  refine wpL_nil ?_
  obtain ⟨q1, h⟩ := h
  refine wpA_region ?_
  refine wL (OpA.addi rfl rfl rfl q1 ?_)
  refine wL (OpA.m ?_)
  refine wpL_nil ?_
  exact ⟨(cb63, pre63, post63), ((si out x (IntKind.u8.wrap (gshr .u64 (gi ((absF ((clF s_).1) (si (ss_e0 s_) 135 (gxor .u8 (gi (ss_e0 s_) 135) 128))).state) (x / 8)) (8 * (x % 8))))), (x + 1)), h, (Cov.asg ⟨rfl, rfl, rfl, (congrArg (D.own cb63 1 pre63.length) (by simp only [si_length, gcopy_length])), rfl, rfl, trivial⟩), (.refl _)⟩
  have h := h.2 (decF b10)
  refine wpA_exit ?_
  refine wpA_seq ?_
  refine wpA_drawF [1, 2] (m := 16) mo (by kernel_rfl) (fun _ _ _ hx => hx) rfl ?_
  iterate 4 refine dL (OpA.m ⟨rfl, rfl⟩) ?_
  refine dL (OpA.nc rfl (by with_reducible conv => lhs; whnf) (.inl ⟨_, _, _, _, rfl⟩) ⟨rfl, rfl⟩) ?_
  refine dL (OpA.fieldAddr rfl tf150_0 rfl ⟨rfl, rfl⟩) ?_
  refine dL (OpA.load_agg rfl ti131 rfl (.tail (.tail (.tail (.tail .head)))) rfl rfl rfl ⟨rfl, rfl⟩) ?_
  refine dL (OpA.m ⟨rfl, rfl⟩) ?_
  refine dL (OpA.nc rfl (by with_reducible conv => lhs; whnf) (.inl ⟨_, _, _, _, rfl⟩) ⟨rfl, rfl⟩) ?_
  refine dL (OpA.fieldAddr rfl tf150_1 rfl ⟨rfl, rfl⟩) ?_
  refine dL (OpA.load rfl ti90 rfl (.tail (.tail (.tail (.tail .head)))) rfl rfl ⟨rfl, rfl⟩) ?_
  refine dL (OpA.bytesStr rfl ts90.desc td5 td9 (.own (.tail (.tail (.tail (.tail (.tail .head)))))) ⟨rfl, rfl⟩) ?_
  refine dL (OpA.m ⟨rfl, rfl⟩) ?_
  refine dL (OpA.bytesStr rfl ts90.desc td5 td9 (.own .head) ⟨rfl, rfl⟩) ?_
  refine dL (OpA.nc rfl (by with_reducible conv => lhs; whnf) (.inl ⟨_, _, _, _, rfl⟩) ⟨rfl, rfl⟩) ?_
  refine dL (OpA.fieldAddr rfl tf150_3 rfl ⟨rfl, rfl⟩) ?_
  refine DetK.nil ?_
  refine wE (OpA.store (e := .agg (arrC 25 (D.k .u64) (((clF s_).2).state) ++ ([.own c4 1 pre5.length (((clF s_).2).rest).length, D.i (((clF s_).2).taken)] ++ (arrC 25 (D.k .u64) (((clF s_).2).seen) ++ ([D.s (((clF s_).2).tail), D.s (((clF s_).2).sum)]))))) (e' := .agg (arrC 25 (D.k .u64) (((clF s_).2).state) ++ ([.own c4 1 pre5.length (((clF s_).2).rest).length, D.i (((clF s_).2).taken)] ++ (arrC 25 (D.k .u64) (((clF s_).2).state) ++ ([D.s (((clF s_).2).tail), D.s (((clF s_).2).sum)]))))) rfl ti131 rfl (.of rfl) rfl (Nat.le_of_ble_eq_true rfl) (arrPut2 (A1 := (arrC 25 (D.k .u64) (((clF s_).2).state))) (A2 := ([.own c4 1 pre5.length (((clF s_).2).rest).length, D.i (((clF s_).2).taken)] : List D)) rfl) (.tail (.tail (.tail (.tail .head)))) ?_)
  refine wL (OpA.nc rfl (by with_reducible conv => lhs; whnf) (.inl ⟨_, _, _, _, rfl⟩) ?_)
  refine wL (OpA.fieldAddr rfl tf150_4 rfl ?_)
  refine wE (OpA.store (e' := .agg (arrC 25 (D.k .u64) (((clF s_).2).state) ++ ([.own c4 1 pre5.length (((clF s_).2).rest).length, D.i (((clF s_).2).taken)] ++ (arrC 25 (D.k .u64) (((clF s_).2).state) ++ ([D.s (bstr (((clF s_).2).rest)), D.s (((clF s_).2).sum)]))))) rfl ti9 rfl (.of rfl) rfl (Nat.le_of_ble_eq_true rfl) rfl (.tail (.tail (.tail (.tail .head)))) ?_)
  refine wL (OpA.nc rfl (by with_reducible conv => lhs; whnf) (.inl ⟨_, _, _, _, rfl⟩) ?_)
  refine wL (OpA.fieldAddr rfl tf150_5 rfl ?_)
  refine wE (OpA.store (e' := .agg (arrC 25 (D.k .u64) (((clF s_).2).state) ++ ([.own c4 1 pre5.length (((clF s_).2).rest).length, D.i (((clF s_).2).taken)] ++ (arrC 25 (D.k .u64) (((clF s_).2).state) ++ ([D.s (bstr (((clF s_).2).rest)), D.s (bstr out)]))))) rfl ti9 rfl (.of rfl) rfl (Nat.le_of_ble_eq_true rfl) rfl (.tail (.tail (.tail (.tail .head)))) ?_)
  refine wpL_nil ?_
  refine wpA_seq ?_
  refine wpA_region ?_
  refine wL (OpA.m ?_)
  refine wL (OpA.nc rfl (by with_reducible conv => lhs; whnf) (.inl ⟨_, _, _, _, rfl⟩) ?_)
  refine wL (OpA.fieldAddr rfl tf150_5 rfl ?_)
  refine wL (OpA.load rfl ti9 rfl (.tail (.tail (.tail (.tail .head)))) rfl rfl ?_)
  refine wL (OpA.a ?_)
  refine wpL_nil ?_
  refine wpA_ret ?_
  exact ⟨_, (.tmp (d := D.s (bstr out)) rfl .nil), [(c_s_, .cells 54 [.agg (arrC 25 (D.k .u64) (((clF s_).2).state) ++ ([.own c4 1 pre5.length (((clF s_).2).rest).length, D.i (((clF s_).2).taken)] ++ (arrC 25 (D.k .u64) (((clF s_).2).state) ++ ([D.s (bstr (((clF s_).2).rest)), D.s (bstr out)]))))]), (c4, .cells 1 (winL (D.k .u8) pre5 (((clF s_).2).rest) post6)), (cb63, .cells 1 (winL (D.k .u8) pre63 out post63)), (c7, .cells 1 (winL (D.k .u8) ([] : List D) (si (ss_e0 s_) 135 (gxor .u8 (gi (ss_e0 s_) 135) 128)) ([] : List D))), (c2, .cells 54 [.agg (arrC 25 (D.k .u64) ((absF ((clF s_).1) (si (ss_e0 s_) 135 (gxor .u8 (gi (ss_e0 s_) 135) 128))).state) ++ ([.own c_n3 1 pre_n3.length (((clF s_).1).rest).length, D.i ((absF ((clF s_).1) (si (ss_e0 s_) 135 (gxor .u8 (gi (ss_e0 s_) 135) 128))).taken)] ++ (arrC 25 (D.k .u64) ((absF ((clF s_).1) (si (ss_e0 s_) 135 (gxor .u8 (gi (ss_e0 s_) 135) 128))).seen) ++ ([D.s ((absF ((clF s_).1) (si (ss_e0 s_) 135 (gxor .u8 (gi (ss_e0 s_) 135) 128))).tail), D.s ((absF ((clF s_).1) (si (ss_e0 s_) 135 (gxor .u8 (gi (ss_e0 s_) 135) 128))).sum)]))))]), (c_n3, .cells 1 (winL (D.k .u8) pre_n3 (((clF s_).1).rest) post_n3))], [(c_s_, .cells 54 [.agg (arrC 25 (D.k .u64) (((clF s_).2).state) ++ ([.own c4 1 pre5.length (((clF s_).2).rest).length, D.i (((clF s_).2).taken)] ++ (arrC 25 (D.k .u64) (((clF s_).2).state) ++ ([D.s (bstr (((clF s_).2).rest)), D.s (bstr out)]))))]), (c4, .cells 1 (winL (D.k .u8) pre5 (((clF s_).2).rest) post6))], (pull4.trans (.cons _ pull4)), (.cons₂ _ (.cons₂ _ (.cons _ (.cons _ (.cons _ (.cons _ (.refl _))))))), ((bstr out), (DigestSponge.mk (((clF s_).2).state) (((clF s_).2).rest) (((clF s_).2).taken) (((clF s_).2).state) (bstr (((clF s_).2).rest)) (bstr out))), (c4, pre5, post6), rfl, rfl, h⟩
theorem ss_c (s_ : DigestSponge) (c_s_ : Nat) (c_s_1 : Nat) (pre_s_ : List D) (post_s_ : List D)  (hp0 : s_.state.length = 25) (hp1 : s_.rest.length ≤ 135) : CallH Tryz.prog 104 [.ptr c_s_ 54 0 0] [(c_s_, .cells 54 [.agg (arrC 25 (D.k .u64) s_.state ++ ([.own c_s_1 1 pre_s_.length s_.rest.length, D.i s_.taken] ++ (arrC 25 (D.k .u64) s_.seen ++ ([D.s s_.tail, D.s s_.sum]))))]), (c_s_1, .cells 1 (winL (D.k .u8) pre_s_ s_.rest post_s_))] (fun d h' => ∃ (g : Nat × List D × List D), d = D.s ((ssF s_).1) ∧ h' = [(c_s_, .cells 54 [.agg (arrC 25 (D.k .u64) (((ssF s_).2).state) ++ ([.own g.1 1 g.2.1.length (((ssF s_).2).rest).length, D.i (((ssF s_).2).taken)] ++ (arrC 25 (D.k .u64) (((ssF s_).2).seen) ++ ([D.s (((ssF s_).2).tail), D.s (((ssF s_).2).sum)]))))]), (g.1, .cells 1 (winL (D.k .u8) g.2.1 (((ssF s_).2).rest) g.2.2))]) :=
  (ss_w s_ c_s_ c_s_1 pre_s_ post_s_  (fun r => r = ssF s_) (ss_ok s_ _ hp0 hp1 rfl)).mono (by rintro d h' ⟨r, g, hd, hh, rfl⟩; exact ⟨g, hd, hh⟩)

set_option maxHeartbeats 2000000 in
set_option maxRecDepth 10000 in
theorem sum_w (data : ByteArray)  (Q : ByteArray → Prop) (h : sum_vc data Q) : Fun false Tryz.prog 72 [D.s data] (fun d => ∃ r, d = D.s r ∧ Q r) := by
  unfold sum_vc at h
  refine Fun.of_body Tryz.func72 rfl Tryz.ntmps72 rfl ?_
  refine wpA_seq ?_
  refine wpA_region ?_
  refine wL (OpA.a ?_)
  refine wpL_nil ?_
  refine wpA_seq ?_
  refine wpA_region ?_
  refine wL (OpA.callH rfl rfl rfl en102 (h1 := []) (h2 := []) (.refl _) (new_c ) ?_)
  rintro _ _ ⟨⟨c1, c_n2, pre_n2, post_n2⟩, rfl, rfl⟩
  refine wL (OpA.a ?_)
  refine wpL_nil ?_
  refine wpA_seq ?_
  obtain ⟨q1, q2, q3, q4, q5, q6, h⟩ := h
  refine wpA_region ?_
  iterate 2 refine wL (OpA.m ?_)
  refine wL (OpA.ibuildSliceO rfl ts118 rfl (.cons (.of (sz := 1) rfl) .nil) (by decide) ?_)
  refine wL (OpA.callH rfl rfl rfl en103 (h1 := [(c1, .cells 54 [.agg (arrC 25 (D.k .u64) newS.state ++ ([.own c_n2 1 pre_n2.length newS.rest.length, D.i newS.taken] ++ (arrC 25 (D.k .u64) newS.seen ++ ([D.s newS.tail, D.s newS.sum]))))]), (c_n2, .cells 1 (winL (D.k .u8) pre_n2 newS.rest post_n2))]) (h2 := []) (.refl _) (wr_c newS c1 c_n2 pre_n2 post_n2 ([data] : List ByteArray) q1 q2 q3 q4 q5 q6) ?_)
  rintro _ _ ⟨⟨c3, pre4, post5⟩, rfl, rfl⟩
  refine wpL_nil ?_
  refine wpA_seq ?_
  obtain ⟨q1, q2, h⟩ := h
  refine wpA_region ?_
  refine wL (OpA.m ?_)
  refine wL (OpA.callH rfl rfl rfl en104 (h1 := [(c1, .cells 54 [.agg (arrC 25 (D.k .u64) (((wrF newS ([data] : List ByteArray)).2).state) ++ ([.own c3 1 pre4.length (((wrF newS ([data] : List ByteArray)).2).rest).length, D.i (((wrF newS ([data] : List ByteArray)).2).taken)] ++ (arrC 25 (D.k .u64) (((wrF newS ([data] : List ByteArray)).2).seen) ++ ([D.s (((wrF newS ([data] : List ByteArray)).2).tail), D.s (((wrF newS ([data] : List ByteArray)).2).sum)]))))]), (c3, .cells 1 (winL (D.k .u8) pre4 (((wrF newS ([data] : List ByteArray)).2).rest) post5))]) (h2 := []) (.refl _) (ss_c ((wrF newS ([data] : List ByteArray)).2) c1 c3 pre4 post5 q1 q2) ?_)
  rintro _ _ ⟨⟨c6, pre7, post8⟩, rfl, rfl⟩
  refine wL (OpA.a ?_)
  refine wpL_nil ?_
  refine wpA_ret ?_
  exact ⟨_, (.tmp (d := D.s ((ssF ((wrF newS ([data] : List ByteArray)).2)).1)) rfl .nil), _, (.same rfl .nil), ⟨((ssF ((wrF newS ([data] : List ByteArray)).2)).1), rfl, h⟩⟩
theorem sum_c (data : ByteArray)  (hp0 : data.size ≤ 1000000) : Fun false Tryz.prog 72 [D.s data] (fun d => d = D.s (sumF data)) :=
  Fun.at (enc := fun r => D.s r) (v := sumF data) (sum_w data  (fun r => r = sumF data) (sum_ok data _ hp0 rfl))
end Go.Proofs.YtkoomieafmjjfaaGreatDoor
