/-
  walks and contracts
-/
import Derived.Test.YtchidogjhgelpaaV0
import Derived.Test.YtchidogjhgelpaaDw
set_option linter.all false
namespace Go.Proofs.Ytchidogjhgelpaa
open Go Go.Lic
attribute [local irreducible] rotF offF conF offsF consF roundF roundR permF sumF hexF digF parseF idxB hex1 newF absF clF wrF ssF



set_option maxHeartbeats 2000000 in
set_option maxRecDepth 10000 in
theorem rot_w (x : Int) (k : Int)  (Q : Int → Prop) (h : rot_vc x k Q) : Fun false Try.prog 34 [(D.k .u64) x, D.i k] (fun d => ∃ r, d = (D.k .u64) r ∧ Q r) := by
  unfold rot_vc at h
  refine Fun.of_body Try.func34 rfl Try.ntmps34 rfl ?_
  refine wpA_seq ?_
  refine wpA_region ?_
  refine wpL_op rfl rfl rfl (OpA.asn rfl (by with_reducible conv => lhs; whnf) ?_)
  refine wpL_nil ?_
  refine wpA_seq ?_
  refine wpA_region ?_
  refine wpL_op rfl rfl rfl (OpA.mv rfl (by with_reducible conv => lhs; whnf) ?_)
  refine wpL_op rfl rfl rfl (OpA.conv rfl td3 td43 rfl ?_)
  refine wpL_op rfl rfl rfl (OpA.band rfl rfl rfl ?_)
  refine wpL_op rfl rfl rfl (OpA.asn rfl (by with_reducible conv => lhs; whnf) ?_)
  refine wpL_nil ?_
  refine wpA_seq ?_
  obtain ⟨q1, q2, h⟩ := h
  refine wpA_region ?_
  refine wpL_op rfl rfl rfl (OpA.mv rfl (by with_reducible conv => lhs; whnf) ?_)
  refine wpL_op rfl rfl rfl (OpA.mv rfl (by with_reducible conv => lhs; whnf) ?_)
  refine wpL_op rfl rfl rfl (OpA.shl rfl rfl rfl q1 ?_)
  refine wpL_op rfl rfl rfl (OpA.mv rfl (by with_reducible conv => lhs; whnf) ?_)
  refine wpL_op rfl rfl rfl (OpA.mv rfl (by with_reducible conv => lhs; whnf) ?_)
  refine wpL_op rfl rfl rfl (OpA.sub rfl rfl rfl ?_)
  refine wpL_op rfl rfl rfl (OpA.shr rfl rfl rfl q2 ?_)
  refine wpL_op rfl rfl rfl (OpA.bor rfl rfl rfl ?_)
  refine wpL_op rfl rfl rfl (OpA.asn rfl (by with_reducible conv => lhs; whnf) ?_)
  refine wpL_nil ?_
  refine wpA_ret ?_
  exact ⟨_, (.tmp (d := (D.k .u64) (gor .u64 (gshl .u64 x (gand .u64 (IntKind.u64.wrap k) 63)) (gshr .u64 x (IntKind.u64.wrap (64 - (gand .u64 (IntKind.u64.wrap k) 63)))))) rfl .nil), _, (.same rfl .nil), ⟨(gor .u64 (gshl .u64 x (gand .u64 (IntKind.u64.wrap k) 63)) (gshr .u64 x (IntKind.u64.wrap (64 - (gand .u64 (IntKind.u64.wrap k) 63))))), rfl, h⟩⟩
theorem rot_c (x : Int) (k : Int)   : Fun false Try.prog 34 [(D.k .u64) x, D.i k] (fun d => d = (D.k .u64) (rotF x k)) :=
  Fun.at (enc := fun r => (D.k .u64) r) (v := rotF x k) (rot_w x k  (fun r => r = rotF x k) (rot_ok x k _  rfl))

set_option maxHeartbeats 2000000 in
set_option maxRecDepth 10000 in
theorem rrot_w (w : Int) (n : Int)  (Q : Int → Prop) (h : rrot_vc w n Q) : Fun false Try.prog 35 [(D.k .u64) w, D.i n] (fun d => ∃ r, d = (D.k .u64) r ∧ Q r) := by
  unfold rrot_vc at h
  refine Fun.of_body Try.func35 rfl Try.ntmps35 rfl ?_
  refine wpA_seq ?_
  refine wpA_region ?_
  refine wpL_op rfl rfl rfl (OpA.asn rfl (by with_reducible conv => lhs; whnf) ?_)
  refine wpL_nil ?_
  refine wpA_seq ?_
  obtain ⟨q1, q2, q3, h⟩ := h
  refine wpA_region ?_
  refine wpL_op rfl rfl rfl (OpA.mv rfl (by with_reducible conv => lhs; whnf) ?_)
  refine wpL_op rfl rfl rfl (OpA.mv rfl (by with_reducible conv => lhs; whnf) ?_)
  refine wpL_op rfl rfl rfl (OpA.conv rfl td3 td43 rfl ?_)
  refine wpL_op rfl rfl rfl (OpA.shl rfl rfl rfl q1 ?_)
  refine wpL_op rfl rfl rfl (OpA.mv rfl (by with_reducible conv => lhs; whnf) ?_)
  refine wpL_op rfl rfl rfl (OpA.mv rfl (by with_reducible conv => lhs; whnf) ?_)
  refine wpL_op rfl rfl rfl (OpA.subi rfl rfl rfl q2 ?_)
  refine wpL_op rfl rfl rfl (OpA.conv rfl td3 td43 rfl ?_)
  refine wpL_op rfl rfl rfl (OpA.shr rfl rfl rfl q3 ?_)
  refine wpL_op rfl rfl rfl (OpA.bor rfl rfl rfl ?_)
  refine wpL_op rfl rfl rfl (OpA.asn rfl (by with_reducible conv => lhs; whnf) ?_)
  refine wpL_nil ?_
  refine wpA_ret ?_
  exact ⟨_, (.tmp (d := (D.k .u64) (gor .u64 (gshl .u64 w (IntKind.u64.wrap n)) (gshr .u64 w (IntKind.u64.wrap (64 - n))))) rfl .nil), _, (.same rfl .nil), ⟨(gor .u64 (gshl .u64 w (IntKind.u64.wrap n)) (gshr .u64 w (IntKind.u64.wrap (64 - n)))), rfl, h⟩⟩
theorem rrot_c (w : Int) (n : Int)  (hp0 : (0 : Int) ≤ n) (hp1 : n ≤ (63 : Int)) : Fun false Try.prog 35 [(D.k .u64) w, D.i n] (fun d => d = (D.k .u64) (rotF w n)) :=
  Fun.at (enc := fun r => (D.k .u64) r) (v := rotF w n) (rrot_w w n  (fun r => r = rotF w n) (rrot_ok w n _ hp0 hp1 rfl))

set_option maxHeartbeats 2000000 in
set_option maxRecDepth 10000 in
theorem off_w (x : Int) (y : Int)  (Q : Int → Prop) (h : off_vc x y Q) : Fun false Try.prog 36 [D.i x, D.i y] (fun d => ∃ r, d = D.i r ∧ Q r) := by
  unfold off_vc at h
  refine Fun.of_body Try.func36 rfl Try.ntmps36 rfl ?_
  refine wpA_seq ?_
  refine wpA_region ?_
  refine wpL_op rfl rfl rfl (OpA.asn rfl (by with_reducible conv => lhs; whnf) ?_)
  refine wpL_nil ?_
  refine wpA_seq ?_
  refine wpA_region ?_
  refine wpL_op rfl rfl rfl (OpA.ibuildSliceO rfl ts68 rfl (.cons (.of (sz := 1) rfl) (.cons (.of (sz := 1) rfl) (.cons (.of (sz := 1) rfl) (.cons (.of (sz := 1) rfl) (.cons (.of (sz := 1) rfl) (.cons (.of (sz := 1) rfl) (.cons (.of (sz := 1) rfl) (.cons (.of (sz := 1) rfl) (.cons (.of (sz := 1) rfl) (.cons (.of (sz := 1) rfl) (.cons (.of (sz := 1) rfl) (.cons (.of (sz := 1) rfl) (.cons (.of (sz := 1) rfl) (.cons (.of (sz := 1) rfl) (.cons (.of (sz := 1) rfl) (.cons (.of (sz := 1) rfl) (.cons (.of (sz := 1) rfl) (.cons (.of (sz := 1) rfl) (.cons (.of (sz := 1) rfl) (.cons (.of (sz := 1) rfl) (.cons (.of (sz := 1) rfl) (.cons (.of (sz := 1) rfl) (.cons (.of (sz := 1) rfl) (.cons (.of (sz := 1) rfl) (.cons (.of (sz := 1) rfl) .nil))))))))))))))))))))))))) (by decide) ?_)
  refine wpL_op rfl rfl rfl (OpA.asn rfl (by with_reducible conv => lhs; whnf) ?_)
  refine wpL_nil ?_
  refine wpA_seq ?_
  obtain ⟨q1, q2, q3, h⟩ := h
  refine wpA_region ?_
  refine wpL_op rfl rfl rfl (OpA.mv rfl (by with_reducible conv => lhs; whnf) ?_)
  refine wpL_op rfl rfl rfl (OpA.mv rfl (by with_reducible conv => lhs; whnf) ?_)
  refine wpL_op rfl rfl rfl (OpA.mv rfl (by with_reducible conv => lhs; whnf) ?_)
  refine wpL_op rfl rfl rfl (OpA.muli rfl rfl rfl q1 ?_)
  refine wpL_op rfl rfl rfl (OpA.addi rfl rfl rfl q2 ?_)
  refine wpL_op rfl rfl rfl (OpA.iixV (enc := D.i) rfl ts68 rfl rfl rfl q3 ?_)
  refine wpL_op rfl rfl rfl (OpA.iload rfl ti3 rfl rfl ?_)
  refine wpL_op rfl rfl rfl (OpA.asn rfl (by with_reducible conv => lhs; whnf) ?_)
  refine wpL_nil ?_
  refine wpA_ret ?_
  exact ⟨_, (.tmp (d := D.i (gi ([0, 1, 62, 28, 27, 36, 44, 6, 55, 20, 3, 10, 43, 25, 39, 41, 45, 15, 21, 8, 18, 2, 61, 56, 14] : List Int) (x + (5 * y)))) rfl .nil), _, (.same rfl .nil), ⟨(gi ([0, 1, 62, 28, 27, 36, 44, 6, 55, 20, 3, 10, 43, 25, 39, 41, 45, 15, 21, 8, 18, 2, 61, 56, 14] : List Int) (x + (5 * y))), rfl, h⟩⟩
theorem off_c (x : Int) (y : Int)  (hp0 : inL x 5) (hp1 : inL y 5) : Fun false Try.prog 36 [D.i x, D.i y] (fun d => d = D.i (offF x y)) :=
  Fun.at (enc := fun r => D.i r) (v := offF x y) (off_w x y  (fun r => r = offF x y) (off_ok x y _ hp0 hp1 rfl))

set_option maxHeartbeats 2000000 in
set_option maxRecDepth 10000 in
theorem con_w (round : Int)  (Q : Int → Prop) (h : con_vc round Q) : Fun false Try.prog 27 [D.i round] (fun d => ∃ r, d = (D.k .u64) r ∧ Q r) := by
  unfold con_vc at h
  refine Fun.of_body Try.func27 rfl Try.ntmps27 rfl ?_
  refine wpA_seq ?_
  refine wpA_region ?_
  refine wpL_op rfl rfl rfl (OpA.asn rfl (by with_reducible conv => lhs; whnf) ?_)
  refine wpL_nil ?_
  refine wpA_seq ?_
  refine wpA_region ?_
  refine wpL_op rfl rfl rfl (OpA.ibuildSliceO rfl ts66 rfl (.cons (.of (sz := 1) rfl) (.cons (.of (sz := 1) rfl) (.cons (.of (sz := 1) rfl) (.cons (.of (sz := 1) rfl) (.cons (.of (sz := 1) rfl) (.cons (.of (sz := 1) rfl) (.cons (.of (sz := 1) rfl) (.cons (.of (sz := 1) rfl) (.cons (.of (sz := 1) rfl) (.cons (.of (sz := 1) rfl) (.cons (.of (sz := 1) rfl) (.cons (.of (sz := 1) rfl) (.cons (.of (sz := 1) rfl) (.cons (.of (sz := 1) rfl) (.cons (.of (sz := 1) rfl) (.cons (.of (sz := 1) rfl) (.cons (.of (sz := 1) rfl) (.cons (.of (sz := 1) rfl) (.cons (.of (sz := 1) rfl) (.cons (.of (sz := 1) rfl) (.cons (.of (sz := 1) rfl) (.cons (.of (sz := 1) rfl) (.cons (.of (sz := 1) rfl) (.cons (.of (sz := 1) rfl) .nil)))))))))))))))))))))))) (by decide) ?_)
  refine wpL_op rfl rfl rfl (OpA.asn rfl (by with_reducible conv => lhs; whnf) ?_)
  refine wpL_nil ?_
  refine wpA_seq ?_
  obtain ⟨q1, h⟩ := h
  refine wpA_region ?_
  refine wpL_op rfl rfl rfl (OpA.mv rfl (by with_reducible conv => lhs; whnf) ?_)
  refine wpL_op rfl rfl rfl (OpA.mv rfl (by with_reducible conv => lhs; whnf) ?_)
  refine wpL_op rfl rfl rfl (OpA.iixV (enc := (D.k .u64)) rfl ts66 rfl rfl rfl q1 ?_)
  refine wpL_op rfl rfl rfl (OpA.iload rfl ti25 rfl rfl ?_)
  refine wpL_op rfl rfl rfl (OpA.asn rfl (by with_reducible conv => lhs; whnf) ?_)
  refine wpL_nil ?_
  refine wpA_ret ?_
  exact ⟨_, (.tmp (d := (D.k .u64) (gi ([1, 32898, 9223372036854808714, 9223372039002292224, 32907, 2147483649, 9223372039002292353, 9223372036854808585, 138, 136, 2147516425, 2147483658, 2147516555, 9223372036854775947, 9223372036854808713, 9223372036854808579, 9223372036854808578, 9223372036854775936, 32778, 9223372039002259466, 9223372039002292353, 9223372036854808704, 2147483649, 9223372039002292232] : List Int) round)) rfl .nil), _, (.same rfl .nil), ⟨(gi ([1, 32898, 9223372036854808714, 9223372039002292224, 32907, 2147483649, 9223372039002292353, 9223372036854808585, 138, 136, 2147516425, 2147483658, 2147516555, 9223372036854775947, 9223372036854808713, 9223372036854808579, 9223372036854808578, 9223372036854775936, 32778, 9223372039002259466, 9223372039002292353, 9223372036854808704, 2147483649, 9223372039002292232] : List Int) round), rfl, h⟩⟩
theorem con_c (round : Int)  (hp0 : inL round 24) : Fun false Try.prog 27 [D.i round] (fun d => d = (D.k .u64) (conF round)) :=
  Fun.at (enc := fun r => (D.k .u64) r) (v := conF round) (con_w round  (fun r => r = conF round) (con_ok round _ hp0 rfl))

set_option maxHeartbeats 2000000 in
set_option maxRecDepth 10000 in
theorem offs_w   (Q : (List Int) → Prop) (h : offs_vc  Q) : Fun false Try.prog 23 [] (fun d => ∃ r, d = (encArr 25 D.i) r ∧ Q r) := by
  unfold offs_vc at h
  refine Fun.of_body Try.func23 rfl Try.ntmps23 rfl ?_
  refine wpA_seq ?_
  refine wpA_region ?_
  refine wpL_op rfl rfl rfl (OpA.alloc (sz := 25) (d := (encArr 25 D.i) (List.replicate 25 0)) rfl tz44 (fun _ _ => .agg (.cons (.v _) (.cons (.v _) (.cons (.v _) (.cons (.v _) (.cons (.v _) (.cons (.v _) (.cons (.v _) (.cons (.v _) (.cons (.v _) (.cons (.v _) (.cons (.v _) (.cons (.v _) (.cons (.v _) (.cons (.v _) (.cons (.v _) (.cons (.v _) (.cons (.v _) (.cons (.v _) (.cons (.v _) (.cons (.v _) (.cons (.v _) (.cons (.v _) (.cons (.v _) (.cons (.v _) (.cons (.v _) .nil)))))))))))))))))))))))))) (.of rfl) (fun c1 _ => ?_))
  refine wpL_nil ?_
  refine wpA_seq ?_
  refine wpA_region ?_
  refine wpL_op rfl rfl rfl (OpA.buildArrV (k := .i64) (xs := [0, 1, 62, 28, 27, 36, 44, 6, 55, 20, 3, 10, 43, 25, 39, 41, 45, 15, 21, 8, 18, 2, 61, 56, 14]) rfl td44 ti3 tz44 rfl rfl rfl rfl ?_)
  refine wpL_eff rfl rfl (OpA.storeW rfl ti44 rfl (by with_reducible conv => lhs; whnf) (.of rfl) rfl rfl .head ?_)
  refine wpL_nil ?_
  refine wpA_ret ?_
  exact ⟨_, (.cell (.whole ti44 rfl rfl .head rfl ⟨_, rfl⟩) .nil), _, (.same rfl .nil), ⟨[0, 1, 62, 28, 27, 36, 44, 6, 55, 20, 3, 10, 43, 25, 39, 41, 45, 15, 21, 8, 18, 2, 61, 56, 14], rfl, h⟩⟩
theorem offs_c    : Fun false Try.prog 23 [] (fun d => d = (encArr 25 D.i) (offsF )) :=
  Fun.at (enc := fun r => (encArr 25 D.i) r) (v := offsF ) (offs_w   (fun r => r = offsF ) (offs_ok  _  rfl))

set_option maxHeartbeats 2000000 in
set_option maxRecDepth 10000 in
theorem cons_w   (Q : (List Int) → Prop) (h : cons_vc  Q) : Fun false Try.prog 24 [] (fun d => ∃ r, d = (encArr 24 (D.k .u64)) r ∧ Q r) := by
  unfold cons_vc at h
  refine Fun.of_body Try.func24 rfl Try.ntmps24 rfl ?_
  refine wpA_seq ?_
  refine wpA_region ?_
  refine wpL_op rfl rfl rfl (OpA.alloc (sz := 24) (d := (encArr 24 (D.k .u64)) (List.replicate 24 0)) rfl tz46 (fun _ _ => .agg (.cons (.v _) (.cons (.v _) (.cons (.v _) (.cons (.v _) (.cons (.v _) (.cons (.v _) (.cons (.v _) (.cons (.v _) (.cons (.v _) (.cons (.v _) (.cons (.v _) (.cons (.v _) (.cons (.v _) (.cons (.v _) (.cons (.v _) (.cons (.v _) (.cons (.v _) (.cons (.v _) (.cons (.v _) (.cons (.v _) (.cons (.v _) (.cons (.v _) (.cons (.v _) (.cons (.v _) .nil))))))))))))))))))))))))) (.of rfl) (fun c1 _ => ?_))
  refine wpL_nil ?_
  refine wpA_seq ?_
  refine wpA_region ?_
  refine wpL_op rfl rfl rfl (OpA.buildArrV (k := .u64) (xs := [1, 32898, 9223372036854808714, 9223372039002292224, 32907, 2147483649, 9223372039002292353, 9223372036854808585, 138, 136, 2147516425, 2147483658, 2147516555, 9223372036854775947, 9223372036854808713, 9223372036854808579, 9223372036854808578, 9223372036854775936, 32778, 9223372039002259466, 9223372039002292353, 9223372036854808704, 2147483649, 9223372039002292232]) rfl td46 ti25 tz46 rfl rfl rfl rfl ?_)
  refine wpL_eff rfl rfl (OpA.storeW rfl ti46 rfl (by with_reducible conv => lhs; whnf) (.of rfl) rfl rfl .head ?_)
  refine wpL_nil ?_
  refine wpA_ret ?_
  exact ⟨_, (.cell (.whole ti46 rfl rfl .head rfl ⟨_, rfl⟩) .nil), _, (.same rfl .nil), ⟨[1, 32898, 9223372036854808714, 9223372039002292224, 32907, 2147483649, 9223372039002292353, 9223372036854808585, 138, 136, 2147516425, 2147483658, 2147516555, 9223372036854775947, 9223372036854808713, 9223372036854808579, 9223372036854808578, 9223372036854775936, 32778, 9223372039002259466, 9223372039002292353, 9223372036854808704, 2147483649, 9223372039002292232], rfl, h⟩⟩
theorem cons_c    : Fun false Try.prog 24 [] (fun d => d = (encArr 24 (D.k .u64)) (consF )) :=
  Fun.at (enc := fun r => (encArr 24 (D.k .u64)) r) (v := consF ) (cons_w   (fun r => r = consF ) (cons_ok  _  rfl))

set_option maxHeartbeats 2000000 in
set_option maxRecDepth 10000 in
theorem round_w (s_ : (List Int)) (offset : (List Int)) (constant : Int)  (Q : (List Int) → Prop) (h : round_vc s_ offset constant Q) : Fun false Try.prog 25 [(encArr 25 (D.k .u64)) s_, (encArr 25 D.i) offset, (D.k .u64) constant] (fun d => ∃ r, d = (encArr 25 (D.k .u64)) r ∧ Q r) := by
  unfold round_vc at h
  refine Fun.of_body Try.func25 rfl Try.ntmps25 rfl ?_
  refine wpA_seq ?_
  refine wpA_region ?_
  refine wpL_op rfl rfl rfl (OpA.bx (sz := 25) rfl (by with_reducible conv => lhs; whnf) (.of rfl) (fun c1 _ => ?_))
  refine wpL_op rfl rfl rfl (OpA.bx (sz := 25) rfl (by with_reducible conv => lhs; whnf) (.of rfl) (fun c2 _ => ?_))
  refine wpL_op rfl rfl rfl (OpA.alloc (sz := 25) (d := (encArr 25 (D.k .u64)) (List.replicate 25 0)) rfl tz26 (fun _ _ => .agg (.cons (.v _) (.cons (.v _) (.cons (.v _) (.cons (.v _) (.cons (.v _) (.cons (.v _) (.cons (.v _) (.cons (.v _) (.cons (.v _) (.cons (.v _) (.cons (.v _) (.cons (.v _) (.cons (.v _) (.cons (.v _) (.cons (.v _) (.cons (.v _) (.cons (.v _) (.cons (.v _) (.cons (.v _) (.cons (.v _) (.cons (.v _) (.cons (.v _) (.cons (.v _) (.cons (.v _) (.cons (.v _) .nil)))))))))))))))))))))))))) (.of rfl) (fun c3 _ => ?_))
  refine wpL_nil ?_
  refine wpA_seq ?_
  refine wpA_region ?_
  refine wpL_op rfl rfl rfl (OpA.alloc (sz := 5) (d := (encArr 5 (D.k .u64)) (List.replicate 5 0)) rfl tz63 (fun _ _ => .agg (.cons (.v _) (.cons (.v _) (.cons (.v _) (.cons (.v _) (.cons (.v _) .nil)))))) (.of rfl) (fun c4 _ => ?_))
  refine wpL_nil ?_
  iterate 2 refine wpA_seq ?_
  refine wpA_region ?_
  refine wpL_op rfl rfl rfl (OpA.load_whole rfl ti26 rfl rfl (.tail (.tail (.tail .head))) rfl ⟨_, rfl⟩ ?_)
  refine wpL_op rfl rfl rfl (OpA.mv rfl (by with_reducible conv => lhs; whnf) ?_)
  refine wpL_nil ?_
  refine wpA_block ?_
  refine wpA_lfp (S := (List Int) × Int) (G := Unit) () (fun gg ss => asg [(2, (D.k .u64) constant), (3, .ptr c1 25 0 0), (4, .ptr c2 25 0 0), (6, .ptr c3 25 0 0), (7, .ptr c4 5 0 0), (17, (encArr 25 (D.k .u64)) s_), (18, D.i ss.2)]) (fun gg ss => [(c4, .cells 5 [(encArr 5 (D.k .u64)) ss.1]), (c3, .cells 25 [(encArr 25 (D.k .u64)) (List.replicate 25 0)]), (c2, .cells 25 [(encArr 25 D.i) offset]), (c1, .cells 25 [(encArr 25 (D.k .u64)) s_])]) h (Cov.asg ⟨rfl, rfl, rfl, rfl, rfl, rfl, rfl, trivial⟩) (.refl _) ?_
  rintro again5 _ ⟨c, x⟩ h
  have h : round_L1 s_ offset constant Q again5 c x := h
  unfold round_L1 at h
  show wpA _ _ _ _ (asg [(2, (D.k .u64) constant), (3, .ptr c1 25 0 0), (4, .ptr c2 25 0 0), (6, .ptr c3 25 0 0), (7, .ptr c4 5 0 0), (17, (encArr 25 (D.k .u64)) s_), (18, D.i x)]) [(c4, .cells 5 [(encArr 5 (D.k .u64)) c]), (c3, .cells 25 [(encArr 25 (D.k .u64)) (List.replicate 25 0)]), (c2, .cells 25 [(encArr 25 D.i) offset]), (c1, .cells 25 [(encArr 25 (D.k .u64)) s_])]
  refine wpA_seq ?_
  refine wpA_region ?_
  refine wpL_op rfl rfl rfl (OpA.lss rfl rfl rfl ?_)
  refine wpL_nil ?_
  refine wpA_seq ?_
  refine wpA_cond rfl (fun b6 => ?_) (fun b6 => ?_)
  have h := h.1 (decT b6)
  refine wpA_skip ?_
  refine wpA_seq ?_
  refine wpA_block ?_
  refine wpA_seq ?_
  obtain ⟨q1, h⟩ := h
  refine wpA_region ?_
  refine wpL_op rfl rfl rfl (OpA.mv rfl (by with_reducible conv => lhs; whnf) ?_)
  refine wpL_op rfl rfl rfl (OpA.aindexV rfl td26 ti25 rfl rfl q1 ?_)
  refine wpL_op rfl rfl rfl (OpA.asn rfl (by with_reducible conv => lhs; whnf) ?_)
  refine wpL_op rfl rfl rfl (OpA.asn rfl (by with_reducible conv => lhs; whnf) ?_)
  refine wpL_nil ?_
  obtain ⟨q1, q2, q3, h⟩ := h
  refine wpA_region ?_
  refine wpL_op rfl rfl rfl (OpA.mv rfl (by with_reducible conv => lhs; whnf) ?_)
  refine wpL_op rfl rfl rfl (OpA.remN rfl rfl rfl q1 ?_)
  refine wpL_op rfl rfl rfl (OpA.aixV rfl td63 ti25 rfl rfl q2 ?_)
  refine wpL_op rfl rfl rfl (OpA.load rfl ti25 rfl .head rfl (arrAt0 q2) ?_)
  refine wpL_op rfl rfl rfl (OpA.mv rfl (by with_reducible conv => lhs; whnf) ?_)
  refine wpL_op rfl rfl rfl (OpA.bxor rfl rfl rfl ?_)
  refine wpL_op rfl rfl rfl (OpA.aixV rfl td63 ti25 rfl rfl q2 ?_)
  refine wpL_eff rfl rfl (OpA.store (e := (encArr 5 (D.k .u64)) c) (e' := (encArr 5 (D.k .u64)) (si c (x % 5) (gxor .u64 (gi c (x % 5)) (gi s_ x)))) rfl ti25 rfl (.of rfl) rfl (arrFit0 q2) (arrSet0 q2 q3) .head ?_)
  refine wpL_nil ?_
  obtain ⟨q1, h⟩ := h
  refine wpA_region ?_
  refine wpL_op rfl rfl rfl (OpA.addi rfl rfl rfl q1 ?_)
  refine wpL_op rfl rfl rfl (OpA.mv rfl (by with_reducible conv => lhs; whnf) ?_)
  refine wpL_nil ?_
  exact ⟨(), ((si c (x % 5) (gxor .u64 (gi c (x % 5)) (gi s_ x))), (x + 1)), h, (Cov.asg ⟨rfl, rfl, rfl, rfl, rfl, rfl, rfl, trivial⟩), (.refl _)⟩
  have h := h.2 (decF b6)
  refine wpA_exit ?_
  refine wpA_seq ?_
  refine wpA_region ?_
  refine wpL_op rfl rfl rfl (OpA.alloc (sz := 25) (d := (encArr 25 (D.k .u64)) (List.replicate 25 0)) rfl tz26 (fun _ _ => .agg (.cons (.v _) (.cons (.v _) (.cons (.v _) (.cons (.v _) (.cons (.v _) (.cons (.v _) (.cons (.v _) (.cons (.v _) (.cons (.v _) (.cons (.v _) (.cons (.v _) (.cons (.v _) (.cons (.v _) (.cons (.v _) (.cons (.v _) (.cons (.v _) (.cons (.v _) (.cons (.v _) (.cons (.v _) (.cons (.v _) (.cons (.v _) (.cons (.v _) (.cons (.v _) (.cons (.v _) (.cons (.v _) .nil)))))))))))))))))))))))))) (.of rfl) (fun c7 _ => ?_))
  refine wpL_nil ?_
  iterate 2 refine wpA_seq ?_
  refine wpA_region ?_
  refine wpL_op rfl rfl rfl (OpA.load_whole rfl ti26 rfl rfl (.tail (.tail (.tail (.tail .head)))) rfl ⟨_, rfl⟩ ?_)
  refine wpL_op rfl rfl rfl (OpA.mv rfl (by with_reducible conv => lhs; whnf) ?_)
  refine wpL_nil ?_
  refine wpA_block ?_
  refine wpA_lfp (S := (List Int) × Int) (G := Unit) () (fun gg ss => asg [(2, (D.k .u64) constant), (3, .ptr c1 25 0 0), (4, .ptr c2 25 0 0), (6, .ptr c3 25 0 0), (7, .ptr c4 5 0 0), (10, .ptr c7 25 0 0), (30, (encArr 25 (D.k .u64)) s_), (31, D.i ss.2)]) (fun gg ss => [(c7, .cells 25 [(encArr 25 (D.k .u64)) ss.1]), (c4, .cells 5 [(encArr 5 (D.k .u64)) c]), (c3, .cells 25 [(encArr 25 (D.k .u64)) (List.replicate 25 0)]), (c2, .cells 25 [(encArr 25 D.i) offset]), (c1, .cells 25 [(encArr 25 (D.k .u64)) s_])]) h (Cov.asg ⟨rfl, rfl, rfl, rfl, rfl, rfl, rfl, rfl, trivial⟩) (.refl _) ?_
  rintro again8 _ ⟨t, x1⟩ h
  have h : round_L2 s_ offset constant c Q again8 t x1 := h
  unfold round_L2 at h
  show wpA _ _ _ _ (asg [(2, (D.k .u64) constant), (3, .ptr c1 25 0 0), (4, .ptr c2 25 0 0), (6, .ptr c3 25 0 0), (7, .ptr c4 5 0 0), (10, .ptr c7 25 0 0), (30, (encArr 25 (D.k .u64)) s_), (31, D.i x1)]) [(c7, .cells 25 [(encArr 25 (D.k .u64)) t]), (c4, .cells 5 [(encArr 5 (D.k .u64)) c]), (c3, .cells 25 [(encArr 25 (D.k .u64)) (List.replicate 25 0)]), (c2, .cells 25 [(encArr 25 D.i) offset]), (c1, .cells 25 [(encArr 25 (D.k .u64)) s_])]
  refine wpA_seq ?_
  refine wpA_region ?_
  refine wpL_op rfl rfl rfl (OpA.lss rfl rfl rfl ?_)
  refine wpL_nil ?_
  refine wpA_seq ?_
  refine wpA_cond rfl (fun b9 => ?_) (fun b9 => ?_)
  have h := h.1 (decT b9)
  refine wpA_skip ?_
  refine wpA_seq ?_
  refine wpA_block ?_
  refine wpA_seq ?_
  obtain ⟨q1, h⟩ := h
  refine wpA_region ?_
  refine wpL_op rfl rfl rfl (OpA.mv rfl (by with_reducible conv => lhs; whnf) ?_)
  refine wpL_op rfl rfl rfl (OpA.aindexV rfl td26 ti25 rfl rfl q1 ?_)
  refine wpL_op rfl rfl rfl (OpA.asn rfl (by with_reducible conv => lhs; whnf) ?_)
  refine wpL_op rfl rfl rfl (OpA.asn rfl (by with_reducible conv => lhs; whnf) ?_)
  refine wpL_nil ?_
  refine wpA_seq ?_
  obtain ⟨q1, q2, h⟩ := h
  refine wpA_region ?_
  refine wpL_op rfl rfl rfl (OpA.mv rfl (by with_reducible conv => lhs; whnf) ?_)
  refine wpL_op rfl rfl rfl (OpA.remN rfl rfl rfl q1 ?_)
  refine wpL_op rfl rfl rfl (OpA.mv rfl (by with_reducible conv => lhs; whnf) ?_)
  refine wpL_op rfl rfl rfl (OpA.quoN rfl rfl rfl q2 ?_)
  refine wpL_op rfl rfl rfl (OpA.asn rfl (by with_reducible conv => lhs; whnf) ?_)
  refine wpL_op rfl rfl rfl (OpA.asn rfl (by with_reducible conv => lhs; whnf) ?_)
  refine wpL_nil ?_
  refine wpA_seq ?_
  obtain ⟨q1, q2, q3, q4, q5, q6, h⟩ := h
  refine wpA_draw (m := 15) mo (by kernel_rfl) rfl ?_
  iterate 2 refine DetK.op rfl (OpA.mv rfl (by with_reducible conv => lhs; whnf) ⟨rfl, rfl⟩) ?_
  refine DetK.op rfl (OpA.addi rfl rfl rfl q1 ⟨rfl, rfl⟩) ?_
  refine DetK.op rfl (OpA.remN rfl rfl rfl q2 ⟨rfl, rfl⟩) ?_
  refine DetK.op rfl (OpA.aixV rfl td63 ti25 rfl rfl q3 ⟨rfl, rfl⟩) ?_
  refine DetK.op rfl (OpA.load rfl ti25 rfl (.tail .head) rfl (arrAt0 q3) ⟨rfl, rfl⟩) ?_
  refine DetK.op rfl (OpA.mv rfl (by with_reducible conv => lhs; whnf) ⟨rfl, rfl⟩) ?_
  refine DetK.op rfl (OpA.addi rfl rfl rfl q4 ⟨rfl, rfl⟩) ?_
  refine DetK.op rfl (OpA.remN rfl rfl rfl q5 ⟨rfl, rfl⟩) ?_
  refine DetK.op rfl (OpA.aixV rfl td63 ti25 rfl rfl q6 ⟨rfl, rfl⟩) ?_
  refine DetK.op rfl (OpA.load rfl ti25 rfl (.tail .head) rfl (arrAt0 q6) ⟨rfl, rfl⟩) ?_
  refine DetK.op rfl (OpA.call rfl rfl rfl en34 (rot_c (gi c (((x1 % 5) + 1) % 5)) 1 ) (by rintro _ rfl; exact ⟨rfl, rfl⟩)) ?_
  iterate 2 refine DetK.op rfl (OpA.bxor rfl rfl rfl ⟨rfl, rfl⟩) ?_
  refine DetK.op rfl (OpA.asn rfl (by with_reducible conv => lhs; whnf) ⟨rfl, rfl⟩) ?_
  refine DetK.nil ?_
  refine wpL_nil ?_
  obtain ⟨q1, q2, q3, q4, q5, q6, q7, q8, q9, h⟩ := h
  refine wpA_region ?_
  refine wpL_op rfl rfl rfl (OpA.mv rfl (by with_reducible conv => lhs; whnf) ?_)
  refine wpL_op rfl rfl rfl (OpA.mv rfl (by with_reducible conv => lhs; whnf) ?_)
  refine wpL_op rfl rfl rfl (OpA.muli rfl rfl rfl q1 ?_)
  refine wpL_op rfl rfl rfl (OpA.mv rfl (by with_reducible conv => lhs; whnf) ?_)
  refine wpL_op rfl rfl rfl (OpA.muli rfl rfl rfl q2 ?_)
  refine wpL_op rfl rfl rfl (OpA.addi rfl rfl rfl q3 ?_)
  refine wpL_op rfl rfl rfl (OpA.remN rfl rfl rfl q4 ?_)
  refine wpL_op rfl rfl rfl (OpA.muli rfl rfl rfl q5 ?_)
  refine wpL_op rfl rfl rfl (OpA.addi rfl rfl rfl q6 ?_)
  refine wpL_op rfl rfl rfl (OpA.mv rfl (by with_reducible conv => lhs; whnf) ?_)
  refine wpL_op rfl rfl rfl (OpA.mv rfl (by with_reducible conv => lhs; whnf) ?_)
  refine wpL_op rfl rfl rfl (OpA.aixV rfl td44 ti3 rfl rfl q7 ?_)
  refine wpL_op rfl rfl rfl (OpA.load rfl ti3 rfl (.tail (.tail (.tail .head))) rfl (arrAt0 q7) ?_)
  refine wpL_op rfl rfl rfl (OpA.call rfl rfl rfl en34 (rot_c (gxor .u64 (gi s_ x1) (gxor .u64 (gi c (((x1 % 5) + 4) % 5)) (rotF (gi c (((x1 % 5) + 1) % 5)) 1))) (gi offset x1) ) ?_)
  rintro _ rfl
  refine wpL_op rfl rfl rfl (OpA.aixV rfl td26 ti25 rfl rfl q8 ?_)
  refine wpL_eff rfl rfl (OpA.store (e := (encArr 25 (D.k .u64)) t) (e' := (encArr 25 (D.k .u64)) (si t ((x1 / 5) + (5 * (((2 * (x1 % 5)) + (3 * (x1 / 5))) % 5))) (rotF (gxor .u64 (gi s_ x1) (gxor .u64 (gi c (((x1 % 5) + 4) % 5)) (rotF (gi c (((x1 % 5) + 1) % 5)) 1))) (gi offset x1)))) rfl ti25 rfl (.of rfl) rfl (arrFit0 q8) (arrSet0 q8 q9) .head ?_)
  refine wpL_nil ?_
  obtain ⟨q1, h⟩ := h
  refine wpA_region ?_
  refine wpL_op rfl rfl rfl (OpA.addi rfl rfl rfl q1 ?_)
  refine wpL_op rfl rfl rfl (OpA.mv rfl (by with_reducible conv => lhs; whnf) ?_)
  refine wpL_nil ?_
  exact ⟨(), ((si t ((x1 / 5) + (5 * (((2 * (x1 % 5)) + (3 * (x1 / 5))) % 5))) (rotF (gxor .u64 (gi s_ x1) (gxor .u64 (gi c (((x1 % 5) + 4) % 5)) (rotF (gi c (((x1 % 5) + 1) % 5)) 1))) (gi offset x1))), (x1 + 1)), h, (Cov.asg ⟨rfl, rfl, rfl, rfl, rfl, rfl, rfl, rfl, trivial⟩), (.refl _)⟩
  have h := h.2 (decF b9)
  refine wpA_exit ?_
  iterate 2 refine wpA_seq ?_
  refine wpA_region ?_
  refine wpL_op rfl rfl rfl (OpA.mv rfl (by with_reducible conv => lhs; whnf) ?_)
  refine wpL_nil ?_
  refine wpA_block ?_
  refine wpA_lfp (S := (List Int) × Int) (G := Unit) () (fun gg ss => asg [(2, (D.k .u64) constant), (3, .ptr c1 25 0 0), (6, .ptr c3 25 0 0), (10, .ptr c7 25 0 0), (69, D.i ss.2)]) (fun gg ss => [(c7, .cells 25 [(encArr 25 (D.k .u64)) t]), (c4, .cells 5 [(encArr 5 (D.k .u64)) c]), (c3, .cells 25 [(encArr 25 (D.k .u64)) (List.replicate 25 0)]), (c2, .cells 25 [(encArr 25 D.i) offset]), (c1, .cells 25 [(encArr 25 (D.k .u64)) ss.1])]) h (Cov.asg ⟨rfl, rfl, rfl, rfl, rfl, trivial⟩) (.refl _) ?_
  rintro again10 _ ⟨s_1, x2⟩ h
  have h : round_L3 constant t Q again10 s_1 x2 := h
  unfold round_L3 at h
  show wpA _ _ _ _ (asg [(2, (D.k .u64) constant), (3, .ptr c1 25 0 0), (6, .ptr c3 25 0 0), (10, .ptr c7 25 0 0), (69, D.i x2)]) [(c7, .cells 25 [(encArr 25 (D.k .u64)) t]), (c4, .cells 5 [(encArr 5 (D.k .u64)) c]), (c3, .cells 25 [(encArr 25 (D.k .u64)) (List.replicate 25 0)]), (c2, .cells 25 [(encArr 25 D.i) offset]), (c1, .cells 25 [(encArr 25 (D.k .u64)) s_1])]
  refine wpA_seq ?_
  refine wpA_region ?_
  refine wpL_op rfl rfl rfl (OpA.lss rfl rfl rfl ?_)
  refine wpL_nil ?_
  refine wpA_seq ?_
  refine wpA_cond rfl (fun b11 => ?_) (fun b11 => ?_)
  have h := h.1 (decT b11)
  refine wpA_skip ?_
  refine wpA_seq ?_
  refine wpA_block ?_
  refine wpA_seq ?_
  refine wpA_region ?_
  refine wpL_op rfl rfl rfl (OpA.mv rfl (by with_reducible conv => lhs; whnf) ?_)
  refine wpL_op rfl rfl rfl (OpA.asn rfl (by with_reducible conv => lhs; whnf) ?_)
  refine wpL_nil ?_
  refine wpA_seq ?_
  obtain ⟨q1, q2, h⟩ := h
  refine wpA_region ?_
  refine wpL_op rfl rfl rfl (OpA.mv rfl (by with_reducible conv => lhs; whnf) ?_)
  refine wpL_op rfl rfl rfl (OpA.mv rfl (by with_reducible conv => lhs; whnf) ?_)
  refine wpL_op rfl rfl rfl (OpA.remN rfl rfl rfl q1 ?_)
  refine wpL_op rfl rfl rfl (OpA.subi rfl rfl rfl q2 ?_)
  refine wpL_op rfl rfl rfl (OpA.asn rfl (by with_reducible conv => lhs; whnf) ?_)
  refine wpL_nil ?_
  obtain ⟨q1, q2, q3, q4, q5, q6, q7, q8, q9, q10, h⟩ := h
  refine wpA_draw (m := 22) mo (by kernel_rfl) rfl ?_
  iterate 2 refine DetK.op rfl (OpA.mv rfl (by with_reducible conv => lhs; whnf) ⟨rfl, rfl⟩) ?_
  refine DetK.op rfl (OpA.aixV rfl td26 ti25 rfl rfl q1 ⟨rfl, rfl⟩) ?_
  refine DetK.op rfl (OpA.load rfl ti25 rfl .head rfl (arrAt0 q1) ⟨rfl, rfl⟩) ?_
  iterate 2 refine DetK.op rfl (OpA.mv rfl (by with_reducible conv => lhs; whnf) ⟨rfl, rfl⟩) ?_
  refine DetK.op rfl (OpA.addi rfl rfl rfl q2 ⟨rfl, rfl⟩) ?_
  refine DetK.op rfl (OpA.remN rfl rfl rfl q3 ⟨rfl, rfl⟩) ?_
  refine DetK.op rfl (OpA.addi rfl rfl rfl q4 ⟨rfl, rfl⟩) ?_
  refine DetK.op rfl (OpA.aixV rfl td26 ti25 rfl rfl q5 ⟨rfl, rfl⟩) ?_
  refine DetK.op rfl (OpA.load rfl ti25 rfl .head rfl (arrAt0 q5) ⟨rfl, rfl⟩) ?_
  refine DetK.op rfl (OpA.unot rfl rfl ⟨rfl, rfl⟩) ?_
  iterate 2 refine DetK.op rfl (OpA.mv rfl (by with_reducible conv => lhs; whnf) ⟨rfl, rfl⟩) ?_
  refine DetK.op rfl (OpA.addi rfl rfl rfl q6 ⟨rfl, rfl⟩) ?_
  refine DetK.op rfl (OpA.remN rfl rfl rfl q7 ⟨rfl, rfl⟩) ?_
  refine DetK.op rfl (OpA.addi rfl rfl rfl q8 ⟨rfl, rfl⟩) ?_
  refine DetK.op rfl (OpA.aixV rfl td26 ti25 rfl rfl q9 ⟨rfl, rfl⟩) ?_
  refine DetK.op rfl (OpA.load rfl ti25 rfl .head rfl (arrAt0 q9) ⟨rfl, rfl⟩) ?_
  refine DetK.op rfl (OpA.band rfl rfl rfl ⟨rfl, rfl⟩) ?_
  refine DetK.op rfl (OpA.bxor rfl rfl rfl ⟨rfl, rfl⟩) ?_
  refine DetK.op rfl (OpA.aixV rfl td26 ti25 rfl rfl q1 ⟨rfl, rfl⟩) ?_
  refine DetK.nil ?_
  refine wpL_eff rfl rfl (OpA.store (e := (encArr 25 (D.k .u64)) s_1) (e' := (encArr 25 (D.k .u64)) (si s_1 x2 (gxor .u64 (gi t x2) (gand .u64 (gnot .u64 (gi t ((x2 - (x2 % 5)) + ((x2 + 1) % 5)))) (gi t ((x2 - (x2 % 5)) + ((x2 + 2) % 5))))))) rfl ti25 rfl (.of rfl) rfl (arrFit0 q1) (arrSet0 q1 q10) (.tail (.tail (.tail (.tail .head)))) ?_)
  refine wpL_nil ?_
  obtain ⟨q1, h⟩ := h
  refine wpA_region ?_
  refine wpL_op rfl rfl rfl (OpA.addi rfl rfl rfl q1 ?_)
  refine wpL_op rfl rfl rfl (OpA.mv rfl (by with_reducible conv => lhs; whnf) ?_)
  refine wpL_nil ?_
  exact ⟨(), ((si s_1 x2 (gxor .u64 (gi t x2) (gand .u64 (gnot .u64 (gi t ((x2 - (x2 % 5)) + ((x2 + 1) % 5)))) (gi t ((x2 - (x2 % 5)) + ((x2 + 2) % 5)))))), (x2 + 1)), h, (Cov.asg ⟨rfl, rfl, rfl, rfl, rfl, trivial⟩), (.refl _)⟩
  have h := h.2 (decF b11)
  refine wpA_exit ?_
  refine wpA_seq ?_
  obtain ⟨q1, q2, h⟩ := h
  refine wpA_region ?_
  refine wpL_op rfl rfl rfl (OpA.aixV rfl td26 ti25 rfl rfl q1 ?_)
  refine wpL_op rfl rfl rfl (OpA.load rfl ti25 rfl (.tail (.tail (.tail (.tail .head)))) rfl (arrAt0 q1) ?_)
  refine wpL_op rfl rfl rfl (OpA.mv rfl (by with_reducible conv => lhs; whnf) ?_)
  refine wpL_op rfl rfl rfl (OpA.bxor rfl rfl rfl ?_)
  refine wpL_op rfl rfl rfl (OpA.aixV rfl td26 ti25 rfl rfl q1 ?_)
  refine wpL_eff rfl rfl (OpA.store (e := (encArr 25 (D.k .u64)) s_1) (e' := (encArr 25 (D.k .u64)) (si s_1 0 (gxor .u64 (gi s_1 0) constant))) rfl ti25 rfl (.of rfl) rfl (arrFit0 q1) (arrSet0 q1 q2) (.tail (.tail (.tail (.tail .head)))) ?_)
  refine wpL_nil ?_
  refine wpA_seq ?_
  refine wpA_region ?_
  refine wpL_op rfl rfl rfl (OpA.load_whole rfl ti26 rfl rfl (.tail (.tail (.tail (.tail .head)))) rfl ⟨_, rfl⟩ ?_)
  refine wpL_eff rfl rfl (OpA.storeW rfl ti26 rfl (by with_reducible conv => lhs; whnf) (.of rfl) rfl rfl (.tail (.tail .head)) ?_)
  refine wpL_nil ?_
  refine wpA_ret ?_
  exact ⟨_, (.cell (.whole ti26 rfl rfl (.tail (.tail .head)) rfl ⟨_, rfl⟩) .nil), _, (.same rfl .nil), ⟨(si s_1 0 (gxor .u64 (gi s_1 0) constant)), rfl, h⟩⟩
theorem round_c (s_ : (List Int)) (offset : (List Int)) (constant : Int)  (hp0 : s_.length = 25) : Fun false Try.prog 25 [(encArr 25 (D.k .u64)) s_, (encArr 25 D.i) offset, (D.k .u64) constant] (fun d => d = (encArr 25 (D.k .u64)) (roundF s_ offset constant)) :=
  Fun.at (enc := fun r => (encArr 25 (D.k .u64)) r) (v := roundF s_ offset constant) (round_w s_ offset constant  (fun r => r = roundF s_ offset constant) (round_ok s_ offset constant _ hp0 rfl))

set_option maxHeartbeats 2000000 in
set_option maxRecDepth 10000 in
theorem rround_w (s_ : (List Int)) (c : Int)  (Q : (List Int) → Prop) (h : rround_vc s_ c Q) : Fun false Try.prog 26 [(encArr 25 (D.k .u64)) s_, (D.k .u64) c] (fun d => ∃ r, d = (encArr 25 (D.k .u64)) r ∧ Q r) := by
  unfold rround_vc at h
  refine Fun.of_body Try.func26 rfl Try.ntmps26 rfl ?_
  refine wpA_seq ?_
  refine wpA_region ?_
  refine wpL_op rfl rfl rfl (OpA.bx (sz := 25) rfl (by with_reducible conv => lhs; whnf) (.of rfl) (fun c1 _ => ?_))
  refine wpL_op rfl rfl rfl (OpA.alloc (sz := 25) (d := (encArr 25 (D.k .u64)) (List.replicate 25 0)) rfl tz26 (fun _ _ => .agg (.cons (.v _) (.cons (.v _) (.cons (.v _) (.cons (.v _) (.cons (.v _) (.cons (.v _) (.cons (.v _) (.cons (.v _) (.cons (.v _) (.cons (.v _) (.cons (.v _) (.cons (.v _) (.cons (.v _) (.cons (.v _) (.cons (.v _) (.cons (.v _) (.cons (.v _) (.cons (.v _) (.cons (.v _) (.cons (.v _) (.cons (.v _) (.cons (.v _) (.cons (.v _) (.cons (.v _) (.cons (.v _) .nil)))))))))))))))))))))))))) (.of rfl) (fun c2 _ => ?_))
  refine wpL_nil ?_
  refine wpA_seq ?_
  refine wpA_region ?_
  refine wpL_op rfl rfl rfl (OpA.alloc (sz := 5) (d := (encArr 5 (D.k .u64)) (List.replicate 5 0)) rfl tz63 (fun _ _ => .agg (.cons (.v _) (.cons (.v _) (.cons (.v _) (.cons (.v _) (.cons (.v _) .nil)))))) (.of rfl) (fun c3 _ => ?_))
  refine wpL_nil ?_
  iterate 2 refine wpA_seq ?_
  refine wpA_region ?_
  refine wpL_op rfl rfl rfl (OpA.asn rfl (by with_reducible conv => lhs; whnf) ?_)
  refine wpL_nil ?_
  refine wpA_block ?_
  refine wpA_lfp (S := (List Int) × Int) (G := Unit) () (fun gg ss => asg [(1, (D.k .u64) c), (2, .ptr c1 25 0 0), (4, .ptr c2 25 0 0), (5, .ptr c3 5 0 0), (6, D.i ss.2)]) (fun gg ss => [(c3, .cells 5 [(encArr 5 (D.k .u64)) ss.1]), (c2, .cells 25 [(encArr 25 (D.k .u64)) (List.replicate 25 0)]), (c1, .cells 25 [(encArr 25 (D.k .u64)) s_])]) h (Cov.asg ⟨rfl, rfl, rfl, rfl, rfl, trivial⟩) (.refl _) ?_
  rintro again4 _ ⟨sum, x⟩ h
  have h : rround_L1 s_ c Q again4 sum x := h
  unfold rround_L1 at h
  show wpA _ _ _ _ (asg [(1, (D.k .u64) c), (2, .ptr c1 25 0 0), (4, .ptr c2 25 0 0), (5, .ptr c3 5 0 0), (6, D.i x)]) [(c3, .cells 5 [(encArr 5 (D.k .u64)) sum]), (c2, .cells 25 [(encArr 25 (D.k .u64)) (List.replicate 25 0)]), (c1, .cells 25 [(encArr 25 (D.k .u64)) s_])]
  iterate 2 refine wpA_seq ?_
  refine wpA_region ?_
  refine wpL_op rfl rfl rfl (OpA.mv rfl (by with_reducible conv => lhs; whnf) ?_)
  refine wpL_op rfl rfl rfl (OpA.lss rfl rfl rfl ?_)
  refine wpL_nil ?_
  refine wpA_cond rfl (fun b5 => ?_) (fun b5 => ?_)
  have h := h.1 (decT b5)
  refine wpA_skip ?_
  refine wpA_seq ?_
  refine wpA_block ?_
  obtain ⟨q1, q2, q3, q4, q5, q6, q7, q8, q9, q10, q11, h⟩ := h
  refine wpA_draw (m := 25) mo (by kernel_rfl) rfl ?_
  iterate 2 refine DetK.op rfl (OpA.mv rfl (by with_reducible conv => lhs; whnf) ⟨rfl, rfl⟩) ?_
  refine DetK.op rfl (OpA.aixV rfl td26 ti25 rfl rfl q1 ⟨rfl, rfl⟩) ?_
  refine DetK.op rfl (OpA.load rfl ti25 rfl (.tail (.tail .head)) rfl (arrAt0 q1) ⟨rfl, rfl⟩) ?_
  refine DetK.op rfl (OpA.mv rfl (by with_reducible conv => lhs; whnf) ⟨rfl, rfl⟩) ?_
  refine DetK.op rfl (OpA.addi rfl rfl rfl q2 ⟨rfl, rfl⟩) ?_
  refine DetK.op rfl (OpA.aixV rfl td26 ti25 rfl rfl q3 ⟨rfl, rfl⟩) ?_
  refine DetK.op rfl (OpA.load rfl ti25 rfl (.tail (.tail .head)) rfl (arrAt0 q3) ⟨rfl, rfl⟩) ?_
  refine DetK.op rfl (OpA.bxor rfl rfl rfl ⟨rfl, rfl⟩) ?_
  refine DetK.op rfl (OpA.mv rfl (by with_reducible conv => lhs; whnf) ⟨rfl, rfl⟩) ?_
  refine DetK.op rfl (OpA.addi rfl rfl rfl q4 ⟨rfl, rfl⟩) ?_
  refine DetK.op rfl (OpA.aixV rfl td26 ti25 rfl rfl q5 ⟨rfl, rfl⟩) ?_
  refine DetK.op rfl (OpA.load rfl ti25 rfl (.tail (.tail .head)) rfl (arrAt0 q5) ⟨rfl, rfl⟩) ?_
  refine DetK.op rfl (OpA.bxor rfl rfl rfl ⟨rfl, rfl⟩) ?_
  refine DetK.op rfl (OpA.mv rfl (by with_reducible conv => lhs; whnf) ⟨rfl, rfl⟩) ?_
  refine DetK.op rfl (OpA.addi rfl rfl rfl q6 ⟨rfl, rfl⟩) ?_
  refine DetK.op rfl (OpA.aixV rfl td26 ti25 rfl rfl q7 ⟨rfl, rfl⟩) ?_
  refine DetK.op rfl (OpA.load rfl ti25 rfl (.tail (.tail .head)) rfl (arrAt0 q7) ⟨rfl, rfl⟩) ?_
  refine DetK.op rfl (OpA.bxor rfl rfl rfl ⟨rfl, rfl⟩) ?_
  refine DetK.op rfl (OpA.mv rfl (by with_reducible conv => lhs; whnf) ⟨rfl, rfl⟩) ?_
  refine DetK.op rfl (OpA.addi rfl rfl rfl q8 ⟨rfl, rfl⟩) ?_
  refine DetK.op rfl (OpA.aixV rfl td26 ti25 rfl rfl q9 ⟨rfl, rfl⟩) ?_
  refine DetK.op rfl (OpA.load rfl ti25 rfl (.tail (.tail .head)) rfl (arrAt0 q9) ⟨rfl, rfl⟩) ?_
  refine DetK.op rfl (OpA.bxor rfl rfl rfl ⟨rfl, rfl⟩) ?_
  refine DetK.op rfl (OpA.aixV rfl td63 ti25 rfl rfl q10 ⟨rfl, rfl⟩) ?_
  refine DetK.nil ?_
  refine wpL_eff rfl rfl (OpA.store (e := (encArr 5 (D.k .u64)) sum) (e' := (encArr 5 (D.k .u64)) (si sum x (gxor .u64 (gxor .u64 (gxor .u64 (gxor .u64 (gi s_ x) (gi s_ (x + 5))) (gi s_ (x + 10))) (gi s_ (x + 15))) (gi s_ (x + 20))))) rfl ti25 rfl (.of rfl) rfl (arrFit0 q10) (arrSet0 q10 q11) .head ?_)
  refine wpL_nil ?_
  obtain ⟨q1, h⟩ := h
  refine wpA_region ?_
  refine wpL_op rfl rfl rfl (OpA.mv rfl (by with_reducible conv => lhs; whnf) ?_)
  refine wpL_op rfl rfl rfl (OpA.addi rfl rfl rfl q1 ?_)
  refine wpL_op rfl rfl rfl (OpA.asn rfl (by with_reducible conv => lhs; whnf) ?_)
  refine wpL_nil ?_
  exact ⟨(), ((si sum x (gxor .u64 (gxor .u64 (gxor .u64 (gxor .u64 (gi s_ x) (gi s_ (x + 5))) (gi s_ (x + 10))) (gi s_ (x + 15))) (gi s_ (x + 20)))), (x + 1)), h, (Cov.asg ⟨rfl, rfl, rfl, rfl, rfl, trivial⟩), (.refl _)⟩
  have h := h.2 (decF b5)
  refine wpA_exit ?_
  refine wpA_seq ?_
  refine wpA_region ?_
  refine wpL_op rfl rfl rfl (OpA.alloc (sz := 25) (d := (encArr 25 (D.k .u64)) (List.replicate 25 0)) rfl tz26 (fun _ _ => .agg (.cons (.v _) (.cons (.v _) (.cons (.v _) (.cons (.v _) (.cons (.v _) (.cons (.v _) (.cons (.v _) (.cons (.v _) (.cons (.v _) (.cons (.v _) (.cons (.v _) (.cons (.v _) (.cons (.v _) (.cons (.v _) (.cons (.v _) (.cons (.v _) (.cons (.v _) (.cons (.v _) (.cons (.v _) (.cons (.v _) (.cons (.v _) (.cons (.v _) (.cons (.v _) (.cons (.v _) (.cons (.v _) .nil)))))))))))))))))))))))))) (.of rfl) (fun c6 _ => ?_))
  refine wpL_nil ?_
  iterate 2 refine wpA_seq ?_
  refine wpA_region ?_
  refine wpL_op rfl rfl rfl (OpA.asn rfl (by with_reducible conv => lhs; whnf) ?_)
  refine wpL_nil ?_
  refine wpA_block ?_
  refine wpA_lfp (S := (List Int) × Int) (G := Unit) () (fun gg ss => asg [(1, (D.k .u64) c), (2, .ptr c1 25 0 0), (4, .ptr c2 25 0 0), (5, .ptr c3 5 0 0), (7, .ptr c6 25 0 0), (8, D.i ss.2)]) (fun gg ss => [(c6, .cells 25 [(encArr 25 (D.k .u64)) ss.1]), (c3, .cells 5 [(encArr 5 (D.k .u64)) sum]), (c2, .cells 25 [(encArr 25 (D.k .u64)) (List.replicate 25 0)]), (c1, .cells 25 [(encArr 25 (D.k .u64)) s_])]) h (Cov.asg ⟨rfl, rfl, rfl, rfl, rfl, rfl, trivial⟩) (.refl _) ?_
  rintro again7 _ ⟨moved, x1⟩ h
  have h : rround_L2 s_ c sum Q again7 moved x1 := h
  unfold rround_L2 at h
  show wpA _ _ _ _ (asg [(1, (D.k .u64) c), (2, .ptr c1 25 0 0), (4, .ptr c2 25 0 0), (5, .ptr c3 5 0 0), (7, .ptr c6 25 0 0), (8, D.i x1)]) [(c6, .cells 25 [(encArr 25 (D.k .u64)) moved]), (c3, .cells 5 [(encArr 5 (D.k .u64)) sum]), (c2, .cells 25 [(encArr 25 (D.k .u64)) (List.replicate 25 0)]), (c1, .cells 25 [(encArr 25 (D.k .u64)) s_])]
  iterate 2 refine wpA_seq ?_
  refine wpA_region ?_
  refine wpL_op rfl rfl rfl (OpA.mv rfl (by with_reducible conv => lhs; whnf) ?_)
  refine wpL_op rfl rfl rfl (OpA.lss rfl rfl rfl ?_)
  refine wpL_nil ?_
  refine wpA_cond rfl (fun b8 => ?_) (fun b8 => ?_)
  have h := h.1 (decT b8)
  refine wpA_skip ?_
  refine wpA_seq ?_
  refine wpA_block ?_
  refine wpA_seq ?_
  obtain ⟨q1, q2, q3, q4, q5, q6, q7, q8, h⟩ := h
  refine wpA_draw (m := 13) mo (by kernel_rfl) rfl ?_
  refine DetK.op rfl (OpA.mv rfl (by with_reducible conv => lhs; whnf) ⟨rfl, rfl⟩) ?_
  refine DetK.op rfl (OpA.addi rfl rfl rfl q1 ⟨rfl, rfl⟩) ?_
  refine DetK.op rfl (OpA.remN rfl rfl rfl q2 ⟨rfl, rfl⟩) ?_
  refine DetK.op rfl (OpA.aixV rfl td63 ti25 rfl rfl q3 ⟨rfl, rfl⟩) ?_
  refine DetK.op rfl (OpA.load rfl ti25 rfl (.tail .head) rfl (arrAt0 q3) ⟨rfl, rfl⟩) ?_
  refine DetK.op rfl (OpA.mv rfl (by with_reducible conv => lhs; whnf) ⟨rfl, rfl⟩) ?_
  refine DetK.op rfl (OpA.addi rfl rfl rfl q4 ⟨rfl, rfl⟩) ?_
  refine DetK.op rfl (OpA.remN rfl rfl rfl q5 ⟨rfl, rfl⟩) ?_
  refine DetK.op rfl (OpA.aixV rfl td63 ti25 rfl rfl q6 ⟨rfl, rfl⟩) ?_
  refine DetK.op rfl (OpA.load rfl ti25 rfl (.tail .head) rfl (arrAt0 q6) ⟨rfl, rfl⟩) ?_
  refine DetK.op rfl (OpA.call rfl rfl rfl en35 (rrot_c (gi sum ((x1 + 1) % 5)) 1 q7 q8) (by rintro _ rfl; exact ⟨rfl, rfl⟩)) ?_
  refine DetK.op rfl (OpA.bxor rfl rfl rfl ⟨rfl, rfl⟩) ?_
  refine DetK.op rfl (OpA.asn rfl (by with_reducible conv => lhs; whnf) ⟨rfl, rfl⟩) ?_
  refine DetK.nil ?_
  refine wpL_nil ?_
  refine wpA_seq ?_
  refine wpA_region ?_
  refine wpL_op rfl rfl rfl (OpA.asn rfl (by with_reducible conv => lhs; whnf) ?_)
  refine wpL_nil ?_
  refine wpA_block ?_
  refine wpA_lfp (S := (List Int) × Int) (G := Unit) () (fun gg ss => asg [(1, (D.k .u64) c), (2, .ptr c1 25 0 0), (4, .ptr c2 25 0 0), (5, .ptr c3 5 0 0), (7, .ptr c6 25 0 0), (8, D.i x1), (9, (D.k .u64) (gxor .u64 (gi sum ((x1 + 4) % 5)) (rotF (gi sum ((x1 + 1) % 5)) 1))), (10, D.i ss.2)]) (fun gg ss => [(c6, .cells 25 [(encArr 25 (D.k .u64)) ss.1]), (c3, .cells 5 [(encArr 5 (D.k .u64)) sum]), (c2, .cells 25 [(encArr 25 (D.k .u64)) (List.replicate 25 0)]), (c1, .cells 25 [(encArr 25 (D.k .u64)) s_])]) h (Cov.asg ⟨rfl, rfl, rfl, rfl, rfl, rfl, rfl, rfl, trivial⟩) (.refl _) ?_
  rintro again9 _ ⟨moved1, y⟩ h
  have h : rround_L3 s_ sum x1 again7 again9 moved1 y := h
  unfold rround_L3 at h
  show wpA _ _ _ _ (asg [(1, (D.k .u64) c), (2, .ptr c1 25 0 0), (4, .ptr c2 25 0 0), (5, .ptr c3 5 0 0), (7, .ptr c6 25 0 0), (8, D.i x1), (9, (D.k .u64) (gxor .u64 (gi sum ((x1 + 4) % 5)) (rotF (gi sum ((x1 + 1) % 5)) 1))), (10, D.i y)]) [(c6, .cells 25 [(encArr 25 (D.k .u64)) moved1]), (c3, .cells 5 [(encArr 5 (D.k .u64)) sum]), (c2, .cells 25 [(encArr 25 (D.k .u64)) (List.replicate 25 0)]), (c1, .cells 25 [(encArr 25 (D.k .u64)) s_])]
  iterate 2 refine wpA_seq ?_
  refine wpA_region ?_
  refine wpL_op rfl rfl rfl (OpA.mv rfl (by with_reducible conv => lhs; whnf) ?_)
  refine wpL_op rfl rfl rfl (OpA.lss rfl rfl rfl ?_)
  refine wpL_nil ?_
  refine wpA_cond rfl (fun b10 => ?_) (fun b10 => ?_)
  have h := h.1 (decT b10)
  refine wpA_skip ?_
  refine wpA_seq ?_
  refine wpA_block ?_
  obtain ⟨q1, q2, q3, q4, q5, q6, q7, q8, q9, q10, q11, q12, q13, q14, q15, h⟩ := h
  refine wpA_draw (m := 22) mo (by kernel_rfl) rfl ?_
  iterate 2 refine DetK.op rfl (OpA.mv rfl (by with_reducible conv => lhs; whnf) ⟨rfl, rfl⟩) ?_
  refine DetK.op rfl (OpA.muli rfl rfl rfl q1 ⟨rfl, rfl⟩) ?_
  refine DetK.op rfl (OpA.mv rfl (by with_reducible conv => lhs; whnf) ⟨rfl, rfl⟩) ?_
  refine DetK.op rfl (OpA.muli rfl rfl rfl q2 ⟨rfl, rfl⟩) ?_
  refine DetK.op rfl (OpA.addi rfl rfl rfl q3 ⟨rfl, rfl⟩) ?_
  refine DetK.op rfl (OpA.remN rfl rfl rfl q4 ⟨rfl, rfl⟩) ?_
  refine DetK.op rfl (OpA.muli rfl rfl rfl q5 ⟨rfl, rfl⟩) ?_
  refine DetK.op rfl (OpA.addi rfl rfl rfl q6 ⟨rfl, rfl⟩) ?_
  iterate 2 refine DetK.op rfl (OpA.mv rfl (by with_reducible conv => lhs; whnf) ⟨rfl, rfl⟩) ?_
  refine DetK.op rfl (OpA.muli rfl rfl rfl q7 ⟨rfl, rfl⟩) ?_
  refine DetK.op rfl (OpA.addi rfl rfl rfl q8 ⟨rfl, rfl⟩) ?_
  refine DetK.op rfl (OpA.aixV rfl td26 ti25 rfl rfl q9 ⟨rfl, rfl⟩) ?_
  refine DetK.op rfl (OpA.load rfl ti25 rfl (.tail (.tail (.tail .head))) rfl (arrAt0 q9) ⟨rfl, rfl⟩) ?_
  refine DetK.op rfl (OpA.mv rfl (by with_reducible conv => lhs; whnf) ⟨rfl, rfl⟩) ?_
  refine DetK.op rfl (OpA.bxor rfl rfl rfl ⟨rfl, rfl⟩) ?_
  iterate 2 refine DetK.op rfl (OpA.mv rfl (by with_reducible conv => lhs; whnf) ⟨rfl, rfl⟩) ?_
  refine DetK.op rfl (OpA.call rfl rfl rfl en36 (off_c x1 y q10 q11) (by rintro _ rfl; exact ⟨rfl, rfl⟩)) ?_
  refine DetK.op rfl (OpA.call rfl rfl rfl en35 (rrot_c (gxor .u64 (gi s_ (x1 + (5 * y))) (gxor .u64 (gi sum ((x1 + 4) % 5)) (rotF (gi sum ((x1 + 1) % 5)) 1))) (offF x1 y) q12 q13) (by rintro _ rfl; exact ⟨rfl, rfl⟩)) ?_
  refine DetK.op rfl (OpA.aixV rfl td26 ti25 rfl rfl q14 ⟨rfl, rfl⟩) ?_
  refine DetK.nil ?_
  refine wpL_eff rfl rfl (OpA.store (e := (encArr 25 (D.k .u64)) moved1) (e' := (encArr 25 (D.k .u64)) (si moved1 (y + (5 * (((2 * x1) + (3 * y)) % 5))) (rotF (gxor .u64 (gi s_ (x1 + (5 * y))) (gxor .u64 (gi sum ((x1 + 4) % 5)) (rotF (gi sum ((x1 + 1) % 5)) 1))) (offF x1 y)))) rfl ti25 rfl (.of rfl) rfl (arrFit0 q14) (arrSet0 q14 q15) .head ?_)
  refine wpL_nil ?_
  obtain ⟨q1, h⟩ := h
  refine wpA_region ?_
  refine wpL_op rfl rfl rfl (OpA.mv rfl (by with_reducible conv => lhs; whnf) ?_)
  refine wpL_op rfl rfl rfl (OpA.addi rfl rfl rfl q1 ?_)
  refine wpL_op rfl rfl rfl (OpA.asn rfl (by with_reducible conv => lhs; whnf) ?_)
  refine wpL_nil ?_
  exact ⟨(), ((si moved1 (y + (5 * (((2 * x1) + (3 * y)) % 5))) (rotF (gxor .u64 (gi s_ (x1 + (5 * y))) (gxor .u64 (gi sum ((x1 + 4) % 5)) (rotF (gi sum ((x1 + 1) % 5)) 1))) (offF x1 y))), (y + 1)), h, (Cov.asg ⟨rfl, rfl, rfl, rfl, rfl, rfl, rfl, rfl, trivial⟩), (.refl _)⟩
  have h := h.2 (decF b10)
  refine wpA_exit ?_
  obtain ⟨q1, h⟩ := h
  refine wpA_region ?_
  refine wpL_op rfl rfl rfl (OpA.mv rfl (by with_reducible conv => lhs; whnf) ?_)
  refine wpL_op rfl rfl rfl (OpA.addi rfl rfl rfl q1 ?_)
  refine wpL_op rfl rfl rfl (OpA.asn rfl (by with_reducible conv => lhs; whnf) ?_)
  refine wpL_nil ?_
  exact ⟨(), (moved1, (x1 + 1)), h, (Cov.asg ⟨rfl, rfl, rfl, rfl, rfl, rfl, trivial⟩), (.refl _)⟩
  have h := h.2 (decF b8)
  refine wpA_exit ?_
  refine wpA_seq ?_
  refine wpA_region ?_
  refine wpL_op rfl rfl rfl (OpA.alloc (sz := 25) (d := (encArr 25 (D.k .u64)) (List.replicate 25 0)) rfl tz26 (fun _ _ => .agg (.cons (.v _) (.cons (.v _) (.cons (.v _) (.cons (.v _) (.cons (.v _) (.cons (.v _) (.cons (.v _) (.cons (.v _) (.cons (.v _) (.cons (.v _) (.cons (.v _) (.cons (.v _) (.cons (.v _) (.cons (.v _) (.cons (.v _) (.cons (.v _) (.cons (.v _) (.cons (.v _) (.cons (.v _) (.cons (.v _) (.cons (.v _) (.cons (.v _) (.cons (.v _) (.cons (.v _) (.cons (.v _) .nil)))))))))))))))))))))))))) (.of rfl) (fun c11 _ => ?_))
  refine wpL_nil ?_
  iterate 2 refine wpA_seq ?_
  refine wpA_region ?_
  refine wpL_op rfl rfl rfl (OpA.asn rfl (by with_reducible conv => lhs; whnf) ?_)
  refine wpL_nil ?_
  refine wpA_block ?_
  refine wpA_lfp (S := (List Int) × Int) (G := Unit) () (fun gg ss => asg [(1, (D.k .u64) c), (4, .ptr c2 25 0 0), (7, .ptr c6 25 0 0), (11, .ptr c11 25 0 0), (12, D.i ss.2)]) (fun gg ss => [(c11, .cells 25 [(encArr 25 (D.k .u64)) ss.1]), (c6, .cells 25 [(encArr 25 (D.k .u64)) moved]), (c3, .cells 5 [(encArr 5 (D.k .u64)) sum]), (c2, .cells 25 [(encArr 25 (D.k .u64)) (List.replicate 25 0)]), (c1, .cells 25 [(encArr 25 (D.k .u64)) s_])]) h (Cov.asg ⟨rfl, rfl, rfl, rfl, rfl, trivial⟩) (.refl _) ?_
  rintro again12 _ ⟨out, x2⟩ h
  have h : rround_L4 c moved Q again12 out x2 := h
  unfold rround_L4 at h
  show wpA _ _ _ _ (asg [(1, (D.k .u64) c), (4, .ptr c2 25 0 0), (7, .ptr c6 25 0 0), (11, .ptr c11 25 0 0), (12, D.i x2)]) [(c11, .cells 25 [(encArr 25 (D.k .u64)) out]), (c6, .cells 25 [(encArr 25 (D.k .u64)) moved]), (c3, .cells 5 [(encArr 5 (D.k .u64)) sum]), (c2, .cells 25 [(encArr 25 (D.k .u64)) (List.replicate 25 0)]), (c1, .cells 25 [(encArr 25 (D.k .u64)) s_])]
  iterate 2 refine wpA_seq ?_
  refine wpA_region ?_
  refine wpL_op rfl rfl rfl (OpA.mv rfl (by with_reducible conv => lhs; whnf) ?_)
  refine wpL_op rfl rfl rfl (OpA.lss rfl rfl rfl ?_)
  refine wpL_nil ?_
  refine wpA_cond rfl (fun b13 => ?_) (fun b13 => ?_)
  have h := h.1 (decT b13)
  refine wpA_skip ?_
  refine wpA_seq ?_
  refine wpA_block ?_
  refine wpA_seq ?_
  refine wpA_region ?_
  refine wpL_op rfl rfl rfl (OpA.asn rfl (by with_reducible conv => lhs; whnf) ?_)
  refine wpL_nil ?_
  refine wpA_block ?_
  refine wpA_lfp (S := (List Int) × Int) (G := Unit) () (fun gg ss => asg [(1, (D.k .u64) c), (4, .ptr c2 25 0 0), (7, .ptr c6 25 0 0), (11, .ptr c11 25 0 0), (12, D.i x2), (13, D.i ss.2)]) (fun gg ss => [(c11, .cells 25 [(encArr 25 (D.k .u64)) ss.1]), (c6, .cells 25 [(encArr 25 (D.k .u64)) moved]), (c3, .cells 5 [(encArr 5 (D.k .u64)) sum]), (c2, .cells 25 [(encArr 25 (D.k .u64)) (List.replicate 25 0)]), (c1, .cells 25 [(encArr 25 (D.k .u64)) s_])]) h (Cov.asg ⟨rfl, rfl, rfl, rfl, rfl, rfl, trivial⟩) (.refl _) ?_
  rintro again14 _ ⟨out1, y1⟩ h
  have h : rround_L5 moved x2 again12 again14 out1 y1 := h
  unfold rround_L5 at h
  show wpA _ _ _ _ (asg [(1, (D.k .u64) c), (4, .ptr c2 25 0 0), (7, .ptr c6 25 0 0), (11, .ptr c11 25 0 0), (12, D.i x2), (13, D.i y1)]) [(c11, .cells 25 [(encArr 25 (D.k .u64)) out1]), (c6, .cells 25 [(encArr 25 (D.k .u64)) moved]), (c3, .cells 5 [(encArr 5 (D.k .u64)) sum]), (c2, .cells 25 [(encArr 25 (D.k .u64)) (List.replicate 25 0)]), (c1, .cells 25 [(encArr 25 (D.k .u64)) s_])]
  iterate 2 refine wpA_seq ?_
  refine wpA_region ?_
  refine wpL_op rfl rfl rfl (OpA.mv rfl (by with_reducible conv => lhs; whnf) ?_)
  refine wpL_op rfl rfl rfl (OpA.lss rfl rfl rfl ?_)
  refine wpL_nil ?_
  refine wpA_cond rfl (fun b15 => ?_) (fun b15 => ?_)
  have h := h.1 (decT b15)
  refine wpA_skip ?_
  refine wpA_seq ?_
  refine wpA_block ?_
  obtain ⟨q1, q2, q3, q4, q5, q6, q7, q8, q9, q10, q11, q12, h⟩ := h
  refine wpA_draw (m := 30) mo (by kernel_rfl) rfl ?_
  iterate 2 refine DetK.op rfl (OpA.mv rfl (by with_reducible conv => lhs; whnf) ⟨rfl, rfl⟩) ?_
  refine DetK.op rfl (OpA.muli rfl rfl rfl q1 ⟨rfl, rfl⟩) ?_
  refine DetK.op rfl (OpA.addi rfl rfl rfl q2 ⟨rfl, rfl⟩) ?_
  iterate 2 refine DetK.op rfl (OpA.mv rfl (by with_reducible conv => lhs; whnf) ⟨rfl, rfl⟩) ?_
  refine DetK.op rfl (OpA.muli rfl rfl rfl q1 ⟨rfl, rfl⟩) ?_
  refine DetK.op rfl (OpA.addi rfl rfl rfl q2 ⟨rfl, rfl⟩) ?_
  refine DetK.op rfl (OpA.aixV rfl td26 ti25 rfl rfl q3 ⟨rfl, rfl⟩) ?_
  refine DetK.op rfl (OpA.load rfl ti25 rfl (.tail .head) rfl (arrAt0 q3) ⟨rfl, rfl⟩) ?_
  refine DetK.op rfl (OpA.mv rfl (by with_reducible conv => lhs; whnf) ⟨rfl, rfl⟩) ?_
  refine DetK.op rfl (OpA.addi rfl rfl rfl q4 ⟨rfl, rfl⟩) ?_
  refine DetK.op rfl (OpA.remN rfl rfl rfl q5 ⟨rfl, rfl⟩) ?_
  refine DetK.op rfl (OpA.mv rfl (by with_reducible conv => lhs; whnf) ⟨rfl, rfl⟩) ?_
  refine DetK.op rfl (OpA.muli rfl rfl rfl q1 ⟨rfl, rfl⟩) ?_
  refine DetK.op rfl (OpA.addi rfl rfl rfl q6 ⟨rfl, rfl⟩) ?_
  refine DetK.op rfl (OpA.aixV rfl td26 ti25 rfl rfl q7 ⟨rfl, rfl⟩) ?_
  refine DetK.op rfl (OpA.load rfl ti25 rfl (.tail .head) rfl (arrAt0 q7) ⟨rfl, rfl⟩) ?_
  refine DetK.op rfl (OpA.unot rfl rfl ⟨rfl, rfl⟩) ?_
  refine DetK.op rfl (OpA.mv rfl (by with_reducible conv => lhs; whnf) ⟨rfl, rfl⟩) ?_
  refine DetK.op rfl (OpA.addi rfl rfl rfl q8 ⟨rfl, rfl⟩) ?_
  refine DetK.op rfl (OpA.remN rfl rfl rfl q9 ⟨rfl, rfl⟩) ?_
  refine DetK.op rfl (OpA.mv rfl (by with_reducible conv => lhs; whnf) ⟨rfl, rfl⟩) ?_
  refine DetK.op rfl (OpA.muli rfl rfl rfl q1 ⟨rfl, rfl⟩) ?_
  refine DetK.op rfl (OpA.addi rfl rfl rfl q10 ⟨rfl, rfl⟩) ?_
  refine DetK.op rfl (OpA.aixV rfl td26 ti25 rfl rfl q11 ⟨rfl, rfl⟩) ?_
  refine DetK.op rfl (OpA.load rfl ti25 rfl (.tail .head) rfl (arrAt0 q11) ⟨rfl, rfl⟩) ?_
  refine DetK.op rfl (OpA.band rfl rfl rfl ⟨rfl, rfl⟩) ?_
  refine DetK.op rfl (OpA.bxor rfl rfl rfl ⟨rfl, rfl⟩) ?_
  refine DetK.op rfl (OpA.aixV rfl td26 ti25 rfl rfl q3 ⟨rfl, rfl⟩) ?_
  refine DetK.nil ?_
  refine wpL_eff rfl rfl (OpA.store (e := (encArr 25 (D.k .u64)) out1) (e' := (encArr 25 (D.k .u64)) (si out1 (x2 + (5 * y1)) (gxor .u64 (gi moved (x2 + (5 * y1))) (gand .u64 (gnot .u64 (gi moved (((x2 + 1) % 5) + (5 * y1)))) (gi moved (((x2 + 2) % 5) + (5 * y1))))))) rfl ti25 rfl (.of rfl) rfl (arrFit0 q3) (arrSet0 q3 q12) .head ?_)
  refine wpL_nil ?_
  obtain ⟨q1, h⟩ := h
  refine wpA_region ?_
  refine wpL_op rfl rfl rfl (OpA.mv rfl (by with_reducible conv => lhs; whnf) ?_)
  refine wpL_op rfl rfl rfl (OpA.addi rfl rfl rfl q1 ?_)
  refine wpL_op rfl rfl rfl (OpA.asn rfl (by with_reducible conv => lhs; whnf) ?_)
  refine wpL_nil ?_
  exact ⟨(), ((si out1 (x2 + (5 * y1)) (gxor .u64 (gi moved (x2 + (5 * y1))) (gand .u64 (gnot .u64 (gi moved (((x2 + 1) % 5) + (5 * y1)))) (gi moved (((x2 + 2) % 5) + (5 * y1)))))), (y1 + 1)), h, (Cov.asg ⟨rfl, rfl, rfl, rfl, rfl, rfl, trivial⟩), (.refl _)⟩
  have h := h.2 (decF b15)
  refine wpA_exit ?_
  obtain ⟨q1, h⟩ := h
  refine wpA_region ?_
  refine wpL_op rfl rfl rfl (OpA.mv rfl (by with_reducible conv => lhs; whnf) ?_)
  refine wpL_op rfl rfl rfl (OpA.addi rfl rfl rfl q1 ?_)
  refine wpL_op rfl rfl rfl (OpA.asn rfl (by with_reducible conv => lhs; whnf) ?_)
  refine wpL_nil ?_
  exact ⟨(), (out1, (x2 + 1)), h, (Cov.asg ⟨rfl, rfl, rfl, rfl, rfl, trivial⟩), (.refl _)⟩
  have h := h.2 (decF b13)
  refine wpA_exit ?_
  refine wpA_seq ?_
  obtain ⟨q1, q2, h⟩ := h
  refine wpA_region ?_
  refine wpL_op rfl rfl rfl (OpA.aixV rfl td26 ti25 rfl rfl q1 ?_)
  refine wpL_op rfl rfl rfl (OpA.load rfl ti25 rfl .head rfl (arrAt0 q1) ?_)
  refine wpL_op rfl rfl rfl (OpA.mv rfl (by with_reducible conv => lhs; whnf) ?_)
  refine wpL_op rfl rfl rfl (OpA.bxor rfl rfl rfl ?_)
  refine wpL_op rfl rfl rfl (OpA.aixV rfl td26 ti25 rfl rfl q1 ?_)
  refine wpL_eff rfl rfl (OpA.store (e := (encArr 25 (D.k .u64)) out) (e' := (encArr 25 (D.k .u64)) (si out 0 (gxor .u64 (gi out 0) c))) rfl ti25 rfl (.of rfl) rfl (arrFit0 q1) (arrSet0 q1 q2) .head ?_)
  refine wpL_nil ?_
  refine wpA_seq ?_
  refine wpA_region ?_
  refine wpL_op rfl rfl rfl (OpA.load_whole rfl ti26 rfl rfl .head rfl ⟨_, rfl⟩ ?_)
  refine wpL_eff rfl rfl (OpA.storeW rfl ti26 rfl (by with_reducible conv => lhs; whnf) (.of rfl) rfl rfl (.tail (.tail (.tail .head))) ?_)
  refine wpL_nil ?_
  refine wpA_ret ?_
  exact ⟨_, (.cell (.whole ti26 rfl rfl (.tail (.tail (.tail .head))) rfl ⟨_, rfl⟩) .nil), _, (.same rfl .nil), ⟨(si out 0 (gxor .u64 (gi out 0) c)), rfl, h⟩⟩
theorem rround_c (s_ : (List Int)) (c : Int)  (hp0 : s_.length = 25) : Fun false Try.prog 26 [(encArr 25 (D.k .u64)) s_, (D.k .u64) c] (fun d => d = (encArr 25 (D.k .u64)) (roundR s_ c)) :=
  Fun.at (enc := fun r => (encArr 25 (D.k .u64)) r) (v := roundR s_ c) (rround_w s_ c  (fun r => r = roundR s_ c) (rround_ok s_ c _ hp0 rfl))

set_option maxHeartbeats 2000000 in
set_option maxRecDepth 10000 in
theorem perm_w (state : (List Int))  (Q : (List Int) → Prop) (h : perm_vc state Q) : Fun false Try.prog 13 [(encArr 25 (D.k .u64)) state] (fun d => ∃ r, d = (encArr 25 (D.k .u64)) r ∧ Q r) := by
  unfold perm_vc at h
  refine Fun.of_body Try.func13 rfl Try.ntmps13 rfl ?_
  refine wpA_seq ?_
  refine wpA_region ?_
  refine wpL_op rfl rfl rfl (OpA.bx (sz := 25) rfl (by with_reducible conv => lhs; whnf) (.of rfl) (fun c1 _ => ?_))
  refine wpL_op rfl rfl rfl (OpA.alloc (sz := 25) (d := (encArr 25 (D.k .u64)) (List.replicate 25 0)) rfl tz26 (fun _ _ => .agg (.cons (.v _) (.cons (.v _) (.cons (.v _) (.cons (.v _) (.cons (.v _) (.cons (.v _) (.cons (.v _) (.cons (.v _) (.cons (.v _) (.cons (.v _) (.cons (.v _) (.cons (.v _) (.cons (.v _) (.cons (.v _) (.cons (.v _) (.cons (.v _) (.cons (.v _) (.cons (.v _) (.cons (.v _) (.cons (.v _) (.cons (.v _) (.cons (.v _) (.cons (.v _) (.cons (.v _) (.cons (.v _) .nil)))))))))))))))))))))))))) (.of rfl) (fun c2 _ => ?_))
  refine wpL_nil ?_
  refine wpA_seq ?_
  refine wpA_region ?_
  refine wpL_op rfl rfl rfl (OpA.call rfl rfl rfl en23 (offs_c  ) ?_)
  rintro _ rfl
  refine wpL_op rfl rfl rfl (OpA.alloc (sz := 25) (d := (encArr 25 D.i) (List.replicate 25 0)) rfl tz44 (fun _ _ => .agg (.cons (.v _) (.cons (.v _) (.cons (.v _) (.cons (.v _) (.cons (.v _) (.cons (.v _) (.cons (.v _) (.cons (.v _) (.cons (.v _) (.cons (.v _) (.cons (.v _) (.cons (.v _) (.cons (.v _) (.cons (.v _) (.cons (.v _) (.cons (.v _) (.cons (.v _) (.cons (.v _) (.cons (.v _) (.cons (.v _) (.cons (.v _) (.cons (.v _) (.cons (.v _) (.cons (.v _) (.cons (.v _) .nil)))))))))))))))))))))))))) (.of rfl) (fun c3 _ => ?_))
  refine wpL_eff rfl rfl (OpA.storeW rfl ti44 rfl (by with_reducible conv => lhs; whnf) (.of rfl) rfl rfl .head ?_)
  refine wpL_nil ?_
  iterate 2 refine wpA_seq ?_
  refine wpA_region ?_
  refine wpL_op rfl rfl rfl (OpA.call rfl rfl rfl en24 (cons_c  ) ?_)
  rintro _ rfl
  refine wpL_op rfl rfl rfl (OpA.mv rfl (by with_reducible conv => lhs; whnf) ?_)
  refine wpL_nil ?_
  refine wpA_block ?_
  refine wpA_lfp (S := (List Int) × Int) (G := Unit) () (fun gg ss => asg [(1, .ptr c1 25 0 0), (2, .ptr c2 25 0 0), (3, .ptr c3 25 0 0), (7, (encArr 24 (D.k .u64)) consF), (8, D.i ss.2)]) (fun gg ss => [(c3, .cells 25 [(encArr 25 D.i) offsF]), (c2, .cells 25 [(encArr 25 (D.k .u64)) (List.replicate 25 0)]), (c1, .cells 25 [(encArr 25 (D.k .u64)) ss.1])]) h (Cov.asg ⟨rfl, rfl, rfl, rfl, rfl, trivial⟩) (.refl _) ?_
  rintro again4 _ ⟨state1, x⟩ h
  have h : perm_L1 Q again4 state1 x := h
  unfold perm_L1 at h
  show wpA _ _ _ _ (asg [(1, .ptr c1 25 0 0), (2, .ptr c2 25 0 0), (3, .ptr c3 25 0 0), (7, (encArr 24 (D.k .u64)) consF), (8, D.i x)]) [(c3, .cells 25 [(encArr 25 D.i) offsF]), (c2, .cells 25 [(encArr 25 (D.k .u64)) (List.replicate 25 0)]), (c1, .cells 25 [(encArr 25 (D.k .u64)) state1])]
  refine wpA_seq ?_
  refine wpA_region ?_
  refine wpL_op rfl rfl rfl (OpA.lss rfl rfl rfl ?_)
  refine wpL_nil ?_
  refine wpA_seq ?_
  refine wpA_cond rfl (fun b5 => ?_) (fun b5 => ?_)
  have h := h.1 (decT b5)
  refine wpA_skip ?_
  refine wpA_seq ?_
  refine wpA_block ?_
  refine wpA_seq ?_
  obtain ⟨q1, h⟩ := h
  refine wpA_region ?_
  refine wpL_op rfl rfl rfl (OpA.aindexV rfl td46 ti25 rfl rfl q1 ?_)
  refine wpL_op rfl rfl rfl (OpA.asn rfl (by with_reducible conv => lhs; whnf) ?_)
  refine wpL_nil ?_
  obtain ⟨q1, h⟩ := h
  refine wpA_region ?_
  refine wpL_op rfl rfl rfl (OpA.load_whole rfl ti26 rfl rfl (.tail (.tail .head)) rfl ⟨_, rfl⟩ ?_)
  refine wpL_op rfl rfl rfl (OpA.load_whole rfl ti44 rfl rfl .head rfl ⟨_, rfl⟩ ?_)
  refine wpL_op rfl rfl rfl (OpA.mv rfl (by with_reducible conv => lhs; whnf) ?_)
  refine wpL_op rfl rfl rfl (OpA.call rfl rfl rfl en25 (round_c state1 offsF (gi consF x) q1) ?_)
  rintro _ rfl
  refine wpL_eff rfl rfl (OpA.storeW rfl ti26 rfl (by with_reducible conv => lhs; whnf) (.of rfl) rfl rfl (.tail (.tail .head)) ?_)
  refine wpL_nil ?_
  obtain ⟨q1, h⟩ := h
  refine wpA_region ?_
  refine wpL_op rfl rfl rfl (OpA.addi rfl rfl rfl q1 ?_)
  refine wpL_op rfl rfl rfl (OpA.mv rfl (by with_reducible conv => lhs; whnf) ?_)
  refine wpL_nil ?_
  exact ⟨(), ((roundF state1 offsF (gi consF x)), (x + 1)), h, (Cov.asg ⟨rfl, rfl, rfl, rfl, rfl, trivial⟩), (.refl _)⟩
  have h := h.2 (decF b5)
  refine wpA_exit ?_
  refine wpA_seq ?_
  refine wpA_region ?_
  refine wpL_op rfl rfl rfl (OpA.load_whole rfl ti26 rfl rfl (.tail (.tail .head)) rfl ⟨_, rfl⟩ ?_)
  refine wpL_eff rfl rfl (OpA.storeW rfl ti26 rfl (by with_reducible conv => lhs; whnf) (.of rfl) rfl rfl (.tail .head) ?_)
  refine wpL_nil ?_
  refine wpA_ret ?_
  exact ⟨_, (.cell (.whole ti26 rfl rfl (.tail .head) rfl ⟨_, rfl⟩) .nil), _, (.same rfl .nil), ⟨state1, rfl, h⟩⟩
theorem perm_c (state : (List Int))  (hp0 : state.length = 25) : Fun false Try.prog 13 [(encArr 25 (D.k .u64)) state] (fun d => d = (encArr 25 (D.k .u64)) (permF state)) :=
  Fun.at (enc := fun r => (encArr 25 (D.k .u64)) r) (v := permF state) (perm_w state  (fun r => r = permF state) (perm_ok state _ hp0 rfl))

set_option maxHeartbeats 2000000 in
set_option maxRecDepth 10000 in
theorem rperm_w (s_ : (List Int))  (Q : (List Int) → Prop) (h : rperm_vc s_ Q) : Fun false Try.prog 14 [(encArr 25 (D.k .u64)) s_] (fun d => ∃ r, d = (encArr 25 (D.k .u64)) r ∧ Q r) := by
  unfold rperm_vc at h
  refine Fun.of_body Try.func14 rfl Try.ntmps14 rfl ?_
  refine wpA_seq ?_
  refine wpA_region ?_
  refine wpL_op rfl rfl rfl (OpA.bx (sz := 25) rfl (by with_reducible conv => lhs; whnf) (.of rfl) (fun c1 _ => ?_))
  refine wpL_op rfl rfl rfl (OpA.alloc (sz := 25) (d := (encArr 25 (D.k .u64)) (List.replicate 25 0)) rfl tz26 (fun _ _ => .agg (.cons (.v _) (.cons (.v _) (.cons (.v _) (.cons (.v _) (.cons (.v _) (.cons (.v _) (.cons (.v _) (.cons (.v _) (.cons (.v _) (.cons (.v _) (.cons (.v _) (.cons (.v _) (.cons (.v _) (.cons (.v _) (.cons (.v _) (.cons (.v _) (.cons (.v _) (.cons (.v _) (.cons (.v _) (.cons (.v _) (.cons (.v _) (.cons (.v _) (.cons (.v _) (.cons (.v _) (.cons (.v _) .nil)))))))))))))))))))))))))) (.of rfl) (fun c2 _ => ?_))
  refine wpL_nil ?_
  iterate 2 refine wpA_seq ?_
  refine wpA_region ?_
  refine wpL_op rfl rfl rfl (OpA.asn rfl (by with_reducible conv => lhs; whnf) ?_)
  refine wpL_nil ?_
  refine wpA_block ?_
  refine wpA_lfp (S := (List Int) × Int) (G := Unit) () (fun gg ss => asg [(1, .ptr c1 25 0 0), (2, .ptr c2 25 0 0), (3, D.i ss.2)]) (fun gg ss => [(c2, .cells 25 [(encArr 25 (D.k .u64)) (List.replicate 25 0)]), (c1, .cells 25 [(encArr 25 (D.k .u64)) ss.1])]) h (Cov.asg ⟨rfl, rfl, rfl, trivial⟩) (.refl _) ?_
  rintro again3 _ ⟨s_1, i⟩ h
  have h : rperm_L1 Q again3 s_1 i := h
  unfold rperm_L1 at h
  show wpA _ _ _ _ (asg [(1, .ptr c1 25 0 0), (2, .ptr c2 25 0 0), (3, D.i i)]) [(c2, .cells 25 [(encArr 25 (D.k .u64)) (List.replicate 25 0)]), (c1, .cells 25 [(encArr 25 (D.k .u64)) s_1])]
  iterate 2 refine wpA_seq ?_
  refine wpA_region ?_
  refine wpL_op rfl rfl rfl (OpA.mv rfl (by with_reducible conv => lhs; whnf) ?_)
  refine wpL_op rfl rfl rfl (OpA.lss rfl rfl rfl ?_)
  refine wpL_nil ?_
  refine wpA_cond rfl (fun b4 => ?_) (fun b4 => ?_)
  have h := h.1 (decT b4)
  refine wpA_skip ?_
  refine wpA_seq ?_
  refine wpA_block ?_
  obtain ⟨q1, q2, h⟩ := h
  refine wpA_draw (m := 4) mo (by kernel_rfl) rfl ?_
  refine DetK.op rfl (OpA.load_whole rfl ti26 rfl rfl (.tail .head) rfl ⟨_, rfl⟩ ⟨rfl, rfl⟩) ?_
  refine DetK.op rfl (OpA.mv rfl (by with_reducible conv => lhs; whnf) ⟨rfl, rfl⟩) ?_
  refine DetK.op rfl (OpA.call rfl rfl rfl en27 (con_c i q1) (by rintro _ rfl; exact ⟨rfl, rfl⟩)) ?_
  refine DetK.op rfl (OpA.call rfl rfl rfl en26 (rround_c s_1 (conF i) q2) (by rintro _ rfl; exact ⟨rfl, rfl⟩)) ?_
  refine DetK.nil ?_
  refine wpL_eff rfl rfl (OpA.storeW rfl ti26 rfl (by with_reducible conv => lhs; whnf) (.of rfl) rfl rfl (.tail .head) ?_)
  refine wpL_nil ?_
  obtain ⟨q1, h⟩ := h
  refine wpA_region ?_
  refine wpL_op rfl rfl rfl (OpA.mv rfl (by with_reducible conv => lhs; whnf) ?_)
  refine wpL_op rfl rfl rfl (OpA.addi rfl rfl rfl q1 ?_)
  refine wpL_op rfl rfl rfl (OpA.asn rfl (by with_reducible conv => lhs; whnf) ?_)
  refine wpL_nil ?_
  exact ⟨(), ((roundR s_1 (conF i)), (i + 1)), h, (Cov.asg ⟨rfl, rfl, rfl, trivial⟩), (.refl _)⟩
  have h := h.2 (decF b4)
  refine wpA_exit ?_
  refine wpA_seq ?_
  refine wpA_region ?_
  refine wpL_op rfl rfl rfl (OpA.load_whole rfl ti26 rfl rfl (.tail .head) rfl ⟨_, rfl⟩ ?_)
  refine wpL_eff rfl rfl (OpA.storeW rfl ti26 rfl (by with_reducible conv => lhs; whnf) (.of rfl) rfl rfl .head ?_)
  refine wpL_nil ?_
  refine wpA_ret ?_
  exact ⟨_, (.cell (.whole ti26 rfl rfl .head rfl ⟨_, rfl⟩) .nil), _, (.same rfl .nil), ⟨s_1, rfl, h⟩⟩
theorem rperm_c (s_ : (List Int))  (hp0 : s_.length = 25) : Fun false Try.prog 14 [(encArr 25 (D.k .u64)) s_] (fun d => d = (encArr 25 (D.k .u64)) (permF s_)) :=
  Fun.at (enc := fun r => (encArr 25 (D.k .u64)) r) (v := permF s_) (rperm_w s_  (fun r => r = permF s_) (rperm_ok s_ _ hp0 rfl))
end Go.Proofs.Ytchidogjhgelpaa
