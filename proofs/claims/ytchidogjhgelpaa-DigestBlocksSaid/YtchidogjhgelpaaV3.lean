/-
  walks and contracts
-/
import Derived.Test.YtchidogjhgelpaaV2
set_option linter.all false
namespace Go.Proofs.Ytchidogjhgelpaa
open Go Go.Lic
attribute [local irreducible] rotF offF conF offsF consF roundF roundR permF sumF hexF digF parseF idxB hex1 newF absF clF wrF ssF



set_option maxHeartbeats 2000000 in
set_option maxRecDepth 10000 in
theorem new_w   (Q : DigestSponge → Prop) (h : new_vc  Q) : CallH Try.prog 15 [] [] (fun d h' => ∃ (r : DigestSponge) (g : Nat × Nat × List D × List D), d = .ptr g.1 54 0 0 ∧ h' = [(g.1, .cells 54 [.agg (arrC 25 (D.k .u64) r.state ++ ([.own g.2.1 1 g.2.2.1.length r.rest.length, D.i r.taken] ++ (arrC 25 (D.k .u64) r.seen ++ ([D.s r.tail, D.s r.sum]))))]), (g.2.1, .cells 1 (winL (D.k .u8) g.2.2.1 r.rest g.2.2.2))] ∧ Q r) := by
  unfold new_vc at h
  refine CallH.of_bodyP Try.func15 rfl Try.ntmps15 rfl ?_
  refine wpA_seq ?_
  refine wpA_region ?_
  refine wpL_op rfl rfl rfl (OpA.asn rfl (by with_reducible conv => lhs; whnf) ?_)
  refine wpL_nil ?_
  refine wpA_seq ?_
  refine wpA_region ?_
  refine wpL_op rfl rfl rfl (OpA.buildO (zs := [.v (.int .u64 0), .v (.int .u64 0), .v (.int .u64 0), .v (.int .u64 0), .v (.int .u64 0), .v (.int .u64 0), .v (.int .u64 0), .v (.int .u64 0), .v (.int .u64 0), .v (.int .u64 0), .v (.int .u64 0), .v (.int .u64 0), .v (.int .u64 0), .v (.int .u64 0), .v (.int .u64 0), .v (.int .u64 0), .v (.int .u64 0), .v (.int .u64 0), .v (.int .u64 0), .v (.int .u64 0), .v (.int .u64 0), .v (.int .u64 0), .v (.int .u64 0), .v (.int .u64 0), .v (.int .u64 0), .v (.slice none 0 0), .v (.int .i64 0), .v (.int .u64 0), .v (.int .u64 0), .v (.int .u64 0), .v (.int .u64 0), .v (.int .u64 0), .v (.int .u64 0), .v (.int .u64 0), .v (.int .u64 0), .v (.int .u64 0), .v (.int .u64 0), .v (.int .u64 0), .v (.int .u64 0), .v (.int .u64 0), .v (.int .u64 0), .v (.int .u64 0), .v (.int .u64 0), .v (.int .u64 0), .v (.int .u64 0), .v (.int .u64 0), .v (.int .u64 0), .v (.int .u64 0), .v (.int .u64 0), .v (.int .u64 0), .v (.int .u64 0), .v (.int .u64 0), .v (.string ⟨#[]⟩), .v (.string ⟨#[]⟩)]) rfl tp52 tz52 (fun _ _ => (.cons (.v _) (.cons (.v _) (.cons (.v _) (.cons (.v _) (.cons (.v _) (.cons (.v _) (.cons (.v _) (.cons (.v _) (.cons (.v _) (.cons (.v _) (.cons (.v _) (.cons (.v _) (.cons (.v _) (.cons (.v _) (.cons (.v _) (.cons (.v _) (.cons (.v _) (.cons (.v _) (.cons (.v _) (.cons (.v _) (.cons (.v _) (.cons (.v _) (.cons (.v _) (.cons (.v _) (.cons (.v _) (.cons (.v _) (.cons (.v _) (.cons (.v _) (.cons (.v _) (.cons (.v _) (.cons (.v _) (.cons (.v _) (.cons (.v _) (.cons (.v _) (.cons (.v _) (.cons (.v _) (.cons (.v _) (.cons (.v _) (.cons (.v _) (.cons (.v _) (.cons (.v _) (.cons (.v _) (.cons (.v _) (.cons (.v _) (.cons (.v _) (.cons (.v _) (.cons (.v _) (.cons (.v _) (.cons (.v _) (.cons (.v _) (.cons (.v _) (.cons (.v _) (.cons (.v _) (.cons (.v _) .nil))))))))))))))))))))))))))))))))))))))))))))))))))))))) .nil rfl ?_)
  refine wpL_op rfl rfl rfl (OpA.bx (sz := 54) rfl (by with_reducible conv => lhs; whnf) (.of rfl) (fun c1 _ => ?_))
  refine wpL_op rfl rfl rfl (OpA.asn rfl (by with_reducible conv => lhs; whnf) ?_)
  refine wpL_nil ?_
  refine wpA_ghostM (c := c1) (sz1 := 54) (sz := 1) (es' := fun g2 => [.agg (arrC 25 (D.k .u64) (List.replicate 25 0) ++ ([.own g2 1 ([] : List D).length ([] : List Int).length, D.i 0] ++ (arrC 25 (D.k .u64) (List.replicate 25 0) ++ ([D.s ByteArray.empty, D.s ByteArray.empty]))))]) (fun _ => .head) (fun _ => (.same (.same (.same (.same (.same (.same (.same (.same (.same (.same (.same (.same (.same (.same (.same (.same (.same (.same (.same (.same (.same (.same (.same (.same (.same (.turn (.same (.same (.same (.same (.same (.same (.same (.same (.same (.same (.same (.same (.same (.same (.same (.same (.same (.same (.same (.same (.same (.same (.same (.same (.same (.same (.same (.same .nil))))))))))))))))))))))))))))))))))))))))))))))))))))))) (fun _ => rfl) (fun _ => by rintro d (_ | ⟨_, hd⟩); exact .of rfl; cases hd) (fun g2 => ?_)
  refine wpA_ret ?_
  exact ⟨_, (.tmp (d := .ptr c1 54 0 0) rfl .nil), [(c1, .cells 54 [.agg (arrC 25 (D.k .u64) (List.replicate 25 0) ++ ([.own g2 1 ([] : List D).length ([] : List Int).length, D.i 0] ++ (arrC 25 (D.k .u64) (List.replicate 25 0) ++ ([D.s ByteArray.empty, D.s ByteArray.empty]))))]), (g2, .cells 1 (winL (D.k .u8) ([] : List D) ([] : List Int) ([] : List D)))], [(c1, .cells 54 [.agg (arrC 25 (D.k .u64) (List.replicate 25 0) ++ ([.own g2 1 ([] : List D).length ([] : List Int).length, D.i 0] ++ (arrC 25 (D.k .u64) (List.replicate 25 0) ++ ([D.s ByteArray.empty, D.s ByteArray.empty]))))]), (g2, .cells 1 (winL (D.k .u8) ([] : List D) ([] : List Int) ([] : List D)))], pull1, (.refl _), (DigestSponge.mk (List.replicate 25 0) ([] : List Int) 0 (List.replicate 25 0) ByteArray.empty ByteArray.empty), (c1, g2, ([] : List D), ([] : List D)), rfl, rfl, h⟩
theorem new_c    : CallH Try.prog 15 [] [] (fun d h' => ∃ (g : Nat × Nat × List D × List D), d = .ptr g.1 54 0 0 ∧ h' = [(g.1, .cells 54 [.agg (arrC 25 (D.k .u64) ((newF ).state) ++ ([.own g.2.1 1 g.2.2.1.length ((newF ).rest).length, D.i ((newF ).taken)] ++ (arrC 25 (D.k .u64) ((newF ).seen) ++ ([D.s ((newF ).tail), D.s ((newF ).sum)]))))]), (g.2.1, .cells 1 (winL (D.k .u8) g.2.2.1 ((newF ).rest) g.2.2.2))]) :=
  (new_w   (fun r => r = newF ) (new_ok  _  rfl)).mono (by rintro d h' ⟨r, g, hd, hh, rfl⟩; exact ⟨g, hd, hh⟩)

set_option maxHeartbeats 2000000 in
set_option maxRecDepth 10000 in
theorem abs_w (s_ : DigestSponge) (c_s_ : Nat) (a_s_ : Nat) (i_s_ : Nat) (n_s_ : Nat) (b : (List Int)) (c_b : Nat) (pre_b post_b : List D)  (Q : DigestSponge → Prop) (h : abs_vc s_ b Q) : CallH Try.prog 28 [.ptr c_s_ 54 0 0, .own c_b 1 pre_b.length b.length] [(c_s_, .cells 54 [.agg (arrC 25 (D.k .u64) s_.state ++ ([.own a_s_ 1 i_s_ n_s_, D.i s_.taken] ++ (arrC 25 (D.k .u64) s_.seen ++ ([D.s s_.tail, D.s s_.sum]))))]), (c_b, .cells 1 (winL (D.k .u8) pre_b b post_b))] (fun d h' => ∃ (r : DigestSponge) (g : Unit), d = .tup [] ∧ h' = [(c_s_, .cells 54 [.agg (arrC 25 (D.k .u64) r.state ++ ([.own a_s_ 1 i_s_ n_s_, D.i r.taken] ++ (arrC 25 (D.k .u64) r.seen ++ ([D.s r.tail, D.s r.sum]))))]), (c_b, .cells 1 (winL (D.k .u8) pre_b b post_b))] ∧ Q r) := by
  unfold abs_vc at h
  refine CallH.of_bodyP Try.func28 rfl Try.ntmps28 rfl ?_
  iterate 2 refine wpA_seq ?_
  refine wpA_region ?_
  refine wpL_op rfl rfl rfl (OpA.mv rfl (by with_reducible conv => lhs; whnf) ?_)
  refine wpL_op rfl rfl rfl (OpA.len rfl rfl rfl rfl ts42.desc (.inr (.inl ⟨_, _, _, rfl⟩)) ?_)
  refine wpL_op rfl rfl rfl (OpA.mv rfl (by with_reducible conv => lhs; whnf) ?_)
  refine wpL_nil ?_
  refine wpA_block ?_
  refine wpA_lfp (S := (List Int) × Int) (G := Unit) () (fun gg ss => asg [(0, .ptr c_s_ 54 0 0), (1, .own c_b 1 pre_b.length b.length), (6, D.i (b.length : Int)), (7, D.i ss.2)]) (fun gg ss => [(c_s_, .cells 54 [.agg (arrC 25 (D.k .u64) ss.1 ++ ([.own a_s_ 1 i_s_ n_s_, D.i s_.taken] ++ (arrC 25 (D.k .u64) s_.seen ++ ([D.s s_.tail, D.s s_.sum]))))]), (c_b, .cells 1 (winL (D.k .u8) pre_b b post_b))]) h (Cov.asg ⟨rfl, rfl, rfl, rfl, trivial⟩) (.refl _) ?_
  rintro again1 _ ⟨s_state, x⟩ h
  have h : abs_L1 s_ b Q again1 s_state x := h
  unfold abs_L1 at h
  show wpA _ _ _ _ (asg [(0, .ptr c_s_ 54 0 0), (1, .own c_b 1 pre_b.length b.length), (6, D.i (b.length : Int)), (7, D.i x)]) [(c_s_, .cells 54 [.agg (arrC 25 (D.k .u64) s_state ++ ([.own a_s_ 1 i_s_ n_s_, D.i s_.taken] ++ (arrC 25 (D.k .u64) s_.seen ++ ([D.s s_.tail, D.s s_.sum]))))]), (c_b, .cells 1 (winL (D.k .u8) pre_b b post_b))]
  refine wpA_seq ?_
  refine wpA_region ?_
  refine wpL_op rfl rfl rfl (OpA.lss rfl rfl rfl ?_)
  refine wpL_nil ?_
  refine wpA_seq ?_
  refine wpA_cond rfl (fun b2 => ?_) (fun b2 => ?_)
  have h := h.1 (decT b2)
  refine wpA_skip ?_
  refine wpA_seq ?_
  refine wpA_block ?_
  refine wpA_seq ?_
  refine wpA_region ?_
  refine wpL_op rfl rfl rfl (OpA.mv rfl (by with_reducible conv => lhs; whnf) ?_)
  refine wpL_op rfl rfl rfl (OpA.asn rfl (by with_reducible conv => lhs; whnf) ?_)
  refine wpL_nil ?_
  obtain ⟨q1, q2, q3, q4, q5, q6, q7, h⟩ := h
  refine wpA_draw (m := 20) mo (by kernel_rfl) rfl ?_
  iterate 2 refine DetK.op rfl (OpA.mv rfl (by with_reducible conv => lhs; whnf) ⟨rfl, rfl⟩) ?_
  refine DetK.op rfl (OpA.quoN rfl rfl rfl q1 ⟨rfl, rfl⟩) ?_
  refine DetK.op rfl (OpA.nc rfl (by with_reducible conv => lhs; whnf) (.inl ⟨_, _, _, _, rfl⟩) ⟨rfl, rfl⟩) ?_
  refine DetK.op rfl (OpA.fieldAddr rfl tf52_0 rfl ⟨rfl, rfl⟩) ?_
  refine DetK.op rfl (OpA.aixV rfl td26 ti25 rfl rfl q2 ⟨rfl, rfl⟩) ?_
  refine DetK.op rfl (OpA.load rfl ti25 rfl .head rfl (arrAt (A := ([] : List D)) rfl q2) ⟨rfl, rfl⟩) ?_
  iterate 2 refine DetK.op rfl (OpA.mv rfl (by with_reducible conv => lhs; whnf) ⟨rfl, rfl⟩) ?_
  refine DetK.op rfl (OpA.ixV rfl ts42 rfl rfl q3 ⟨rfl, rfl⟩) ?_
  refine DetK.op rfl (OpA.load rfl ti5 rfl (.tail .head) (getV (enc := (D.k .u8)) q3) rfl ⟨rfl, rfl⟩) ?_
  refine DetK.op rfl (OpA.conv rfl td5 td25 rfl ⟨rfl, rfl⟩) ?_
  refine DetK.op rfl (OpA.mv rfl (by with_reducible conv => lhs; whnf) ⟨rfl, rfl⟩) ?_
  refine DetK.op rfl (OpA.remN rfl rfl rfl q4 ⟨rfl, rfl⟩) ?_
  refine DetK.op rfl (OpA.muli rfl rfl rfl q5 ⟨rfl, rfl⟩) ?_
  refine DetK.op rfl (OpA.shl rfl rfl rfl q6 ⟨rfl, rfl⟩) ?_
  refine DetK.op rfl (OpA.bxor rfl rfl rfl ⟨rfl, rfl⟩) ?_
  refine DetK.op rfl (OpA.nc rfl (by with_reducible conv => lhs; whnf) (.inl ⟨_, _, _, _, rfl⟩) ⟨rfl, rfl⟩) ?_
  refine DetK.op rfl (OpA.fieldAddr rfl tf52_0 rfl ⟨rfl, rfl⟩) ?_
  refine DetK.op rfl (OpA.aixV rfl td26 ti25 rfl rfl q2 ⟨rfl, rfl⟩) ?_
  refine DetK.nil ?_
  refine wpL_eff rfl rfl (OpA.store (e := .agg (arrC 25 (D.k .u64) s_state ++ ([.own a_s_ 1 i_s_ n_s_, D.i s_.taken] ++ (arrC 25 (D.k .u64) s_.seen ++ ([D.s s_.tail, D.s s_.sum]))))) (e' := .agg (arrC 25 (D.k .u64) (si s_state (x / 8) (gxor .u64 (gi s_state (x / 8)) (gshl .u64 (IntKind.u64.wrap (gi b x)) (8 * (x % 8))))) ++ ([.own a_s_ 1 i_s_ n_s_, D.i s_.taken] ++ (arrC 25 (D.k .u64) s_.seen ++ ([D.s s_.tail, D.s s_.sum]))))) rfl ti25 rfl (.of rfl) rfl (arrFit (A := ([] : List D)) rfl q2) (arrSet (A := ([] : List D)) rfl q2 q7) .head ?_)
  refine wpL_nil ?_
  obtain ⟨q1, h⟩ := h
  refine wpA_region ?_
  refine wpL_op rfl rfl rfl (OpA.addi rfl rfl rfl q1 ?_)
  refine wpL_op rfl rfl rfl (OpA.mv rfl (by with_reducible conv => lhs; whnf) ?_)
  refine wpL_nil ?_
  exact ⟨(), ((si s_state (x / 8) (gxor .u64 (gi s_state (x / 8)) (gshl .u64 (IntKind.u64.wrap (gi b x)) (8 * (x % 8))))), (x + 1)), h, (Cov.asg ⟨rfl, rfl, rfl, rfl, trivial⟩), (.refl _)⟩
  have h := h.2 (decF b2)
  refine wpA_exit ?_
  obtain ⟨q1, h⟩ := h
  refine wpA_region ?_
  refine wpL_op rfl rfl rfl (OpA.mv rfl (by with_reducible conv => lhs; whnf) ?_)
  refine wpL_op rfl rfl rfl (OpA.mv rfl (by with_reducible conv => lhs; whnf) ?_)
  refine wpL_op rfl rfl rfl (OpA.nc rfl (by with_reducible conv => lhs; whnf) (.inl ⟨_, _, _, _, rfl⟩) ?_)
  refine wpL_op rfl rfl rfl (OpA.fieldAddr rfl tf52_0 rfl ?_)
  refine wpL_op rfl rfl rfl (OpA.load_agg rfl ti26 rfl .head rfl rfl rfl ?_)
  refine wpL_op rfl rfl rfl (OpA.call rfl rfl rfl en13 (perm_c s_state q1) ?_)
  rintro _ rfl
  refine wpL_op rfl rfl rfl (OpA.nc rfl (by with_reducible conv => lhs; whnf) (.inl ⟨_, _, _, _, rfl⟩) ?_)
  refine wpL_op rfl rfl rfl (OpA.fieldAddr rfl tf52_0 rfl ?_)
  refine wpL_eff rfl rfl (OpA.store (e := .agg (arrC 25 (D.k .u64) s_state ++ ([.own a_s_ 1 i_s_ n_s_, D.i s_.taken] ++ (arrC 25 (D.k .u64) s_.seen ++ ([D.s s_.tail, D.s s_.sum]))))) (e' := .agg (arrC 25 (D.k .u64) (permF s_state) ++ ([.own a_s_ 1 i_s_ n_s_, D.i s_.taken] ++ (arrC 25 (D.k .u64) s_.seen ++ ([D.s s_.tail, D.s s_.sum]))))) rfl ti26 rfl (.of rfl) rfl (Nat.le_of_ble_eq_true rfl) arrPutH .head ?_)
  refine wpL_nil ?_
  exact ⟨_, .nil, [(c_s_, .cells 54 [.agg (arrC 25 (D.k .u64) (permF s_state) ++ ([.own a_s_ 1 i_s_ n_s_, D.i s_.taken] ++ (arrC 25 (D.k .u64) s_.seen ++ ([D.s s_.tail, D.s s_.sum]))))]), (c_b, .cells 1 (winL (D.k .u8) pre_b b post_b))], [(c_s_, .cells 54 [.agg (arrC 25 (D.k .u64) (permF s_state) ++ ([.own a_s_ 1 i_s_ n_s_, D.i s_.taken] ++ (arrC 25 (D.k .u64) s_.seen ++ ([D.s s_.tail, D.s s_.sum]))))]), (c_b, .cells 1 (winL (D.k .u8) pre_b b post_b))], (.refl _), (.refl _), (DigestSponge.mk (permF s_state) s_.rest s_.taken s_.seen s_.tail s_.sum), (), rfl, rfl, h⟩
theorem abs_c (s_ : DigestSponge) (c_s_ : Nat) (a_s_ : Nat) (i_s_ : Nat) (n_s_ : Nat) (b : (List Int)) (c_b : Nat) (pre_b post_b : List D)  (hp0 : b.length = 136) (hp1 : s_.state.length = 25) : CallH Try.prog 28 [.ptr c_s_ 54 0 0, .own c_b 1 pre_b.length b.length] [(c_s_, .cells 54 [.agg (arrC 25 (D.k .u64) s_.state ++ ([.own a_s_ 1 i_s_ n_s_, D.i s_.taken] ++ (arrC 25 (D.k .u64) s_.seen ++ ([D.s s_.tail, D.s s_.sum]))))]), (c_b, .cells 1 (winL (D.k .u8) pre_b b post_b))] (fun d h' => ∃ (g : Unit), d = .tup [] ∧ h' = [(c_s_, .cells 54 [.agg (arrC 25 (D.k .u64) ((absF s_ b).state) ++ ([.own a_s_ 1 i_s_ n_s_, D.i ((absF s_ b).taken)] ++ (arrC 25 (D.k .u64) ((absF s_ b).seen) ++ ([D.s ((absF s_ b).tail), D.s ((absF s_ b).sum)]))))]), (c_b, .cells 1 (winL (D.k .u8) pre_b b post_b))]) :=
  (abs_w s_ c_s_ a_s_ i_s_ n_s_ b c_b pre_b post_b  (fun r => r = absF s_ b) (abs_ok s_ b _ hp0 hp1 rfl)).mono (by rintro d h' ⟨r, g, hd, hh, rfl⟩; exact ⟨g, hd, hh⟩)

set_option maxHeartbeats 2000000 in
set_option maxRecDepth 10000 in
theorem cl_w (s_ : DigestSponge) (c_s_ : Nat) (c_s_1 : Nat) (pre_s_ : List D) (post_s_ : List D)  (Q : DigestSponge × DigestSponge → Prop) (h : cl_vc s_ Q) : CallH Try.prog 18 [.ptr c_s_ 54 0 0] [(c_s_, .cells 54 [.agg (arrC 25 (D.k .u64) s_.state ++ ([.own c_s_1 1 pre_s_.length s_.rest.length, D.i s_.taken] ++ (arrC 25 (D.k .u64) s_.seen ++ ([D.s s_.tail, D.s s_.sum]))))]), (c_s_1, .cells 1 (winL (D.k .u8) pre_s_ s_.rest post_s_))] (fun d h' => ∃ (r : DigestSponge × DigestSponge) (g : Nat × Nat × List D × List D × Nat × List D × List D), d = .ptr g.1 54 0 0 ∧ h' = [(g.1, .cells 54 [.agg (arrC 25 (D.k .u64) r.1.state ++ ([.own g.2.1 1 g.2.2.1.length r.1.rest.length, D.i r.1.taken] ++ (arrC 25 (D.k .u64) r.1.seen ++ ([D.s r.1.tail, D.s r.1.sum]))))]), (g.2.1, .cells 1 (winL (D.k .u8) g.2.2.1 r.1.rest g.2.2.2.1)), (c_s_, .cells 54 [.agg (arrC 25 (D.k .u64) r.2.state ++ ([.own g.2.2.2.2.1 1 g.2.2.2.2.2.1.length r.2.rest.length, D.i r.2.taken] ++ (arrC 25 (D.k .u64) r.2.seen ++ ([D.s r.2.tail, D.s r.2.sum]))))]), (g.2.2.2.2.1, .cells 1 (winL (D.k .u8) g.2.2.2.2.2.1 r.2.rest g.2.2.2.2.2.2))] ∧ Q r) := by
  unfold cl_vc at h
  refine CallH.of_bodyP Try.func18 rfl Try.ntmps18 rfl ?_
  refine wpA_seq ?_
  refine wpA_region ?_
  refine wpL_op rfl rfl rfl (OpA.asn rfl (by with_reducible conv => lhs; whnf) ?_)
  refine wpL_nil ?_
  refine wpA_seq ?_
  refine wpA_region ?_
  refine wpL_op rfl rfl rfl (OpA.mv rfl (by with_reducible conv => lhs; whnf) ?_)
  refine wpL_op rfl rfl rfl (OpA.nc rfl (by with_reducible conv => lhs; whnf) (.inl ⟨_, _, _, _, rfl⟩) ?_)
  refine wpL_op rfl rfl rfl (OpA.load_whole rfl ti52 rfl rfl .head rfl ⟨_, rfl⟩ ?_)
  refine wpL_op rfl rfl rfl (OpA.alloc (sz := 54) (d := .agg (arrC 25 (D.k .u64) (List.replicate 25 0) ++ ([.v (.slice none 0 0), D.i 0] ++ (arrC 25 (D.k .u64) (List.replicate 25 0) ++ ([D.s ByteArray.empty, D.s ByteArray.empty]))))) rfl tz52 (fun _ _ => .agg (.cons (.v _) (.cons (.v _) (.cons (.v _) (.cons (.v _) (.cons (.v _) (.cons (.v _) (.cons (.v _) (.cons (.v _) (.cons (.v _) (.cons (.v _) (.cons (.v _) (.cons (.v _) (.cons (.v _) (.cons (.v _) (.cons (.v _) (.cons (.v _) (.cons (.v _) (.cons (.v _) (.cons (.v _) (.cons (.v _) (.cons (.v _) (.cons (.v _) (.cons (.v _) (.cons (.v _) (.cons (.v _) (.cons (.v _) (.cons (.v _) (.cons (.v _) (.cons (.v _) (.cons (.v _) (.cons (.v _) (.cons (.v _) (.cons (.v _) (.cons (.v _) (.cons (.v _) (.cons (.v _) (.cons (.v _) (.cons (.v _) (.cons (.v _) (.cons (.v _) (.cons (.v _) (.cons (.v _) (.cons (.v _) (.cons (.v _) (.cons (.v _) (.cons (.v _) (.cons (.v _) (.cons (.v _) (.cons (.v _) (.cons (.v _) (.cons (.v _) (.cons (.v _) (.cons (.v _) (.cons (.v _) .nil))))))))))))))))))))))))))))))))))))))))))))))))))))))) (.of rfl) (fun c1 _ => ?_))
  refine wpL_eff rfl rfl (OpA.storeW rfl ti52 rfl (by with_reducible conv => lhs; whnf) (.of rfl) rfl rfl .head ?_)
  refine wpL_nil ?_
  refine wpA_seq ?_
  obtain ⟨q1, h⟩ := h
  refine wpA_region ?_
  refine wpL_op rfl rfl rfl (OpA.mv rfl (by with_reducible conv => lhs; whnf) ?_)
  refine wpL_op rfl rfl rfl (OpA.nc rfl (by with_reducible conv => lhs; whnf) (.inl ⟨_, _, _, _, rfl⟩) ?_)
  refine wpL_op rfl rfl rfl (OpA.fieldAddr rfl tf52_1 rfl ?_)
  refine wpL_op rfl rfl rfl (OpA.load rfl ti42 rfl (.tail .head) rfl rfl ?_)
  refine wpL_op rfl rfl rfl (OpA.appendNW (enc := (D.k .u8)) rfl rfl rfl rfl ts42 rfl (.own (.tail (.tail .head))) q1 (fun c2 pre3 => ?_))
  refine wpL_op rfl rfl rfl (OpA.fieldAddr rfl tf52_1 rfl ?_)
  refine wpL_eff rfl rfl (OpA.store (e' := .agg (arrC 25 (D.k .u64) s_.state ++ ([.own c2 1 pre3.length s_.rest.length, D.i s_.taken] ++ (arrC 25 (D.k .u64) s_.seen ++ ([D.s s_.tail, D.s s_.sum]))))) rfl ti42 rfl (.of rfl) rfl (Nat.le_of_ble_eq_true rfl) rfl (.tail .head) ?_)
  refine wpL_nil ?_
  refine wpA_seq ?_
  refine wpA_region ?_
  refine wpL_op rfl rfl rfl (OpA.asn rfl (by with_reducible conv => lhs; whnf) ?_)
  refine wpL_nil ?_
  refine wpA_ret ?_
  exact ⟨_, (.tmp (d := .ptr c1 54 0 0) rfl .nil), [(c1, .cells 54 [.agg (arrC 25 (D.k .u64) s_.state ++ ([.own c2 1 pre3.length s_.rest.length, D.i s_.taken] ++ (arrC 25 (D.k .u64) s_.seen ++ ([D.s s_.tail, D.s s_.sum]))))]), (c2, .cells 1 (winL (D.k .u8) pre3 s_.rest ([] : List D))), (c_s_, .cells 54 [.agg (arrC 25 (D.k .u64) s_.state ++ ([.own c_s_1 1 pre_s_.length s_.rest.length, D.i s_.taken] ++ (arrC 25 (D.k .u64) s_.seen ++ ([D.s s_.tail, D.s s_.sum]))))]), (c_s_1, .cells 1 (winL (D.k .u8) pre_s_ s_.rest post_s_))], [(c1, .cells 54 [.agg (arrC 25 (D.k .u64) s_.state ++ ([.own c2 1 pre3.length s_.rest.length, D.i s_.taken] ++ (arrC 25 (D.k .u64) s_.seen ++ ([D.s s_.tail, D.s s_.sum]))))]), (c2, .cells 1 (winL (D.k .u8) pre3 s_.rest ([] : List D))), (c_s_, .cells 54 [.agg (arrC 25 (D.k .u64) s_.state ++ ([.own c_s_1 1 pre_s_.length s_.rest.length, D.i s_.taken] ++ (arrC 25 (D.k .u64) s_.seen ++ ([D.s s_.tail, D.s s_.sum]))))]), (c_s_1, .cells 1 (winL (D.k .u8) pre_s_ s_.rest post_s_))], pull1, (.refl _), (s_, s_), (c1, c2, pre3, ([] : List D), c_s_1, pre_s_, post_s_), rfl, rfl, h⟩
theorem cl_c (s_ : DigestSponge) (c_s_ : Nat) (c_s_1 : Nat) (pre_s_ : List D) (post_s_ : List D)  (hp0 : s_.rest.length ≤ 136) : CallH Try.prog 18 [.ptr c_s_ 54 0 0] [(c_s_, .cells 54 [.agg (arrC 25 (D.k .u64) s_.state ++ ([.own c_s_1 1 pre_s_.length s_.rest.length, D.i s_.taken] ++ (arrC 25 (D.k .u64) s_.seen ++ ([D.s s_.tail, D.s s_.sum]))))]), (c_s_1, .cells 1 (winL (D.k .u8) pre_s_ s_.rest post_s_))] (fun d h' => ∃ (g : Nat × Nat × List D × List D × Nat × List D × List D), d = .ptr g.1 54 0 0 ∧ h' = [(g.1, .cells 54 [.agg (arrC 25 (D.k .u64) (((clF s_).1).state) ++ ([.own g.2.1 1 g.2.2.1.length (((clF s_).1).rest).length, D.i (((clF s_).1).taken)] ++ (arrC 25 (D.k .u64) (((clF s_).1).seen) ++ ([D.s (((clF s_).1).tail), D.s (((clF s_).1).sum)]))))]), (g.2.1, .cells 1 (winL (D.k .u8) g.2.2.1 (((clF s_).1).rest) g.2.2.2.1)), (c_s_, .cells 54 [.agg (arrC 25 (D.k .u64) (((clF s_).2).state) ++ ([.own g.2.2.2.2.1 1 g.2.2.2.2.2.1.length (((clF s_).2).rest).length, D.i (((clF s_).2).taken)] ++ (arrC 25 (D.k .u64) (((clF s_).2).seen) ++ ([D.s (((clF s_).2).tail), D.s (((clF s_).2).sum)]))))]), (g.2.2.2.2.1, .cells 1 (winL (D.k .u8) g.2.2.2.2.2.1 (((clF s_).2).rest) g.2.2.2.2.2.2))]) :=
  (cl_w s_ c_s_ c_s_1 pre_s_ post_s_  (fun r => r = clF s_) (cl_ok s_ _ hp0 rfl)).mono (by rintro d h' ⟨r, g, hd, hh, rfl⟩; exact ⟨g, hd, hh⟩)

set_option maxHeartbeats 2000000 in
set_option maxRecDepth 10000 in
theorem wr_w (s_ : DigestSponge) (c_s_ : Nat) (c_s_1 : Nat) (pre_s_ : List D) (post_s_ : List D) (parts : (List ByteArray))  (Q : Int × DigestSponge → Prop) (h : wr_vc s_ parts Q) : CallH Try.prog 16 [.ptr c_s_ 54 0 0, (encL 1 D.s) parts] [(c_s_, .cells 54 [.agg (arrC 25 (D.k .u64) s_.state ++ ([.own c_s_1 1 pre_s_.length s_.rest.length, D.i s_.taken] ++ (arrC 25 (D.k .u64) s_.seen ++ ([D.s s_.tail, D.s s_.sum]))))]), (c_s_1, .cells 1 (winL (D.k .u8) pre_s_ s_.rest post_s_))] (fun d h' => ∃ (r : Int × DigestSponge) (g : Nat × List D × List D), d = D.i r.1 ∧ h' = [(c_s_, .cells 54 [.agg (arrC 25 (D.k .u64) r.2.state ++ ([.own g.1 1 g.2.1.length r.2.rest.length, D.i r.2.taken] ++ (arrC 25 (D.k .u64) r.2.seen ++ ([D.s r.2.tail, D.s r.2.sum]))))]), (g.1, .cells 1 (winL (D.k .u8) g.2.1 r.2.rest g.2.2))] ∧ Q r) := by
  unfold wr_vc at h
  refine CallH.of_bodyP Try.func16 rfl Try.ntmps16 rfl ?_
  refine wpA_seq ?_
  refine wpA_region ?_
  refine wpL_op rfl rfl rfl (OpA.asn rfl (by with_reducible conv => lhs; whnf) ?_)
  refine wpL_nil ?_
  iterate 2 refine wpA_seq ?_
  refine wpA_region ?_
  refine wpL_op rfl rfl rfl (OpA.mv rfl (by with_reducible conv => lhs; whnf) ?_)
  refine wpL_op rfl rfl rfl (OpA.len rfl rfl rfl rfl ts33.desc (.inl ⟨_, _, rfl, (List.length_map _).symm⟩) ?_)
  refine wpL_op rfl rfl rfl (OpA.mv rfl (by with_reducible conv => lhs; whnf) ?_)
  refine wpL_nil ?_
  refine wpA_block ?_
  refine wpA_lfp (S := (List Int) × Int × (List Int) × ByteArray × ByteArray × (List Int) × Int) (G := Nat × List D × List D) (c_s_1, pre_s_, post_s_) (fun gg ss => asg [(0, .ptr c_s_ 54 0 0), (4, D.i 0), (7, (encL 1 D.s) parts), (8, D.i (parts.length : Int)), (9, D.i ss.2.2.2.2.2.2)]) (fun gg ss => [(c_s_, .cells 54 [.agg (arrC 25 (D.k .u64) ss.1 ++ ([.own gg.1 1 gg.2.1.length ss.2.2.2.2.2.1.length, D.i ss.2.1] ++ (arrC 25 (D.k .u64) ss.2.2.1 ++ ([D.s ss.2.2.2.1, D.s ss.2.2.2.2.1]))))]), (gg.1, .cells 1 (winL (D.k .u8) gg.2.1 ss.2.2.2.2.2.1 gg.2.2))]) h (Cov.asg ⟨rfl, rfl, rfl, rfl, rfl, trivial⟩) (.refl _) ?_
  rintro again1 ⟨cs__rest, pres__rest, posts__rest⟩ ⟨s_state, s_taken, s_seen, s_tail, s_sum, xs, x⟩ h
  have h : wr_L1 parts Q again1 s_state s_taken s_seen s_tail s_sum xs x := h
  unfold wr_L1 at h
  show wpA _ _ _ _ (asg [(0, .ptr c_s_ 54 0 0), (4, D.i 0), (7, (encL 1 D.s) parts), (8, D.i (parts.length : Int)), (9, D.i x)]) [(c_s_, .cells 54 [.agg (arrC 25 (D.k .u64) s_state ++ ([.own cs__rest 1 pres__rest.length xs.length, D.i s_taken] ++ (arrC 25 (D.k .u64) s_seen ++ ([D.s s_tail, D.s s_sum]))))]), (cs__rest, .cells 1 (winL (D.k .u8) pres__rest xs posts__rest))]
  refine wpA_seq ?_
  refine wpA_region ?_
  refine wpL_op rfl rfl rfl (OpA.lss rfl rfl rfl ?_)
  refine wpL_nil ?_
  refine wpA_seq ?_
  refine wpA_cond rfl (fun b2 => ?_) (fun b2 => ?_)
  have h := h.1 (decT b2)
  refine wpA_skip ?_
  refine wpA_seq ?_
  refine wpA_block ?_
  refine wpA_seq ?_
  obtain ⟨q1, h⟩ := h
  refine wpA_region ?_
  refine wpL_op rfl rfl rfl (OpA.iixV (enc := D.s) rfl ts33 rfl rfl rfl q1 ?_)
  refine wpL_op rfl rfl rfl (OpA.iload rfl ti9 rfl rfl ?_)
  refine wpL_op rfl rfl rfl (OpA.asn rfl (by with_reducible conv => lhs; whnf) ?_)
  refine wpL_nil ?_
  refine wpA_seq ?_
  obtain ⟨q1, h⟩ := h
  refine wpA_region ?_
  refine wpL_op rfl rfl rfl (OpA.mv rfl (by with_reducible conv => lhs; whnf) ?_)
  refine wpL_op rfl rfl rfl (OpA.nc rfl (by with_reducible conv => lhs; whnf) (.inl ⟨_, _, _, _, rfl⟩) ?_)
  refine wpL_op rfl rfl rfl (OpA.fieldAddr rfl tf52_2 rfl ?_)
  refine wpL_op rfl rfl rfl (OpA.load rfl ti3 rfl .head rfl rfl ?_)
  refine wpL_op rfl rfl rfl (OpA.mv rfl (by with_reducible conv => lhs; whnf) ?_)
  refine wpL_op rfl rfl rfl (OpA.slen rfl rfl rfl rfl td9 rfl ?_)
  refine wpL_op rfl rfl rfl (OpA.addi rfl rfl rfl q1 ?_)
  refine wpL_op rfl rfl rfl (OpA.nc rfl (by with_reducible conv => lhs; whnf) (.inl ⟨_, _, _, _, rfl⟩) ?_)
  refine wpL_op rfl rfl rfl (OpA.fieldAddr rfl tf52_2 rfl ?_)
  refine wpL_eff rfl rfl (OpA.store (e' := .agg (arrC 25 (D.k .u64) s_state ++ ([.own cs__rest 1 pres__rest.length xs.length, D.i (s_taken + ((gi parts x).size : Int))] ++ (arrC 25 (D.k .u64) s_seen ++ ([D.s s_tail, D.s s_sum]))))) rfl ti3 rfl (.of rfl) rfl (Nat.le_of_ble_eq_true rfl) rfl .head ?_)
  refine wpL_nil ?_
  refine wpA_seq ?_
  obtain ⟨q1, h⟩ := h
  refine wpA_region ?_
  refine wpL_op rfl rfl rfl (OpA.mv rfl (by with_reducible conv => lhs; whnf) ?_)
  refine wpL_op rfl rfl rfl (OpA.mv rfl (by with_reducible conv => lhs; whnf) ?_)
  refine wpL_op rfl rfl rfl (OpA.nc rfl (by with_reducible conv => lhs; whnf) (.inl ⟨_, _, _, _, rfl⟩) ?_)
  refine wpL_op rfl rfl rfl (OpA.fieldAddr rfl tf52_1 rfl ?_)
  refine wpL_op rfl rfl rfl (OpA.load rfl ti42 rfl .head rfl rfl ?_)
  refine wpL_op rfl rfl rfl (OpA.mv rfl (by with_reducible conv => lhs; whnf) ?_)
  refine wpL_op rfl rfl rfl (OpA.appendS rfl rfl rfl rfl ts42 td9 rfl (fun _ _ => (.tail .head)) rfl q1 (fun c3 pre4 => ?_))
  refine wpL_op rfl rfl rfl (OpA.nc rfl (by with_reducible conv => lhs; whnf) (.inl ⟨_, _, _, _, rfl⟩) ?_)
  refine wpL_op rfl rfl rfl (OpA.fieldAddr rfl tf52_1 rfl ?_)
  refine wpL_eff rfl rfl (OpA.store (e' := .agg (arrC 25 (D.k .u64) s_state ++ ([.own c3 1 pre4.length (xs ++ sbytes (gi parts x)).length, D.i (s_taken + ((gi parts x).size : Int))] ++ (arrC 25 (D.k .u64) s_seen ++ ([D.s s_tail, D.s s_sum]))))) rfl ti42 rfl (.of rfl) rfl (Nat.le_of_ble_eq_true rfl) rfl .head ?_)
  refine wpL_nil ?_
  refine wpA_block ?_
  refine wpA_lfp (S := (List Int) × Int × (List Int) × ByteArray × ByteArray × (List Int)) (G := Nat × List D × List D) (c3, pre4, ([] : List D)) (fun gg ss => asg [(0, .ptr c_s_ 54 0 0), (4, D.i 0), (7, (encL 1 D.s) parts), (8, D.i (parts.length : Int)), (9, D.i x)]) (fun gg ss => [(c_s_, .cells 54 [.agg (arrC 25 (D.k .u64) ss.1 ++ ([.own gg.1 1 gg.2.1.length ss.2.2.2.2.2.length, D.i ss.2.1] ++ (arrC 25 (D.k .u64) ss.2.2.1 ++ ([D.s ss.2.2.2.1, D.s ss.2.2.2.2.1]))))]), (gg.1, .cells 1 (winL (D.k .u8) gg.2.1 ss.2.2.2.2.2 gg.2.2))]) h (Cov.asg ⟨rfl, rfl, rfl, rfl, rfl, trivial⟩) (.refl _) ?_
  rintro again5 ⟨cs__rest1, pres__rest1, posts__rest1⟩ ⟨s_state1, s_taken1, s_seen1, s_tail1, s_sum1, xs1⟩ h
  have h : wr_L2 x again1 again5 s_state1 s_taken1 s_seen1 s_tail1 s_sum1 xs1 := h
  unfold wr_L2 at h
  show wpA _ _ _ _ (asg [(0, .ptr c_s_ 54 0 0), (4, D.i 0), (7, (encL 1 D.s) parts), (8, D.i (parts.length : Int)), (9, D.i x)]) [(c_s_, .cells 54 [.agg (arrC 25 (D.k .u64) s_state1 ++ ([.own cs__rest1 1 pres__rest1.length xs1.length, D.i s_taken1] ++ (arrC 25 (D.k .u64) s_seen1 ++ ([D.s s_tail1, D.s s_sum1]))))]), (cs__rest1, .cells 1 (winL (D.k .u8) pres__rest1 xs1 posts__rest1))]
  iterate 2 refine wpA_seq ?_
  refine wpA_region ?_
  refine wpL_op rfl rfl rfl (OpA.mv rfl (by with_reducible conv => lhs; whnf) ?_)
  refine wpL_op rfl rfl rfl (OpA.nc rfl (by with_reducible conv => lhs; whnf) (.inl ⟨_, _, _, _, rfl⟩) ?_)
  refine wpL_op rfl rfl rfl (OpA.fieldAddr rfl tf52_1 rfl ?_)
  refine wpL_op rfl rfl rfl (OpA.load rfl ti42 rfl .head rfl rfl ?_)
  refine wpL_op rfl rfl rfl (OpA.len rfl rfl rfl rfl ts42.desc (.inr (.inl ⟨_, _, _, rfl⟩)) ?_)
  refine wpL_op rfl rfl rfl (OpA.geq rfl rfl rfl ?_)
  refine wpL_nil ?_
  refine wpA_cond rfl (fun b6 => ?_) (fun b6 => ?_)
  have h := h.1 (decT b6)
  refine wpA_skip ?_
  refine wpA_block ?_
  refine wpA_seq ?_
  obtain ⟨q1, q2, q3, h⟩ := h
  refine wpA_region ?_
  refine wpL_op rfl rfl rfl (OpA.mv rfl (by with_reducible conv => lhs; whnf) ?_)
  refine wpL_op rfl rfl rfl (OpA.mv rfl (by with_reducible conv => lhs; whnf) ?_)
  refine wpL_op rfl rfl rfl (OpA.nc rfl (by with_reducible conv => lhs; whnf) (.inl ⟨_, _, _, _, rfl⟩) ?_)
  refine wpL_op rfl rfl rfl (OpA.fieldAddr rfl tf52_1 rfl ?_)
  refine wpL_op rfl rfl rfl (OpA.load rfl ti42 rfl .head rfl rfl ?_)
  refine wpL_op rfl rfl rfl (OpA.sliceV (enc := (D.k .u8)) rfl ts42 rfl (.none _) (.some rfl) q1 (.tail .head) ?_)
  refine wpL_op rfl rfl rfl (OpA.callH rfl rfl rfl en28 (h1 := [(c_s_, .cells 54 [.agg (arrC 25 (D.k .u64) s_state1 ++ ([.own cs__rest1 1 pres__rest1.length xs1.length, D.i s_taken1] ++ (arrC 25 (D.k .u64) s_seen1 ++ ([D.s s_tail1, D.s s_sum1]))))]), (cs__rest1, .cells 1 (winL (D.k .u8) (pres__rest1 ++ (xs1.take (Int.toNat 0)).map (D.k .u8)) (lsub xs1 0 136) ((xs1.drop (Int.toNat 136)).map (D.k .u8) ++ posts__rest1)))]) (h2 := []) (.refl _) (abs_c (DigestSponge.mk s_state1 xs1 s_taken1 s_seen1 s_tail1 s_sum1) c_s_ cs__rest1 pres__rest1.length xs1.length (lsub xs1 0 136) cs__rest1 (pres__rest1 ++ (xs1.take (Int.toNat 0)).map (D.k .u8)) ((xs1.drop (Int.toNat 136)).map (D.k .u8) ++ posts__rest1) q2 q3) ?_)
  rintro _ _ ⟨_, rfl, rfl⟩
  refine wpL_widen (enc := (D.k .u8)) (pre := pres__rest1) (post := posts__rest1) (xs := xs1) q1 (.tail .head) ?_
  refine wpL_nil ?_
  obtain ⟨q1, q2, h⟩ := h
  refine wpA_region ?_
  refine wpL_op rfl rfl rfl (OpA.mv rfl (by with_reducible conv => lhs; whnf) ?_)
  refine wpL_op rfl rfl rfl (OpA.mv rfl (by with_reducible conv => lhs; whnf) ?_)
  refine wpL_op rfl rfl rfl (OpA.nc rfl (by with_reducible conv => lhs; whnf) (.inl ⟨_, _, _, _, rfl⟩) ?_)
  refine wpL_op rfl rfl rfl (OpA.fieldAddr rfl tf52_1 rfl ?_)
  refine wpL_op rfl rfl rfl (OpA.load rfl ti42 rfl .head rfl rfl ?_)
  refine wpL_op rfl rfl rfl (OpA.sliceV (enc := (D.k .u8)) rfl ts42 rfl (.some rfl) (.none _) q1 (.tail .head) ?_)
  refine wpL_op rfl rfl rfl (OpA.appendNW (enc := (D.k .u8)) rfl rfl rfl rfl ts42 rfl (.own (.tail .head)) q2 (fun c7 pre8 => ?_))
  refine wpL_widen (enc := (D.k .u8)) (pre := pres__rest1) (post := posts__rest1) (xs := xs1) q1 (.tail (.tail .head)) ?_
  refine wpL_op rfl rfl rfl (OpA.nc rfl (by with_reducible conv => lhs; whnf) (.inl ⟨_, _, _, _, rfl⟩) ?_)
  refine wpL_op rfl rfl rfl (OpA.fieldAddr rfl tf52_1 rfl ?_)
  refine wpL_eff rfl rfl (OpA.store (e' := .agg (arrC 25 (D.k .u64) ((absF (DigestSponge.mk s_state1 xs1 s_taken1 s_seen1 s_tail1 s_sum1) (lsub xs1 0 136)).state) ++ ([.own c7 1 pre8.length (lsub xs1 136 (xs1.length : Int)).length, D.i ((absF (DigestSponge.mk s_state1 xs1 s_taken1 s_seen1 s_tail1 s_sum1) (lsub xs1 0 136)).taken)] ++ (arrC 25 (D.k .u64) ((absF (DigestSponge.mk s_state1 xs1 s_taken1 s_seen1 s_tail1 s_sum1) (lsub xs1 0 136)).seen) ++ ([D.s ((absF (DigestSponge.mk s_state1 xs1 s_taken1 s_seen1 s_tail1 s_sum1) (lsub xs1 0 136)).tail), D.s ((absF (DigestSponge.mk s_state1 xs1 s_taken1 s_seen1 s_tail1 s_sum1) (lsub xs1 0 136)).sum)]))))) rfl ti42 rfl (.of rfl) rfl (Nat.le_of_ble_eq_true rfl) rfl (.tail .head) ?_)
  refine wpL_keep (h1 := [(c_s_, .cells 54 [.agg (arrC 25 (D.k .u64) ((absF (DigestSponge.mk s_state1 xs1 s_taken1 s_seen1 s_tail1 s_sum1) (lsub xs1 0 136)).state) ++ ([.own c7 1 pre8.length (lsub xs1 136 (xs1.length : Int)).length, D.i ((absF (DigestSponge.mk s_state1 xs1 s_taken1 s_seen1 s_tail1 s_sum1) (lsub xs1 0 136)).taken)] ++ (arrC 25 (D.k .u64) ((absF (DigestSponge.mk s_state1 xs1 s_taken1 s_seen1 s_tail1 s_sum1) (lsub xs1 0 136)).seen) ++ ([D.s ((absF (DigestSponge.mk s_state1 xs1 s_taken1 s_seen1 s_tail1 s_sum1) (lsub xs1 0 136)).tail), D.s ((absF (DigestSponge.mk s_state1 xs1 s_taken1 s_seen1 s_tail1 s_sum1) (lsub xs1 0 136)).sum)]))))]), (c7, .cells 1 (winL (D.k .u8) pre8 (lsub xs1 136 (xs1.length : Int)) ([] : List D))), (cs__rest1, .cells 1 (winL (D.k .u8) pres__rest1 xs1 posts__rest1))]) (h0 := [(c_s_, .cells 54 [.agg (arrC 25 (D.k .u64) ((absF (DigestSponge.mk s_state1 xs1 s_taken1 s_seen1 s_tail1 s_sum1) (lsub xs1 0 136)).state) ++ ([.own c7 1 pre8.length (lsub xs1 136 (xs1.length : Int)).length, D.i ((absF (DigestSponge.mk s_state1 xs1 s_taken1 s_seen1 s_tail1 s_sum1) (lsub xs1 0 136)).taken)] ++ (arrC 25 (D.k .u64) ((absF (DigestSponge.mk s_state1 xs1 s_taken1 s_seen1 s_tail1 s_sum1) (lsub xs1 0 136)).seen) ++ ([D.s ((absF (DigestSponge.mk s_state1 xs1 s_taken1 s_seen1 s_tail1 s_sum1) (lsub xs1 0 136)).tail), D.s ((absF (DigestSponge.mk s_state1 xs1 s_taken1 s_seen1 s_tail1 s_sum1) (lsub xs1 0 136)).sum)]))))]), (c7, .cells 1 (winL (D.k .u8) pre8 (lsub xs1 136 (xs1.length : Int)) ([] : List D)))]) pull1 (.cons₂ _ (.cons₂ _ (.cons _ (.refl _)))) ?_
  refine wpL_nil ?_
  exact ⟨(c7, pre8, ([] : List D)), ((absF (DigestSponge.mk s_state1 xs1 s_taken1 s_seen1 s_tail1 s_sum1) (lsub xs1 0 136)).state, (absF (DigestSponge.mk s_state1 xs1 s_taken1 s_seen1 s_tail1 s_sum1) (lsub xs1 0 136)).taken, (absF (DigestSponge.mk s_state1 xs1 s_taken1 s_seen1 s_tail1 s_sum1) (lsub xs1 0 136)).seen, (absF (DigestSponge.mk s_state1 xs1 s_taken1 s_seen1 s_tail1 s_sum1) (lsub xs1 0 136)).tail, (absF (DigestSponge.mk s_state1 xs1 s_taken1 s_seen1 s_tail1 s_sum1) (lsub xs1 0 136)).sum, (lsub xs1 136 (xs1.length : Int))), h, (Cov.asg ⟨rfl, rfl, rfl, rfl, rfl, trivial⟩), (.refl _)⟩
  have h := h.2 (decF b6)
  refine wpA_exit ?_
  obtain ⟨q1, h⟩ := h
  refine wpA_region ?_
  refine wpL_op rfl rfl rfl (OpA.addi rfl rfl rfl q1 ?_)
  refine wpL_op rfl rfl rfl (OpA.mv rfl (by with_reducible conv => lhs; whnf) ?_)
  refine wpL_nil ?_
  exact ⟨(cs__rest1, pres__rest1, posts__rest1), (s_state1, s_taken1, s_seen1, s_tail1, s_sum1, xs1, (x + 1)), h, (Cov.asg ⟨rfl, rfl, rfl, rfl, rfl, trivial⟩), (.refl _)⟩
  have h := h.2 (decF b2)
  refine wpA_exit ?_
  refine wpA_seq ?_
  refine wpA_region ?_
  refine wpL_op rfl rfl rfl (OpA.mv rfl (by with_reducible conv => lhs; whnf) ?_)
  refine wpL_op rfl rfl rfl (OpA.nc rfl (by with_reducible conv => lhs; whnf) (.inl ⟨_, _, _, _, rfl⟩) ?_)
  refine wpL_op rfl rfl rfl (OpA.fieldAddr rfl tf52_2 rfl ?_)
  refine wpL_op rfl rfl rfl (OpA.load rfl ti3 rfl .head rfl rfl ?_)
  refine wpL_op rfl rfl rfl (OpA.asn rfl (by with_reducible conv => lhs; whnf) ?_)
  refine wpL_nil ?_
  refine wpA_ret ?_
  exact ⟨_, (.tmp (d := D.i s_taken) rfl .nil), [(c_s_, .cells 54 [.agg (arrC 25 (D.k .u64) s_state ++ ([.own cs__rest 1 pres__rest.length xs.length, D.i s_taken] ++ (arrC 25 (D.k .u64) s_seen ++ ([D.s s_tail, D.s s_sum]))))]), (cs__rest, .cells 1 (winL (D.k .u8) pres__rest xs posts__rest))], [(c_s_, .cells 54 [.agg (arrC 25 (D.k .u64) s_state ++ ([.own cs__rest 1 pres__rest.length xs.length, D.i s_taken] ++ (arrC 25 (D.k .u64) s_seen ++ ([D.s s_tail, D.s s_sum]))))]), (cs__rest, .cells 1 (winL (D.k .u8) pres__rest xs posts__rest))], (.refl _), (.refl _), (s_taken, (DigestSponge.mk s_state xs s_taken s_seen s_tail s_sum)), (cs__rest, pres__rest, posts__rest), rfl, rfl, h⟩
theorem wr_c (s_ : DigestSponge) (c_s_ : Nat) (c_s_1 : Nat) (pre_s_ : List D) (post_s_ : List D) (parts : (List ByteArray))  (hp0 : s_.state.length = 25) (hp1 : s_.rest.length ≤ 135) (hp2 : (0 : Int) ≤ s_.taken) (hp3 : s_.taken ≤ (1000000 : Int)) (hp4 : parts.length ≤ 6) (hp5 : ∀ p ∈ parts, p.size ≤ 1000000) : CallH Try.prog 16 [.ptr c_s_ 54 0 0, (encL 1 D.s) parts] [(c_s_, .cells 54 [.agg (arrC 25 (D.k .u64) s_.state ++ ([.own c_s_1 1 pre_s_.length s_.rest.length, D.i s_.taken] ++ (arrC 25 (D.k .u64) s_.seen ++ ([D.s s_.tail, D.s s_.sum]))))]), (c_s_1, .cells 1 (winL (D.k .u8) pre_s_ s_.rest post_s_))] (fun d h' => ∃ (g : Nat × List D × List D), d = D.i ((wrF s_ parts).1) ∧ h' = [(c_s_, .cells 54 [.agg (arrC 25 (D.k .u64) (((wrF s_ parts).2).state) ++ ([.own g.1 1 g.2.1.length (((wrF s_ parts).2).rest).length, D.i (((wrF s_ parts).2).taken)] ++ (arrC 25 (D.k .u64) (((wrF s_ parts).2).seen) ++ ([D.s (((wrF s_ parts).2).tail), D.s (((wrF s_ parts).2).sum)]))))]), (g.1, .cells 1 (winL (D.k .u8) g.2.1 (((wrF s_ parts).2).rest) g.2.2))]) :=
  (wr_w s_ c_s_ c_s_1 pre_s_ post_s_ parts  (fun r => r = wrF s_ parts) (wr_ok s_ parts _ hp0 hp1 hp2 hp3 hp4 hp5 rfl)).mono (by rintro d h' ⟨r, g, hd, hh, rfl⟩; exact ⟨g, hd, hh⟩)
end Go.Proofs.Ytchidogjhgelpaa
