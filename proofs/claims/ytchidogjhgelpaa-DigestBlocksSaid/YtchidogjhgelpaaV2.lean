/-
  walks and contracts
-/
import Derived.Test.YtchidogjhgelpaaV1
set_option linter.all false
namespace Go.Proofs.Ytchidogjhgelpaa
open Go Go.Lic
attribute [local irreducible] rotF offF conF offsF consF roundF roundR permF sumF hexF digF parseF idxB hex1 newF absF clF wrF ssF



set_option maxHeartbeats 2000000 in
set_option maxRecDepth 10000 in
theorem rsum_w (data : ByteArray)  (Q : ByteArray → Prop) (h : rsum_vc data Q) : Fun false Try.prog 12 [D.s data] (fun d => ∃ r, d = D.s r ∧ Q r) := by
  unfold rsum_vc at h
  refine Fun.of_body Try.func12 rfl Try.ntmps12 rfl ?_
  refine wpA_seq ?_
  refine wpA_region ?_
  refine wpL_op rfl rfl rfl (OpA.asn rfl (by with_reducible conv => lhs; whnf) ?_)
  refine wpL_nil ?_
  refine wpA_seq ?_
  refine wpA_region ?_
  refine wpL_op rfl rfl rfl (OpA.mv rfl (by with_reducible conv => lhs; whnf) ?_)
  refine wpL_op rfl rfl rfl (OpA.strBytes rfl td9 ts42.desc td5 rfl (fun c1 => ?_))
  refine wpL_op rfl rfl rfl (OpA.asn rfl (by with_reducible conv => lhs; whnf) ?_)
  refine wpL_nil ?_
  refine wpA_seq ?_
  obtain ⟨q1, h⟩ := h
  refine wpA_region ?_
  refine wpL_op rfl rfl rfl (OpA.mv rfl (by with_reducible conv => lhs; whnf) ?_)
  refine wpL_op rfl rfl rfl (OpA.ibuildSliceO rfl ts42 rfl (.cons (.of (sz := 1) rfl) .nil) (by decide) ?_)
  refine wpL_op rfl rfl rfl (OpA.appendW (enc := (D.k .u8)) rfl rfl rfl rfl ts42 rfl (fun _ _ => .head) (.list (ys := ([6] : List Int))) q1 (fun c2 pre3 => ?_))
  refine wpL_op rfl rfl rfl (OpA.asn rfl (by with_reducible conv => lhs; whnf) ?_)
  refine wpL_nil ?_
  refine wpA_seq ?_
  refine wpA_block ?_
  refine wpA_lfp (S := (List Int)) (G := Nat × List D × List D) (c2, pre3, ([] : List D)) (fun gg ss => asg [(2, D.s (⟨#[]⟩ : ByteArray)), (3, .own gg.1 1 gg.2.1.length ss.length)]) (fun gg ss => [(gg.1, .cells 1 (winL (D.k .u8) gg.2.1 ss gg.2.2))]) h (Cov.asg ⟨rfl, rfl, trivial⟩) (.refl _) ?_
  rintro again4 ⟨c10, pre10, post10⟩ b h
  have h : rsum_L1 Q again4 b := h
  unfold rsum_L1 at h
  show wpA _ _ _ _ (asg [(2, D.s (⟨#[]⟩ : ByteArray)), (3, .own c10 1 pre10.length b.length)]) [(c10, .cells 1 (winL (D.k .u8) pre10 b post10))]
  iterate 2 refine wpA_seq ?_
  obtain ⟨q1, h⟩ := h
  refine wpA_region ?_
  refine wpL_op rfl rfl rfl (OpA.mv rfl (by with_reducible conv => lhs; whnf) ?_)
  refine wpL_op rfl rfl rfl (OpA.len rfl rfl rfl rfl ts42.desc (.inr (.inl ⟨_, _, _, rfl⟩)) ?_)
  refine wpL_op rfl rfl rfl (OpA.remN rfl rfl rfl q1 ?_)
  refine wpL_op rfl rfl rfl (OpA.neq rfl rfl rfl ?_)
  refine wpL_nil ?_
  refine wpA_cond rfl (fun b5 => ?_) (fun b5 => ?_)
  have h := h.1 (bneT b5)
  refine wpA_skip ?_
  refine wpA_block ?_
  obtain ⟨q1, h⟩ := h
  refine wpA_region ?_
  refine wpL_op rfl rfl rfl (OpA.mv rfl (by with_reducible conv => lhs; whnf) ?_)
  refine wpL_op rfl rfl rfl (OpA.ibuildSliceO rfl ts42 rfl (.cons (.of (sz := 1) rfl) .nil) (by decide) ?_)
  refine wpL_op rfl rfl rfl (OpA.appendW (enc := (D.k .u8)) rfl rfl rfl rfl ts42 rfl (fun _ _ => .head) (.list (ys := ([0] : List Int))) q1 (fun c6 pre7 => ?_))
  refine wpL_op rfl rfl rfl (OpA.asn rfl (by with_reducible conv => lhs; whnf) ?_)
  refine wpL_nil ?_
  exact ⟨(c6, pre7, ([] : List D)), (b ++ ([0] : List Int)), h, (Cov.asg ⟨rfl, rfl, trivial⟩), (.refl _)⟩
  have h := h.2 (bneF b5)
  refine wpA_exit ?_
  refine wpA_seq ?_
  obtain ⟨q1, q2, h⟩ := h
  refine wpA_region ?_
  refine wpL_op rfl rfl rfl (OpA.mv rfl (by with_reducible conv => lhs; whnf) ?_)
  refine wpL_op rfl rfl rfl (OpA.mv rfl (by with_reducible conv => lhs; whnf) ?_)
  refine wpL_op rfl rfl rfl (OpA.len rfl rfl rfl rfl ts42.desc (.inr (.inl ⟨_, _, _, rfl⟩)) ?_)
  refine wpL_op rfl rfl rfl (OpA.subi rfl rfl rfl q1 ?_)
  refine wpL_op rfl rfl rfl (OpA.mv rfl (by with_reducible conv => lhs; whnf) ?_)
  refine wpL_op rfl rfl rfl (OpA.mv rfl (by with_reducible conv => lhs; whnf) ?_)
  refine wpL_op rfl rfl rfl (OpA.len rfl rfl rfl rfl ts42.desc (.inr (.inl ⟨_, _, _, rfl⟩)) ?_)
  refine wpL_op rfl rfl rfl (OpA.subi rfl rfl rfl q1 ?_)
  refine wpL_op rfl rfl rfl (OpA.ixV rfl ts42 rfl rfl q2 ?_)
  refine wpL_op rfl rfl rfl (OpA.load rfl ti5 rfl .head (getV (enc := (D.k .u8)) q2) rfl ?_)
  refine wpL_op rfl rfl rfl (OpA.bor rfl rfl rfl ?_)
  refine wpL_op rfl rfl rfl (OpA.ixV rfl ts42 rfl rfl q2 ?_)
  refine wpL_eff rfl rfl (OpA.storeV (enc := (D.k .u8)) (v := (gor .u8 (gi b ((b.length : Int) - 1)) 128)) rfl ti5 rfl rfl (.of rfl) rfl q2 .head ?_)
  refine wpL_nil ?_
  refine wpA_seq ?_
  refine wpA_region ?_
  refine wpL_op rfl rfl rfl (OpA.alloc (sz := 25) (d := (encArr 25 (D.k .u64)) (List.replicate 25 0)) rfl tz26 (fun _ _ => .agg (.cons (.v _) (.cons (.v _) (.cons (.v _) (.cons (.v _) (.cons (.v _) (.cons (.v _) (.cons (.v _) (.cons (.v _) (.cons (.v _) (.cons (.v _) (.cons (.v _) (.cons (.v _) (.cons (.v _) (.cons (.v _) (.cons (.v _) (.cons (.v _) (.cons (.v _) (.cons (.v _) (.cons (.v _) (.cons (.v _) (.cons (.v _) (.cons (.v _) (.cons (.v _) (.cons (.v _) (.cons (.v _) .nil)))))))))))))))))))))))))) (.of rfl) (fun c8 _ => ?_))
  refine wpL_nil ?_
  iterate 2 refine wpA_seq ?_
  refine wpA_region ?_
  refine wpL_op rfl rfl rfl (OpA.asn rfl (by with_reducible conv => lhs; whnf) ?_)
  refine wpL_nil ?_
  refine wpA_block ?_
  refine wpA_lfp (S := (List Int) × Int) (G := Unit) () (fun gg ss => asg [(2, D.s (⟨#[]⟩ : ByteArray)), (3, .own c10 1 pre10.length (si b ((b.length : Int) - 1) (gor .u8 (gi b ((b.length : Int) - 1)) 128)).length), (4, .ptr c8 25 0 0), (5, D.i ss.2)]) (fun gg ss => [(c8, .cells 25 [(encArr 25 (D.k .u64)) ss.1]), (c10, .cells 1 (winL (D.k .u8) pre10 (si b ((b.length : Int) - 1) (gor .u8 (gi b ((b.length : Int) - 1)) 128)) post10))]) h (Cov.asg ⟨rfl, (congrArg (D.own c10 1 pre10.length) (by simp only [si_length, gcopy_length])), rfl, rfl, trivial⟩) (.refl _) ?_
  rintro again9 _ ⟨s_, at_⟩ h
  have h : rsum_L2 b Q again9 s_ at_ := h
  unfold rsum_L2 at h
  show wpA _ _ _ _ (asg [(2, D.s (⟨#[]⟩ : ByteArray)), (3, .own c10 1 pre10.length (si b ((b.length : Int) - 1) (gor .u8 (gi b ((b.length : Int) - 1)) 128)).length), (4, .ptr c8 25 0 0), (5, D.i at_)]) [(c8, .cells 25 [(encArr 25 (D.k .u64)) s_]), (c10, .cells 1 (winL (D.k .u8) pre10 (si b ((b.length : Int) - 1) (gor .u8 (gi b ((b.length : Int) - 1)) 128)) post10))]
  iterate 2 refine wpA_seq ?_
  refine wpA_region ?_
  refine wpL_op rfl rfl rfl (OpA.mv rfl (by with_reducible conv => lhs; whnf) ?_)
  refine wpL_op rfl rfl rfl (OpA.mv rfl (by with_reducible conv => lhs; whnf) ?_)
  refine wpL_op rfl rfl rfl (OpA.len rfl rfl rfl rfl ts42.desc (.inr (.inl ⟨_, _, _, rfl⟩)) ?_)
  refine wpL_op rfl rfl rfl (OpA.lss rfl rfl rfl ?_)
  refine wpL_nil ?_
  refine wpA_cond rfl (fun b10 => ?_) (fun b10 => ?_)
  have h := h.1 (decT b10)
  refine wpA_skip ?_
  refine wpA_seq ?_
  refine wpA_block ?_
  iterate 2 refine wpA_seq ?_
  refine wpA_region ?_
  refine wpL_op rfl rfl rfl (OpA.asn rfl (by with_reducible conv => lhs; whnf) ?_)
  refine wpL_nil ?_
  refine wpA_block ?_
  refine wpA_lfp (S := (List Int) × Int) (G := Unit) () (fun gg ss => asg [(2, D.s (⟨#[]⟩ : ByteArray)), (3, .own c10 1 pre10.length (si b ((b.length : Int) - 1) (gor .u8 (gi b ((b.length : Int) - 1)) 128)).length), (4, .ptr c8 25 0 0), (5, D.i at_), (6, D.i ss.2)]) (fun gg ss => [(c8, .cells 25 [(encArr 25 (D.k .u64)) ss.1]), (c10, .cells 1 (winL (D.k .u8) pre10 (si b ((b.length : Int) - 1) (gor .u8 (gi b ((b.length : Int) - 1)) 128)) post10))]) h (Cov.asg ⟨rfl, rfl, rfl, rfl, rfl, trivial⟩) (.refl _) ?_
  rintro again11 _ ⟨s_1, i⟩ h
  have h : rsum_L3 b at_ again9 again11 s_1 i := h
  unfold rsum_L3 at h
  show wpA _ _ _ _ (asg [(2, D.s (⟨#[]⟩ : ByteArray)), (3, .own c10 1 pre10.length (si b ((b.length : Int) - 1) (gor .u8 (gi b ((b.length : Int) - 1)) 128)).length), (4, .ptr c8 25 0 0), (5, D.i at_), (6, D.i i)]) [(c8, .cells 25 [(encArr 25 (D.k .u64)) s_1]), (c10, .cells 1 (winL (D.k .u8) pre10 (si b ((b.length : Int) - 1) (gor .u8 (gi b ((b.length : Int) - 1)) 128)) post10))]
  iterate 2 refine wpA_seq ?_
  refine wpA_region ?_
  refine wpL_op rfl rfl rfl (OpA.mv rfl (by with_reducible conv => lhs; whnf) ?_)
  refine wpL_op rfl rfl rfl (OpA.lss rfl rfl rfl ?_)
  refine wpL_nil ?_
  refine wpA_cond rfl (fun b12 => ?_) (fun b12 => ?_)
  have h := h.1 (decT b12)
  refine wpA_skip ?_
  refine wpA_seq ?_
  refine wpA_block ?_
  obtain ⟨q1, q2, q3, q4, q5, q6, q7, q8, h⟩ := h
  refine wpA_draw (m := 20) mo (by kernel_rfl) rfl ?_
  refine DetK.op rfl (OpA.mv rfl (by with_reducible conv => lhs; whnf) ⟨rfl, rfl⟩) ?_
  refine DetK.op rfl (OpA.quoN rfl rfl rfl q1 ⟨rfl, rfl⟩) ?_
  refine DetK.op rfl (OpA.mv rfl (by with_reducible conv => lhs; whnf) ⟨rfl, rfl⟩) ?_
  refine DetK.op rfl (OpA.quoN rfl rfl rfl q1 ⟨rfl, rfl⟩) ?_
  refine DetK.op rfl (OpA.aixV rfl td26 ti25 rfl rfl q2 ⟨rfl, rfl⟩) ?_
  refine DetK.op rfl (OpA.load rfl ti25 rfl .head rfl (arrAt0 q2) ⟨rfl, rfl⟩) ?_
  iterate 3 refine DetK.op rfl (OpA.mv rfl (by with_reducible conv => lhs; whnf) ⟨rfl, rfl⟩) ?_
  refine DetK.op rfl (OpA.addi rfl rfl rfl q3 ⟨rfl, rfl⟩) ?_
  refine DetK.op rfl (OpA.ixV rfl ts42 rfl rfl q4 ⟨rfl, rfl⟩) ?_
  refine DetK.op rfl (OpA.load rfl ti5 rfl (.tail .head) (getV (enc := (D.k .u8)) q4) rfl ⟨rfl, rfl⟩) ?_
  refine DetK.op rfl (OpA.conv rfl td5 td25 rfl ⟨rfl, rfl⟩) ?_
  refine DetK.op rfl (OpA.mv rfl (by with_reducible conv => lhs; whnf) ⟨rfl, rfl⟩) ?_
  refine DetK.op rfl (OpA.remN rfl rfl rfl q5 ⟨rfl, rfl⟩) ?_
  refine DetK.op rfl (OpA.muli rfl rfl rfl q6 ⟨rfl, rfl⟩) ?_
  refine DetK.op rfl (OpA.conv rfl td3 td43 rfl ⟨rfl, rfl⟩) ?_
  refine DetK.op rfl (OpA.shl rfl rfl rfl q7 ⟨rfl, rfl⟩) ?_
  refine DetK.op rfl (OpA.bxor rfl rfl rfl ⟨rfl, rfl⟩) ?_
  refine DetK.op rfl (OpA.aixV rfl td26 ti25 rfl rfl q2 ⟨rfl, rfl⟩) ?_
  refine DetK.nil ?_
  refine wpL_eff rfl rfl (OpA.store (e := (encArr 25 (D.k .u64)) s_1) (e' := (encArr 25 (D.k .u64)) (si s_1 (i / 8) (gxor .u64 (gi s_1 (i / 8)) (gshl .u64 (IntKind.u64.wrap (gi (si b ((b.length : Int) - 1) (gor .u8 (gi b ((b.length : Int) - 1)) 128)) (at_ + i))) (IntKind.u64.wrap (8 * (i % 8))))))) rfl ti25 rfl (.of rfl) rfl (arrFit0 q2) (arrSet0 q2 q8) .head ?_)
  refine wpL_nil ?_
  obtain ⟨q1, h⟩ := h
  refine wpA_region ?_
  refine wpL_op rfl rfl rfl (OpA.mv rfl (by with_reducible conv => lhs; whnf) ?_)
  refine wpL_op rfl rfl rfl (OpA.addi rfl rfl rfl q1 ?_)
  refine wpL_op rfl rfl rfl (OpA.asn rfl (by with_reducible conv => lhs; whnf) ?_)
  refine wpL_nil ?_
  exact ⟨(), ((si s_1 (i / 8) (gxor .u64 (gi s_1 (i / 8)) (gshl .u64 (IntKind.u64.wrap (gi (si b ((b.length : Int) - 1) (gor .u8 (gi b ((b.length : Int) - 1)) 128)) (at_ + i))) (IntKind.u64.wrap (8 * (i % 8)))))), (i + 1)), h, (Cov.asg ⟨rfl, rfl, rfl, rfl, rfl, trivial⟩), (.refl _)⟩
  have h := h.2 (decF b12)
  refine wpA_exit ?_
  obtain ⟨q1, h⟩ := h
  refine wpA_region ?_
  refine wpL_op rfl rfl rfl (OpA.load_whole rfl ti26 rfl rfl .head rfl ⟨_, rfl⟩ ?_)
  refine wpL_op rfl rfl rfl (OpA.call rfl rfl rfl en14 (rperm_c s_1 q1) ?_)
  rintro _ rfl
  refine wpL_eff rfl rfl (OpA.storeW rfl ti26 rfl (by with_reducible conv => lhs; whnf) (.of rfl) rfl rfl .head ?_)
  refine wpL_nil ?_
  obtain ⟨q1, h⟩ := h
  refine wpA_region ?_
  refine wpL_op rfl rfl rfl (OpA.mv rfl (by with_reducible conv => lhs; whnf) ?_)
  refine wpL_op rfl rfl rfl (OpA.addi rfl rfl rfl q1 ?_)
  refine wpL_op rfl rfl rfl (OpA.asn rfl (by with_reducible conv => lhs; whnf) ?_)
  refine wpL_nil ?_
  exact ⟨(), ((permF s_1), (at_ + 136)), h, (Cov.asg ⟨rfl, rfl, rfl, rfl, trivial⟩), (.refl _)⟩
  have h := h.2 (decF b10)
  refine wpA_exit ?_
  refine wpA_seq ?_
  obtain ⟨q1, h⟩ := h
  refine wpA_region ?_
  refine wpL_op rfl rfl rfl (OpA.makeSliceV (enc := (D.k .u8)) (v0 := 0) rfl ts42 rfl rfl tz5 (fun _ _ => .v _) (.of rfl) q1 (fun c13 => ?_))
  refine wpL_op rfl rfl rfl (OpA.asn rfl (by with_reducible conv => lhs; whnf) ?_)
  refine wpL_nil ?_
  iterate 2 refine wpA_seq ?_
  refine wpA_region ?_
  refine wpL_op rfl rfl rfl (OpA.asn rfl (by with_reducible conv => lhs; whnf) ?_)
  refine wpL_nil ?_
  refine wpA_block ?_
  refine wpA_lfp (S := (List Int) × Int) (G := Nat × List D × List D) (c13, ([] : List D), ([] : List D)) (fun gg ss => asg [(2, D.s (⟨#[]⟩ : ByteArray)), (4, .ptr c8 25 0 0), (7, .own gg.1 1 gg.2.1.length ss.1.length), (8, D.i ss.2)]) (fun gg ss => [(gg.1, .cells 1 (winL (D.k .u8) gg.2.1 ss.1 gg.2.2)), (c8, .cells 25 [(encArr 25 (D.k .u64)) s_]), (c10, .cells 1 (winL (D.k .u8) pre10 (si b ((b.length : Int) - 1) (gor .u8 (gi b ((b.length : Int) - 1)) 128)) post10))]) h (Cov.asg ⟨rfl, rfl, rfl, rfl, trivial⟩) (.refl _) ?_
  rintro again14 ⟨c65, pre65, post65⟩ ⟨out, i1⟩ h
  have h : rsum_L4 s_ Q again14 out i1 := h
  unfold rsum_L4 at h
  show wpA _ _ _ _ (asg [(2, D.s (⟨#[]⟩ : ByteArray)), (4, .ptr c8 25 0 0), (7, .own c65 1 pre65.length out.length), (8, D.i i1)]) [(c65, .cells 1 (winL (D.k .u8) pre65 out post65)), (c8, .cells 25 [(encArr 25 (D.k .u64)) s_]), (c10, .cells 1 (winL (D.k .u8) pre10 (si b ((b.length : Int) - 1) (gor .u8 (gi b ((b.length : Int) - 1)) 128)) post10))]
  iterate 2 refine wpA_seq ?_
  refine wpA_region ?_
  refine wpL_op rfl rfl rfl (OpA.mv rfl (by with_reducible conv => lhs; whnf) ?_)
  refine wpL_op rfl rfl rfl (OpA.lss rfl rfl rfl ?_)
  refine wpL_nil ?_
  refine wpA_cond rfl (fun b15 => ?_) (fun b15 => ?_)
  have h := h.1 (decT b15)
  refine wpA_skip ?_
  refine wpA_seq ?_
  refine wpA_block ?_
  obtain ⟨q1, q2, q3, q4, q5, q6, h⟩ := h
  refine wpA_region ?_
  refine wpL_op rfl rfl rfl (OpA.mv rfl (by with_reducible conv => lhs; whnf) ?_)
  refine wpL_op rfl rfl rfl (OpA.mv rfl (by with_reducible conv => lhs; whnf) ?_)
  refine wpL_op rfl rfl rfl (OpA.mv rfl (by with_reducible conv => lhs; whnf) ?_)
  refine wpL_op rfl rfl rfl (OpA.quoN rfl rfl rfl q1 ?_)
  refine wpL_op rfl rfl rfl (OpA.aixV rfl td26 ti25 rfl rfl q2 ?_)
  refine wpL_op rfl rfl rfl (OpA.load rfl ti25 rfl (.tail .head) rfl (arrAt0 q2) ?_)
  refine wpL_op rfl rfl rfl (OpA.mv rfl (by with_reducible conv => lhs; whnf) ?_)
  refine wpL_op rfl rfl rfl (OpA.remN rfl rfl rfl q3 ?_)
  refine wpL_op rfl rfl rfl (OpA.muli rfl rfl rfl q4 ?_)
  refine wpL_op rfl rfl rfl (OpA.conv rfl td3 td43 rfl ?_)
  refine wpL_op rfl rfl rfl (OpA.shr rfl rfl rfl q5 ?_)
  refine wpL_op rfl rfl rfl (OpA.conv rfl td25 td5 rfl ?_)
  refine wpL_op rfl rfl rfl (OpA.ixV rfl ts42 rfl rfl q6 ?_)
  refine wpL_eff rfl rfl (OpA.storeV (enc := (D.k .u8)) (v := (IntKind.u8.wrap (gshr .u64 (gi s_ (i1 / 8)) (IntKind.u64.wrap (8 * (i1 % 8)))))) rfl ti5 rfl rfl (.of rfl) rfl q6 .head ?_)
  refine wpL_nil ?_
  obtain ⟨q1, h⟩ := h
  refine wpA_region ?_
  refine wpL_op rfl rfl rfl (OpA.mv rfl (by with_reducible conv => lhs; whnf) ?_)
  refine wpL_op rfl rfl rfl (OpA.addi rfl rfl rfl q1 ?_)
  refine wpL_op rfl rfl rfl (OpA.asn rfl (by with_reducible conv => lhs; whnf) ?_)
  refine wpL_nil ?_
  exact ⟨(c65, pre65, post65), ((si out i1 (IntKind.u8.wrap (gshr .u64 (gi s_ (i1 / 8)) (IntKind.u64.wrap (8 * (i1 % 8)))))), (i1 + 1)), h, (Cov.asg ⟨rfl, rfl, (congrArg (D.own c65 1 pre65.length) (by simp only [si_length, gcopy_length])), rfl, trivial⟩), (.refl _)⟩
  have h := h.2 (decF b15)
  refine wpA_exit ?_
  refine wpA_seq ?_
  refine wpA_region ?_
  refine wpL_op rfl rfl rfl (OpA.mv rfl (by with_reducible conv => lhs; whnf) ?_)
  refine wpL_op rfl rfl rfl (OpA.bytesStr rfl ts42.desc td5 td9 (.own .head) ?_)
  refine wpL_op rfl rfl rfl (OpA.asn rfl (by with_reducible conv => lhs; whnf) ?_)
  refine wpL_nil ?_
  refine wpA_ret ?_
  exact ⟨_, (.tmp (d := D.s (bstr out)) rfl .nil), _, (.same rfl .nil), ⟨(bstr out), rfl, h⟩⟩
theorem rsum_c (data : ByteArray)  (hp0 : data.size ≤ 1000000) : Fun false Try.prog 12 [D.s data] (fun d => d = D.s (sumF data)) :=
  Fun.at (enc := fun r => D.s r) (v := sumF data) (rsum_w data  (fun r => r = sumF data) (rsum_ok data _ hp0 rfl))

set_option maxHeartbeats 2000000 in
set_option maxRecDepth 10000 in
theorem rhex_w (digest : ByteArray)  (Q : ByteArray × Int → Prop) (h : rhex_vc digest Q) : Fun false Try.prog 20 [D.s digest] (fun d => ∃ r, d = .tup [D.s (r.1), D.i (r.2)] ∧ Q r) := by
  unfold rhex_vc at h
  refine Fun.of_body Try.func20 rfl Try.ntmps20 rfl ?_
  refine wpA_seq ?_
  refine wpA_region ?_
  refine wpL_op rfl rfl rfl (OpA.asn rfl (by with_reducible conv => lhs; whnf) ?_)
  refine wpL_op rfl rfl rfl (OpA.asn rfl (by with_reducible conv => lhs; whnf) ?_)
  refine wpL_nil ?_
  iterate 2 refine wpA_seq ?_
  refine wpA_region ?_
  refine wpL_op rfl rfl rfl (OpA.mv rfl (by with_reducible conv => lhs; whnf) ?_)
  refine wpL_op rfl rfl rfl (OpA.slen rfl rfl rfl rfl td9 rfl ?_)
  refine wpL_op rfl rfl rfl (OpA.neq rfl rfl rfl ?_)
  refine wpL_nil ?_
  refine wpA_cond rfl (fun b1 => ?_) (fun b1 => ?_)
  have h := h.1 (bneT b1)
  refine wpA_seq ?_
  refine wpA_region ?_
  refine wpL_op rfl rfl rfl (OpA.asn rfl (by with_reducible conv => lhs; whnf) ?_)
  refine wpL_op rfl rfl rfl (OpA.asn rfl (by with_reducible conv => lhs; whnf) ?_)
  refine wpL_nil ?_
  refine wpA_ret ?_
  exact ⟨_, (.tmp (d := D.s (⟨#[]⟩ : ByteArray)) rfl (.tmp (d := D.i 1) rfl .nil)), _, (.tup (.same rfl (.same rfl .nil)) .nil), ⟨((⟨#[]⟩ : ByteArray), 1), rfl, h⟩⟩
  have h := h.2 (bneF b1)
  refine wpA_skip ?_
  refine wpA_seq ?_
  refine wpA_region ?_
  refine wpL_op rfl rfl rfl (OpA.asn rfl (by with_reducible conv => lhs; whnf) ?_)
  refine wpL_nil ?_
  refine wpA_seq ?_
  refine wpA_region ?_
  refine wpL_op rfl rfl rfl (OpA.asnG (T := Int) (enc := (D.k .u8)) (sz := 1) rfl rfl (fun c5_g2 => ?_))
  refine wpL_nil ?_
  iterate 2 refine wpA_seq ?_
  refine wpA_region ?_
  refine wpL_op rfl rfl rfl (OpA.asn rfl (by with_reducible conv => lhs; whnf) ?_)
  refine wpL_nil ?_
  refine wpA_block ?_
  refine wpA_lfp (S := (List Int) × Int) (G := Nat × List D × List D) (c5_g2, ([] : List D), ([] : List D)) (fun gg ss => asg [(0, D.s digest), (2, D.s (⟨#[]⟩ : ByteArray)), (3, D.i 0), (4, D.s (⟨#[48, 49, 50, 51, 52, 53, 54, 55, 56, 57, 97, 98, 99, 100, 101, 102]⟩ : ByteArray)), (5, .own gg.1 1 gg.2.1.length ss.1.length), (6, D.i ss.2)]) (fun gg ss => [(gg.1, .cells 1 (winL (D.k .u8) gg.2.1 ss.1 gg.2.2))]) h (Cov.asg ⟨rfl, rfl, rfl, rfl, rfl, rfl, trivial⟩) (.refl _) ?_
  rintro again3 ⟨c5, pre5, post5⟩ ⟨out, i⟩ h
  have h : rhex_L1 digest Q again3 out i := h
  unfold rhex_L1 at h
  show wpA _ _ _ _ (asg [(0, D.s digest), (2, D.s (⟨#[]⟩ : ByteArray)), (3, D.i 0), (4, D.s (⟨#[48, 49, 50, 51, 52, 53, 54, 55, 56, 57, 97, 98, 99, 100, 101, 102]⟩ : ByteArray)), (5, .own c5 1 pre5.length out.length), (6, D.i i)]) [(c5, .cells 1 (winL (D.k .u8) pre5 out post5))]
  iterate 2 refine wpA_seq ?_
  refine wpA_region ?_
  refine wpL_op rfl rfl rfl (OpA.mv rfl (by with_reducible conv => lhs; whnf) ?_)
  refine wpL_op rfl rfl rfl (OpA.mv rfl (by with_reducible conv => lhs; whnf) ?_)
  refine wpL_op rfl rfl rfl (OpA.slen rfl rfl rfl rfl td9 rfl ?_)
  refine wpL_op rfl rfl rfl (OpA.lss rfl rfl rfl ?_)
  refine wpL_nil ?_
  refine wpA_cond rfl (fun b4 => ?_) (fun b4 => ?_)
  have h := h.1 (decT b4)
  refine wpA_skip ?_
  refine wpA_seq ?_
  refine wpA_block ?_
  obtain ⟨q1, q2, q3, q4, q5, h⟩ := h
  refine wpA_draw (m := 14) mo (by kernel_rfl) rfl ?_
  iterate 4 refine DetK.op rfl (OpA.mv rfl (by with_reducible conv => lhs; whnf) ⟨rfl, rfl⟩) ?_
  refine DetK.op rfl (OpA.sixV rfl td9 rfl rfl q1 ⟨rfl, rfl⟩) ?_
  refine DetK.op rfl (OpA.shr rfl rfl rfl q2 ⟨rfl, rfl⟩) ?_
  refine DetK.op rfl (OpA.sixV rfl td9 rfl rfl q3 ⟨rfl, rfl⟩) ?_
  iterate 3 refine DetK.op rfl (OpA.mv rfl (by with_reducible conv => lhs; whnf) ⟨rfl, rfl⟩) ?_
  refine DetK.op rfl (OpA.sixV rfl td9 rfl rfl q1 ⟨rfl, rfl⟩) ?_
  refine DetK.op rfl (OpA.band rfl rfl rfl ⟨rfl, rfl⟩) ?_
  refine DetK.op rfl (OpA.sixV rfl td9 rfl rfl q4 ⟨rfl, rfl⟩) ?_
  refine DetK.op rfl (OpA.ibuildSliceO rfl ts42 rfl (.cons (.of (sz := 1) rfl) (.cons (.of (sz := 1) rfl) .nil)) (by decide) ⟨rfl, rfl⟩) ?_
  refine DetK.nil ?_
  refine wpL_op rfl rfl rfl (OpA.appendW (enc := (D.k .u8)) rfl rfl rfl rfl ts42 rfl (fun _ _ => .head) (.list (ys := ([(sgi (⟨#[48, 49, 50, 51, 52, 53, 54, 55, 56, 57, 97, 98, 99, 100, 101, 102]⟩ : ByteArray) (gshr .u8 (sgi digest i) 4)), (sgi (⟨#[48, 49, 50, 51, 52, 53, 54, 55, 56, 57, 97, 98, 99, 100, 101, 102]⟩ : ByteArray) (gand .u8 (sgi digest i) 15))] : List Int))) q5 (fun c5 pre6 => ?_))
  refine wpL_op rfl rfl rfl (OpA.asn rfl (by with_reducible conv => lhs; whnf) ?_)
  refine wpL_nil ?_
  obtain ⟨q1, h⟩ := h
  refine wpA_region ?_
  refine wpL_op rfl rfl rfl (OpA.mv rfl (by with_reducible conv => lhs; whnf) ?_)
  refine wpL_op rfl rfl rfl (OpA.addi rfl rfl rfl q1 ?_)
  refine wpL_op rfl rfl rfl (OpA.asn rfl (by with_reducible conv => lhs; whnf) ?_)
  refine wpL_nil ?_
  exact ⟨(c5, pre6, ([] : List D)), ((out ++ ([(sgi (⟨#[48, 49, 50, 51, 52, 53, 54, 55, 56, 57, 97, 98, 99, 100, 101, 102]⟩ : ByteArray) (gshr .u8 (sgi digest i) 4)), (sgi (⟨#[48, 49, 50, 51, 52, 53, 54, 55, 56, 57, 97, 98, 99, 100, 101, 102]⟩ : ByteArray) (gand .u8 (sgi digest i) 15))] : List Int)), (i + 1)), h, (Cov.asg ⟨rfl, rfl, rfl, rfl, rfl, rfl, trivial⟩), (.refl _)⟩
  have h := h.2 (decF b4)
  refine wpA_exit ?_
  refine wpA_seq ?_
  refine wpA_region ?_
  refine wpL_op rfl rfl rfl (OpA.mv rfl (by with_reducible conv => lhs; whnf) ?_)
  refine wpL_op rfl rfl rfl (OpA.bytesStr rfl ts42.desc td5 td9 (.own .head) ?_)
  refine wpL_op rfl rfl rfl (OpA.asn rfl (by with_reducible conv => lhs; whnf) ?_)
  refine wpL_op rfl rfl rfl (OpA.asn rfl (by with_reducible conv => lhs; whnf) ?_)
  refine wpL_nil ?_
  refine wpA_ret ?_
  exact ⟨_, (.tmp (d := D.s (bstr out)) rfl (.tmp (d := D.i 0) rfl .nil)), _, (.tup (.same rfl (.same rfl .nil)) .nil), ⟨((bstr out), 0), rfl, h⟩⟩
theorem rhex_c (digest : ByteArray)   : Fun false Try.prog 20 [D.s digest] (fun d => d = .tup [D.s ((hexF digest).1), D.i ((hexF digest).2)]) :=
  Fun.at (enc := fun r => .tup [D.s (r.1), D.i (r.2)]) (v := hexF digest) (rhex_w digest  (fun r => r = hexF digest) (rhex_ok digest _  rfl))

set_option maxHeartbeats 2000000 in
set_option maxRecDepth 10000 in
theorem dig_w (c : Int)  (Q : Int → Prop) (h : dig_vc c Q) : Fun false Try.prog 33 [(D.k .u8) c] (fun d => ∃ r, d = D.i r ∧ Q r) := by
  unfold dig_vc at h
  refine Fun.of_body Try.func33 rfl Try.ntmps33 rfl ?_
  refine wpA_seq ?_
  refine wpA_region ?_
  refine wpL_op rfl rfl rfl (OpA.asn rfl (by with_reducible conv => lhs; whnf) ?_)
  refine wpL_nil ?_
  iterate 2 refine wpA_seq ?_
  refine wpA_mid (asg [(0, (D.k .u8) c), (2, D.i 0), (8, D.b ((decide (c ≥ 48)) && (decide (c ≤ 57))))]) [] ?_ ?_
  refine wpA_region ?_
  refine wpL_op rfl rfl rfl (OpA.mv rfl (by with_reducible conv => lhs; whnf) ?_)
  refine wpL_op rfl rfl rfl (OpA.geq rfl rfl rfl ?_)
  refine wpL_op rfl rfl rfl (OpA.mv rfl (by with_reducible conv => lhs; whnf) ?_)
  refine wpL_split (s := 5) rfl (fun b4 => ?_) (fun b4 => ?_)
  refine wpL_opg rfl rfl rfl rfl rfl rfl (OpA.mv rfl (by with_reducible conv => lhs; whnf) ?_)
  refine wpL_opg rfl rfl rfl rfl rfl rfl (OpA.leq rfl rfl rfl ?_)
  refine wpL_op rfl rfl rfl (OpA.pck rfl rfl (by with_reducible conv => lhs; whnf) ?_)
  refine wpL_nil ?_
  exact ⟨(Cov.asg ⟨rfl, rfl, (congrArg D.b (Eq.symm (andN b4 rfl))), trivial⟩), (.refl _)⟩
  iterate 2 refine wpL_skip rfl rfl rfl rfl rfl rfl ?_
  refine wpL_op rfl rfl rfl (OpA.pck rfl rfl (by with_reducible conv => lhs; whnf) ?_)
  refine wpL_nil ?_
  exact ⟨(Cov.asg ⟨rfl, rfl, (congrArg D.b (Eq.symm (andS b4))), trivial⟩), (.refl _)⟩
  show wpA _ _ _ _ (asg [(0, (D.k .u8) c), (2, D.i 0), (8, D.b ((decide (c ≥ 48)) && (decide (c ≤ 57))))]) []
  refine wpA_cond rfl (fun b1 => ?_) (fun b1 => ?_)
  have h := h.1 ⟨(decT (and1 b1)), (decT (and2 b1))⟩
  refine wpA_seq ?_
  refine wpA_region ?_
  refine wpL_op rfl rfl rfl (OpA.mv rfl (by with_reducible conv => lhs; whnf) ?_)
  refine wpL_op rfl rfl rfl (OpA.sub rfl rfl rfl ?_)
  refine wpL_op rfl rfl rfl (OpA.conv rfl td5 td3 rfl ?_)
  refine wpL_op rfl rfl rfl (OpA.asn rfl (by with_reducible conv => lhs; whnf) ?_)
  refine wpL_nil ?_
  refine wpA_ret ?_
  exact ⟨_, (.tmp (d := D.i (IntKind.i64.wrap (IntKind.u8.wrap (c - 48)))) rfl .nil), _, (.same rfl .nil), ⟨(IntKind.i64.wrap (IntKind.u8.wrap (c - 48))), rfl, h⟩⟩
  have h := h.2 ((and0 b1).imp (fun hh => (decF hh)) (fun hh => (decF hh)))
  refine wpA_skip ?_
  iterate 2 refine wpA_seq ?_
  refine wpA_mid (asg [(0, (D.k .u8) c), (2, D.i 0), (17, D.b ((decide (c ≥ 97)) && (decide (c ≤ 102))))]) [] ?_ ?_
  refine wpA_region ?_
  refine wpL_op rfl rfl rfl (OpA.mv rfl (by with_reducible conv => lhs; whnf) ?_)
  refine wpL_op rfl rfl rfl (OpA.geq rfl rfl rfl ?_)
  refine wpL_op rfl rfl rfl (OpA.mv rfl (by with_reducible conv => lhs; whnf) ?_)
  refine wpL_split (s := 14) rfl (fun b3 => ?_) (fun b3 => ?_)
  refine wpL_opg rfl rfl rfl rfl rfl rfl (OpA.mv rfl (by with_reducible conv => lhs; whnf) ?_)
  refine wpL_opg rfl rfl rfl rfl rfl rfl (OpA.leq rfl rfl rfl ?_)
  refine wpL_op rfl rfl rfl (OpA.pck rfl rfl (by with_reducible conv => lhs; whnf) ?_)
  refine wpL_nil ?_
  exact ⟨(Cov.asg ⟨rfl, rfl, (congrArg D.b (Eq.symm (andN b3 rfl))), trivial⟩), (.refl _)⟩
  iterate 2 refine wpL_skip rfl rfl rfl rfl rfl rfl ?_
  refine wpL_op rfl rfl rfl (OpA.pck rfl rfl (by with_reducible conv => lhs; whnf) ?_)
  refine wpL_nil ?_
  exact ⟨(Cov.asg ⟨rfl, rfl, (congrArg D.b (Eq.symm (andS b3))), trivial⟩), (.refl _)⟩
  show wpA _ _ _ _ (asg [(0, (D.k .u8) c), (2, D.i 0), (17, D.b ((decide (c ≥ 97)) && (decide (c ≤ 102))))]) []
  refine wpA_cond rfl (fun b2 => ?_) (fun b2 => ?_)
  have h := h.1 ⟨(decT (and1 b2)), (decT (and2 b2))⟩
  refine wpA_seq ?_
  obtain ⟨q1, h⟩ := h
  refine wpA_region ?_
  refine wpL_op rfl rfl rfl (OpA.mv rfl (by with_reducible conv => lhs; whnf) ?_)
  refine wpL_op rfl rfl rfl (OpA.sub rfl rfl rfl ?_)
  refine wpL_op rfl rfl rfl (OpA.conv rfl td5 td3 rfl ?_)
  refine wpL_op rfl rfl rfl (OpA.addi rfl rfl rfl q1 ?_)
  refine wpL_op rfl rfl rfl (OpA.asn rfl (by with_reducible conv => lhs; whnf) ?_)
  refine wpL_nil ?_
  refine wpA_ret ?_
  exact ⟨_, (.tmp (d := D.i ((IntKind.i64.wrap (IntKind.u8.wrap (c - 97))) + 10)) rfl .nil), _, (.same rfl .nil), ⟨((IntKind.i64.wrap (IntKind.u8.wrap (c - 97))) + 10), rfl, h⟩⟩
  have h := h.2 ((and0 b2).imp (fun hh => (decF hh)) (fun hh => (decF hh)))
  refine wpA_skip ?_
  refine wpA_seq ?_
  refine wpA_region ?_
  refine wpL_op rfl rfl rfl (OpA.asn rfl (by with_reducible conv => lhs; whnf) ?_)
  refine wpL_nil ?_
  refine wpA_ret ?_
  exact ⟨_, (.tmp (d := D.i (-1)) rfl .nil), _, (.same rfl .nil), ⟨(-1), rfl, h⟩⟩
theorem dig_c (c : Int)   : Fun false Try.prog 33 [(D.k .u8) c] (fun d => d = D.i (digF c)) :=
  Fun.at (enc := fun r => D.i r) (v := digF c) (dig_w c  (fun r => r = digF c) (dig_ok c _  rfl))

set_option maxHeartbeats 2000000 in
set_option maxRecDepth 10000 in
theorem rparse_w (text : ByteArray)  (Q : ByteArray × Int → Prop) (h : rparse_vc text Q) : Fun false Try.prog 22 [D.s text] (fun d => ∃ r, d = .tup [D.s (r.1), D.i (r.2)] ∧ Q r) := by
  unfold rparse_vc at h
  refine Fun.of_body Try.func22 rfl Try.ntmps22 rfl ?_
  refine wpA_seq ?_
  refine wpA_region ?_
  refine wpL_op rfl rfl rfl (OpA.asn rfl (by with_reducible conv => lhs; whnf) ?_)
  refine wpL_op rfl rfl rfl (OpA.asn rfl (by with_reducible conv => lhs; whnf) ?_)
  refine wpL_nil ?_
  iterate 2 refine wpA_seq ?_
  refine wpA_region ?_
  refine wpL_op rfl rfl rfl (OpA.mv rfl (by with_reducible conv => lhs; whnf) ?_)
  refine wpL_op rfl rfl rfl (OpA.slen rfl rfl rfl rfl td9 rfl ?_)
  refine wpL_op rfl rfl rfl (OpA.neq rfl rfl rfl ?_)
  refine wpL_nil ?_
  refine wpA_cond rfl (fun b1 => ?_) (fun b1 => ?_)
  have h := h.1 (bneT b1)
  refine wpA_seq ?_
  refine wpA_region ?_
  refine wpL_op rfl rfl rfl (OpA.asn rfl (by with_reducible conv => lhs; whnf) ?_)
  refine wpL_op rfl rfl rfl (OpA.asn rfl (by with_reducible conv => lhs; whnf) ?_)
  refine wpL_nil ?_
  refine wpA_ret ?_
  exact ⟨_, (.tmp (d := D.s (⟨#[]⟩ : ByteArray)) rfl (.tmp (d := D.i 4) rfl .nil)), _, (.tup (.same rfl (.same rfl .nil)) .nil), ⟨((⟨#[]⟩ : ByteArray), 4), rfl, h⟩⟩
  have h := h.2 (bneF b1)
  refine wpA_skip ?_
  refine wpA_seq ?_
  refine wpA_region ?_
  refine wpL_op rfl rfl rfl (OpA.asnG (T := Int) (enc := (D.k .u8)) (sz := 1) rfl rfl (fun c4_g2 => ?_))
  refine wpL_nil ?_
  iterate 2 refine wpA_seq ?_
  refine wpA_region ?_
  refine wpL_op rfl rfl rfl (OpA.asn rfl (by with_reducible conv => lhs; whnf) ?_)
  refine wpL_nil ?_
  refine wpA_block ?_
  refine wpA_lfp (S := (List Int) × Int) (G := Nat × List D × List D) (c4_g2, ([] : List D), ([] : List D)) (fun gg ss => asg [(0, D.s text), (2, D.s (⟨#[]⟩ : ByteArray)), (3, D.i 0), (4, .own gg.1 1 gg.2.1.length ss.1.length), (5, D.i ss.2)]) (fun gg ss => [(gg.1, .cells 1 (winL (D.k .u8) gg.2.1 ss.1 gg.2.2))]) h (Cov.asg ⟨rfl, rfl, rfl, rfl, rfl, trivial⟩) (.refl _) ?_
  rintro again3 ⟨c4, pre4, post4⟩ ⟨out, i⟩ h
  have h : rparse_L1 text Q again3 out i := h
  unfold rparse_L1 at h
  show wpA _ _ _ _ (asg [(0, D.s text), (2, D.s (⟨#[]⟩ : ByteArray)), (3, D.i 0), (4, .own c4 1 pre4.length out.length), (5, D.i i)]) [(c4, .cells 1 (winL (D.k .u8) pre4 out post4))]
  iterate 2 refine wpA_seq ?_
  refine wpA_region ?_
  refine wpL_op rfl rfl rfl (OpA.mv rfl (by with_reducible conv => lhs; whnf) ?_)
  refine wpL_op rfl rfl rfl (OpA.mv rfl (by with_reducible conv => lhs; whnf) ?_)
  refine wpL_op rfl rfl rfl (OpA.slen rfl rfl rfl rfl td9 rfl ?_)
  refine wpL_op rfl rfl rfl (OpA.lss rfl rfl rfl ?_)
  refine wpL_nil ?_
  refine wpA_cond rfl (fun b4 => ?_) (fun b4 => ?_)
  have h := h.1 (decT b4)
  refine wpA_skip ?_
  refine wpA_seq ?_
  refine wpA_block ?_
  refine wpA_seq ?_
  obtain ⟨q1, q2, q3, h⟩ := h
  refine wpA_draw (m := 11) mo (by kernel_rfl) rfl ?_
  iterate 2 refine DetK.op rfl (OpA.mv rfl (by with_reducible conv => lhs; whnf) ⟨rfl, rfl⟩) ?_
  refine DetK.op rfl (OpA.sixV rfl td9 rfl rfl q1 ⟨rfl, rfl⟩) ?_
  refine DetK.op rfl (OpA.call rfl rfl rfl en33 (dig_c (sgi text i) ) (by rintro _ rfl; exact ⟨rfl, rfl⟩)) ?_
  iterate 2 refine DetK.op rfl (OpA.mv rfl (by with_reducible conv => lhs; whnf) ⟨rfl, rfl⟩) ?_
  refine DetK.op rfl (OpA.addi rfl rfl rfl q2 ⟨rfl, rfl⟩) ?_
  refine DetK.op rfl (OpA.sixV rfl td9 rfl rfl q3 ⟨rfl, rfl⟩) ?_
  refine DetK.op rfl (OpA.call rfl rfl rfl en33 (dig_c (sgi text (i + 1)) ) (by rintro _ rfl; exact ⟨rfl, rfl⟩)) ?_
  iterate 2 refine DetK.op rfl (OpA.asn rfl (by with_reducible conv => lhs; whnf) ⟨rfl, rfl⟩) ?_
  refine DetK.nil ?_
  refine wpL_nil ?_
  iterate 2 refine wpA_seq ?_
  refine wpA_mid (asg [(0, D.s text), (2, D.s (⟨#[]⟩ : ByteArray)), (3, D.i 0), (4, .own c4 1 pre4.length out.length), (5, D.i i), (6, D.i (digF (sgi text i))), (7, D.i (digF (sgi text (i + 1)))), (31, D.b ((decide ((digF (sgi text i)) < 0)) || (decide ((digF (sgi text (i + 1))) < 0))))]) [(c4, .cells 1 (winL (D.k .u8) pre4 out post4))] ?_ ?_
  refine wpA_region ?_
  refine wpL_op rfl rfl rfl (OpA.mv rfl (by with_reducible conv => lhs; whnf) ?_)
  refine wpL_op rfl rfl rfl (OpA.lss rfl rfl rfl ?_)
  refine wpL_op rfl rfl rfl (OpA.mv rfl (by with_reducible conv => lhs; whnf) ?_)
  refine wpL_split (s := 28) rfl (fun b8 => ?_) (fun b8 => ?_)
  iterate 2 refine wpL_skip rfl rfl rfl rfl rfl rfl ?_
  refine wpL_op rfl rfl rfl (OpA.pck rfl rfl (by with_reducible conv => lhs; whnf) ?_)
  refine wpL_nil ?_
  exact ⟨(Cov.asg ⟨rfl, rfl, rfl, rfl, rfl, rfl, rfl, (congrArg D.b (Eq.symm (orS b8))), trivial⟩), (.refl _)⟩
  refine wpL_opg rfl rfl rfl rfl rfl rfl (OpA.mv rfl (by with_reducible conv => lhs; whnf) ?_)
  refine wpL_opg rfl rfl rfl rfl rfl rfl (OpA.lss rfl rfl rfl ?_)
  refine wpL_op rfl rfl rfl (OpA.pck rfl rfl (by with_reducible conv => lhs; whnf) ?_)
  refine wpL_nil ?_
  exact ⟨(Cov.asg ⟨rfl, rfl, rfl, rfl, rfl, rfl, rfl, (congrArg D.b (Eq.symm (orN b8 rfl))), trivial⟩), (.refl _)⟩
  show wpA _ _ _ _ (asg [(0, D.s text), (2, D.s (⟨#[]⟩ : ByteArray)), (3, D.i 0), (4, .own c4 1 pre4.length out.length), (5, D.i i), (6, D.i (digF (sgi text i))), (7, D.i (digF (sgi text (i + 1)))), (31, D.b ((decide ((digF (sgi text i)) < 0)) || (decide ((digF (sgi text (i + 1))) < 0))))]) [(c4, .cells 1 (winL (D.k .u8) pre4 out post4))]
  refine wpA_cond rfl (fun b5 => ?_) (fun b5 => ?_)
  have h := h.1 ((or0 b5).imp (fun hh => (decT hh)) (fun hh => (decT hh)))
  refine wpA_seq ?_
  refine wpA_region ?_
  refine wpL_op rfl rfl rfl (OpA.asn rfl (by with_reducible conv => lhs; whnf) ?_)
  refine wpL_op rfl rfl rfl (OpA.asn rfl (by with_reducible conv => lhs; whnf) ?_)
  refine wpL_nil ?_
  refine wpA_ret ?_
  exact ⟨_, (.tmp (d := D.s (⟨#[]⟩ : ByteArray)) rfl (.tmp (d := D.i 4) rfl .nil)), _, (.tup (.same rfl (.same rfl .nil)) .nil), ⟨((⟨#[]⟩ : ByteArray), 4), rfl, h⟩⟩
  have h := h.2 ⟨(decF (or1 b5)), (decF (or2 b5))⟩
  refine wpA_skip ?_
  obtain ⟨q1, q2, q3, h⟩ := h
  refine wpA_region ?_
  refine wpL_op rfl rfl rfl (OpA.mv rfl (by with_reducible conv => lhs; whnf) ?_)
  refine wpL_op rfl rfl rfl (OpA.mv rfl (by with_reducible conv => lhs; whnf) ?_)
  refine wpL_op rfl rfl rfl (OpA.muli rfl rfl rfl q1 ?_)
  refine wpL_op rfl rfl rfl (OpA.mv rfl (by with_reducible conv => lhs; whnf) ?_)
  refine wpL_op rfl rfl rfl (OpA.addi rfl rfl rfl q2 ?_)
  refine wpL_op rfl rfl rfl (OpA.conv rfl td3 td5 rfl ?_)
  refine wpL_op rfl rfl rfl (OpA.ibuildSliceO rfl ts42 rfl (.cons (.of (sz := 1) rfl) .nil) (by decide) ?_)
  refine wpL_op rfl rfl rfl (OpA.appendW (enc := (D.k .u8)) rfl rfl rfl rfl ts42 rfl (fun _ _ => .head) (.list (ys := ([(IntKind.u8.wrap ((16 * (digF (sgi text i))) + (digF (sgi text (i + 1)))))] : List Int))) q3 (fun c6 pre7 => ?_))
  refine wpL_op rfl rfl rfl (OpA.asn rfl (by with_reducible conv => lhs; whnf) ?_)
  refine wpL_nil ?_
  obtain ⟨q1, h⟩ := h
  refine wpA_region ?_
  refine wpL_op rfl rfl rfl (OpA.mv rfl (by with_reducible conv => lhs; whnf) ?_)
  refine wpL_op rfl rfl rfl (OpA.addi rfl rfl rfl q1 ?_)
  refine wpL_op rfl rfl rfl (OpA.asn rfl (by with_reducible conv => lhs; whnf) ?_)
  refine wpL_nil ?_
  exact ⟨(c6, pre7, ([] : List D)), ((out ++ ([(IntKind.u8.wrap ((16 * (digF (sgi text i))) + (digF (sgi text (i + 1)))))] : List Int)), (i + 2)), h, (Cov.asg ⟨rfl, rfl, rfl, rfl, rfl, trivial⟩), (.refl _)⟩
  have h := h.2 (decF b4)
  refine wpA_exit ?_
  refine wpA_seq ?_
  refine wpA_region ?_
  refine wpL_op rfl rfl rfl (OpA.mv rfl (by with_reducible conv => lhs; whnf) ?_)
  refine wpL_op rfl rfl rfl (OpA.bytesStr rfl ts42.desc td5 td9 (.own .head) ?_)
  refine wpL_op rfl rfl rfl (OpA.asn rfl (by with_reducible conv => lhs; whnf) ?_)
  refine wpL_op rfl rfl rfl (OpA.asn rfl (by with_reducible conv => lhs; whnf) ?_)
  refine wpL_nil ?_
  refine wpA_ret ?_
  exact ⟨_, (.tmp (d := D.s (bstr out)) rfl (.tmp (d := D.i 0) rfl .nil)), _, (.tup (.same rfl (.same rfl .nil)) .nil), ⟨((bstr out), 0), rfl, h⟩⟩
theorem rparse_c (text : ByteArray)   : Fun false Try.prog 22 [D.s text] (fun d => d = .tup [D.s ((parseF text).1), D.i ((parseF text).2)]) :=
  Fun.at (enc := fun r => .tup [D.s (r.1), D.i (r.2)]) (v := parseF text) (rparse_w text  (fun r => r = parseF text) (rparse_ok text _  rfl))

set_option maxHeartbeats 2000000 in
set_option maxRecDepth 10000 in
theorem slib_w (s_ : ByteArray) (c : Int)  (Q : Int → Prop) (h : slib_vc s_ c Q) : Fun false Try.prog 38 [D.s s_, (D.k .u8) c] (fun d => ∃ r, d = D.i r ∧ Q r) := by
  unfold slib_vc at h
  refine Fun.of_body Try.func38 rfl Try.ntmps38 rfl ?_
  refine wpA_seq ?_
  refine wpA_region ?_
  refine wpL_op rfl rfl rfl (OpA.asn rfl (by with_reducible conv => lhs; whnf) ?_)
  refine wpL_nil ?_
  refine wpA_seq ?_
  refine wpA_region ?_
  refine wpL_op rfl rfl rfl (OpA.mv rfl (by with_reducible conv => lhs; whnf) ?_)
  refine wpL_op rfl rfl rfl (OpA.mv rfl (by with_reducible conv => lhs; whnf) ?_)
  refine wpL_op rfl rfl rfl (OpA.callX (vs := [.string s_, .int .u8 c]) rfl rfl rfl rfl Try.func40 (by kernel_rfl) (by kernel_rfl) (by kernel_rfl) (by kernel_rfl) (fun w => run_indexByte_string s_ c w) ?_)
  refine wpL_op rfl rfl rfl (OpA.asn rfl (by with_reducible conv => lhs; whnf) ?_)
  refine wpL_nil ?_
  refine wpA_ret ?_
  exact ⟨_, (.tmp (d := D.i (firstIdx s_ (Int.toNat c).toUInt8)) rfl .nil), _, (.same rfl .nil), ⟨(firstIdx s_ (Int.toNat c).toUInt8), rfl, h⟩⟩
theorem slib_c (s_ : ByteArray) (c : Int)   : Fun false Try.prog 38 [D.s s_, (D.k .u8) c] (fun d => d = D.i (idxB s_ c)) :=
  Fun.at (enc := fun r => D.i r) (v := idxB s_ c) (slib_w s_ c  (fun r => r = idxB s_ c) (slib_ok s_ c _  rfl))

set_option maxHeartbeats 2000000 in
set_option maxRecDepth 10000 in
theorem idxB_w (s_ : ByteArray) (c : Int)  (Q : Int → Prop) (h : idxB_vc s_ c Q) : Fun false Try.prog 32 [D.s s_, (D.k .u8) c] (fun d => ∃ r, d = D.i r ∧ Q r) := by
  unfold idxB_vc at h
  refine Fun.of_body Try.func32 rfl Try.ntmps32 rfl ?_
  refine wpA_seq ?_
  refine wpA_region ?_
  refine wpL_op rfl rfl rfl (OpA.asn rfl (by with_reducible conv => lhs; whnf) ?_)
  refine wpL_nil ?_
  refine wpA_seq ?_
  refine wpA_region ?_
  refine wpL_op rfl rfl rfl (OpA.mv rfl (by with_reducible conv => lhs; whnf) ?_)
  refine wpL_op rfl rfl rfl (OpA.mv rfl (by with_reducible conv => lhs; whnf) ?_)
  refine wpL_op rfl rfl rfl (OpA.call rfl rfl rfl en38 (slib_c s_ c ) ?_)
  rintro _ rfl
  refine wpL_op rfl rfl rfl (OpA.asn rfl (by with_reducible conv => lhs; whnf) ?_)
  refine wpL_nil ?_
  refine wpA_ret ?_
  exact ⟨_, (.tmp (d := D.i (idxB s_ c)) rfl .nil), _, (.same rfl .nil), ⟨(idxB s_ c), rfl, h⟩⟩
theorem idxB_c (s_ : ByteArray) (c : Int)   : Fun false Try.prog 32 [D.s s_, (D.k .u8) c] (fun d => d = D.i (idxB s_ c)) :=
  Fun.at (enc := fun r => D.i r) (v := idxB s_ c) (idxB_w s_ c  (fun r => r = idxB s_ c) (idxB_ok s_ c _  rfl))

set_option maxHeartbeats 2000000 in
set_option maxRecDepth 10000 in
theorem parse_w (text : ByteArray)  (Q : ByteArray × Int → Prop) (h : parse_vc text Q) : Fun false Try.prog 21 [D.s text] (fun d => ∃ r, d = .tup [D.s (r.1), D.i (r.2)] ∧ Q r) := by
  unfold parse_vc at h
  refine Fun.of_body Try.func21 rfl Try.ntmps21 rfl ?_
  refine wpA_seq ?_
  refine wpA_region ?_
  refine wpL_op rfl rfl rfl (OpA.asn rfl (by with_reducible conv => lhs; whnf) ?_)
  refine wpL_op rfl rfl rfl (OpA.asn rfl (by with_reducible conv => lhs; whnf) ?_)
  refine wpL_nil ?_
  iterate 2 refine wpA_seq ?_
  refine wpA_region ?_
  refine wpL_op rfl rfl rfl (OpA.mv rfl (by with_reducible conv => lhs; whnf) ?_)
  refine wpL_op rfl rfl rfl (OpA.slen rfl rfl rfl rfl td9 rfl ?_)
  refine wpL_op rfl rfl rfl (OpA.neq rfl rfl rfl ?_)
  refine wpL_nil ?_
  refine wpA_cond rfl (fun b1 => ?_) (fun b1 => ?_)
  have h := h.1 (bneT b1)
  refine wpA_seq ?_
  refine wpA_region ?_
  refine wpL_op rfl rfl rfl (OpA.asn rfl (by with_reducible conv => lhs; whnf) ?_)
  refine wpL_op rfl rfl rfl (OpA.asn rfl (by with_reducible conv => lhs; whnf) ?_)
  refine wpL_nil ?_
  refine wpA_ret ?_
  exact ⟨_, (.tmp (d := D.s (⟨#[]⟩ : ByteArray)) rfl (.tmp (d := D.i 4) rfl .nil)), _, (.tup (.same rfl (.same rfl .nil)) .nil), ⟨((⟨#[]⟩ : ByteArray), 4), rfl, h⟩⟩
  have h := h.2 (bneF b1)
  refine wpA_skip ?_
  refine wpA_seq ?_
  obtain ⟨q1, h⟩ := h
  refine wpA_region ?_
  refine wpL_op rfl rfl rfl (OpA.makeSliceV (enc := (D.k .u8)) (v0 := 0) rfl ts42 rfl rfl tz5 (fun _ _ => .v _) (.of rfl) q1 (fun c2 => ?_))
  refine wpL_op rfl rfl rfl (OpA.asn rfl (by with_reducible conv => lhs; whnf) ?_)
  refine wpL_nil ?_
  iterate 2 refine wpA_seq ?_
  refine wpA_region ?_
  refine wpL_op rfl rfl rfl (OpA.asn rfl (by with_reducible conv => lhs; whnf) ?_)
  refine wpL_nil ?_
  refine wpA_block ?_
  refine wpA_lfp (S := (List Int) × Int) (G := Nat × List D × List D) (c2, ([] : List D), ([] : List D)) (fun gg ss => asg [(0, D.s text), (2, D.s (⟨#[]⟩ : ByteArray)), (3, D.i 0), (4, .own gg.1 1 gg.2.1.length ss.1.length), (5, D.i ss.2)]) (fun gg ss => [(gg.1, .cells 1 (winL (D.k .u8) gg.2.1 ss.1 gg.2.2))]) h (Cov.asg ⟨rfl, rfl, rfl, rfl, rfl, trivial⟩) (.refl _) ?_
  rintro again3 ⟨c10, pre10, post10⟩ ⟨out, i⟩ h
  have h : parse_L1 text Q again3 out i := h
  unfold parse_L1 at h
  show wpA _ _ _ _ (asg [(0, D.s text), (2, D.s (⟨#[]⟩ : ByteArray)), (3, D.i 0), (4, .own c10 1 pre10.length out.length), (5, D.i i)]) [(c10, .cells 1 (winL (D.k .u8) pre10 out post10))]
  iterate 2 refine wpA_seq ?_
  refine wpA_region ?_
  refine wpL_op rfl rfl rfl (OpA.mv rfl (by with_reducible conv => lhs; whnf) ?_)
  refine wpL_op rfl rfl rfl (OpA.mv rfl (by with_reducible conv => lhs; whnf) ?_)
  refine wpL_op rfl rfl rfl (OpA.slen rfl rfl rfl rfl td9 rfl ?_)
  refine wpL_op rfl rfl rfl (OpA.lss rfl rfl rfl ?_)
  refine wpL_nil ?_
  refine wpA_cond rfl (fun b4 => ?_) (fun b4 => ?_)
  have h := h.1 (decT b4)
  refine wpA_skip ?_
  refine wpA_seq ?_
  refine wpA_block ?_
  refine wpA_seq ?_
  obtain ⟨q1, h⟩ := h
  refine wpA_region ?_
  refine wpL_op rfl rfl rfl (OpA.mv rfl (by with_reducible conv => lhs; whnf) ?_)
  refine wpL_op rfl rfl rfl (OpA.mv rfl (by with_reducible conv => lhs; whnf) ?_)
  refine wpL_op rfl rfl rfl (OpA.sixV rfl td9 rfl rfl q1 ?_)
  refine wpL_op rfl rfl rfl (OpA.call rfl rfl rfl en32 (idxB_c (⟨#[48, 49, 50, 51, 52, 53, 54, 55, 56, 57, 97, 98, 99, 100, 101, 102]⟩ : ByteArray) (sgi text i) ) ?_)
  rintro _ rfl
  refine wpL_op rfl rfl rfl (OpA.asn rfl (by with_reducible conv => lhs; whnf) ?_)
  refine wpL_nil ?_
  iterate 2 refine wpA_seq ?_
  refine wpA_region ?_
  refine wpL_op rfl rfl rfl (OpA.mv rfl (by with_reducible conv => lhs; whnf) ?_)
  refine wpL_op rfl rfl rfl (OpA.lss rfl rfl rfl ?_)
  refine wpL_nil ?_
  refine wpA_cond rfl (fun b5 => ?_) (fun b5 => ?_)
  have h := h.1 (decT b5)
  refine wpA_seq ?_
  refine wpA_region ?_
  refine wpL_op rfl rfl rfl (OpA.asn rfl (by with_reducible conv => lhs; whnf) ?_)
  refine wpL_op rfl rfl rfl (OpA.asn rfl (by with_reducible conv => lhs; whnf) ?_)
  refine wpL_nil ?_
  refine wpA_ret ?_
  exact ⟨_, (.tmp (d := D.s (⟨#[]⟩ : ByteArray)) rfl (.tmp (d := D.i 4) rfl .nil)), _, (.tup (.same rfl (.same rfl .nil)) .nil), ⟨((⟨#[]⟩ : ByteArray), 4), rfl, h⟩⟩
  have h := h.2 (decF b5)
  refine wpA_skip ?_
  obtain ⟨q1, q2, q3, h⟩ := h
  refine wpA_region ?_
  refine wpL_op rfl rfl rfl (OpA.mv rfl (by with_reducible conv => lhs; whnf) ?_)
  refine wpL_op rfl rfl rfl (OpA.mv rfl (by with_reducible conv => lhs; whnf) ?_)
  refine wpL_op rfl rfl rfl (OpA.quoN rfl rfl rfl q1 ?_)
  refine wpL_op rfl rfl rfl (OpA.mv rfl (by with_reducible conv => lhs; whnf) ?_)
  refine wpL_op rfl rfl rfl (OpA.mv rfl (by with_reducible conv => lhs; whnf) ?_)
  refine wpL_op rfl rfl rfl (OpA.quoN rfl rfl rfl q1 ?_)
  refine wpL_op rfl rfl rfl (OpA.ixV rfl ts42 rfl rfl q2 ?_)
  refine wpL_op rfl rfl rfl (OpA.load rfl ti5 rfl .head (getV (enc := (D.k .u8)) q2) rfl ?_)
  refine wpL_op rfl rfl rfl (OpA.shl rfl rfl rfl q3 ?_)
  refine wpL_op rfl rfl rfl (OpA.mv rfl (by with_reducible conv => lhs; whnf) ?_)
  refine wpL_op rfl rfl rfl (OpA.conv rfl td3 td5 rfl ?_)
  refine wpL_op rfl rfl rfl (OpA.bor rfl rfl rfl ?_)
  refine wpL_op rfl rfl rfl (OpA.ixV rfl ts42 rfl rfl q2 ?_)
  refine wpL_eff rfl rfl (OpA.storeV (enc := (D.k .u8)) (v := (gor .u8 (gshl .u8 (gi out (i / 2)) 4) (IntKind.u8.wrap (idxB (⟨#[48, 49, 50, 51, 52, 53, 54, 55, 56, 57, 97, 98, 99, 100, 101, 102]⟩ : ByteArray) (sgi text i))))) rfl ti5 rfl rfl (.of rfl) rfl q2 .head ?_)
  refine wpL_nil ?_
  obtain ⟨q1, h⟩ := h
  refine wpA_region ?_
  refine wpL_op rfl rfl rfl (OpA.mv rfl (by with_reducible conv => lhs; whnf) ?_)
  refine wpL_op rfl rfl rfl (OpA.addi rfl rfl rfl q1 ?_)
  refine wpL_op rfl rfl rfl (OpA.asn rfl (by with_reducible conv => lhs; whnf) ?_)
  refine wpL_nil ?_
  exact ⟨(c10, pre10, post10), ((si out (i / 2) (gor .u8 (gshl .u8 (gi out (i / 2)) 4) (IntKind.u8.wrap (idxB (⟨#[48, 49, 50, 51, 52, 53, 54, 55, 56, 57, 97, 98, 99, 100, 101, 102]⟩ : ByteArray) (sgi text i))))), (i + 1)), h, (Cov.asg ⟨rfl, rfl, rfl, (congrArg (D.own c10 1 pre10.length) (by simp only [si_length, gcopy_length])), rfl, trivial⟩), (.refl _)⟩
  have h := h.2 (decF b4)
  refine wpA_exit ?_
  refine wpA_seq ?_
  refine wpA_region ?_
  refine wpL_op rfl rfl rfl (OpA.mv rfl (by with_reducible conv => lhs; whnf) ?_)
  refine wpL_op rfl rfl rfl (OpA.bytesStr rfl ts42.desc td5 td9 (.own .head) ?_)
  refine wpL_op rfl rfl rfl (OpA.asn rfl (by with_reducible conv => lhs; whnf) ?_)
  refine wpL_op rfl rfl rfl (OpA.asn rfl (by with_reducible conv => lhs; whnf) ?_)
  refine wpL_nil ?_
  refine wpA_ret ?_
  exact ⟨_, (.tmp (d := D.s (bstr out)) rfl (.tmp (d := D.i 0) rfl .nil)), _, (.tup (.same rfl (.same rfl .nil)) .nil), ⟨((bstr out), 0), rfl, h⟩⟩
theorem parse_c (text : ByteArray)   : Fun false Try.prog 21 [D.s text] (fun d => d = .tup [D.s ((parseF text).1), D.i ((parseF text).2)]) :=
  Fun.at (enc := fun r => .tup [D.s (r.1), D.i (r.2)]) (v := parseF text) (parse_w text  (fun r => r = parseF text) (parse_ok text _  rfl))

set_option maxHeartbeats 2000000 in
set_option maxRecDepth 10000 in
theorem hex1_w (half : Int) (b : List Int) (c_b : Nat) (u_b : Bool) (g_b : Nat) (post_b : List D)  (Q : (List Int) → Prop) (h : hex1_vc half b Q) : CallH Try.prog 29 [(D.k .u8) half, .ptr c_b 2 0 0] [(c_b, .cells 2 [bldD 56 5 c_b u_b g_b b]), (g_b, .cells 1 (winL (D.k .u8) ([] : List D) b post_b))] (fun d h' => ∃ (r : (List Int)) (g : Bool × Nat × List D), d = .tup [] ∧ h' = [(c_b, .cells 2 [bldD 56 5 c_b g.1 g.2.1 r]), (g.2.1, .cells 1 (winL (D.k .u8) ([] : List D) r g.2.2))] ∧ Q r) := by
  unfold hex1_vc at h
  refine CallH.of_bodyP Try.func29 rfl Try.ntmps29 rfl ?_
  obtain ⟨q1, q2, h⟩ := h
  refine wpA_region ?_
  refine wpL_op rfl rfl rfl (OpA.mv rfl (by with_reducible conv => lhs; whnf) ?_)
  refine wpL_op rfl rfl rfl (OpA.sixV rfl td9 rfl rfl q1 ?_)
  refine wpL_op rfl rfl rfl (OpA.callH rfl rfl rfl en30 (h1 := [(c_b, .cells 2 [bldD 56 5 c_b u_b g_b b]), (g_b, .cells 1 (winL (D.k .u8) ([] : List D) b post_b))]) (h2 := []) (.refl _) (bldWB_c b c_b u_b g_b post_b (sgi (⟨#[48, 49, 50, 51, 52, 53, 54, 55, 56, 57, 97, 98, 99, 100, 101, 102]⟩ : ByteArray) half) q2) ?_)
  rintro _ _ ⟨⟨u1, c2, post3⟩, rfl, rfl⟩
  refine wpL_nil ?_
  exact ⟨_, .nil, [(c_b, .cells 2 [bldD 56 5 c_b u1 c2 (b ++ [(sgi (⟨#[48, 49, 50, 51, 52, 53, 54, 55, 56, 57, 97, 98, 99, 100, 101, 102]⟩ : ByteArray) half)])]), (c2, .cells 1 (winL (D.k .u8) ([] : List D) (b ++ [(sgi (⟨#[48, 49, 50, 51, 52, 53, 54, 55, 56, 57, 97, 98, 99, 100, 101, 102]⟩ : ByteArray) half)]) post3))], [(c_b, .cells 2 [bldD 56 5 c_b u1 c2 (b ++ [(sgi (⟨#[48, 49, 50, 51, 52, 53, 54, 55, 56, 57, 97, 98, 99, 100, 101, 102]⟩ : ByteArray) half)])]), (c2, .cells 1 (winL (D.k .u8) ([] : List D) (b ++ [(sgi (⟨#[48, 49, 50, 51, 52, 53, 54, 55, 56, 57, 97, 98, 99, 100, 101, 102]⟩ : ByteArray) half)]) post3))], (.refl _), (.refl _), (b ++ [(sgi (⟨#[48, 49, 50, 51, 52, 53, 54, 55, 56, 57, 97, 98, 99, 100, 101, 102]⟩ : ByteArray) half)]), (u1, c2, post3), rfl, rfl, h⟩
theorem hex1_c (half : Int) (b : List Int) (c_b : Nat) (u_b : Bool) (g_b : Nat) (post_b : List D)  (hp0 : inL half 16) (hp1 : b.length ≤ 1000) : CallH Try.prog 29 [(D.k .u8) half, .ptr c_b 2 0 0] [(c_b, .cells 2 [bldD 56 5 c_b u_b g_b b]), (g_b, .cells 1 (winL (D.k .u8) ([] : List D) b post_b))] (fun d h' => ∃ (g : Bool × Nat × List D), d = .tup [] ∧ h' = [(c_b, .cells 2 [bldD 56 5 c_b g.1 g.2.1 (hex1 half b)]), (g.2.1, .cells 1 (winL (D.k .u8) ([] : List D) (hex1 half b) g.2.2))]) :=
  (hex1_w half b c_b u_b g_b post_b  (fun r => r = hex1 half b) (hex1_ok half b _ hp0 hp1 rfl)).mono (by rintro d h' ⟨r, g, hd, hh, rfl⟩; exact ⟨g, hd, hh⟩)

set_option maxHeartbeats 2000000 in
set_option maxRecDepth 10000 in
theorem hex_w (digest : ByteArray)  (Q : ByteArray × Int → Prop) (h : hex_vc digest Q) : Fun false Try.prog 19 [D.s digest] (fun d => ∃ r, d = .tup [D.s (r.1), D.i (r.2)] ∧ Q r) := by
  unfold hex_vc at h
  refine Fun.of_body Try.func19 rfl Try.ntmps19 rfl ?_
  refine wpA_seq ?_
  refine wpA_region ?_
  refine wpL_op rfl rfl rfl (OpA.asn rfl (by with_reducible conv => lhs; whnf) ?_)
  refine wpL_op rfl rfl rfl (OpA.asn rfl (by with_reducible conv => lhs; whnf) ?_)
  refine wpL_nil ?_
  iterate 2 refine wpA_seq ?_
  refine wpA_region ?_
  refine wpL_op rfl rfl rfl (OpA.mv rfl (by with_reducible conv => lhs; whnf) ?_)
  refine wpL_op rfl rfl rfl (OpA.slen rfl rfl rfl rfl td9 rfl ?_)
  refine wpL_op rfl rfl rfl (OpA.neq rfl rfl rfl ?_)
  refine wpL_nil ?_
  refine wpA_cond rfl (fun b1 => ?_) (fun b1 => ?_)
  have h := h.1 (bneT b1)
  refine wpA_seq ?_
  refine wpA_region ?_
  refine wpL_op rfl rfl rfl (OpA.asn rfl (by with_reducible conv => lhs; whnf) ?_)
  refine wpL_op rfl rfl rfl (OpA.asn rfl (by with_reducible conv => lhs; whnf) ?_)
  refine wpL_nil ?_
  refine wpA_ret ?_
  exact ⟨_, (.tmp (d := D.s (⟨#[]⟩ : ByteArray)) rfl (.tmp (d := D.i 1) rfl .nil)), _, (.tup (.same rfl (.same rfl .nil)) .nil), ⟨((⟨#[]⟩ : ByteArray), 1), rfl, h⟩⟩
  have h := h.2 (bneF b1)
  refine wpA_skip ?_
  refine wpA_seq ?_
  refine wpA_region ?_
  refine wpL_op rfl rfl rfl (OpA.allocB (e := 5) rfl tz56 (fun c2 c3 => ?_))
  refine wpL_nil ?_
  refine wpA_seq ?_
  refine wpA_region ?_
  refine wpL_op rfl rfl rfl (OpA.makeFunc rfl ?_)
  refine wpL_op rfl rfl rfl (OpA.asn rfl (by with_reducible conv => lhs; whnf) ?_)
  refine wpL_nil ?_
  iterate 2 refine wpA_seq ?_
  refine wpA_region ?_
  refine wpL_op rfl rfl rfl (OpA.asn rfl (by with_reducible conv => lhs; whnf) ?_)
  refine wpL_nil ?_
  refine wpA_block ?_
  refine wpA_lfp (S := (List Int) × Int) (G := Bool × Nat × List D) (false, c3, ([] : List D)) (fun gg ss => asg [(0, D.s digest), (2, D.s (⟨#[]⟩ : ByteArray)), (3, D.i 0), (4, .ptr c2 2 0 0), (5, .fn (.func 29) [] [.ptr c2 2 0 0]), (6, D.i ss.2)]) (fun gg ss => [(c2, .cells 2 [bldD 56 5 c2 gg.1 gg.2.1 ss.1]), (gg.2.1, .cells 1 (winL (D.k .u8) ([] : List D) ss.1 gg.2.2))]) h (Cov.asg ⟨rfl, rfl, rfl, rfl, rfl, rfl, trivial⟩) (.refl _) ?_
  rintro again4 ⟨u, c4b, post4b⟩ ⟨xs, i⟩ h
  have h : hex_L1 digest Q again4 xs i := h
  unfold hex_L1 at h
  show wpA _ _ _ _ (asg [(0, D.s digest), (2, D.s (⟨#[]⟩ : ByteArray)), (3, D.i 0), (4, .ptr c2 2 0 0), (5, .fn (.func 29) [] [.ptr c2 2 0 0]), (6, D.i i)]) [(c2, .cells 2 [bldD 56 5 c2 u c4b xs]), (c4b, .cells 1 (winL (D.k .u8) ([] : List D) xs post4b))]
  iterate 2 refine wpA_seq ?_
  refine wpA_region ?_
  refine wpL_op rfl rfl rfl (OpA.mv rfl (by with_reducible conv => lhs; whnf) ?_)
  refine wpL_op rfl rfl rfl (OpA.mv rfl (by with_reducible conv => lhs; whnf) ?_)
  refine wpL_op rfl rfl rfl (OpA.slen rfl rfl rfl rfl td9 rfl ?_)
  refine wpL_op rfl rfl rfl (OpA.lss rfl rfl rfl ?_)
  refine wpL_nil ?_
  refine wpA_cond rfl (fun b5 => ?_) (fun b5 => ?_)
  have h := h.1 (decT b5)
  refine wpA_skip ?_
  refine wpA_seq ?_
  refine wpA_block ?_
  refine wpA_seq ?_
  obtain ⟨q1, q2, q3, q4, h⟩ := h
  refine wpA_region ?_
  refine wpL_op rfl rfl rfl (OpA.mv rfl (by with_reducible conv => lhs; whnf) ?_)
  refine wpL_op rfl rfl rfl (OpA.mv rfl (by with_reducible conv => lhs; whnf) ?_)
  refine wpL_op rfl rfl rfl (OpA.mv rfl (by with_reducible conv => lhs; whnf) ?_)
  refine wpL_op rfl rfl rfl (OpA.sixV rfl td9 rfl rfl q1 ?_)
  refine wpL_op rfl rfl rfl (OpA.shr rfl rfl rfl q2 ?_)
  refine wpL_op rfl rfl rfl (OpA.callH rfl rfl rfl en29 (h1 := [(c2, .cells 2 [bldD 56 5 c2 u c4b xs]), (c4b, .cells 1 (winL (D.k .u8) ([] : List D) xs post4b))]) (h2 := []) (.refl _) (hex1_c (gshr .u8 (sgi digest i) 4) xs c2 u c4b post4b q3 q4) ?_)
  rintro _ _ ⟨⟨u6, c7, post8⟩, rfl, rfl⟩
  refine wpL_nil ?_
  obtain ⟨q1, q2, q3, h⟩ := h
  refine wpA_region ?_
  refine wpL_op rfl rfl rfl (OpA.mv rfl (by with_reducible conv => lhs; whnf) ?_)
  refine wpL_op rfl rfl rfl (OpA.mv rfl (by with_reducible conv => lhs; whnf) ?_)
  refine wpL_op rfl rfl rfl (OpA.mv rfl (by with_reducible conv => lhs; whnf) ?_)
  refine wpL_op rfl rfl rfl (OpA.sixV rfl td9 rfl rfl q1 ?_)
  refine wpL_op rfl rfl rfl (OpA.band rfl rfl rfl ?_)
  refine wpL_op rfl rfl rfl (OpA.callH rfl rfl rfl en29 (h1 := [(c2, .cells 2 [bldD 56 5 c2 u6 c7 (hex1 (gshr .u8 (sgi digest i) 4) xs)]), (c7, .cells 1 (winL (D.k .u8) ([] : List D) (hex1 (gshr .u8 (sgi digest i) 4) xs) post8))]) (h2 := []) (.refl _) (hex1_c (gand .u8 (sgi digest i) 15) (hex1 (gshr .u8 (sgi digest i) 4) xs) c2 u6 c7 post8 q2 q3) ?_)
  rintro _ _ ⟨⟨u9, c10, post11⟩, rfl, rfl⟩
  refine wpL_nil ?_
  obtain ⟨q1, h⟩ := h
  refine wpA_region ?_
  refine wpL_op rfl rfl rfl (OpA.mv rfl (by with_reducible conv => lhs; whnf) ?_)
  refine wpL_op rfl rfl rfl (OpA.addi rfl rfl rfl q1 ?_)
  refine wpL_op rfl rfl rfl (OpA.asn rfl (by with_reducible conv => lhs; whnf) ?_)
  refine wpL_nil ?_
  exact ⟨(u9, c10, post11), ((hex1 (gand .u8 (sgi digest i) 15) (hex1 (gshr .u8 (sgi digest i) 4) xs)), (i + 1)), h, (Cov.asg ⟨rfl, rfl, rfl, rfl, rfl, rfl, trivial⟩), (.refl _)⟩
  have h := h.2 (decF b5)
  refine wpA_exit ?_
  refine wpA_seq ?_
  obtain ⟨q1, h⟩ := h
  refine wpA_region ?_
  refine wpL_op rfl rfl rfl (OpA.callH rfl rfl rfl en31 (h1 := [(c2, .cells 2 [bldD 56 5 c2 u c4b xs]), (c4b, .cells 1 (winL (D.k .u8) ([] : List D) xs post4b))]) (h2 := []) (.refl _) (bldStr_c xs c2 u c4b post4b q1) ?_)
  rintro _ _ ⟨_, rfl, rfl⟩
  refine wpL_op rfl rfl rfl (OpA.asn rfl (by with_reducible conv => lhs; whnf) ?_)
  refine wpL_op rfl rfl rfl (OpA.asn rfl (by with_reducible conv => lhs; whnf) ?_)
  refine wpL_nil ?_
  refine wpA_ret ?_
  exact ⟨_, (.tmp (d := D.s (bstr xs)) rfl (.tmp (d := D.i 0) rfl .nil)), _, (.tup (.same rfl (.same rfl .nil)) .nil), ⟨((bstr xs), 0), rfl, h⟩⟩
theorem hex_c (digest : ByteArray)   : Fun false Try.prog 19 [D.s digest] (fun d => d = .tup [D.s ((hexF digest).1), D.i ((hexF digest).2)]) :=
  Fun.at (enc := fun r => .tup [D.s (r.1), D.i (r.2)]) (v := hexF digest) (hex_w digest  (fun r => r = hexF digest) (hex_ok digest _  rfl))
end Go.Proofs.Ytchidogjhgelpaa
