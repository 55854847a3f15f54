/-
  walks and contracts
-/
import Derived.Test.YtchidogjhgelpaaV3
set_option linter.all false
namespace Go.Proofs.Ytchidogjhgelpaa
open Go Go.Lic
attribute [local irreducible] rotF offF conF offsF consF roundF roundR permF sumF hexF digF parseF idxB hex1 newF absF clF wrF ssF



set_option maxHeartbeats 2000000 in
set_option maxRecDepth 10000 in
theorem ss_w (s_ : DigestSponge) (c_s_ : Nat) (c_s_1 : Nat) (pre_s_ : List D) (post_s_ : List D)  (Q : ByteArray × DigestSponge → Prop) (h : ss_vc s_ Q) : CallH Try.prog 17 [.ptr c_s_ 54 0 0] [(c_s_, .cells 54 [.agg (arrC 25 (D.k .u64) s_.state ++ ([.own c_s_1 1 pre_s_.length s_.rest.length, D.i s_.taken] ++ (arrC 25 (D.k .u64) s_.seen ++ ([D.s s_.tail, D.s s_.sum]))))]), (c_s_1, .cells 1 (winL (D.k .u8) pre_s_ s_.rest post_s_))] (fun d h' => ∃ (r : ByteArray × DigestSponge) (g : Nat × List D × List D), d = D.s r.1 ∧ h' = [(c_s_, .cells 54 [.agg (arrC 25 (D.k .u64) r.2.state ++ ([.own g.1 1 g.2.1.length r.2.rest.length, D.i r.2.taken] ++ (arrC 25 (D.k .u64) r.2.seen ++ ([D.s r.2.tail, D.s r.2.sum]))))]), (g.1, .cells 1 (winL (D.k .u8) g.2.1 r.2.rest g.2.2))] ∧ Q r) := by
  unfold ss_vc at h
  refine CallH.of_bodyP Try.func17 rfl Try.ntmps17 rfl ?_
  refine wpA_seq ?_
  refine wpA_region ?_
  refine wpL_op rfl rfl rfl (OpA.asn rfl (by with_reducible conv => lhs; whnf) ?_)
  refine wpL_nil ?_
  iterate 2 refine wpA_seq ?_
  refine wpA_mid (asg [(0, .ptr c_s_ 54 0 0), (2, D.s (⟨#[]⟩ : ByteArray)), (34, D.b (((!decide (s_.sum = (⟨#[]⟩ : ByteArray))) && (aeq 25 s_.seen s_.state)) && (decide (s_.tail = (bstr s_.rest)))))]) [(c_s_, .cells 54 [.agg (arrC 25 (D.k .u64) s_.state ++ ([.own c_s_1 1 pre_s_.length s_.rest.length, D.i s_.taken] ++ (arrC 25 (D.k .u64) s_.seen ++ ([D.s s_.tail, D.s s_.sum]))))]), (c_s_1, .cells 1 (winL (D.k .u8) pre_s_ s_.rest post_s_))] ?_ ?_
  refine wpA_draw (m := 28) mo (by kernel_rfl) rfl ?_
  refine DetK.op rfl (OpA.mv rfl (by with_reducible conv => lhs; whnf) ⟨rfl, rfl⟩) ?_
  refine DetK.op rfl (OpA.nc rfl (by with_reducible conv => lhs; whnf) (.inl ⟨_, _, _, _, rfl⟩) ⟨rfl, rfl⟩) ?_
  refine DetK.op rfl (OpA.fieldAddr rfl tf52_5 rfl ⟨rfl, rfl⟩) ?_
  refine DetK.op rfl (OpA.load rfl ti9 rfl .head rfl rfl ⟨rfl, rfl⟩) ?_
  refine DetK.op rfl (OpA.sneq rfl rfl rfl ⟨rfl, rfl⟩) ?_
  refine DetK.op rfl (OpA.mv rfl (by with_reducible conv => lhs; whnf) ⟨rfl, rfl⟩) ?_
  refine DetK_split (s := 12) rfl (fun b11 => ?_) (fun b11 => ?_)
  refine DetK.opg rfl rfl rfl rfl (OpA.mv rfl (by with_reducible conv => lhs; whnf) ⟨rfl, rfl⟩) ?_
  refine DetK.opg rfl rfl rfl rfl (OpA.nc rfl (by with_reducible conv => lhs; whnf) (.inl ⟨_, _, _, _, rfl⟩) ⟨rfl, rfl⟩) ?_
  refine DetK.opg rfl rfl rfl rfl (OpA.fieldAddr rfl tf52_3 rfl ⟨rfl, rfl⟩) ?_
  refine DetK.opg rfl rfl rfl rfl (OpA.load_agg rfl ti26 rfl .head rfl rfl rfl ⟨rfl, rfl⟩) ?_
  refine DetK.opg rfl rfl rfl rfl (OpA.mv rfl (by with_reducible conv => lhs; whnf) ⟨rfl, rfl⟩) ?_
  refine DetK.opg rfl rfl rfl rfl (OpA.nc rfl (by with_reducible conv => lhs; whnf) (.inl ⟨_, _, _, _, rfl⟩) ⟨rfl, rfl⟩) ?_
  refine DetK.opg rfl rfl rfl rfl (OpA.fieldAddr rfl tf52_0 rfl ⟨rfl, rfl⟩) ?_
  refine DetK.opg rfl rfl rfl rfl (OpA.load_agg rfl ti26 rfl .head rfl rfl rfl ⟨rfl, rfl⟩) ?_
  refine DetK.opg rfl rfl rfl rfl (OpA.arrcmp rfl eg26 td26 ti25 td25 rfl rfl (.inl ⟨rfl, rfl⟩) ⟨rfl, rfl⟩) ?_
  refine DetK.op rfl (OpA.pck rfl rfl (by with_reducible conv => lhs; whnf) ⟨rfl, rfl⟩) ?_
  refine DetK.op rfl (OpA.mv rfl (by with_reducible conv => lhs; whnf) ⟨rfl, rfl⟩) ?_
  refine DetK_split (s := 23) rfl (fun b12 => ?_) (fun b12 => ?_)
  refine DetK.opg rfl rfl rfl rfl (OpA.mv rfl (by with_reducible conv => lhs; whnf) ⟨rfl, rfl⟩) ?_
  refine DetK.opg rfl rfl rfl rfl (OpA.nc rfl (by with_reducible conv => lhs; whnf) (.inl ⟨_, _, _, _, rfl⟩) ⟨rfl, rfl⟩) ?_
  refine DetK.opg rfl rfl rfl rfl (OpA.fieldAddr rfl tf52_4 rfl ⟨rfl, rfl⟩) ?_
  refine DetK.opg rfl rfl rfl rfl (OpA.load rfl ti9 rfl .head rfl rfl ⟨rfl, rfl⟩) ?_
  refine DetK.opg rfl rfl rfl rfl (OpA.mv rfl (by with_reducible conv => lhs; whnf) ⟨rfl, rfl⟩) ?_
  refine DetK.opg rfl rfl rfl rfl (OpA.nc rfl (by with_reducible conv => lhs; whnf) (.inl ⟨_, _, _, _, rfl⟩) ⟨rfl, rfl⟩) ?_
  refine DetK.opg rfl rfl rfl rfl (OpA.fieldAddr rfl tf52_1 rfl ⟨rfl, rfl⟩) ?_
  refine DetK.opg rfl rfl rfl rfl (OpA.load rfl ti42 rfl .head rfl rfl ⟨rfl, rfl⟩) ?_
  refine DetK.opg rfl rfl rfl rfl (OpA.bytesStr rfl ts42.desc td5 td9 (.own (.tail .head)) ⟨rfl, rfl⟩) ?_
  refine DetK.opg rfl rfl rfl rfl (OpA.seql rfl rfl rfl ⟨rfl, rfl⟩) ?_
  refine DetK.op rfl (OpA.pck rfl rfl (by with_reducible conv => lhs; whnf) ⟨rfl, rfl⟩) ?_
  refine DetK.nil ?_
  refine wpL_nil ?_
  exact ⟨(Cov.asg ⟨rfl, rfl, (congrArg D.b (Eq.symm (andN (andN b11 b12) rfl))), trivial⟩), (.refl _)⟩
  iterate 10 refine DetK.skip rfl rfl rfl rfl ?_
  refine DetK.op rfl (OpA.pck rfl rfl (by with_reducible conv => lhs; whnf) ⟨rfl, rfl⟩) ?_
  refine DetK.nil ?_
  refine wpL_nil ?_
  exact ⟨(Cov.asg ⟨rfl, rfl, (congrArg D.b (Eq.symm (andS (andN b11 b12)))), trivial⟩), (.refl _)⟩
  iterate 9 refine DetK.skip rfl rfl rfl rfl ?_
  refine DetK.op rfl (OpA.pck rfl rfl (by with_reducible conv => lhs; whnf) ⟨rfl, rfl⟩) ?_
  refine DetK.op rfl (OpA.mv rfl (by with_reducible conv => lhs; whnf) ⟨rfl, rfl⟩) ?_
  iterate 10 refine DetK.skip rfl rfl rfl rfl ?_
  refine DetK.op rfl (OpA.pck rfl rfl (by with_reducible conv => lhs; whnf) ⟨rfl, rfl⟩) ?_
  refine DetK.nil ?_
  refine wpL_nil ?_
  exact ⟨(Cov.asg ⟨rfl, rfl, (congrArg D.b (Eq.symm (andS (andS b11)))), trivial⟩), (.refl _)⟩
  show wpA _ _ _ _ (asg [(0, .ptr c_s_ 54 0 0), (2, D.s (⟨#[]⟩ : ByteArray)), (34, D.b (((!decide (s_.sum = (⟨#[]⟩ : ByteArray))) && (aeq 25 s_.seen s_.state)) && (decide (s_.tail = (bstr s_.rest)))))]) [(c_s_, .cells 54 [.agg (arrC 25 (D.k .u64) s_.state ++ ([.own c_s_1 1 pre_s_.length s_.rest.length, D.i s_.taken] ++ (arrC 25 (D.k .u64) s_.seen ++ ([D.s s_.tail, D.s s_.sum]))))]), (c_s_1, .cells 1 (winL (D.k .u8) pre_s_ s_.rest post_s_))]
  refine wpA_cond rfl (fun b1 => ?_) (fun b1 => ?_)
  have h := h.1 ⟨⟨(ndecT (and1 (and1 b1))), (and2 (and1 b1))⟩, (decT (and2 b1))⟩
  refine wpA_seq ?_
  refine wpA_region ?_
  refine wpL_op rfl rfl rfl (OpA.mv rfl (by with_reducible conv => lhs; whnf) ?_)
  refine wpL_op rfl rfl rfl (OpA.nc rfl (by with_reducible conv => lhs; whnf) (.inl ⟨_, _, _, _, rfl⟩) ?_)
  refine wpL_op rfl rfl rfl (OpA.fieldAddr rfl tf52_5 rfl ?_)
  refine wpL_op rfl rfl rfl (OpA.load rfl ti9 rfl .head rfl rfl ?_)
  refine wpL_op rfl rfl rfl (OpA.asn rfl (by with_reducible conv => lhs; whnf) ?_)
  refine wpL_nil ?_
  refine wpA_ret ?_
  exact ⟨_, (.tmp (d := D.s s_.sum) rfl .nil), [(c_s_, .cells 54 [.agg (arrC 25 (D.k .u64) s_.state ++ ([.own c_s_1 1 pre_s_.length s_.rest.length, D.i s_.taken] ++ (arrC 25 (D.k .u64) s_.seen ++ ([D.s s_.tail, D.s s_.sum]))))]), (c_s_1, .cells 1 (winL (D.k .u8) pre_s_ s_.rest post_s_))], [(c_s_, .cells 54 [.agg (arrC 25 (D.k .u64) s_.state ++ ([.own c_s_1 1 pre_s_.length s_.rest.length, D.i s_.taken] ++ (arrC 25 (D.k .u64) s_.seen ++ ([D.s s_.tail, D.s s_.sum]))))]), (c_s_1, .cells 1 (winL (D.k .u8) pre_s_ s_.rest post_s_))], (.refl _), (.refl _), (s_.sum, s_), (c_s_1, pre_s_, post_s_), rfl, rfl, h⟩
  have h := h.2 ((and0 b1).imp (fun hh => ((and0 hh).imp (fun hh => (ndecF hh)) (fun hh => hh))) (fun hh => (decF hh)))
  refine wpA_skip ?_
  refine wpA_seq ?_
  obtain ⟨q1, h⟩ := h
  refine wpA_region ?_
  refine wpL_op rfl rfl rfl (OpA.mv rfl (by with_reducible conv => lhs; whnf) ?_)
  refine wpL_op rfl rfl rfl (OpA.callH rfl rfl rfl en18 (h1 := [(c_s_, .cells 54 [.agg (arrC 25 (D.k .u64) s_.state ++ ([.own c_s_1 1 pre_s_.length s_.rest.length, D.i s_.taken] ++ (arrC 25 (D.k .u64) s_.seen ++ ([D.s s_.tail, D.s s_.sum]))))]), (c_s_1, .cells 1 (winL (D.k .u8) pre_s_ s_.rest post_s_))]) (h2 := []) (.refl _) (cl_c s_ c_s_ c_s_1 pre_s_ post_s_ q1) ?_)
  rintro _ _ ⟨⟨c2, c_n3, pre_n3, post_n3, c4, pre5, post6⟩, rfl, rfl⟩
  refine wpL_op rfl rfl rfl (OpA.asn rfl (by with_reducible conv => lhs; whnf) ?_)
  refine wpL_nil ?_
  refine wpA_seq ?_
  obtain ⟨q1, h⟩ := h
  refine wpA_region ?_
  refine wpL_op rfl rfl rfl (OpA.makeSliceV (enc := (D.k .u8)) (v0 := 0) rfl ts42 rfl rfl tz5 (fun _ _ => .v _) (.of rfl) q1 (fun c7 => ?_))
  refine wpL_op rfl rfl rfl (OpA.asn rfl (by with_reducible conv => lhs; whnf) ?_)
  refine wpL_nil ?_
  refine wpA_seq ?_
  refine wpA_region ?_
  refine wpL_op rfl rfl rfl (OpA.mv rfl (by with_reducible conv => lhs; whnf) ?_)
  refine wpL_op rfl rfl rfl (OpA.mv rfl (by with_reducible conv => lhs; whnf) ?_)
  refine wpL_op rfl rfl rfl (OpA.nc rfl (by with_reducible conv => lhs; whnf) (.inl ⟨_, _, _, _, rfl⟩) ?_)
  refine wpL_op rfl rfl rfl (OpA.fieldAddr rfl tf52_1 rfl ?_)
  refine wpL_op rfl rfl rfl (OpA.load rfl ti42 rfl (.tail .head) rfl rfl ?_)
  refine wpL_op rfl rfl rfl (OpA_copyW rfl rfl rfl rfl ts42 rfl .head (.own (.tail (.tail .head))) ?_)
  refine wpL_nil ?_
  refine wpA_seq ?_
  refine wpA_cov (fr0 := asg [(0, .ptr c_s_ 54 0 0), (2, D.s (⟨#[]⟩ : ByteArray)), (3, .ptr c2 54 0 0), (4, .own c7 1 ([] : List D).length (gcopy (List.replicate (Int.toNat 136) 0) (((clF s_).1).rest)).length), (34, D.b (((!decide (s_.sum = (⟨#[]⟩ : ByteArray))) && (aeq 25 s_.seen s_.state)) && (decide (s_.tail = (bstr s_.rest))))), (39, .ptr c_s_ 54 0 0), (40, .ptr c2 54 0 0), (41, .own c7 1 ([] : List D).length (gcopy (List.replicate (Int.toNat 136) 0) (((clF s_).1).rest)).length), (42, .own c7 1 ([] : List D).length (gcopy (List.replicate (Int.toNat 136) 0) (((clF s_).1).rest)).length), (43, .ptr c2 54 0 0), (44, .ptr c2 54 0 0), (45, .ptr c2 54 0 25), (46, .own c_n3 1 pre_n3.length (((clF s_).1).rest).length), (47, D.i ((min (((clF s_).1).rest).length (List.replicate (Int.toNat 136) 0).length : Nat) : Int))]) (Cov.asg ⟨rfl, rfl, rfl, (congrArg (D.own c7 1 ([] : List D).length) (by simp only [si_length, gcopy_length])), rfl, rfl, rfl, (congrArg (D.own c7 1 ([] : List D).length) (by simp only [si_length, gcopy_length])), (congrArg (D.own c7 1 ([] : List D).length) (by simp only [si_length, gcopy_length])), rfl, rfl, rfl, rfl, rfl, trivial⟩) ?_
  obtain ⟨q1, h⟩ := h
  refine wpA_region ?_
  refine wpL_op rfl rfl rfl (OpA.mv rfl (by with_reducible conv => lhs; whnf) ?_)
  refine wpL_op rfl rfl rfl (OpA.mv rfl (by with_reducible conv => lhs; whnf) ?_)
  refine wpL_op rfl rfl rfl (OpA.nc rfl (by with_reducible conv => lhs; whnf) (.inl ⟨_, _, _, _, rfl⟩) ?_)
  refine wpL_op rfl rfl rfl (OpA.fieldAddr rfl tf52_1 rfl ?_)
  refine wpL_op rfl rfl rfl (OpA.load rfl ti42 rfl (.tail .head) rfl rfl ?_)
  refine wpL_op rfl rfl rfl (OpA.len rfl rfl rfl rfl ts42.desc (.inr (.inl ⟨_, _, _, rfl⟩)) ?_)
  refine wpL_op rfl rfl rfl (OpA.ixV rfl ts42 rfl rfl q1 ?_)
  refine wpL_eff rfl rfl (OpA.storeV (enc := (D.k .u8)) (v := 6) rfl ti5 rfl rfl (.of rfl) rfl q1 .head ?_)
  refine wpL_nil ?_
  refine wpA_seq ?_
  refine wpA_cov (fr0 := asg [(0, .ptr c_s_ 54 0 0), (2, D.s (⟨#[]⟩ : ByteArray)), (3, .ptr c2 54 0 0), (4, .own c7 1 ([] : List D).length (si (gcopy (List.replicate (Int.toNat 136) 0) (((clF s_).1).rest)) ((((clF s_).1).rest).length : Int) 6).length), (34, D.b (((!decide (s_.sum = (⟨#[]⟩ : ByteArray))) && (aeq 25 s_.seen s_.state)) && (decide (s_.tail = (bstr s_.rest))))), (39, .ptr c_s_ 54 0 0), (40, .ptr c2 54 0 0), (41, .own c7 1 ([] : List D).length (si (gcopy (List.replicate (Int.toNat 136) 0) (((clF s_).1).rest)) ((((clF s_).1).rest).length : Int) 6).length), (42, .own c7 1 ([] : List D).length (si (gcopy (List.replicate (Int.toNat 136) 0) (((clF s_).1).rest)) ((((clF s_).1).rest).length : Int) 6).length), (43, .ptr c2 54 0 0), (44, .ptr c2 54 0 0), (45, .ptr c2 54 0 25), (46, .own c_n3 1 pre_n3.length (((clF s_).1).rest).length), (47, D.i ((min (((clF s_).1).rest).length (List.replicate (Int.toNat 136) 0).length : Nat) : Int)), (48, .own c7 1 ([] : List D).length (si (gcopy (List.replicate (Int.toNat 136) 0) (((clF s_).1).rest)) ((((clF s_).1).rest).length : Int) 6).length), (49, .ptr c2 54 0 0), (50, .ptr c2 54 0 0), (51, .ptr c2 54 0 25), (52, .own c_n3 1 pre_n3.length (((clF s_).1).rest).length), (53, D.i ((((clF s_).1).rest).length : Int)), (54, .ptr c7 1 (([] : List D).length + (Int.toNat ((((clF s_).1).rest).length : Int))) 0)]) (Cov.asg ⟨rfl, rfl, rfl, (congrArg (D.own c7 1 ([] : List D).length) (by simp only [si_length, gcopy_length])), rfl, rfl, rfl, (congrArg (D.own c7 1 ([] : List D).length) (by simp only [si_length, gcopy_length])), (congrArg (D.own c7 1 ([] : List D).length) (by simp only [si_length, gcopy_length])), rfl, rfl, rfl, rfl, rfl, (congrArg (D.own c7 1 ([] : List D).length) (by simp only [si_length, gcopy_length])), rfl, rfl, rfl, rfl, rfl, rfl, trivial⟩) ?_
  obtain ⟨q1, h⟩ := h
  refine wpA_region ?_
  refine wpL_op rfl rfl rfl (OpA.mv rfl (by with_reducible conv => lhs; whnf) ?_)
  refine wpL_op rfl rfl rfl (OpA.ixV rfl ts42 rfl rfl q1 ?_)
  refine wpL_op rfl rfl rfl (OpA.load rfl ti5 rfl .head (getV (enc := (D.k .u8)) q1) rfl ?_)
  refine wpL_op rfl rfl rfl (OpA.bxor rfl rfl rfl ?_)
  refine wpL_op rfl rfl rfl (OpA.ixV rfl ts42 rfl rfl q1 ?_)
  refine wpL_eff rfl rfl (OpA.storeV (enc := (D.k .u8)) (v := (gxor .u8 (gi (si (gcopy (List.replicate (Int.toNat 136) 0) (((clF s_).1).rest)) ((((clF s_).1).rest).length : Int) 6) 135) 128)) rfl ti5 rfl rfl (.of rfl) rfl q1 .head ?_)
  refine wpL_nil ?_
  refine wpA_seq ?_
  refine wpA_cov (fr0 := asg [(0, .ptr c_s_ 54 0 0), (2, D.s (⟨#[]⟩ : ByteArray)), (3, .ptr c2 54 0 0), (4, .own c7 1 ([] : List D).length (si (si (gcopy (List.replicate (Int.toNat 136) 0) (((clF s_).1).rest)) ((((clF s_).1).rest).length : Int) 6) 135 (gxor .u8 (gi (si (gcopy (List.replicate (Int.toNat 136) 0) (((clF s_).1).rest)) ((((clF s_).1).rest).length : Int) 6) 135) 128)).length), (34, D.b (((!decide (s_.sum = (⟨#[]⟩ : ByteArray))) && (aeq 25 s_.seen s_.state)) && (decide (s_.tail = (bstr s_.rest))))), (39, .ptr c_s_ 54 0 0), (40, .ptr c2 54 0 0), (41, .own c7 1 ([] : List D).length (si (si (gcopy (List.replicate (Int.toNat 136) 0) (((clF s_).1).rest)) ((((clF s_).1).rest).length : Int) 6) 135 (gxor .u8 (gi (si (gcopy (List.replicate (Int.toNat 136) 0) (((clF s_).1).rest)) ((((clF s_).1).rest).length : Int) 6) 135) 128)).length), (42, .own c7 1 ([] : List D).length (si (si (gcopy (List.replicate (Int.toNat 136) 0) (((clF s_).1).rest)) ((((clF s_).1).rest).length : Int) 6) 135 (gxor .u8 (gi (si (gcopy (List.replicate (Int.toNat 136) 0) (((clF s_).1).rest)) ((((clF s_).1).rest).length : Int) 6) 135) 128)).length), (43, .ptr c2 54 0 0), (44, .ptr c2 54 0 0), (45, .ptr c2 54 0 25), (46, .own c_n3 1 pre_n3.length (((clF s_).1).rest).length), (47, D.i ((min (((clF s_).1).rest).length (List.replicate (Int.toNat 136) 0).length : Nat) : Int)), (48, .own c7 1 ([] : List D).length (si (si (gcopy (List.replicate (Int.toNat 136) 0) (((clF s_).1).rest)) ((((clF s_).1).rest).length : Int) 6) 135 (gxor .u8 (gi (si (gcopy (List.replicate (Int.toNat 136) 0) (((clF s_).1).rest)) ((((clF s_).1).rest).length : Int) 6) 135) 128)).length), (49, .ptr c2 54 0 0), (50, .ptr c2 54 0 0), (51, .ptr c2 54 0 25), (52, .own c_n3 1 pre_n3.length (((clF s_).1).rest).length), (53, D.i ((((clF s_).1).rest).length : Int)), (54, .ptr c7 1 (([] : List D).length + (Int.toNat ((((clF s_).1).rest).length : Int))) 0), (55, .own c7 1 ([] : List D).length (si (si (gcopy (List.replicate (Int.toNat 136) 0) (((clF s_).1).rest)) ((((clF s_).1).rest).length : Int) 6) 135 (gxor .u8 (gi (si (gcopy (List.replicate (Int.toNat 136) 0) (((clF s_).1).rest)) ((((clF s_).1).rest).length : Int) 6) 135) 128)).length), (56, .ptr c7 1 (([] : List D).length + (Int.toNat 135)) 0), (57, (D.k .u8) (gi (si (gcopy (List.replicate (Int.toNat 136) 0) (((clF s_).1).rest)) ((((clF s_).1).rest).length : Int) 6) 135)), (58, (D.k .u8) (gxor .u8 (gi (si (gcopy (List.replicate (Int.toNat 136) 0) (((clF s_).1).rest)) ((((clF s_).1).rest).length : Int) 6) 135) 128)), (59, .ptr c7 1 (([] : List D).length + (Int.toNat 135)) 0)]) (Cov.asg ⟨rfl, rfl, rfl, (congrArg (D.own c7 1 ([] : List D).length) (by simp only [si_length, gcopy_length])), rfl, rfl, rfl, (congrArg (D.own c7 1 ([] : List D).length) (by simp only [si_length, gcopy_length])), (congrArg (D.own c7 1 ([] : List D).length) (by simp only [si_length, gcopy_length])), rfl, rfl, rfl, rfl, rfl, (congrArg (D.own c7 1 ([] : List D).length) (by simp only [si_length, gcopy_length])), rfl, rfl, rfl, rfl, rfl, rfl, (congrArg (D.own c7 1 ([] : List D).length) (by simp only [si_length, gcopy_length])), rfl, rfl, rfl, rfl, trivial⟩) ?_
  obtain ⟨q1, q2, h⟩ := h
  refine wpA_region ?_
  refine wpL_op rfl rfl rfl (OpA.mv rfl (by with_reducible conv => lhs; whnf) ?_)
  refine wpL_op rfl rfl rfl (OpA.mv rfl (by with_reducible conv => lhs; whnf) ?_)
  refine wpL_op rfl rfl rfl (OpA.callH rfl rfl rfl en28 (h1 := [(c2, .cells 54 [.agg (arrC 25 (D.k .u64) (((clF s_).1).state) ++ ([.own c_n3 1 pre_n3.length (((clF s_).1).rest).length, D.i (((clF s_).1).taken)] ++ (arrC 25 (D.k .u64) (((clF s_).1).seen) ++ ([D.s (((clF s_).1).tail), D.s (((clF s_).1).sum)]))))]), (c7, .cells 1 (winL (D.k .u8) ([] : List D) (si (si (gcopy (List.replicate (Int.toNat 136) 0) (((clF s_).1).rest)) ((((clF s_).1).rest).length : Int) 6) 135 (gxor .u8 (gi (si (gcopy (List.replicate (Int.toNat 136) 0) (((clF s_).1).rest)) ((((clF s_).1).rest).length : Int) 6) 135) 128)) ([] : List D)))]) (h2 := [(c_n3, .cells 1 (winL (D.k .u8) pre_n3 (((clF s_).1).rest) post_n3)), (c_s_, .cells 54 [.agg (arrC 25 (D.k .u64) (((clF s_).2).state) ++ ([.own c4 1 pre5.length (((clF s_).2).rest).length, D.i (((clF s_).2).taken)] ++ (arrC 25 (D.k .u64) (((clF s_).2).seen) ++ ([D.s (((clF s_).2).tail), D.s (((clF s_).2).sum)]))))]), (c4, .cells 1 (winL (D.k .u8) pre5 (((clF s_).2).rest) post6))]) pull1 (abs_c ((clF s_).1) c2 c_n3 pre_n3.length (((clF s_).1).rest).length (si (si (gcopy (List.replicate (Int.toNat 136) 0) (((clF s_).1).rest)) ((((clF s_).1).rest).length : Int) 6) 135 (gxor .u8 (gi (si (gcopy (List.replicate (Int.toNat 136) 0) (((clF s_).1).rest)) ((((clF s_).1).rest).length : Int) 6) 135) 128)) c7 ([] : List D) ([] : List D) q1 q2) ?_)
  rintro _ _ ⟨_, rfl, rfl⟩
  refine wpL_perm (h' := [(c7, .cells 1 (winL (D.k .u8) ([] : List D) (si (si (gcopy (List.replicate (Int.toNat 136) 0) (((clF s_).1).rest)) ((((clF s_).1).rest).length : Int) 6) 135 (gxor .u8 (gi (si (gcopy (List.replicate (Int.toNat 136) 0) (((clF s_).1).rest)) ((((clF s_).1).rest).length : Int) 6) 135) 128)) ([] : List D))), (c2, .cells 54 [.agg (arrC 25 (D.k .u64) ((absF ((clF s_).1) (si (si (gcopy (List.replicate (Int.toNat 136) 0) (((clF s_).1).rest)) ((((clF s_).1).rest).length : Int) 6) 135 (gxor .u8 (gi (si (gcopy (List.replicate (Int.toNat 136) 0) (((clF s_).1).rest)) ((((clF s_).1).rest).length : Int) 6) 135) 128))).state) ++ ([.own c_n3 1 pre_n3.length (((clF s_).1).rest).length, D.i ((absF ((clF s_).1) (si (si (gcopy (List.replicate (Int.toNat 136) 0) (((clF s_).1).rest)) ((((clF s_).1).rest).length : Int) 6) 135 (gxor .u8 (gi (si (gcopy (List.replicate (Int.toNat 136) 0) (((clF s_).1).rest)) ((((clF s_).1).rest).length : Int) 6) 135) 128))).taken)] ++ (arrC 25 (D.k .u64) ((absF ((clF s_).1) (si (si (gcopy (List.replicate (Int.toNat 136) 0) (((clF s_).1).rest)) ((((clF s_).1).rest).length : Int) 6) 135 (gxor .u8 (gi (si (gcopy (List.replicate (Int.toNat 136) 0) (((clF s_).1).rest)) ((((clF s_).1).rest).length : Int) 6) 135) 128))).seen) ++ ([D.s ((absF ((clF s_).1) (si (si (gcopy (List.replicate (Int.toNat 136) 0) (((clF s_).1).rest)) ((((clF s_).1).rest).length : Int) 6) 135 (gxor .u8 (gi (si (gcopy (List.replicate (Int.toNat 136) 0) (((clF s_).1).rest)) ((((clF s_).1).rest).length : Int) 6) 135) 128))).tail), D.s ((absF ((clF s_).1) (si (si (gcopy (List.replicate (Int.toNat 136) 0) (((clF s_).1).rest)) ((((clF s_).1).rest).length : Int) 6) 135 (gxor .u8 (gi (si (gcopy (List.replicate (Int.toNat 136) 0) (((clF s_).1).rest)) ((((clF s_).1).rest).length : Int) 6) 135) 128))).sum)]))))]), (c_n3, .cells 1 (winL (D.k .u8) pre_n3 (((clF s_).1).rest) post_n3)), (c_s_, .cells 54 [.agg (arrC 25 (D.k .u64) (((clF s_).2).state) ++ ([.own c4 1 pre5.length (((clF s_).2).rest).length, D.i (((clF s_).2).taken)] ++ (arrC 25 (D.k .u64) (((clF s_).2).seen) ++ ([D.s (((clF s_).2).tail), D.s (((clF s_).2).sum)]))))]), (c4, .cells 1 (winL (D.k .u8) pre5 (((clF s_).2).rest) post6))]) pull1 ?_
  refine wpL_nil ?_
  refine wpA_seq ?_
  obtain ⟨q1, h⟩ := h
  refine wpA_region ?_
  refine wpL_op rfl rfl rfl (OpA.makeSliceV (enc := (D.k .u8)) (v0 := 0) rfl ts42 rfl rfl tz5 (fun _ _ => .v _) (.of rfl) q1 (fun c8 => ?_))
  refine wpL_op rfl rfl rfl (OpA.asn rfl (by with_reducible conv => lhs; whnf) ?_)
  refine wpL_nil ?_
  iterate 2 refine wpA_seq ?_
  refine wpA_region ?_
  refine wpL_op rfl rfl rfl (OpA.mv rfl (by with_reducible conv => lhs; whnf) ?_)
  refine wpL_op rfl rfl rfl (OpA.len rfl rfl rfl rfl ts42.desc (.inr (.inl ⟨_, _, _, rfl⟩)) ?_)
  refine wpL_op rfl rfl rfl (OpA.mv rfl (by with_reducible conv => lhs; whnf) ?_)
  refine wpL_nil ?_
  refine wpA_block ?_
  refine wpA_lfp (S := (List Int) × Int) (G := Nat × List D × List D) (c8, ([] : List D), ([] : List D)) (fun gg ss => asg [(0, .ptr c_s_ 54 0 0), (2, D.s (⟨#[]⟩ : ByteArray)), (3, .ptr c2 54 0 0), (5, .own gg.1 1 gg.2.1.length ss.1.length), (65, D.i ((List.replicate (Int.toNat 32) 0).length : Int)), (66, D.i ss.2)]) (fun gg ss => [(gg.1, .cells 1 (winL (D.k .u8) gg.2.1 ss.1 gg.2.2)), (c7, .cells 1 (winL (D.k .u8) ([] : List D) (si (si (gcopy (List.replicate (Int.toNat 136) 0) (((clF s_).1).rest)) ((((clF s_).1).rest).length : Int) 6) 135 (gxor .u8 (gi (si (gcopy (List.replicate (Int.toNat 136) 0) (((clF s_).1).rest)) ((((clF s_).1).rest).length : Int) 6) 135) 128)) ([] : List D))), (c2, .cells 54 [.agg (arrC 25 (D.k .u64) ((absF ((clF s_).1) (si (si (gcopy (List.replicate (Int.toNat 136) 0) (((clF s_).1).rest)) ((((clF s_).1).rest).length : Int) 6) 135 (gxor .u8 (gi (si (gcopy (List.replicate (Int.toNat 136) 0) (((clF s_).1).rest)) ((((clF s_).1).rest).length : Int) 6) 135) 128))).state) ++ ([.own c_n3 1 pre_n3.length (((clF s_).1).rest).length, D.i ((absF ((clF s_).1) (si (si (gcopy (List.replicate (Int.toNat 136) 0) (((clF s_).1).rest)) ((((clF s_).1).rest).length : Int) 6) 135 (gxor .u8 (gi (si (gcopy (List.replicate (Int.toNat 136) 0) (((clF s_).1).rest)) ((((clF s_).1).rest).length : Int) 6) 135) 128))).taken)] ++ (arrC 25 (D.k .u64) ((absF ((clF s_).1) (si (si (gcopy (List.replicate (Int.toNat 136) 0) (((clF s_).1).rest)) ((((clF s_).1).rest).length : Int) 6) 135 (gxor .u8 (gi (si (gcopy (List.replicate (Int.toNat 136) 0) (((clF s_).1).rest)) ((((clF s_).1).rest).length : Int) 6) 135) 128))).seen) ++ ([D.s ((absF ((clF s_).1) (si (si (gcopy (List.replicate (Int.toNat 136) 0) (((clF s_).1).rest)) ((((clF s_).1).rest).length : Int) 6) 135 (gxor .u8 (gi (si (gcopy (List.replicate (Int.toNat 136) 0) (((clF s_).1).rest)) ((((clF s_).1).rest).length : Int) 6) 135) 128))).tail), D.s ((absF ((clF s_).1) (si (si (gcopy (List.replicate (Int.toNat 136) 0) (((clF s_).1).rest)) ((((clF s_).1).rest).length : Int) 6) 135 (gxor .u8 (gi (si (gcopy (List.replicate (Int.toNat 136) 0) (((clF s_).1).rest)) ((((clF s_).1).rest).length : Int) 6) 135) 128))).sum)]))))]), (c_n3, .cells 1 (winL (D.k .u8) pre_n3 (((clF s_).1).rest) post_n3)), (c_s_, .cells 54 [.agg (arrC 25 (D.k .u64) (((clF s_).2).state) ++ ([.own c4 1 pre5.length (((clF s_).2).rest).length, D.i (((clF s_).2).taken)] ++ (arrC 25 (D.k .u64) (((clF s_).2).seen) ++ ([D.s (((clF s_).2).tail), D.s (((clF s_).2).sum)]))))]), (c4, .cells 1 (winL (D.k .u8) pre5 (((clF s_).2).rest) post6))]) h (Cov.asg ⟨rfl, rfl, rfl, rfl, rfl, rfl, trivial⟩) (.refl _) ?_
  rintro again9 ⟨c63, pre63, post63⟩ ⟨out, x⟩ h
  have h : ss_L1 s_ Q again9 out x := h
  unfold ss_L1 at h
  show wpA _ _ _ _ (asg [(0, .ptr c_s_ 54 0 0), (2, D.s (⟨#[]⟩ : ByteArray)), (3, .ptr c2 54 0 0), (5, .own c63 1 pre63.length out.length), (65, D.i ((List.replicate (Int.toNat 32) 0).length : Int)), (66, D.i x)]) [(c63, .cells 1 (winL (D.k .u8) pre63 out post63)), (c7, .cells 1 (winL (D.k .u8) ([] : List D) (si (si (gcopy (List.replicate (Int.toNat 136) 0) (((clF s_).1).rest)) ((((clF s_).1).rest).length : Int) 6) 135 (gxor .u8 (gi (si (gcopy (List.replicate (Int.toNat 136) 0) (((clF s_).1).rest)) ((((clF s_).1).rest).length : Int) 6) 135) 128)) ([] : List D))), (c2, .cells 54 [.agg (arrC 25 (D.k .u64) ((absF ((clF s_).1) (si (si (gcopy (List.replicate (Int.toNat 136) 0) (((clF s_).1).rest)) ((((clF s_).1).rest).length : Int) 6) 135 (gxor .u8 (gi (si (gcopy (List.replicate (Int.toNat 136) 0) (((clF s_).1).rest)) ((((clF s_).1).rest).length : Int) 6) 135) 128))).state) ++ ([.own c_n3 1 pre_n3.length (((clF s_).1).rest).length, D.i ((absF ((clF s_).1) (si (si (gcopy (List.replicate (Int.toNat 136) 0) (((clF s_).1).rest)) ((((clF s_).1).rest).length : Int) 6) 135 (gxor .u8 (gi (si (gcopy (List.replicate (Int.toNat 136) 0) (((clF s_).1).rest)) ((((clF s_).1).rest).length : Int) 6) 135) 128))).taken)] ++ (arrC 25 (D.k .u64) ((absF ((clF s_).1) (si (si (gcopy (List.replicate (Int.toNat 136) 0) (((clF s_).1).rest)) ((((clF s_).1).rest).length : Int) 6) 135 (gxor .u8 (gi (si (gcopy (List.replicate (Int.toNat 136) 0) (((clF s_).1).rest)) ((((clF s_).1).rest).length : Int) 6) 135) 128))).seen) ++ ([D.s ((absF ((clF s_).1) (si (si (gcopy (List.replicate (Int.toNat 136) 0) (((clF s_).1).rest)) ((((clF s_).1).rest).length : Int) 6) 135 (gxor .u8 (gi (si (gcopy (List.replicate (Int.toNat 136) 0) (((clF s_).1).rest)) ((((clF s_).1).rest).length : Int) 6) 135) 128))).tail), D.s ((absF ((clF s_).1) (si (si (gcopy (List.replicate (Int.toNat 136) 0) (((clF s_).1).rest)) ((((clF s_).1).rest).length : Int) 6) 135 (gxor .u8 (gi (si (gcopy (List.replicate (Int.toNat 136) 0) (((clF s_).1).rest)) ((((clF s_).1).rest).length : Int) 6) 135) 128))).sum)]))))]), (c_n3, .cells 1 (winL (D.k .u8) pre_n3 (((clF s_).1).rest) post_n3)), (c_s_, .cells 54 [.agg (arrC 25 (D.k .u64) (((clF s_).2).state) ++ ([.own c4 1 pre5.length (((clF s_).2).rest).length, D.i (((clF s_).2).taken)] ++ (arrC 25 (D.k .u64) (((clF s_).2).seen) ++ ([D.s (((clF s_).2).tail), D.s (((clF s_).2).sum)]))))]), (c4, .cells 1 (winL (D.k .u8) pre5 (((clF s_).2).rest) post6))]
  refine wpA_seq ?_
  refine wpA_region ?_
  refine wpL_op rfl rfl rfl (OpA.lss rfl rfl rfl ?_)
  refine wpL_nil ?_
  refine wpA_seq ?_
  refine wpA_cond rfl (fun b10 => ?_) (fun b10 => ?_)
  have h := h.1 (decT b10)
  refine wpA_skip ?_
  refine wpA_seq ?_
  refine wpA_block ?_
  refine wpA_seq ?_
  refine wpA_region ?_
  refine wpL_op rfl rfl rfl (OpA.mv rfl (by with_reducible conv => lhs; whnf) ?_)
  refine wpL_op rfl rfl rfl (OpA.asn rfl (by with_reducible conv => lhs; whnf) ?_)
  refine wpL_nil ?_
  obtain ⟨q1, q2, q3, q4, q5, q6, h⟩ := h
  refine wpA_region ?_
  refine wpL_op rfl rfl rfl (OpA.mv rfl (by with_reducible conv => lhs; whnf) ?_)
  refine wpL_op rfl rfl rfl (OpA.mv rfl (by with_reducible conv => lhs; whnf) ?_)
  refine wpL_op rfl rfl rfl (OpA.mv rfl (by with_reducible conv => lhs; whnf) ?_)
  refine wpL_op rfl rfl rfl (OpA.mv rfl (by with_reducible conv => lhs; whnf) ?_)
  refine wpL_op rfl rfl rfl (OpA.quoN rfl rfl rfl q1 ?_)
  refine wpL_op rfl rfl rfl (OpA.nc rfl (by with_reducible conv => lhs; whnf) (.inl ⟨_, _, _, _, rfl⟩) ?_)
  refine wpL_op rfl rfl rfl (OpA.fieldAddr rfl tf52_0 rfl ?_)
  refine wpL_op rfl rfl rfl (OpA.aixV rfl td26 ti25 rfl rfl q2 ?_)
  refine wpL_op rfl rfl rfl (OpA.load rfl ti25 rfl (.tail (.tail .head)) rfl (arrAt (A := ([] : List D)) rfl q2) ?_)
  refine wpL_op rfl rfl rfl (OpA.mv rfl (by with_reducible conv => lhs; whnf) ?_)
  refine wpL_op rfl rfl rfl (OpA.remN rfl rfl rfl q3 ?_)
  refine wpL_op rfl rfl rfl (OpA.muli rfl rfl rfl q4 ?_)
  refine wpL_op rfl rfl rfl (OpA.shr rfl rfl rfl q5 ?_)
  refine wpL_op rfl rfl rfl (OpA.conv rfl td25 td5 rfl ?_)
  refine wpL_op rfl rfl rfl (OpA.ixV rfl ts42 rfl rfl q6 ?_)
  refine wpL_eff rfl rfl (OpA.storeV (enc := (D.k .u8)) (v := (IntKind.u8.wrap (gshr .u64 (gi ((absF ((clF s_).1) (si (si (gcopy (List.replicate (Int.toNat 136) 0) (((clF s_).1).rest)) ((((clF s_).1).rest).length : Int) 6) 135 (gxor .u8 (gi (si (gcopy (List.replicate (Int.toNat 136) 0) (((clF s_).1).rest)) ((((clF s_).1).rest).length : Int) 6) 135) 128))).state) (x / 8)) (8 * (x % 8))))) rfl ti5 rfl rfl (.of rfl) rfl q6 .head ?_)
  refine wpL_nil ?_
  obtain ⟨q1, h⟩ := h
  refine wpA_region ?_
  refine wpL_op rfl rfl rfl (OpA.addi rfl rfl rfl q1 ?_)
  refine wpL_op rfl rfl rfl (OpA.mv rfl (by with_reducible conv => lhs; whnf) ?_)
  refine wpL_nil ?_
  exact ⟨(c63, pre63, post63), ((si out x (IntKind.u8.wrap (gshr .u64 (gi ((absF ((clF s_).1) (si (si (gcopy (List.replicate (Int.toNat 136) 0) (((clF s_).1).rest)) ((((clF s_).1).rest).length : Int) 6) 135 (gxor .u8 (gi (si (gcopy (List.replicate (Int.toNat 136) 0) (((clF s_).1).rest)) ((((clF s_).1).rest).length : Int) 6) 135) 128))).state) (x / 8)) (8 * (x % 8))))), (x + 1)), h, (Cov.asg ⟨rfl, rfl, rfl, (congrArg (D.own c63 1 pre63.length) (by simp only [si_length, gcopy_length])), rfl, rfl, trivial⟩), (.refl _)⟩
  have h := h.2 (decF b10)
  refine wpA_exit ?_
  refine wpA_seq ?_
  refine wpA_drawF [1, 2] (m := 16) mo (by kernel_rfl) (fun _ _ _ hx => hx) rfl ?_
  iterate 4 refine DetK.op rfl (OpA.mv rfl (by with_reducible conv => lhs; whnf) ⟨rfl, rfl⟩) ?_
  refine DetK.op rfl (OpA.nc rfl (by with_reducible conv => lhs; whnf) (.inl ⟨_, _, _, _, rfl⟩) ⟨rfl, rfl⟩) ?_
  refine DetK.op rfl (OpA.fieldAddr rfl tf52_0 rfl ⟨rfl, rfl⟩) ?_
  refine DetK.op rfl (OpA.load_agg rfl ti26 rfl (.tail (.tail (.tail (.tail .head)))) rfl rfl rfl ⟨rfl, rfl⟩) ?_
  refine DetK.op rfl (OpA.mv rfl (by with_reducible conv => lhs; whnf) ⟨rfl, rfl⟩) ?_
  refine DetK.op rfl (OpA.nc rfl (by with_reducible conv => lhs; whnf) (.inl ⟨_, _, _, _, rfl⟩) ⟨rfl, rfl⟩) ?_
  refine DetK.op rfl (OpA.fieldAddr rfl tf52_1 rfl ⟨rfl, rfl⟩) ?_
  refine DetK.op rfl (OpA.load rfl ti42 rfl (.tail (.tail (.tail (.tail .head)))) rfl rfl ⟨rfl, rfl⟩) ?_
  refine DetK.op rfl (OpA.bytesStr rfl ts42.desc td5 td9 (.own (.tail (.tail (.tail (.tail (.tail .head)))))) ⟨rfl, rfl⟩) ?_
  refine DetK.op rfl (OpA.mv rfl (by with_reducible conv => lhs; whnf) ⟨rfl, rfl⟩) ?_
  refine DetK.op rfl (OpA.bytesStr rfl ts42.desc td5 td9 (.own .head) ⟨rfl, rfl⟩) ?_
  refine DetK.op rfl (OpA.nc rfl (by with_reducible conv => lhs; whnf) (.inl ⟨_, _, _, _, rfl⟩) ⟨rfl, rfl⟩) ?_
  refine DetK.op rfl (OpA.fieldAddr rfl tf52_3 rfl ⟨rfl, rfl⟩) ?_
  refine DetK.nil ?_
  refine wpL_eff rfl rfl (OpA.store (e := .agg (arrC 25 (D.k .u64) (((clF s_).2).state) ++ ([.own c4 1 pre5.length (((clF s_).2).rest).length, D.i (((clF s_).2).taken)] ++ (arrC 25 (D.k .u64) (((clF s_).2).seen) ++ ([D.s (((clF s_).2).tail), D.s (((clF s_).2).sum)]))))) (e' := .agg (arrC 25 (D.k .u64) (((clF s_).2).state) ++ ([.own c4 1 pre5.length (((clF s_).2).rest).length, D.i (((clF s_).2).taken)] ++ (arrC 25 (D.k .u64) (((clF s_).2).state) ++ ([D.s (((clF s_).2).tail), D.s (((clF s_).2).sum)]))))) rfl ti26 rfl (.of rfl) rfl (Nat.le_of_ble_eq_true rfl) (arrPut2 (A1 := (arrC 25 (D.k .u64) (((clF s_).2).state))) (A2 := ([.own c4 1 pre5.length (((clF s_).2).rest).length, D.i (((clF s_).2).taken)] : List D)) rfl) (.tail (.tail (.tail (.tail .head)))) ?_)
  refine wpL_op rfl rfl rfl (OpA.nc rfl (by with_reducible conv => lhs; whnf) (.inl ⟨_, _, _, _, rfl⟩) ?_)
  refine wpL_op rfl rfl rfl (OpA.fieldAddr rfl tf52_4 rfl ?_)
  refine wpL_eff rfl rfl (OpA.store (e' := .agg (arrC 25 (D.k .u64) (((clF s_).2).state) ++ ([.own c4 1 pre5.length (((clF s_).2).rest).length, D.i (((clF s_).2).taken)] ++ (arrC 25 (D.k .u64) (((clF s_).2).state) ++ ([D.s (bstr (((clF s_).2).rest)), D.s (((clF s_).2).sum)]))))) rfl ti9 rfl (.of rfl) rfl (Nat.le_of_ble_eq_true rfl) rfl (.tail (.tail (.tail (.tail .head)))) ?_)
  refine wpL_op rfl rfl rfl (OpA.nc rfl (by with_reducible conv => lhs; whnf) (.inl ⟨_, _, _, _, rfl⟩) ?_)
  refine wpL_op rfl rfl rfl (OpA.fieldAddr rfl tf52_5 rfl ?_)
  refine wpL_eff rfl rfl (OpA.store (e' := .agg (arrC 25 (D.k .u64) (((clF s_).2).state) ++ ([.own c4 1 pre5.length (((clF s_).2).rest).length, D.i (((clF s_).2).taken)] ++ (arrC 25 (D.k .u64) (((clF s_).2).state) ++ ([D.s (bstr (((clF s_).2).rest)), D.s (bstr out)]))))) rfl ti9 rfl (.of rfl) rfl (Nat.le_of_ble_eq_true rfl) rfl (.tail (.tail (.tail (.tail .head)))) ?_)
  refine wpL_nil ?_
  refine wpA_seq ?_
  refine wpA_region ?_
  refine wpL_op rfl rfl rfl (OpA.mv rfl (by with_reducible conv => lhs; whnf) ?_)
  refine wpL_op rfl rfl rfl (OpA.nc rfl (by with_reducible conv => lhs; whnf) (.inl ⟨_, _, _, _, rfl⟩) ?_)
  refine wpL_op rfl rfl rfl (OpA.fieldAddr rfl tf52_5 rfl ?_)
  refine wpL_op rfl rfl rfl (OpA.load rfl ti9 rfl (.tail (.tail (.tail (.tail .head)))) rfl rfl ?_)
  refine wpL_op rfl rfl rfl (OpA.asn rfl (by with_reducible conv => lhs; whnf) ?_)
  refine wpL_nil ?_
  refine wpA_ret ?_
  exact ⟨_, (.tmp (d := D.s (bstr out)) rfl .nil), [(c_s_, .cells 54 [.agg (arrC 25 (D.k .u64) (((clF s_).2).state) ++ ([.own c4 1 pre5.length (((clF s_).2).rest).length, D.i (((clF s_).2).taken)] ++ (arrC 25 (D.k .u64) (((clF s_).2).state) ++ ([D.s (bstr (((clF s_).2).rest)), D.s (bstr out)]))))]), (c4, .cells 1 (winL (D.k .u8) pre5 (((clF s_).2).rest) post6)), (c63, .cells 1 (winL (D.k .u8) pre63 out post63)), (c7, .cells 1 (winL (D.k .u8) ([] : List D) (si (si (gcopy (List.replicate (Int.toNat 136) 0) (((clF s_).1).rest)) ((((clF s_).1).rest).length : Int) 6) 135 (gxor .u8 (gi (si (gcopy (List.replicate (Int.toNat 136) 0) (((clF s_).1).rest)) ((((clF s_).1).rest).length : Int) 6) 135) 128)) ([] : List D))), (c2, .cells 54 [.agg (arrC 25 (D.k .u64) ((absF ((clF s_).1) (si (si (gcopy (List.replicate (Int.toNat 136) 0) (((clF s_).1).rest)) ((((clF s_).1).rest).length : Int) 6) 135 (gxor .u8 (gi (si (gcopy (List.replicate (Int.toNat 136) 0) (((clF s_).1).rest)) ((((clF s_).1).rest).length : Int) 6) 135) 128))).state) ++ ([.own c_n3 1 pre_n3.length (((clF s_).1).rest).length, D.i ((absF ((clF s_).1) (si (si (gcopy (List.replicate (Int.toNat 136) 0) (((clF s_).1).rest)) ((((clF s_).1).rest).length : Int) 6) 135 (gxor .u8 (gi (si (gcopy (List.replicate (Int.toNat 136) 0) (((clF s_).1).rest)) ((((clF s_).1).rest).length : Int) 6) 135) 128))).taken)] ++ (arrC 25 (D.k .u64) ((absF ((clF s_).1) (si (si (gcopy (List.replicate (Int.toNat 136) 0) (((clF s_).1).rest)) ((((clF s_).1).rest).length : Int) 6) 135 (gxor .u8 (gi (si (gcopy (List.replicate (Int.toNat 136) 0) (((clF s_).1).rest)) ((((clF s_).1).rest).length : Int) 6) 135) 128))).seen) ++ ([D.s ((absF ((clF s_).1) (si (si (gcopy (List.replicate (Int.toNat 136) 0) (((clF s_).1).rest)) ((((clF s_).1).rest).length : Int) 6) 135 (gxor .u8 (gi (si (gcopy (List.replicate (Int.toNat 136) 0) (((clF s_).1).rest)) ((((clF s_).1).rest).length : Int) 6) 135) 128))).tail), D.s ((absF ((clF s_).1) (si (si (gcopy (List.replicate (Int.toNat 136) 0) (((clF s_).1).rest)) ((((clF s_).1).rest).length : Int) 6) 135 (gxor .u8 (gi (si (gcopy (List.replicate (Int.toNat 136) 0) (((clF s_).1).rest)) ((((clF s_).1).rest).length : Int) 6) 135) 128))).sum)]))))]), (c_n3, .cells 1 (winL (D.k .u8) pre_n3 (((clF s_).1).rest) post_n3))], [(c_s_, .cells 54 [.agg (arrC 25 (D.k .u64) (((clF s_).2).state) ++ ([.own c4 1 pre5.length (((clF s_).2).rest).length, D.i (((clF s_).2).taken)] ++ (arrC 25 (D.k .u64) (((clF s_).2).state) ++ ([D.s (bstr (((clF s_).2).rest)), D.s (bstr out)]))))]), (c4, .cells 1 (winL (D.k .u8) pre5 (((clF s_).2).rest) post6))], (pull4.trans (.cons _ pull4)), (.cons₂ _ (.cons₂ _ (.cons _ (.cons _ (.cons _ (.cons _ (.refl _))))))), ((bstr out), (DigestSponge.mk (((clF s_).2).state) (((clF s_).2).rest) (((clF s_).2).taken) (((clF s_).2).state) (bstr (((clF s_).2).rest)) (bstr out))), (c4, pre5, post6), rfl, rfl, h⟩
theorem ss_c (s_ : DigestSponge) (c_s_ : Nat) (c_s_1 : Nat) (pre_s_ : List D) (post_s_ : List D)  (hp0 : s_.state.length = 25) (hp1 : s_.rest.length ≤ 135) : CallH Try.prog 17 [.ptr c_s_ 54 0 0] [(c_s_, .cells 54 [.agg (arrC 25 (D.k .u64) s_.state ++ ([.own c_s_1 1 pre_s_.length s_.rest.length, D.i s_.taken] ++ (arrC 25 (D.k .u64) s_.seen ++ ([D.s s_.tail, D.s s_.sum]))))]), (c_s_1, .cells 1 (winL (D.k .u8) pre_s_ s_.rest post_s_))] (fun d h' => ∃ (g : Nat × List D × List D), d = D.s ((ssF s_).1) ∧ h' = [(c_s_, .cells 54 [.agg (arrC 25 (D.k .u64) (((ssF s_).2).state) ++ ([.own g.1 1 g.2.1.length (((ssF s_).2).rest).length, D.i (((ssF s_).2).taken)] ++ (arrC 25 (D.k .u64) (((ssF s_).2).seen) ++ ([D.s (((ssF s_).2).tail), D.s (((ssF s_).2).sum)]))))]), (g.1, .cells 1 (winL (D.k .u8) g.2.1 (((ssF s_).2).rest) g.2.2))]) :=
  (ss_w s_ c_s_ c_s_1 pre_s_ post_s_  (fun r => r = ssF s_) (ss_ok s_ _ hp0 hp1 rfl)).mono (by rintro d h' ⟨r, g, hd, hh, rfl⟩; exact ⟨g, hd, hh⟩)

set_option maxHeartbeats 2000000 in
set_option maxRecDepth 10000 in
theorem sum_w (data : ByteArray)  (Q : ByteArray → Prop) (h : sum_vc data Q) : Fun false Try.prog 11 [D.s data] (fun d => ∃ r, d = D.s r ∧ Q r) := by
  unfold sum_vc at h
  refine Fun.of_body Try.func11 rfl Try.ntmps11 rfl ?_
  refine wpA_seq ?_
  refine wpA_region ?_
  refine wpL_op rfl rfl rfl (OpA.asn rfl (by with_reducible conv => lhs; whnf) ?_)
  refine wpL_nil ?_
  refine wpA_seq ?_
  refine wpA_region ?_
  refine wpL_op rfl rfl rfl (OpA.callH rfl rfl rfl en15 (h1 := []) (h2 := []) (.refl _) (new_c ) ?_)
  rintro _ _ ⟨⟨c1, c_n2, pre_n2, post_n2⟩, rfl, rfl⟩
  refine wpL_op rfl rfl rfl (OpA.asn rfl (by with_reducible conv => lhs; whnf) ?_)
  refine wpL_nil ?_
  refine wpA_seq ?_
  obtain ⟨q1, q2, q3, q4, q5, q6, h⟩ := h
  refine wpA_region ?_
  refine wpL_op rfl rfl rfl (OpA.mv rfl (by with_reducible conv => lhs; whnf) ?_)
  refine wpL_op rfl rfl rfl (OpA.mv rfl (by with_reducible conv => lhs; whnf) ?_)
  refine wpL_op rfl rfl rfl (OpA.ibuildSliceO rfl ts33 rfl (.cons (.of (sz := 1) rfl) .nil) (by decide) ?_)
  refine wpL_op rfl rfl rfl (OpA.callH rfl rfl rfl en16 (h1 := [(c1, .cells 54 [.agg (arrC 25 (D.k .u64) newF.state ++ ([.own c_n2 1 pre_n2.length newF.rest.length, D.i newF.taken] ++ (arrC 25 (D.k .u64) newF.seen ++ ([D.s newF.tail, D.s newF.sum]))))]), (c_n2, .cells 1 (winL (D.k .u8) pre_n2 newF.rest post_n2))]) (h2 := []) (.refl _) (wr_c newF c1 c_n2 pre_n2 post_n2 ([data] : List ByteArray) q1 q2 q3 q4 q5 q6) ?_)
  rintro _ _ ⟨⟨c3, pre4, post5⟩, rfl, rfl⟩
  refine wpL_nil ?_
  refine wpA_seq ?_
  obtain ⟨q1, q2, h⟩ := h
  refine wpA_region ?_
  refine wpL_op rfl rfl rfl (OpA.mv rfl (by with_reducible conv => lhs; whnf) ?_)
  refine wpL_op rfl rfl rfl (OpA.callH rfl rfl rfl en17 (h1 := [(c1, .cells 54 [.agg (arrC 25 (D.k .u64) (((wrF newF ([data] : List ByteArray)).2).state) ++ ([.own c3 1 pre4.length (((wrF newF ([data] : List ByteArray)).2).rest).length, D.i (((wrF newF ([data] : List ByteArray)).2).taken)] ++ (arrC 25 (D.k .u64) (((wrF newF ([data] : List ByteArray)).2).seen) ++ ([D.s (((wrF newF ([data] : List ByteArray)).2).tail), D.s (((wrF newF ([data] : List ByteArray)).2).sum)]))))]), (c3, .cells 1 (winL (D.k .u8) pre4 (((wrF newF ([data] : List ByteArray)).2).rest) post5))]) (h2 := []) (.refl _) (ss_c ((wrF newF ([data] : List ByteArray)).2) c1 c3 pre4 post5 q1 q2) ?_)
  rintro _ _ ⟨⟨c6, pre7, post8⟩, rfl, rfl⟩
  refine wpL_op rfl rfl rfl (OpA.asn rfl (by with_reducible conv => lhs; whnf) ?_)
  refine wpL_nil ?_
  refine wpA_ret ?_
  exact ⟨_, (.tmp (d := D.s ((ssF ((wrF newF ([data] : List ByteArray)).2)).1)) rfl .nil), _, (.same rfl .nil), ⟨((ssF ((wrF newF ([data] : List ByteArray)).2)).1), rfl, h⟩⟩
theorem sum_c (data : ByteArray)  (hp0 : data.size ≤ 1000000) : Fun false Try.prog 11 [D.s data] (fun d => d = D.s (sumF data)) :=
  Fun.at (enc := fun r => D.s r) (v := sumF data) (sum_w data  (fun r => r = sumF data) (sum_ok data _ hp0 rfl))

set_option maxHeartbeats 2000000 in
set_option maxRecDepth 10000 in
theorem awake_w   (Q : Bool → Prop) (h : awake_vc  Q) : Fun false Try.prog 10 [] (fun d => ∃ r, d = D.b r ∧ Q r) := by
  unfold awake_vc at h
  refine Fun.of_body Try.func10 rfl Try.ntmps10 rfl ?_
  refine wpA_seq ?_
  refine wpA_region ?_
  refine wpL_op rfl rfl rfl (OpA.asn rfl (by with_reducible conv => lhs; whnf) ?_)
  refine wpL_nil ?_
  refine wpA_seq ?_
  obtain ⟨q1, h⟩ := h
  refine wpA_region ?_
  refine wpL_op rfl rfl rfl (OpA.call rfl rfl rfl en11 (sum_c (⟨#[]⟩ : ByteArray) q1) ?_)
  rintro _ rfl
  refine wpL_op rfl rfl rfl (OpA.call rfl rfl rfl en19 (hex_c (sumF (⟨#[]⟩ : ByteArray)) ) ?_)
  rintro _ rfl
  refine wpL_op rfl rfl rfl (OpA.mv rfl (by with_reducible conv => lhs; whnf) ?_)
  refine wpL_op rfl rfl rfl (OpA.extract rfl rfl rfl ?_)
  refine wpL_op rfl rfl rfl (OpA.extract rfl rfl rfl ?_)
  refine wpL_op rfl rfl rfl (OpA.asn rfl (by with_reducible conv => lhs; whnf) ?_)
  refine wpL_op rfl rfl rfl (OpA.asn rfl (by with_reducible conv => lhs; whnf) ?_)
  refine wpL_nil ?_
  refine wpA_seq ?_
  obtain ⟨q1, h⟩ := h
  refine wpA_region ?_
  refine wpL_op rfl rfl rfl (OpA.call rfl rfl rfl en11 (sum_c (⟨#[97, 98, 99]⟩ : ByteArray) q1) ?_)
  rintro _ rfl
  refine wpL_op rfl rfl rfl (OpA.call rfl rfl rfl en19 (hex_c (sumF (⟨#[97, 98, 99]⟩ : ByteArray)) ) ?_)
  rintro _ rfl
  refine wpL_op rfl rfl rfl (OpA.mv rfl (by with_reducible conv => lhs; whnf) ?_)
  refine wpL_op rfl rfl rfl (OpA.extract rfl rfl rfl ?_)
  refine wpL_op rfl rfl rfl (OpA.extract rfl rfl rfl ?_)
  refine wpL_op rfl rfl rfl (OpA.asn rfl (by with_reducible conv => lhs; whnf) ?_)
  refine wpL_op rfl rfl rfl (OpA.asn rfl (by with_reducible conv => lhs; whnf) ?_)
  refine wpL_nil ?_
  refine wpA_seq ?_
  refine wpA_region ?_
  refine wpL_op rfl rfl rfl (OpA.mv rfl (by with_reducible conv => lhs; whnf) ?_)
  refine wpL_op rfl rfl rfl (OpA.call rfl rfl rfl en21 (parse_c ((hexF (sumF (⟨#[97, 98, 99]⟩ : ByteArray))).1) ) ?_)
  rintro _ rfl
  refine wpL_op rfl rfl rfl (OpA.mv rfl (by with_reducible conv => lhs; whnf) ?_)
  refine wpL_op rfl rfl rfl (OpA.extract rfl rfl rfl ?_)
  refine wpL_op rfl rfl rfl (OpA.extract rfl rfl rfl ?_)
  refine wpL_op rfl rfl rfl (OpA.asn rfl (by with_reducible conv => lhs; whnf) ?_)
  refine wpL_op rfl rfl rfl (OpA.asn rfl (by with_reducible conv => lhs; whnf) ?_)
  refine wpL_nil ?_
  refine wpA_seq ?_
  refine wpA_region ?_
  refine wpL_op rfl rfl rfl (OpA.callH rfl rfl rfl en15 (h1 := []) (h2 := []) (.refl _) (new_c ) ?_)
  rintro _ _ ⟨⟨c1, c_n2, pre_n2, post_n2⟩, rfl, rfl⟩
  refine wpL_op rfl rfl rfl (OpA.asn rfl (by with_reducible conv => lhs; whnf) ?_)
  refine wpL_nil ?_
  iterate 2 refine wpA_seq ?_
  refine wpA_mid (asg [(0, D.b false), (1, D.s ((hexF (sumF (⟨#[]⟩ : ByteArray))).1)), (3, D.s ((hexF (sumF (⟨#[97, 98, 99]⟩ : ByteArray))).1)), (5, D.s ((parseF ((hexF (sumF (⟨#[97, 98, 99]⟩ : ByteArray))).1)).1)), (7, .ptr c1 54 0 0), (38, D.b (((((hexF (sumF (⟨#[]⟩ : ByteArray))).2) != 0) || (((hexF (sumF (⟨#[97, 98, 99]⟩ : ByteArray))).2) != 0)) || (((parseF ((hexF (sumF (⟨#[97, 98, 99]⟩ : ByteArray))).1)).2) != 0)))]) [(c1, .cells 54 [.agg (arrC 25 (D.k .u64) newF.state ++ ([.own c_n2 1 pre_n2.length newF.rest.length, D.i newF.taken] ++ (arrC 25 (D.k .u64) newF.seen ++ ([D.s newF.tail, D.s newF.sum]))))]), (c_n2, .cells 1 (winL (D.k .u8) pre_n2 newF.rest post_n2))] ?_ ?_
  refine wpA_region ?_
  refine wpL_op rfl rfl rfl (OpA.mv rfl (by with_reducible conv => lhs; whnf) ?_)
  refine wpL_op rfl rfl rfl (OpA.ptrNil rfl td31 rfl rfl (.inl ⟨rfl, rfl⟩) ?_)
  refine wpL_op rfl rfl rfl (OpA.mv rfl (by with_reducible conv => lhs; whnf) ?_)
  refine wpL_opg rfl rfl rfl rfl rfl rfl (OpA.mv rfl (by with_reducible conv => lhs; whnf) ?_)
  refine wpL_opg rfl rfl rfl rfl rfl rfl (OpA.neq rfl rfl rfl ?_)
  refine wpL_op rfl rfl rfl (OpA.pck rfl rfl (by with_reducible conv => lhs; whnf) ?_)
  refine wpL_op rfl rfl rfl (OpA.mv rfl (by with_reducible conv => lhs; whnf) ?_)
  refine wpL_split (s := 31) rfl (fun b17 => ?_) (fun b17 => ?_)
  iterate 2 refine wpL_skip rfl rfl rfl rfl rfl rfl ?_
  refine wpL_op rfl rfl rfl (OpA.pck rfl rfl (by with_reducible conv => lhs; whnf) ?_)
  refine wpL_op rfl rfl rfl (OpA.mv rfl (by with_reducible conv => lhs; whnf) ?_)
  iterate 2 refine wpL_skip rfl rfl rfl rfl rfl rfl ?_
  refine wpL_op rfl rfl rfl (OpA.pck rfl rfl (by with_reducible conv => lhs; whnf) ?_)
  refine wpL_nil ?_
  exact ⟨(Cov.asg ⟨rfl, rfl, rfl, rfl, rfl, (congrArg D.b (Eq.symm (orS (orS b17)))), trivial⟩), (.refl _)⟩
  refine wpL_opg rfl rfl rfl rfl rfl rfl (OpA.mv rfl (by with_reducible conv => lhs; whnf) ?_)
  refine wpL_opg rfl rfl rfl rfl rfl rfl (OpA.neq rfl rfl rfl ?_)
  refine wpL_op rfl rfl rfl (OpA.pck rfl rfl (by with_reducible conv => lhs; whnf) ?_)
  refine wpL_op rfl rfl rfl (OpA.mv rfl (by with_reducible conv => lhs; whnf) ?_)
  refine wpL_split (s := 35) rfl (fun b18 => ?_) (fun b18 => ?_)
  iterate 2 refine wpL_skip rfl rfl rfl rfl rfl rfl ?_
  refine wpL_op rfl rfl rfl (OpA.pck rfl rfl (by with_reducible conv => lhs; whnf) ?_)
  refine wpL_nil ?_
  exact ⟨(Cov.asg ⟨rfl, rfl, rfl, rfl, rfl, (congrArg D.b (Eq.symm (orS (orN b17 b18)))), trivial⟩), (.refl _)⟩
  refine wpL_opg rfl rfl rfl rfl rfl rfl (OpA.mv rfl (by with_reducible conv => lhs; whnf) ?_)
  refine wpL_opg rfl rfl rfl rfl rfl rfl (OpA.neq rfl rfl rfl ?_)
  refine wpL_op rfl rfl rfl (OpA.pck rfl rfl (by with_reducible conv => lhs; whnf) ?_)
  refine wpL_nil ?_
  exact ⟨(Cov.asg ⟨rfl, rfl, rfl, rfl, rfl, (congrArg D.b (Eq.symm (orN (orN b17 b18) rfl))), trivial⟩), (.refl _)⟩
  show wpA _ _ _ _ (asg [(0, D.b false), (1, D.s ((hexF (sumF (⟨#[]⟩ : ByteArray))).1)), (3, D.s ((hexF (sumF (⟨#[97, 98, 99]⟩ : ByteArray))).1)), (5, D.s ((parseF ((hexF (sumF (⟨#[97, 98, 99]⟩ : ByteArray))).1)).1)), (7, .ptr c1 54 0 0), (38, D.b (((((hexF (sumF (⟨#[]⟩ : ByteArray))).2) != 0) || (((hexF (sumF (⟨#[97, 98, 99]⟩ : ByteArray))).2) != 0)) || (((parseF ((hexF (sumF (⟨#[97, 98, 99]⟩ : ByteArray))).1)).2) != 0)))]) [(c1, .cells 54 [.agg (arrC 25 (D.k .u64) newF.state ++ ([.own c_n2 1 pre_n2.length newF.rest.length, D.i newF.taken] ++ (arrC 25 (D.k .u64) newF.seen ++ ([D.s newF.tail, D.s newF.sum]))))]), (c_n2, .cells 1 (winL (D.k .u8) pre_n2 newF.rest post_n2))]
  refine wpA_cond rfl (fun b3 => ?_) (fun b3 => ?_)
  have h := h.1 ((or0 b3).imp (fun hh => ((or0 hh).imp (fun hh => (bneT hh)) (fun hh => (bneT hh)))) (fun hh => (bneT hh)))
  refine wpA_seq ?_
  refine wpA_region ?_
  refine wpL_op rfl rfl rfl (OpA.asn rfl (by with_reducible conv => lhs; whnf) ?_)
  refine wpL_nil ?_
  refine wpA_ret ?_
  exact ⟨_, (.tmp (d := D.b false) rfl .nil), _, (.same rfl .nil), ⟨false, rfl, h⟩⟩
  have h := h.2 ⟨⟨(bneF (or1 (or1 b3))), (bneF (or2 (or1 b3)))⟩, (bneF (or2 b3))⟩
  refine wpA_skip ?_
  refine wpA_seq ?_
  obtain ⟨q1, q2, q3, q4, q5, q6, h⟩ := h
  refine wpA_region ?_
  refine wpL_op rfl rfl rfl (OpA.mv rfl (by with_reducible conv => lhs; whnf) ?_)
  refine wpL_op rfl rfl rfl (OpA.ibuildSliceO rfl ts33 rfl (.cons (.of (sz := 1) rfl) (.cons (.of (sz := 1) rfl) (.cons (.of (sz := 1) rfl) .nil))) (by decide) ?_)
  refine wpL_op rfl rfl rfl (OpA.callH rfl rfl rfl en16 (h1 := [(c1, .cells 54 [.agg (arrC 25 (D.k .u64) newF.state ++ ([.own c_n2 1 pre_n2.length newF.rest.length, D.i newF.taken] ++ (arrC 25 (D.k .u64) newF.seen ++ ([D.s newF.tail, D.s newF.sum]))))]), (c_n2, .cells 1 (winL (D.k .u8) pre_n2 newF.rest post_n2))]) (h2 := []) (.refl _) (wr_c newF c1 c_n2 pre_n2 post_n2 ([(⟨#[97]⟩ : ByteArray), (⟨#[]⟩ : ByteArray), (⟨#[98, 99]⟩ : ByteArray)] : List ByteArray) q1 q2 q3 q4 q5 q6) ?_)
  rintro _ _ ⟨⟨c4, pre5, post6⟩, rfl, rfl⟩
  refine wpL_op rfl rfl rfl (OpA.asn rfl (by with_reducible conv => lhs; whnf) ?_)
  refine wpL_nil ?_
  refine wpA_seq ?_
  refine wpA_region ?_
  refine wpL_op rfl rfl rfl (OpA.mv rfl (by with_reducible conv => lhs; whnf) ?_)
  refine wpL_op rfl rfl rfl (OpA.seql rfl rfl rfl ?_)
  refine wpL_op rfl rfl rfl (OpA.mv rfl (by with_reducible conv => lhs; whnf) ?_)
  refine wpL_split (s := 44) rfl (fun b10 => ?_) (fun b10 => ?_)
  have h := h.1 (decT b10)
  refine wpL_opg rfl rfl rfl rfl rfl rfl (OpA.mv rfl (by with_reducible conv => lhs; whnf) ?_)
  refine wpL_opg rfl rfl rfl rfl rfl rfl (OpA.seql rfl rfl rfl ?_)
  refine wpL_op rfl rfl rfl (OpA.pck rfl rfl (by with_reducible conv => lhs; whnf) ?_)
  refine wpL_op rfl rfl rfl (OpA.mv rfl (by with_reducible conv => lhs; whnf) ?_)
  refine wpL_split (s := 48) rfl (fun b11 => ?_) (fun b11 => ?_)
  have h := h.1 (decT b11)
  refine wpL_opg rfl rfl rfl rfl rfl rfl (OpA.mv rfl (by with_reducible conv => lhs; whnf) ?_)
  refine wpL_opg rfl rfl rfl rfl rfl rfl (OpA.eql rfl rfl rfl ?_)
  refine wpL_op rfl rfl rfl (OpA.pck rfl rfl (by with_reducible conv => lhs; whnf) ?_)
  refine wpL_op rfl rfl rfl (OpA.mv rfl (by with_reducible conv => lhs; whnf) ?_)
  refine wpL_split (s := 52) rfl (fun b12 => ?_) (fun b12 => ?_)
  have h := h.1 (beqT b12)
  refine wpL_opg rfl rfl rfl rfl rfl rfl (OpA.mv rfl (by with_reducible conv => lhs; whnf) ?_)
  refine wpL_opg rfl rfl rfl rfl rfl rfl (OpA.mv rfl (by with_reducible conv => lhs; whnf) ?_)
  obtain ⟨q1, q2, h⟩ := h
  refine wpL_opg rfl rfl rfl rfl rfl rfl (OpA.callH rfl rfl rfl en17 (h1 := [(c1, .cells 54 [.agg (arrC 25 (D.k .u64) (((wrF newF ([(⟨#[97]⟩ : ByteArray), (⟨#[]⟩ : ByteArray), (⟨#[98, 99]⟩ : ByteArray)] : List ByteArray)).2).state) ++ ([.own c4 1 pre5.length (((wrF newF ([(⟨#[97]⟩ : ByteArray), (⟨#[]⟩ : ByteArray), (⟨#[98, 99]⟩ : ByteArray)] : List ByteArray)).2).rest).length, D.i (((wrF newF ([(⟨#[97]⟩ : ByteArray), (⟨#[]⟩ : ByteArray), (⟨#[98, 99]⟩ : ByteArray)] : List ByteArray)).2).taken)] ++ (arrC 25 (D.k .u64) (((wrF newF ([(⟨#[97]⟩ : ByteArray), (⟨#[]⟩ : ByteArray), (⟨#[98, 99]⟩ : ByteArray)] : List ByteArray)).2).seen) ++ ([D.s (((wrF newF ([(⟨#[97]⟩ : ByteArray), (⟨#[]⟩ : ByteArray), (⟨#[98, 99]⟩ : ByteArray)] : List ByteArray)).2).tail), D.s (((wrF newF ([(⟨#[97]⟩ : ByteArray), (⟨#[]⟩ : ByteArray), (⟨#[98, 99]⟩ : ByteArray)] : List ByteArray)).2).sum)]))))]), (c4, .cells 1 (winL (D.k .u8) pre5 (((wrF newF ([(⟨#[97]⟩ : ByteArray), (⟨#[]⟩ : ByteArray), (⟨#[98, 99]⟩ : ByteArray)] : List ByteArray)).2).rest) post6))]) (h2 := []) (.refl _) (ss_c ((wrF newF ([(⟨#[97]⟩ : ByteArray), (⟨#[]⟩ : ByteArray), (⟨#[98, 99]⟩ : ByteArray)] : List ByteArray)).2) c1 c4 pre5 post6 q1 q2) ?_)
  rintro _ _ ⟨⟨c13, pre14, post15⟩, rfl, rfl⟩
  refine wpL_opg rfl rfl rfl rfl rfl rfl (OpA.seql rfl rfl rfl ?_)
  refine wpL_op rfl rfl rfl (OpA.pck rfl rfl (by with_reducible conv => lhs; whnf) ?_)
  refine wpL_op rfl rfl rfl (OpA.mv rfl (by with_reducible conv => lhs; whnf) ?_)
  refine wpL_split (s := 58) rfl (fun b16 => ?_) (fun b16 => ?_)
  have h := h.1 (decT b16)
  refine wpL_opg rfl rfl rfl rfl rfl rfl (OpA.mv rfl (by with_reducible conv => lhs; whnf) ?_)
  obtain ⟨q1, h⟩ := h
  refine wpL_opg rfl rfl rfl rfl rfl rfl (OpA.call rfl rfl rfl en11 (sum_c (⟨#[97, 98, 99]⟩ : ByteArray) q1) ?_)
  rintro _ rfl
  refine wpL_opg rfl rfl rfl rfl rfl rfl (OpA.seql rfl rfl rfl ?_)
  refine wpL_op rfl rfl rfl (OpA.pck rfl rfl (by with_reducible conv => lhs; whnf) ?_)
  refine wpL_op rfl rfl rfl (OpA.asn rfl (by with_reducible conv => lhs; whnf) ?_)
  refine wpL_nil ?_
  refine wpA_ret ?_
  exact ⟨_, (.tmp (d := D.b (decide ((parseF ((hexF (sumF (⟨#[97, 98, 99]⟩ : ByteArray))).1)).1 = (sumF (⟨#[97, 98, 99]⟩ : ByteArray))))) rfl .nil), _, (.same rfl .nil), ⟨(decide ((parseF ((hexF (sumF (⟨#[97, 98, 99]⟩ : ByteArray))).1)).1 = (sumF (⟨#[97, 98, 99]⟩ : ByteArray)))), rfl, h⟩⟩
  have h := h.2 (decF b16)
  iterate 3 refine wpL_skip rfl rfl rfl rfl rfl rfl ?_
  refine wpL_op rfl rfl rfl (OpA.pck rfl rfl (by with_reducible conv => lhs; whnf) ?_)
  refine wpL_op rfl rfl rfl (OpA.asn rfl (by with_reducible conv => lhs; whnf) ?_)
  refine wpL_nil ?_
  refine wpA_ret ?_
  exact ⟨_, (.tmp (d := D.b false) rfl .nil), _, (.same rfl .nil), ⟨false, rfl, h⟩⟩
  have h := h.2 (beqF b12)
  iterate 4 refine wpL_skip rfl rfl rfl rfl rfl rfl ?_
  refine wpL_op rfl rfl rfl (OpA.pck rfl rfl (by with_reducible conv => lhs; whnf) ?_)
  refine wpL_op rfl rfl rfl (OpA.mv rfl (by with_reducible conv => lhs; whnf) ?_)
  iterate 3 refine wpL_skip rfl rfl rfl rfl rfl rfl ?_
  refine wpL_op rfl rfl rfl (OpA.pck rfl rfl (by with_reducible conv => lhs; whnf) ?_)
  refine wpL_op rfl rfl rfl (OpA.asn rfl (by with_reducible conv => lhs; whnf) ?_)
  refine wpL_nil ?_
  refine wpA_ret ?_
  exact ⟨_, (.tmp (d := D.b false) rfl .nil), _, (.same rfl .nil), ⟨false, rfl, h⟩⟩
  have h := h.2 (decF b11)
  iterate 2 refine wpL_skip rfl rfl rfl rfl rfl rfl ?_
  refine wpL_op rfl rfl rfl (OpA.pck rfl rfl (by with_reducible conv => lhs; whnf) ?_)
  refine wpL_op rfl rfl rfl (OpA.mv rfl (by with_reducible conv => lhs; whnf) ?_)
  iterate 4 refine wpL_skip rfl rfl rfl rfl rfl rfl ?_
  refine wpL_op rfl rfl rfl (OpA.pck rfl rfl (by with_reducible conv => lhs; whnf) ?_)
  refine wpL_op rfl rfl rfl (OpA.mv rfl (by with_reducible conv => lhs; whnf) ?_)
  iterate 3 refine wpL_skip rfl rfl rfl rfl rfl rfl ?_
  refine wpL_op rfl rfl rfl (OpA.pck rfl rfl (by with_reducible conv => lhs; whnf) ?_)
  refine wpL_op rfl rfl rfl (OpA.asn rfl (by with_reducible conv => lhs; whnf) ?_)
  refine wpL_nil ?_
  refine wpA_ret ?_
  exact ⟨_, (.tmp (d := D.b false) rfl .nil), _, (.same rfl .nil), ⟨false, rfl, h⟩⟩
  have h := h.2 (decF b10)
  iterate 2 refine wpL_skip rfl rfl rfl rfl rfl rfl ?_
  refine wpL_op rfl rfl rfl (OpA.pck rfl rfl (by with_reducible conv => lhs; whnf) ?_)
  refine wpL_op rfl rfl rfl (OpA.mv rfl (by with_reducible conv => lhs; whnf) ?_)
  iterate 2 refine wpL_skip rfl rfl rfl rfl rfl rfl ?_
  refine wpL_op rfl rfl rfl (OpA.pck rfl rfl (by with_reducible conv => lhs; whnf) ?_)
  refine wpL_op rfl rfl rfl (OpA.mv rfl (by with_reducible conv => lhs; whnf) ?_)
  iterate 4 refine wpL_skip rfl rfl rfl rfl rfl rfl ?_
  refine wpL_op rfl rfl rfl (OpA.pck rfl rfl (by with_reducible conv => lhs; whnf) ?_)
  refine wpL_op rfl rfl rfl (OpA.mv rfl (by with_reducible conv => lhs; whnf) ?_)
  iterate 3 refine wpL_skip rfl rfl rfl rfl rfl rfl ?_
  refine wpL_op rfl rfl rfl (OpA.pck rfl rfl (by with_reducible conv => lhs; whnf) ?_)
  refine wpL_op rfl rfl rfl (OpA.asn rfl (by with_reducible conv => lhs; whnf) ?_)
  refine wpL_nil ?_
  refine wpA_ret ?_
  exact ⟨_, (.tmp (d := D.b false) rfl .nil), _, (.same rfl .nil), ⟨false, rfl, h⟩⟩
theorem awake_c    : Fun false Try.prog 10 [] (fun d => d = D.b (true)) :=
  Fun.at (enc := fun r => D.b r) (v := true) (awake_w   (fun r => r = true) (awake_ok  _  rfl))
end Go.Proofs.Ytchidogjhgelpaa
