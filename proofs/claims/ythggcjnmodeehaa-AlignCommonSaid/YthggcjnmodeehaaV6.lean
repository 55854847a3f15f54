/-
  walks and contracts
-/
import Derived.Test.YthggcjnmodeehaaV1
import Derived.Test.YthggcjnmodeehaaAc
import Derived.Test.YthggcjnmodeehaaGrow
set_option linter.all false
namespace Go.Proofs.Ythggcjnmodeehaa
open Go Go.Lic



set_option maxHeartbeats 2000000 in
set_option maxRecDepth 10000 in
theorem grow_w (n : Int)  (Q : (List Lexeme) → Prop) (h : grow_vc n Q) : CallH Try.prog 44 [.v (.slice none 0 0), D.i n] [] (fun d h' => ∃ (r : (List Lexeme)) (g : Nat × List D × List D), d = .own g.1 2 g.2.1.length r.length ∧ h' = [(g.1, .cells 2 (winL encLex g.2.1 r g.2.2))] ∧ Q r) := by
  unfold grow_vc at h
  refine CallH.of_bodyP Try.func44 rfl Try.ntmps44 rfl ?_
  refine wpA_seq ?_
  refine wpA_region ?_
  refine wpL_op rfl rfl rfl (OpA.asnG (T := Lexeme) (enc := encLex) (sz := 2) rfl rfl (fun c4_g1 => ?_))
  refine wpL_nil ?_
  iterate 2 refine wpA_seq ?_
  refine wpA_region ?_
  refine wpL_op rfl rfl rfl (OpA.mv rfl (by with_reducible conv => lhs; whnf) ?_)
  refine wpL_op rfl rfl rfl (OpA.lss rfl rfl rfl ?_)
  refine wpL_nil ?_
  refine wpA_cond rfl (fun b2 => ?_) (fun b2 => ?_)
  have h := h.1 (decT b2)
  exact h.elim
  have h := h.2 (decF b2)
  refine wpA_skip ?_
  iterate 2 refine wpA_seq ?_
  obtain ⟨q1, q2, h⟩ := h
  refine wpA_region ?_
  refine wpL_op rfl rfl rfl (OpA.mv rfl (by with_reducible conv => lhs; whnf) ?_)
  refine wpL_op rfl rfl rfl (OpA.mv rfl (by with_reducible conv => lhs; whnf) ?_)
  refine wpL_op rfl rfl rfl (OpA.capNil rfl rfl rfl rfl rfl ts22.desc ?_)
  refine wpL_op rfl rfl rfl (OpA.mv rfl (by with_reducible conv => lhs; whnf) ?_)
  refine wpL_op rfl rfl rfl (OpA.len (n := 0) rfl rfl rfl rfl ts22.desc (.inr (.inr ⟨rfl, rfl⟩)) ?_)
  refine wpL_op rfl rfl rfl (OpA.subi rfl rfl rfl q1 ?_)
  refine wpL_op rfl rfl rfl (OpA.subi rfl rfl rfl q2 ?_)
  refine wpL_op rfl rfl rfl (OpA.asn rfl (by with_reducible conv => lhs; whnf) ?_)
  refine wpL_nil ?_
  refine wpA_seq ?_
  refine wpA_region ?_
  refine wpL_op rfl rfl rfl (OpA.mv rfl (by with_reducible conv => lhs; whnf) ?_)
  refine wpL_op rfl rfl rfl (OpA.gtr rfl rfl rfl ?_)
  refine wpL_nil ?_
  refine wpA_cond rfl (fun b3 => ?_) (fun b3 => ?_)
  have h := h.1 (decT b3)
  obtain ⟨q1, q2, h⟩ := h
  refine wpA_region ?_
  refine wpL_op rfl rfl rfl (OpA.mv rfl (by with_reducible conv => lhs; whnf) ?_)
  refine wpL_op rfl rfl rfl (OpA.mv rfl (by with_reducible conv => lhs; whnf) ?_)
  refine wpL_op rfl rfl rfl (OpA.capNil rfl rfl rfl rfl rfl ts22.desc ?_)
  refine wpL_op rfl rfl rfl (OpA.sliceNil rfl ts22 rfl rfl ?_)
  refine wpL_op rfl rfl rfl (OpA.mv rfl (by with_reducible conv => lhs; whnf) ?_)
  refine wpL_op rfl rfl rfl (OpA.appendZ (enc := encLex) (v0 := (Lexeme.mk ByteArray.empty 0)) rfl rfl rfl rfl ts22 td3 rfl rfl tz40 (fun _ _ => .agg (.cons (.v _) (.cons (.v _) .nil))) (.of rfl) q1 (fun c4 => ?_))
  refine wpL_op rfl rfl rfl (OpA.mv rfl (by with_reducible conv => lhs; whnf) ?_)
  refine wpL_op rfl rfl rfl (OpA.len (n := 0) rfl rfl rfl rfl ts22.desc (.inr (.inr ⟨rfl, rfl⟩)) ?_)
  refine wpL_op rfl rfl rfl (OpA.sliceV (enc := encLex) rfl ts22 rfl (.none _) (.some rfl) q2 .head ?_)
  refine wpL_op rfl rfl rfl (OpA.asn rfl (by with_reducible conv => lhs; whnf) ?_)
  refine wpL_nil ?_
  refine wpA_seq ?_
  refine wpA_region ?_
  refine wpL_op rfl rfl rfl (OpA.mv rfl (by with_reducible conv => lhs; whnf) ?_)
  refine wpL_op rfl rfl rfl (OpA.asn rfl (by with_reducible conv => lhs; whnf) ?_)
  refine wpL_nil ?_
  refine wpA_ret ?_
  exact ⟨_, (.tmp (d := .own c4 2 (([] : List D) ++ ((List.replicate (Int.toNat (n - ((0 : Int) - 0))) (Lexeme.mk ByteArray.empty 0)).take (Int.toNat 0)).map encLex).length (lsub (List.replicate (Int.toNat (n - ((0 : Int) - 0))) (Lexeme.mk ByteArray.empty 0)) 0 0).length) rfl .nil), [(c4, .cells 2 (winL encLex (([] : List D) ++ ((List.replicate (Int.toNat (n - ((0 : Int) - 0))) (Lexeme.mk ByteArray.empty 0)).take (Int.toNat 0)).map encLex) (lsub (List.replicate (Int.toNat (n - ((0 : Int) - 0))) (Lexeme.mk ByteArray.empty 0)) 0 0) (((List.replicate (Int.toNat (n - ((0 : Int) - 0))) (Lexeme.mk ByteArray.empty 0)).drop (Int.toNat 0)).map encLex ++ ([] : List D)))), (c4_g1, .cells 2 (winL encLex ([] : List D) ([] : List Lexeme) ([] : List D)))], [(c4, .cells 2 (winL encLex (([] : List D) ++ ((List.replicate (Int.toNat (n - ((0 : Int) - 0))) (Lexeme.mk ByteArray.empty 0)).take (Int.toNat 0)).map encLex) (lsub (List.replicate (Int.toNat (n - ((0 : Int) - 0))) (Lexeme.mk ByteArray.empty 0)) 0 0) (((List.replicate (Int.toNat (n - ((0 : Int) - 0))) (Lexeme.mk ByteArray.empty 0)).drop (Int.toNat 0)).map encLex ++ ([] : List D))))], (.refl _), (.cons₂ _ (.cons _ (.refl _))), (lsub (List.replicate (Int.toNat (n - ((0 : Int) - 0))) (Lexeme.mk ByteArray.empty 0)) 0 0), (c4, (([] : List D) ++ ((List.replicate (Int.toNat (n - ((0 : Int) - 0))) (Lexeme.mk ByteArray.empty 0)).take (Int.toNat 0)).map encLex), (((List.replicate (Int.toNat (n - ((0 : Int) - 0))) (Lexeme.mk ByteArray.empty 0)).drop (Int.toNat 0)).map encLex ++ ([] : List D))), rfl, rfl, h⟩
  have h := h.2 (decF b3)
  refine wpA_skip ?_
  refine wpA_seq ?_
  refine wpA_region ?_
  refine wpL_op rfl rfl rfl (OpA.mv rfl (by with_reducible conv => lhs; whnf) ?_)
  refine wpL_op rfl rfl rfl (OpA.asnG (T := Lexeme) (enc := encLex) (sz := 2) rfl rfl (fun c4_g5 => ?_))
  refine wpL_nil ?_
  refine wpA_ret ?_
  exact ⟨_, (.tmp (d := .own c4_g5 2 ([] : List D).length ([] : List Lexeme).length) rfl .nil), [(c4_g5, .cells 2 (winL encLex ([] : List D) ([] : List Lexeme) ([] : List D))), (c4_g1, .cells 2 (winL encLex ([] : List D) ([] : List Lexeme) ([] : List D)))], [(c4_g5, .cells 2 (winL encLex ([] : List D) ([] : List Lexeme) ([] : List D)))], (.refl _), (.cons₂ _ (.cons _ (.refl _))), ([] : List Lexeme), (c4_g5, ([] : List D), ([] : List D)), rfl, rfl, h⟩
theorem grow_c (n : Int)  (hp0 : (0 : Int) ≤ n) (hp1 : n ≤ (1000000 : Int)) : CallH Try.prog 44 [.v (.slice none 0 0), D.i n] [] (fun d h' => ∃ (g : Nat × List D × List D), d = .own g.1 2 g.2.1.length (growF n).length ∧ h' = [(g.1, .cells 2 (winL encLex g.2.1 (growF n) g.2.2))]) :=
  (grow_w n  (fun r => r = growF n) (grow_ok n _ hp0 hp1 rfl)).mono (by rintro d h' ⟨r, g, hd, hh, rfl⟩; exact ⟨g, hd, hh⟩)

set_option maxHeartbeats 2000000 in
set_option maxRecDepth 10000 in
theorem concat_w (slices : (List (List Lexeme)))  (Q : (List Lexeme) → Prop) (h : concat_vc slices Q) : Fun false Try.prog 31 [(encL 1 (encL 2 encLex)) slices] (fun d => ∃ r, d = (encL 2 encLex) r ∧ Q r) := by
  unfold concat_vc at h
  refine Fun.of_body Try.func31 rfl Try.ntmps31 rfl ?_
  refine wpA_seq ?_
  refine wpA_region ?_
  refine wpL_op rfl rfl rfl (OpA.asn rfl (by with_reducible conv => lhs; whnf) ?_)
  refine wpL_nil ?_
  refine wpA_seq ?_
  refine wpA_region ?_
  refine wpL_op rfl rfl rfl (OpA.asn rfl (by with_reducible conv => lhs; whnf) ?_)
  refine wpL_nil ?_
  iterate 2 refine wpA_seq ?_
  refine wpA_region ?_
  refine wpL_op rfl rfl rfl (OpA.mv rfl (by with_reducible conv => lhs; whnf) ?_)
  refine wpL_op rfl rfl rfl (OpA.len rfl rfl rfl rfl ts60.desc (.inl ⟨_, _, rfl, (List.length_map _).symm⟩) ?_)
  refine wpL_op rfl rfl rfl (OpA.mv rfl (by with_reducible conv => lhs; whnf) ?_)
  refine wpL_nil ?_
  refine wpA_block ?_
  refine wpA_lfp (S := Int × Int) (G := Unit) () (fun gg ss => asg [(0, (encL 1 (encL 2 encLex)) slices), (2, .v (.slice none 0 0)), (3, D.i ss.1), (9, (encL 1 (encL 2 encLex)) slices), (10, D.i (slices.length : Int)), (11, D.i ss.2)]) (fun gg ss => []) h (Cov.asg ⟨rfl, rfl, rfl, rfl, rfl, rfl, trivial⟩) (.refl _) ?_
  rintro again1 _ ⟨size, x⟩ h
  have h : concat_L1 slices Q again1 size x := h
  unfold concat_L1 at h
  show wpA _ _ _ _ (asg [(0, (encL 1 (encL 2 encLex)) slices), (2, .v (.slice none 0 0)), (3, D.i size), (9, (encL 1 (encL 2 encLex)) slices), (10, D.i (slices.length : Int)), (11, D.i x)]) []
  refine wpA_seq ?_
  refine wpA_region ?_
  refine wpL_op rfl rfl rfl (OpA.lss rfl rfl rfl ?_)
  refine wpL_nil ?_
  refine wpA_seq ?_
  refine wpA_cond rfl (fun b2 => ?_) (fun b2 => ?_)
  have h := h.1 (decT b2)
  refine wpA_skip ?_
  refine wpA_seq ?_
  refine wpA_block ?_
  refine wpA_seq ?_
  obtain ⟨q1, h⟩ := h
  refine wpA_region ?_
  refine wpL_op rfl rfl rfl (OpA.iixV (enc := (encL 2 encLex)) rfl ts60 rfl rfl rfl q1 ?_)
  refine wpL_op rfl rfl rfl (OpA.iload rfl ti22 rfl rfl ?_)
  refine wpL_op rfl rfl rfl (OpA.asn rfl (by with_reducible conv => lhs; whnf) ?_)
  refine wpL_nil ?_
  refine wpA_seq ?_
  obtain ⟨q1, h⟩ := h
  refine wpA_region ?_
  refine wpL_op rfl rfl rfl (OpA.mv rfl (by with_reducible conv => lhs; whnf) ?_)
  refine wpL_op rfl rfl rfl (OpA.mv rfl (by with_reducible conv => lhs; whnf) ?_)
  refine wpL_op rfl rfl rfl (OpA.len rfl rfl rfl rfl ts22.desc (.inl ⟨_, _, rfl, (List.length_map _).symm⟩) ?_)
  refine wpL_op rfl rfl rfl (OpA.addi rfl rfl rfl q1 ?_)
  refine wpL_op rfl rfl rfl (OpA.asn rfl (by with_reducible conv => lhs; whnf) ?_)
  refine wpL_nil ?_
  refine wpA_seq ?_
  refine wpA_region ?_
  refine wpL_op rfl rfl rfl (OpA.mv rfl (by with_reducible conv => lhs; whnf) ?_)
  refine wpL_op rfl rfl rfl (OpA.lss rfl rfl rfl ?_)
  refine wpL_nil ?_
  refine wpA_cond rfl (fun b3 => ?_) (fun b3 => ?_)
  have h := h.1 (decT b3)
  exact h.elim
  have h := h.2 (decF b3)
  refine wpA_skip ?_
  obtain ⟨q1, h⟩ := h
  refine wpA_region ?_
  refine wpL_op rfl rfl rfl (OpA.addi rfl rfl rfl q1 ?_)
  refine wpL_op rfl rfl rfl (OpA.mv rfl (by with_reducible conv => lhs; whnf) ?_)
  refine wpL_nil ?_
  exact ⟨(), ((size + ((gi slices x).length : Int)), (x + 1)), h, (Cov.asg ⟨rfl, rfl, rfl, rfl, rfl, rfl, trivial⟩), (.refl _)⟩
  have h := h.2 (decF b2)
  refine wpA_exit ?_
  refine wpA_seq ?_
  obtain ⟨q1, q2, h⟩ := h
  refine wpA_region ?_
  refine wpL_op rfl rfl rfl (OpA.mv rfl (by with_reducible conv => lhs; whnf) ?_)
  refine wpL_op rfl rfl rfl (OpA.callH rfl rfl rfl en44 (h1 := []) (h2 := []) (.refl _) (grow_c size q1 q2) ?_)
  rintro _ _ ⟨⟨c4, pre5, post6⟩, rfl, rfl⟩
  refine wpL_op rfl rfl rfl (OpA.asn rfl (by with_reducible conv => lhs; whnf) ?_)
  refine wpL_nil ?_
  iterate 2 refine wpA_seq ?_
  refine wpA_region ?_
  refine wpL_op rfl rfl rfl (OpA.mv rfl (by with_reducible conv => lhs; whnf) ?_)
  refine wpL_op rfl rfl rfl (OpA.len rfl rfl rfl rfl ts60.desc (.inl ⟨_, _, rfl, (List.length_map _).symm⟩) ?_)
  refine wpL_op rfl rfl rfl (OpA.mv rfl (by with_reducible conv => lhs; whnf) ?_)
  refine wpL_nil ?_
  refine wpA_block ?_
  refine wpA_lfp (S := (List Lexeme) × Int) (G := Nat × List D × List D) (c4, pre5, post6) (fun gg ss => asg [(2, .v (.slice none 0 0)), (6, .own gg.1 2 gg.2.1.length ss.1.length), (25, (encL 1 (encL 2 encLex)) slices), (26, D.i (slices.length : Int)), (27, D.i ss.2)]) (fun gg ss => [(gg.1, .cells 2 (winL encLex gg.2.1 ss.1 gg.2.2))]) h (Cov.asg ⟨rfl, rfl, rfl, rfl, rfl, trivial⟩) (.refl _) ?_
  rintro again7 ⟨c24, pre24, post24⟩ ⟨newslice, x1⟩ h
  have h : concat_L2 slices Q again7 newslice x1 := h
  unfold concat_L2 at h
  show wpA _ _ _ _ (asg [(2, .v (.slice none 0 0)), (6, .own c24 2 pre24.length newslice.length), (25, (encL 1 (encL 2 encLex)) slices), (26, D.i (slices.length : Int)), (27, D.i x1)]) [(c24, .cells 2 (winL encLex pre24 newslice post24))]
  refine wpA_seq ?_
  refine wpA_region ?_
  refine wpL_op rfl rfl rfl (OpA.lss rfl rfl rfl ?_)
  refine wpL_nil ?_
  refine wpA_seq ?_
  refine wpA_cond rfl (fun b8 => ?_) (fun b8 => ?_)
  have h := h.1 (decT b8)
  refine wpA_skip ?_
  refine wpA_seq ?_
  refine wpA_block ?_
  refine wpA_seq ?_
  obtain ⟨q1, h⟩ := h
  refine wpA_region ?_
  refine wpL_op rfl rfl rfl (OpA.iixV (enc := (encL 2 encLex)) rfl ts60 rfl rfl rfl q1 ?_)
  refine wpL_op rfl rfl rfl (OpA.iload rfl ti22 rfl rfl ?_)
  refine wpL_op rfl rfl rfl (OpA.asn rfl (by with_reducible conv => lhs; whnf) ?_)
  refine wpL_nil ?_
  obtain ⟨q1, h⟩ := h
  refine wpA_region ?_
  refine wpL_op rfl rfl rfl (OpA.mv rfl (by with_reducible conv => lhs; whnf) ?_)
  refine wpL_op rfl rfl rfl (OpA.mv rfl (by with_reducible conv => lhs; whnf) ?_)
  refine wpL_op rfl rfl rfl (OpA.appendW (enc := encLex) rfl rfl rfl rfl ts22 rfl (fun _ _ => .head) (.list (ys := (gi slices x1))) q1 (fun c9 pre10 => ?_))
  refine wpL_op rfl rfl rfl (OpA.asn rfl (by with_reducible conv => lhs; whnf) ?_)
  refine wpL_nil ?_
  obtain ⟨q1, h⟩ := h
  refine wpA_region ?_
  refine wpL_op rfl rfl rfl (OpA.addi rfl rfl rfl q1 ?_)
  refine wpL_op rfl rfl rfl (OpA.mv rfl (by with_reducible conv => lhs; whnf) ?_)
  refine wpL_nil ?_
  exact ⟨(c9, pre10, ([] : List D)), ((newslice ++ (gi slices x1)), (x1 + 1)), h, (Cov.asg ⟨rfl, rfl, rfl, rfl, rfl, trivial⟩), (.refl _)⟩
  have h := h.2 (decF b8)
  refine wpA_exit ?_
  refine wpA_seq ?_
  refine wpA_region ?_
  refine wpL_op rfl rfl rfl (OpA.mv rfl (by with_reducible conv => lhs; whnf) ?_)
  refine wpL_op rfl rfl rfl (OpA.asn rfl (by with_reducible conv => lhs; whnf) ?_)
  refine wpL_nil ?_
  refine wpA_ret ?_
  exact ⟨_, (.tmp (d := .own c24 2 pre24.length newslice.length) rfl .nil), _, (.win .head (by intro hf; cases hf) .nil), ⟨newslice, rfl, h⟩⟩
theorem concat_c (slices : (List (List Lexeme)))  (hp0 : slices.length ≤ 10) (hp1 : (List.flatten slices).length ≤ 1000000) : Fun false Try.prog 31 [(encL 1 (encL 2 encLex)) slices] (fun d => d = (encL 2 encLex) ((List.flatten slices))) :=
  Fun.at (enc := fun r => (encL 2 encLex) r) (v := (List.flatten slices)) (concat_w slices  (fun r => r = (List.flatten slices)) (concat_ok slices _ hp0 hp1 rfl))

set_option maxHeartbeats 2000000 in
set_option maxRecDepth 10000 in
theorem lawCommon_w (a : (List Lexeme)) (b : (List Lexeme)) (front : (List Lexeme)) (back : (List Lexeme)) (c : Costs)  (Q : Bool → Prop) (h : lawCommon_vc a b front back c Q) : Fun false Try.prog 9 [(encL 2 encLex) a, (encL 2 encLex) b, (encL 2 encLex) front, (encL 2 encLex) back, encCosts c] (fun d => ∃ r, d = D.b r ∧ Q r) := by
  unfold lawCommon_vc at h
  refine Fun.of_body Try.func9 rfl Try.ntmps9 rfl ?_
  refine wpA_seq ?_
  refine wpA_region ?_
  refine wpL_op rfl rfl rfl (OpA.bx (sz := 3) rfl (by with_reducible conv => lhs; whnf) (.of rfl) (fun c1 _ => ?_))
  refine wpL_op rfl rfl rfl (OpA.asn rfl (by with_reducible conv => lhs; whnf) ?_)
  refine wpL_nil ?_
  iterate 2 refine wpA_seq ?_
  refine wpA_region ?_
  refine wpL_op rfl rfl rfl (OpA.call rfl rfl rfl en10 (awake_fun  ) ?_)
  rintro _ rfl
  refine wpL_op rfl rfl rfl (OpA.not rfl rfl ?_)
  refine wpL_nil ?_
  refine wpA_cond rfl (fun b2 => ?_) (fun b2 => ?_)
  have h := h.1 (notT b2)
  refine wpA_seq ?_
  refine wpA_region ?_
  refine wpL_op rfl rfl rfl (OpA.asn rfl (by with_reducible conv => lhs; whnf) ?_)
  refine wpL_nil ?_
  refine wpA_ret ?_
  exact ⟨_, (.tmp (d := D.b false) rfl .nil), _, (.same rfl .nil), ⟨false, rfl, h⟩⟩
  have h := h.2 (notF b2)
  refine wpA_skip ?_
  iterate 2 refine wpA_seq ?_
  obtain ⟨q1, h⟩ := h
  refine wpA_mid (asg [(0, (encL 2 encLex) a), (1, (encL 2 encLex) b), (2, (encL 2 encLex) front), (3, (encL 2 encLex) back), (9, .ptr c1 3 0 0), (10, D.b false), (43, D.b (((((decide ((a.length : Int) > 14)) || (decide ((b.length : Int) > 14))) || (decide ((front.length : Int) > 14))) || (decide ((back.length : Int) > 14))) || (!(!(([a, b, front, back] : List (List Lexeme))).any (fun x => !fewF x)))))]) [(c1, .cells 3 [encCosts c])] ?_ ?_
  refine wpA_region ?_
  refine wpL_op rfl rfl rfl (OpA.mv rfl (by with_reducible conv => lhs; whnf) ?_)
  refine wpL_op rfl rfl rfl (OpA.len rfl rfl rfl rfl ts22.desc (.inl ⟨_, _, rfl, (List.length_map _).symm⟩) ?_)
  refine wpL_op rfl rfl rfl (OpA.gtr rfl rfl rfl ?_)
  refine wpL_op rfl rfl rfl (OpA.mv rfl (by with_reducible conv => lhs; whnf) ?_)
  refine wpL_split (s := 20) rfl (fun b5 => ?_) (fun b5 => ?_)
  iterate 3 refine wpL_skip rfl rfl rfl rfl rfl rfl ?_
  refine wpL_op rfl rfl rfl (OpA.pck rfl rfl (by with_reducible conv => lhs; whnf) ?_)
  refine wpL_op rfl rfl rfl (OpA.mv rfl (by with_reducible conv => lhs; whnf) ?_)
  iterate 3 refine wpL_skip rfl rfl rfl rfl rfl rfl ?_
  refine wpL_op rfl rfl rfl (OpA.pck rfl rfl (by with_reducible conv => lhs; whnf) ?_)
  refine wpL_op rfl rfl rfl (OpA.mv rfl (by with_reducible conv => lhs; whnf) ?_)
  iterate 3 refine wpL_skip rfl rfl rfl rfl rfl rfl ?_
  refine wpL_op rfl rfl rfl (OpA.pck rfl rfl (by with_reducible conv => lhs; whnf) ?_)
  refine wpL_op rfl rfl rfl (OpA.mv rfl (by with_reducible conv => lhs; whnf) ?_)
  iterate 7 refine wpL_skip rfl rfl rfl rfl rfl rfl ?_
  refine wpL_op rfl rfl rfl (OpA.pck rfl rfl (by with_reducible conv => lhs; whnf) ?_)
  refine wpL_nil ?_
  exact ⟨(Cov.asg ⟨rfl, rfl, rfl, rfl, rfl, rfl, (congrArg D.b (Eq.symm (orS (orS (orS (orS b5)))))), trivial⟩), (.refl _)⟩
  refine wpL_opg rfl rfl rfl rfl rfl rfl (OpA.mv rfl (by with_reducible conv => lhs; whnf) ?_)
  refine wpL_opg rfl rfl rfl rfl rfl rfl (OpA.len rfl rfl rfl rfl ts22.desc (.inl ⟨_, _, rfl, (List.length_map _).symm⟩) ?_)
  refine wpL_opg rfl rfl rfl rfl rfl rfl (OpA.gtr rfl rfl rfl ?_)
  refine wpL_op rfl rfl rfl (OpA.pck rfl rfl (by with_reducible conv => lhs; whnf) ?_)
  refine wpL_op rfl rfl rfl (OpA.mv rfl (by with_reducible conv => lhs; whnf) ?_)
  refine wpL_split (s := 25) rfl (fun b6 => ?_) (fun b6 => ?_)
  iterate 3 refine wpL_skip rfl rfl rfl rfl rfl rfl ?_
  refine wpL_op rfl rfl rfl (OpA.pck rfl rfl (by with_reducible conv => lhs; whnf) ?_)
  refine wpL_op rfl rfl rfl (OpA.mv rfl (by with_reducible conv => lhs; whnf) ?_)
  iterate 3 refine wpL_skip rfl rfl rfl rfl rfl rfl ?_
  refine wpL_op rfl rfl rfl (OpA.pck rfl rfl (by with_reducible conv => lhs; whnf) ?_)
  refine wpL_op rfl rfl rfl (OpA.mv rfl (by with_reducible conv => lhs; whnf) ?_)
  iterate 7 refine wpL_skip rfl rfl rfl rfl rfl rfl ?_
  refine wpL_op rfl rfl rfl (OpA.pck rfl rfl (by with_reducible conv => lhs; whnf) ?_)
  refine wpL_nil ?_
  exact ⟨(Cov.asg ⟨rfl, rfl, rfl, rfl, rfl, rfl, (congrArg D.b (Eq.symm (orS (orS (orS (orN b5 b6)))))), trivial⟩), (.refl _)⟩
  refine wpL_opg rfl rfl rfl rfl rfl rfl (OpA.mv rfl (by with_reducible conv => lhs; whnf) ?_)
  refine wpL_opg rfl rfl rfl rfl rfl rfl (OpA.len rfl rfl rfl rfl ts22.desc (.inl ⟨_, _, rfl, (List.length_map _).symm⟩) ?_)
  refine wpL_opg rfl rfl rfl rfl rfl rfl (OpA.gtr rfl rfl rfl ?_)
  refine wpL_op rfl rfl rfl (OpA.pck rfl rfl (by with_reducible conv => lhs; whnf) ?_)
  refine wpL_op rfl rfl rfl (OpA.mv rfl (by with_reducible conv => lhs; whnf) ?_)
  refine wpL_split (s := 30) rfl (fun b7 => ?_) (fun b7 => ?_)
  iterate 3 refine wpL_skip rfl rfl rfl rfl rfl rfl ?_
  refine wpL_op rfl rfl rfl (OpA.pck rfl rfl (by with_reducible conv => lhs; whnf) ?_)
  refine wpL_op rfl rfl rfl (OpA.mv rfl (by with_reducible conv => lhs; whnf) ?_)
  iterate 7 refine wpL_skip rfl rfl rfl rfl rfl rfl ?_
  refine wpL_op rfl rfl rfl (OpA.pck rfl rfl (by with_reducible conv => lhs; whnf) ?_)
  refine wpL_nil ?_
  exact ⟨(Cov.asg ⟨rfl, rfl, rfl, rfl, rfl, rfl, (congrArg D.b (Eq.symm (orS (orS (orN (orN b5 b6) b7))))), trivial⟩), (.refl _)⟩
  refine wpL_opg rfl rfl rfl rfl rfl rfl (OpA.mv rfl (by with_reducible conv => lhs; whnf) ?_)
  refine wpL_opg rfl rfl rfl rfl rfl rfl (OpA.len rfl rfl rfl rfl ts22.desc (.inl ⟨_, _, rfl, (List.length_map _).symm⟩) ?_)
  refine wpL_opg rfl rfl rfl rfl rfl rfl (OpA.gtr rfl rfl rfl ?_)
  refine wpL_op rfl rfl rfl (OpA.pck rfl rfl (by with_reducible conv => lhs; whnf) ?_)
  refine wpL_op rfl rfl rfl (OpA.mv rfl (by with_reducible conv => lhs; whnf) ?_)
  refine wpL_split (s := 35) rfl (fun b8 => ?_) (fun b8 => ?_)
  iterate 7 refine wpL_skip rfl rfl rfl rfl rfl rfl ?_
  refine wpL_op rfl rfl rfl (OpA.pck rfl rfl (by with_reducible conv => lhs; whnf) ?_)
  refine wpL_nil ?_
  exact ⟨(Cov.asg ⟨rfl, rfl, rfl, rfl, rfl, rfl, (congrArg D.b (Eq.symm (orS (orN (orN (orN b5 b6) b7) b8)))), trivial⟩), (.refl _)⟩
  refine wpL_opg rfl rfl rfl rfl rfl rfl (OpA.mv rfl (by with_reducible conv => lhs; whnf) ?_)
  refine wpL_opg rfl rfl rfl rfl rfl rfl (OpA.mv rfl (by with_reducible conv => lhs; whnf) ?_)
  refine wpL_opg rfl rfl rfl rfl rfl rfl (OpA.mv rfl (by with_reducible conv => lhs; whnf) ?_)
  refine wpL_opg rfl rfl rfl rfl rfl rfl (OpA.mv rfl (by with_reducible conv => lhs; whnf) ?_)
  refine wpL_opg rfl rfl rfl rfl rfl rfl (OpA.ibuildSliceO rfl ts60 rfl (.cons (.of (sz := 1) rfl) (.cons (.of (sz := 1) rfl) (.cons (.of (sz := 1) rfl) (.cons (.of (sz := 1) rfl) .nil)))) (by decide) ?_)
  refine wpL_opg rfl rfl rfl rfl rfl rfl (OpA.call rfl rfl rfl en11 (few_fun ([a, b, front, back] : List (List Lexeme)) (q1 ⟨⟨⟨(decF b5), (decF b6)⟩, (decF b7)⟩, (decF b8)⟩)) ?_)
  rintro _ rfl
  refine wpL_opg rfl rfl rfl rfl rfl rfl (OpA.not rfl rfl ?_)
  refine wpL_op rfl rfl rfl (OpA.pck rfl rfl (by with_reducible conv => lhs; whnf) ?_)
  refine wpL_nil ?_
  exact ⟨(Cov.asg ⟨rfl, rfl, rfl, rfl, rfl, rfl, (congrArg D.b (Eq.symm (orN (orN (orN (orN b5 b6) b7) b8) rfl))), trivial⟩), (.refl _)⟩
  show wpA _ _ _ _ (asg [(0, (encL 2 encLex) a), (1, (encL 2 encLex) b), (2, (encL 2 encLex) front), (3, (encL 2 encLex) back), (9, .ptr c1 3 0 0), (10, D.b false), (43, D.b (((((decide ((a.length : Int) > 14)) || (decide ((b.length : Int) > 14))) || (decide ((front.length : Int) > 14))) || (decide ((back.length : Int) > 14))) || (!(!(([a, b, front, back] : List (List Lexeme))).any (fun x => !fewF x)))))]) [(c1, .cells 3 [encCosts c])]
  refine wpA_cond rfl (fun b3 => ?_) (fun b3 => ?_)
  have h := h.1 ((or0 b3).imp (fun hh => ((or0 hh).imp (fun hh => ((or0 hh).imp (fun hh => ((or0 hh).imp (fun hh => (decT hh)) (fun hh => (decT hh)))) (fun hh => (decT hh)))) (fun hh => (decT hh)))) (fun hh => (notT hh)))
  refine wpA_seq ?_
  refine wpA_region ?_
  refine wpL_op rfl rfl rfl (OpA.asn rfl (by with_reducible conv => lhs; whnf) ?_)
  refine wpL_nil ?_
  refine wpA_ret ?_
  exact ⟨_, (.tmp (d := D.b true) rfl .nil), _, (.same rfl .nil), ⟨true, rfl, h⟩⟩
  have h := h.2 ⟨⟨⟨⟨(decF (or1 (or1 (or1 (or1 b3))))), (decF (or2 (or1 (or1 (or1 b3)))))⟩, (decF (or2 (or1 (or1 b3))))⟩, (decF (or2 (or1 b3)))⟩, (notF (or2 b3))⟩
  refine wpA_skip ?_
  refine wpA_seq ?_
  refine wpA_region ?_
  refine wpL_op rfl rfl rfl (OpA.mv rfl (by with_reducible conv => lhs; whnf) ?_)
  refine wpL_op rfl rfl rfl (OpA.mv rfl (by with_reducible conv => lhs; whnf) ?_)
  refine wpL_op rfl rfl rfl (OpA.load_whole rfl ti24 rfl rfl .head rfl ⟨_, rfl⟩ ?_)
  refine wpL_op rfl rfl rfl (OpA.call rfl rfl rfl en19 (dist_c a b c ) ?_)
  rintro _ rfl
  refine wpL_op rfl rfl rfl (OpA.mv rfl (by with_reducible conv => lhs; whnf) ?_)
  refine wpL_op rfl rfl rfl (OpA.extract rfl rfl rfl ?_)
  refine wpL_op rfl rfl rfl (OpA.extract rfl rfl rfl ?_)
  refine wpL_op rfl rfl rfl (OpA.asn rfl (by with_reducible conv => lhs; whnf) ?_)
  refine wpL_op rfl rfl rfl (OpA.asn rfl (by with_reducible conv => lhs; whnf) ?_)
  refine wpL_nil ?_
  refine wpA_seq ?_
  obtain ⟨q1, q2, q3, q4, h⟩ := h
  refine wpA_draw (m := 17) mo (by kernel_rfl) rfl ?_
  iterate 3 refine DetK.op rfl (OpA.mv rfl (by with_reducible conv => lhs; whnf) ⟨rfl, rfl⟩) ?_
  refine DetK.op rfl (OpA.ibuildSliceO rfl ts60 rfl (.cons (.of (sz := 1) rfl) (.cons (.of (sz := 1) rfl) (.cons (.of (sz := 1) rfl) .nil))) (by decide) ⟨rfl, rfl⟩) ?_
  refine DetK.op rfl (OpA.call rfl rfl rfl en31 (concat_c ([front, a, back] : List (List Lexeme)) q1 q2) (by rintro _ rfl; exact ⟨rfl, rfl⟩)) ?_
  iterate 3 refine DetK.op rfl (OpA.mv rfl (by with_reducible conv => lhs; whnf) ⟨rfl, rfl⟩) ?_
  refine DetK.op rfl (OpA.ibuildSliceO rfl ts60 rfl (.cons (.of (sz := 1) rfl) (.cons (.of (sz := 1) rfl) (.cons (.of (sz := 1) rfl) .nil))) (by decide) ⟨rfl, rfl⟩) ?_
  refine DetK.op rfl (OpA.call rfl rfl rfl en31 (concat_c ([front, b, back] : List (List Lexeme)) q3 q4) (by rintro _ rfl; exact ⟨rfl, rfl⟩)) ?_
  refine DetK.op rfl (OpA.load_whole rfl ti24 rfl rfl .head rfl ⟨_, rfl⟩ ⟨rfl, rfl⟩) ?_
  refine DetK.op rfl (OpA.call rfl rfl rfl en19 (dist_c (List.flatten ([front, a, back] : List (List Lexeme))) (List.flatten ([front, b, back] : List (List Lexeme))) c ) (by rintro _ rfl; exact ⟨rfl, rfl⟩)) ?_
  refine DetK.op rfl (OpA.mv rfl (by with_reducible conv => lhs; whnf) ⟨rfl, rfl⟩) ?_
  iterate 2 refine DetK.op rfl (OpA.extract rfl rfl rfl ⟨rfl, rfl⟩) ?_
  iterate 2 refine DetK.op rfl (OpA.asn rfl (by with_reducible conv => lhs; whnf) ⟨rfl, rfl⟩) ?_
  refine DetK.nil ?_
  refine wpL_nil ?_
  refine wpA_seq ?_
  refine wpA_mid (asg [(10, D.b ((((distF a b c).2) == ((distF (List.flatten ([front, a, back] : List (List Lexeme))) (List.flatten ([front, b, back] : List (List Lexeme))) c).2)) && (((distF a b c).1) == ((distF (List.flatten ([front, a, back] : List (List Lexeme))) (List.flatten ([front, b, back] : List (List Lexeme))) c).1))))]) [(c1, .cells 3 [encCosts c])] ?_ ?_
  refine wpA_region ?_
  refine wpL_op rfl rfl rfl (OpA.mv rfl (by with_reducible conv => lhs; whnf) ?_)
  refine wpL_op rfl rfl rfl (OpA.mv rfl (by with_reducible conv => lhs; whnf) ?_)
  refine wpL_op rfl rfl rfl (OpA.eql rfl rfl rfl ?_)
  refine wpL_op rfl rfl rfl (OpA.mv rfl (by with_reducible conv => lhs; whnf) ?_)
  refine wpL_split (s := 69) rfl (fun b4 => ?_) (fun b4 => ?_)
  refine wpL_opg rfl rfl rfl rfl rfl rfl (OpA.mv rfl (by with_reducible conv => lhs; whnf) ?_)
  refine wpL_opg rfl rfl rfl rfl rfl rfl (OpA.mv rfl (by with_reducible conv => lhs; whnf) ?_)
  refine wpL_opg rfl rfl rfl rfl rfl rfl (OpA.eql rfl rfl rfl ?_)
  refine wpL_op rfl rfl rfl (OpA.pck rfl rfl (by with_reducible conv => lhs; whnf) ?_)
  refine wpL_op rfl rfl rfl (OpA.asn rfl (by with_reducible conv => lhs; whnf) ?_)
  refine wpL_nil ?_
  exact ⟨(Cov.asg ⟨(congrArg D.b (Eq.symm (andN b4 rfl))), trivial⟩), (.refl _)⟩
  iterate 3 refine wpL_skip rfl rfl rfl rfl rfl rfl ?_
  refine wpL_op rfl rfl rfl (OpA.pck rfl rfl (by with_reducible conv => lhs; whnf) ?_)
  refine wpL_op rfl rfl rfl (OpA.asn rfl (by with_reducible conv => lhs; whnf) ?_)
  refine wpL_nil ?_
  exact ⟨(Cov.asg ⟨(congrArg D.b (Eq.symm (andS b4))), trivial⟩), (.refl _)⟩
  show wpA _ _ _ _ (asg [(10, D.b ((((distF a b c).2) == ((distF (List.flatten ([front, a, back] : List (List Lexeme))) (List.flatten ([front, b, back] : List (List Lexeme))) c).2)) && (((distF a b c).1) == ((distF (List.flatten ([front, a, back] : List (List Lexeme))) (List.flatten ([front, b, back] : List (List Lexeme))) c).1))))]) [(c1, .cells 3 [encCosts c])]
  refine wpA_ret ?_
  exact ⟨_, (.tmp (d := D.b ((((distF a b c).2) == ((distF (List.flatten ([front, a, back] : List (List Lexeme))) (List.flatten ([front, b, back] : List (List Lexeme))) c).2)) && (((distF a b c).1) == ((distF (List.flatten ([front, a, back] : List (List Lexeme))) (List.flatten ([front, b, back] : List (List Lexeme))) c).1)))) rfl .nil), _, (.same rfl .nil), ⟨((((distF a b c).2) == ((distF (List.flatten ([front, a, back] : List (List Lexeme))) (List.flatten ([front, b, back] : List (List Lexeme))) c).2)) && (((distF a b c).1) == ((distF (List.flatten ([front, a, back] : List (List Lexeme))) (List.flatten ([front, b, back] : List (List Lexeme))) c).1))), rfl, h⟩⟩
theorem lawCommon_c (a : (List Lexeme)) (b : (List Lexeme)) (front : (List Lexeme)) (back : (List Lexeme)) (c : Costs)   : Fun false Try.prog 9 [(encL 2 encLex) a, (encL 2 encLex) b, (encL 2 encLex) front, (encL 2 encLex) back, encCosts c] (fun d => d = D.b (true)) :=
  Fun.at (enc := fun r => D.b r) (v := true) (lawCommon_w a b front back c  (fun r => r = true) (lawCommon_ok a b front back c _  rfl))
end Go.Proofs.Ythggcjnmodeehaa
