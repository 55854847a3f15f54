/-
  walks and contracts
-/
import Derived.Test.YtciihmjdccecgaaDoorV1
set_option linter.all false
namespace Go.Proofs.YtciihmjdccecgaaDoor
open Go Go.Lic Go.Sort Go.Proofs
attribute [local irreducible] badR behindF cmpB cmpI countF countL fewF growF has1F hasF hasPrefF indexF insideF itoaF lenF meetF mergeF minusF ofF orF partF pathF printF spanCmp splitF splitG underF unionF validF



set_option maxHeartbeats 2000000 in
set_option maxRecDepth 10000 in
theorem inside_w (s_ : Span)  (Q : Bool → Prop) (h : inside_vc s_ Q) : Fun false Tryd.prog 20 [encSpan s_] (fun d => ∃ r, d = D.b r ∧ Q r) := by
  unfold inside_vc at h
  refine Fun.of_body Tryd.func20 rfl Tryd.ntmps20 rfl ?_
  refine wpA_seq ?_
  refine wpA_region ?_
  refine wpL_op rfl rfl rfl (OpA.bx (sz := 3) rfl (by with_reducible conv => lhs; whnf) (.of rfl) (fun c1 _ => ?_))
  refine wpL_op rfl rfl rfl (OpA.asn rfl (by with_reducible conv => lhs; whnf) ?_)
  refine wpL_nil ?_
  refine wpA_seq ?_
  refine wpA_mid (asg [(2, D.b (((decide (0 ≤ s_.from_)) && (decide (s_.from_ < s_.to))) && (decide (s_.to ≤ 1024))))]) [(c1, .cells 3 [encSpan s_])] ?_ ?_
  refine wpA_region ?_
  refine wpL_op rfl rfl rfl (OpA.fieldAddr rfl tf33_1 rfl ?_)
  refine wpL_op rfl rfl rfl (OpA.load rfl ti3 rfl .head rfl rfl ?_)
  refine wpL_op rfl rfl rfl (OpA.leq rfl rfl rfl ?_)
  refine wpL_op rfl rfl rfl (OpA.mv rfl (by with_reducible conv => lhs; whnf) ?_)
  refine wpL_split (s := 6) rfl (fun b2 => ?_) (fun b2 => ?_)
  refine wpL_opg rfl rfl rfl rfl rfl rfl (OpA.fieldAddr rfl tf33_1 rfl ?_)
  refine wpL_opg rfl rfl rfl rfl rfl rfl (OpA.load rfl ti3 rfl .head rfl rfl ?_)
  refine wpL_opg rfl rfl rfl rfl rfl rfl (OpA.fieldAddr rfl tf33_2 rfl ?_)
  refine wpL_opg rfl rfl rfl rfl rfl rfl (OpA.load rfl ti3 rfl .head rfl rfl ?_)
  refine wpL_opg rfl rfl rfl rfl rfl rfl (OpA.lss rfl rfl rfl ?_)
  refine wpL_op rfl rfl rfl (OpA.pck rfl rfl (by with_reducible conv => lhs; whnf) ?_)
  refine wpL_op rfl rfl rfl (OpA.mv rfl (by with_reducible conv => lhs; whnf) ?_)
  refine wpL_split (s := 13) rfl (fun b3 => ?_) (fun b3 => ?_)
  refine wpL_opg rfl rfl rfl rfl rfl rfl (OpA.fieldAddr rfl tf33_2 rfl ?_)
  refine wpL_opg rfl rfl rfl rfl rfl rfl (OpA.load rfl ti3 rfl .head rfl rfl ?_)
  refine wpL_opg rfl rfl rfl rfl rfl rfl (OpA.leq rfl rfl rfl ?_)
  refine wpL_op rfl rfl rfl (OpA.pck rfl rfl (by with_reducible conv => lhs; whnf) ?_)
  refine wpL_op rfl rfl rfl (OpA.asn rfl (by with_reducible conv => lhs; whnf) ?_)
  refine wpL_nil ?_
  exact ⟨(Cov.asg ⟨(congrArg D.b (Eq.symm (andN (andN b2 b3) rfl))), trivial⟩), (.refl _)⟩
  iterate 3 refine wpL_skip rfl rfl rfl rfl rfl rfl ?_
  refine wpL_op rfl rfl rfl (OpA.pck rfl rfl (by with_reducible conv => lhs; whnf) ?_)
  refine wpL_op rfl rfl rfl (OpA.asn rfl (by with_reducible conv => lhs; whnf) ?_)
  refine wpL_nil ?_
  exact ⟨(Cov.asg ⟨(congrArg D.b (Eq.symm (andS (andN b2 b3)))), trivial⟩), (.refl _)⟩
  iterate 5 refine wpL_skip rfl rfl rfl rfl rfl rfl ?_
  refine wpL_op rfl rfl rfl (OpA.pck rfl rfl (by with_reducible conv => lhs; whnf) ?_)
  refine wpL_op rfl rfl rfl (OpA.mv rfl (by with_reducible conv => lhs; whnf) ?_)
  iterate 3 refine wpL_skip rfl rfl rfl rfl rfl rfl ?_
  refine wpL_op rfl rfl rfl (OpA.pck rfl rfl (by with_reducible conv => lhs; whnf) ?_)
  refine wpL_op rfl rfl rfl (OpA.asn rfl (by with_reducible conv => lhs; whnf) ?_)
  refine wpL_nil ?_
  exact ⟨(Cov.asg ⟨(congrArg D.b (Eq.symm (andS (andS b2)))), trivial⟩), (.refl _)⟩
  show wpA _ _ _ _ (asg [(2, D.b (((decide (0 ≤ s_.from_)) && (decide (s_.from_ < s_.to))) && (decide (s_.to ≤ 1024))))]) [(c1, .cells 3 [encSpan s_])]
  refine wpA_ret ?_
  exact ⟨_, (.tmp (d := D.b (((decide (0 ≤ s_.from_)) && (decide (s_.from_ < s_.to))) && (decide (s_.to ≤ 1024)))) rfl .nil), _, (.same rfl .nil), ⟨(((decide (0 ≤ s_.from_)) && (decide (s_.from_ < s_.to))) && (decide (s_.to ≤ 1024))), rfl, h⟩⟩
theorem inside_c (s_ : Span)   : Fun false Tryd.prog 20 [encSpan s_] (fun d => d = D.b (insideF s_)) :=
  Fun.at (enc := fun r => D.b r) (v := insideF s_) (inside_w s_  (fun r => r = insideF s_) (inside_ok s_ _  rfl))

set_option maxHeartbeats 2000000 in
set_option maxRecDepth 10000 in
theorem behind_w (a : Span) (b : Span)  (Q : Bool → Prop) (h : behind_vc a b Q) : Fun false Tryd.prog 21 [encSpan a, encSpan b] (fun d => ∃ r, d = D.b r ∧ Q r) := by
  unfold behind_vc at h
  refine Fun.of_body Tryd.func21 rfl Tryd.ntmps21 rfl ?_
  refine wpA_seq ?_
  refine wpA_region ?_
  refine wpL_op rfl rfl rfl (OpA.bx (sz := 3) rfl (by with_reducible conv => lhs; whnf) (.of rfl) (fun c1 _ => ?_))
  refine wpL_op rfl rfl rfl (OpA.bx (sz := 3) rfl (by with_reducible conv => lhs; whnf) (.of rfl) (fun c2 _ => ?_))
  refine wpL_op rfl rfl rfl (OpA.asn rfl (by with_reducible conv => lhs; whnf) ?_)
  refine wpL_nil ?_
  refine wpA_seq ?_
  refine wpA_mid (asg [(4, D.b ((sless a.path b.path) || ((decide (a.path = b.path)) && (decide (a.to < b.from_)))))]) [(c2, .cells 3 [encSpan b]), (c1, .cells 3 [encSpan a])] ?_ ?_
  refine wpA_region ?_
  refine wpL_op rfl rfl rfl (OpA.fieldAddr rfl tf33_0 rfl ?_)
  refine wpL_op rfl rfl rfl (OpA.load rfl ti9 rfl (.tail .head) rfl rfl ?_)
  refine wpL_op rfl rfl rfl (OpA.fieldAddr rfl tf33_0 rfl ?_)
  refine wpL_op rfl rfl rfl (OpA.load rfl ti9 rfl .head rfl rfl ?_)
  refine wpL_op rfl rfl rfl (OpA.slss rfl rfl rfl ?_)
  refine wpL_op rfl rfl rfl (OpA.mv rfl (by with_reducible conv => lhs; whnf) ?_)
  refine wpL_split (s := 10) rfl (fun b3 => ?_) (fun b3 => ?_)
  iterate 6 refine wpL_skip rfl rfl rfl rfl rfl rfl ?_
  iterate 5 refine wpL_skipU rfl rfl rfl rfl rfl ?_
  refine wpL_skip rfl rfl rfl rfl rfl rfl ?_
  refine wpL_op rfl rfl rfl (OpA.pck rfl rfl (by with_reducible conv => lhs; whnf) ?_)
  refine wpL_op rfl rfl rfl (OpA.asn rfl (by with_reducible conv => lhs; whnf) ?_)
  refine wpL_nil ?_
  exact ⟨(Cov.asg ⟨(congrArg D.b (Eq.symm (orS b3))), trivial⟩), (.refl _)⟩
  refine wpL_opg rfl rfl rfl rfl rfl rfl (OpA.fieldAddr rfl tf33_0 rfl ?_)
  refine wpL_opg rfl rfl rfl rfl rfl rfl (OpA.load rfl ti9 rfl (.tail .head) rfl rfl ?_)
  refine wpL_opg rfl rfl rfl rfl rfl rfl (OpA.fieldAddr rfl tf33_0 rfl ?_)
  refine wpL_opg rfl rfl rfl rfl rfl rfl (OpA.load rfl ti9 rfl .head rfl rfl ?_)
  refine wpL_opg rfl rfl rfl rfl rfl rfl (OpA.seql rfl rfl rfl ?_)
  refine wpL_opg rfl rfl rfl rfl rfl rfl (OpA.mv rfl (by with_reducible conv => lhs; whnf) ?_)
  refine wpL_split (s := 16) rfl (fun b4 => ?_) (fun b4 => ?_)
  refine wpL_opg rfl rfl rfl rfl rfl rfl (OpA.fieldAddr rfl tf33_2 rfl ?_)
  refine wpL_opg rfl rfl rfl rfl rfl rfl (OpA.load rfl ti3 rfl (.tail .head) rfl rfl ?_)
  refine wpL_opg rfl rfl rfl rfl rfl rfl (OpA.fieldAddr rfl tf33_1 rfl ?_)
  refine wpL_opg rfl rfl rfl rfl rfl rfl (OpA.load rfl ti3 rfl .head rfl rfl ?_)
  refine wpL_opg rfl rfl rfl rfl rfl rfl (OpA.lss rfl rfl rfl ?_)
  refine wpL_opg rfl rfl rfl rfl rfl rfl (OpA.pck rfl rfl (by with_reducible conv => lhs; whnf) ?_)
  refine wpL_op rfl rfl rfl (OpA.pck rfl rfl (by with_reducible conv => lhs; whnf) ?_)
  refine wpL_op rfl rfl rfl (OpA.asn rfl (by with_reducible conv => lhs; whnf) ?_)
  refine wpL_nil ?_
  exact ⟨(Cov.asg ⟨(congrArg D.b (Eq.symm (orN b3 (andN b4 rfl)))), trivial⟩), (.refl _)⟩
  iterate 5 refine wpL_skip rfl rfl rfl rfl rfl rfl ?_
  refine wpL_opg rfl rfl rfl rfl rfl rfl (OpA.pck rfl rfl (by with_reducible conv => lhs; whnf) ?_)
  refine wpL_op rfl rfl rfl (OpA.pck rfl rfl (by with_reducible conv => lhs; whnf) ?_)
  refine wpL_op rfl rfl rfl (OpA.asn rfl (by with_reducible conv => lhs; whnf) ?_)
  refine wpL_nil ?_
  exact ⟨(Cov.asg ⟨(congrArg D.b (Eq.symm (orN b3 (andS b4)))), trivial⟩), (.refl _)⟩
  show wpA _ _ _ _ (asg [(4, D.b ((sless a.path b.path) || ((decide (a.path = b.path)) && (decide (a.to < b.from_)))))]) [(c2, .cells 3 [encSpan b]), (c1, .cells 3 [encSpan a])]
  refine wpA_ret ?_
  exact ⟨_, (.tmp (d := D.b ((sless a.path b.path) || ((decide (a.path = b.path)) && (decide (a.to < b.from_))))) rfl .nil), _, (.same rfl .nil), ⟨((sless a.path b.path) || ((decide (a.path = b.path)) && (decide (a.to < b.from_)))), rfl, h⟩⟩
theorem behind_c (a : Span) (b : Span)   : Fun false Tryd.prog 21 [encSpan a, encSpan b] (fun d => d = D.b (behindF a b)) :=
  Fun.at (enc := fun r => D.b r) (v := behindF a b) (behind_w a b  (fun r => r = behindF a b) (behind_ok a b _  rfl))

set_option maxHeartbeats 2000000 in
set_option maxRecDepth 10000 in
theorem or_w (vals : (List Int))  (Q : Int → Prop) (h : or_vc vals Q) : Fun false Tryd.prog 38 [(encL 1 D.i) vals] (fun d => ∃ r, d = D.i r ∧ Q r) := by
  unfold or_vc at h
  refine Fun.of_body Tryd.func38 rfl Tryd.ntmps38 rfl ?_
  refine wpA_seq ?_
  refine wpA_region ?_
  refine wpL_op rfl rfl rfl (OpA.asn rfl (by with_reducible conv => lhs; whnf) ?_)
  refine wpL_nil ?_
  refine wpA_seq ?_
  refine wpA_region ?_
  refine wpL_op rfl rfl rfl (OpA.asn rfl (by with_reducible conv => lhs; whnf) ?_)
  refine wpL_nil ?_
  iterate 2 refine wpA_seq ?_
  refine wpA_region ?_
  refine wpL_op rfl rfl rfl (OpA.mv rfl (by with_reducible conv => lhs; whnf) ?_)
  refine wpL_op rfl rfl rfl (OpA.len rfl rfl rfl rfl ts81.desc (.inl ⟨_, _, rfl, (List.length_map _).symm⟩) ?_)
  refine wpL_op rfl rfl rfl (OpA.mv rfl (by with_reducible conv => lhs; whnf) ?_)
  refine wpL_nil ?_
  refine wpA_block ?_
  refine wpA_lfp (S := Int) (G := Unit) () (fun gg ss => asg [(2, D.i 0), (3, D.i 0), (6, (encL 1 D.i) vals), (7, D.i (vals.length : Int)), (8, D.i ss)]) (fun gg ss => []) h (Cov.asg ⟨rfl, rfl, rfl, rfl, rfl, trivial⟩) (.refl _) ?_
  rintro again1 _ x h
  have h : or_L1 vals Q again1 x := h
  unfold or_L1 at h
  show wpA _ _ _ _ (asg [(2, D.i 0), (3, D.i 0), (6, (encL 1 D.i) vals), (7, D.i (vals.length : Int)), (8, D.i x)]) []
  refine wpA_seq ?_
  refine wpA_region ?_
  refine wpL_op rfl rfl rfl (OpA.lss rfl rfl rfl ?_)
  refine wpL_nil ?_
  refine wpA_seq ?_
  refine wpA_cond rfl (fun b2 => ?_) (fun b2 => ?_)
  have h := h.1 (decT b2)
  refine wpA_skip ?_
  refine wpA_seq ?_
  refine wpA_block ?_
  refine wpA_seq ?_
  obtain ⟨q1, h⟩ := h
  refine wpA_region ?_
  refine wpL_op rfl rfl rfl (OpA.iixV (enc := D.i) rfl ts81 rfl rfl rfl q1 ?_)
  refine wpL_op rfl rfl rfl (OpA.iload rfl ti3 rfl rfl ?_)
  refine wpL_op rfl rfl rfl (OpA.asn rfl (by with_reducible conv => lhs; whnf) ?_)
  refine wpL_nil ?_
  refine wpA_seq ?_
  refine wpA_region ?_
  refine wpL_op rfl rfl rfl (OpA.mv rfl (by with_reducible conv => lhs; whnf) ?_)
  refine wpL_op rfl rfl rfl (OpA.mv rfl (by with_reducible conv => lhs; whnf) ?_)
  refine wpL_op rfl rfl rfl (OpA.neq rfl rfl rfl ?_)
  refine wpL_nil ?_
  refine wpA_cond rfl (fun b3 => ?_) (fun b3 => ?_)
  have h := h.1 (bneT b3)
  refine wpA_seq ?_
  refine wpA_region ?_
  refine wpL_op rfl rfl rfl (OpA.mv rfl (by with_reducible conv => lhs; whnf) ?_)
  refine wpL_op rfl rfl rfl (OpA.asn rfl (by with_reducible conv => lhs; whnf) ?_)
  refine wpL_nil ?_
  refine wpA_ret ?_
  exact ⟨_, (.tmp (d := D.i (gi vals x)) rfl .nil), _, (.same rfl .nil), ⟨(gi vals x), rfl, h⟩⟩
  have h := h.2 (bneF b3)
  refine wpA_skip ?_
  obtain ⟨q1, h⟩ := h
  refine wpA_region ?_
  refine wpL_op rfl rfl rfl (OpA.addi rfl rfl rfl q1 ?_)
  refine wpL_op rfl rfl rfl (OpA.mv rfl (by with_reducible conv => lhs; whnf) ?_)
  refine wpL_nil ?_
  exact ⟨(), (x + 1), h, (Cov.asg ⟨rfl, rfl, rfl, rfl, rfl, trivial⟩), (.refl _)⟩
  have h := h.2 (decF b2)
  refine wpA_exit ?_
  refine wpA_seq ?_
  refine wpA_region ?_
  refine wpL_op rfl rfl rfl (OpA.mv rfl (by with_reducible conv => lhs; whnf) ?_)
  refine wpL_op rfl rfl rfl (OpA.asn rfl (by with_reducible conv => lhs; whnf) ?_)
  refine wpL_nil ?_
  refine wpA_ret ?_
  exact ⟨_, (.tmp (d := D.i 0) rfl .nil), _, (.same rfl .nil), ⟨0, rfl, h⟩⟩
theorem or_c (vals : (List Int))  (hp0 : vals.length ≤ 9223372036854775807) : Fun false Tryd.prog 38 [(encL 1 D.i) vals] (fun d => d = D.i (orF vals)) :=
  Fun.at (enc := fun r => D.i r) (v := orF vals) (or_w vals  (fun r => r = orF vals) (or_ok vals _ hp0 rfl))

set_option maxHeartbeats 2000000 in
set_option maxRecDepth 10000 in
theorem merge1_w (a : Span) (b : Span)  (Q : Int → Prop) (h : merge1_vc a b Q) : Fun false Tryd.prog 37 [encSpan a, encSpan b] (fun d => ∃ r, d = D.i r ∧ Q r) := by
  unfold merge1_vc at h
  refine Fun.of_body Tryd.func37 rfl Tryd.ntmps37 rfl ?_
  refine wpA_seq ?_
  refine wpA_region ?_
  refine wpL_op rfl rfl rfl (OpA.bx (sz := 3) rfl (by with_reducible conv => lhs; whnf) (.of rfl) (fun c1 _ => ?_))
  refine wpL_op rfl rfl rfl (OpA.bx (sz := 3) rfl (by with_reducible conv => lhs; whnf) (.of rfl) (fun c2 _ => ?_))
  refine wpL_op rfl rfl rfl (OpA.asn rfl (by with_reducible conv => lhs; whnf) ?_)
  refine wpL_nil ?_
  refine wpA_seq ?_
  obtain ⟨q1, h⟩ := h
  refine wpA_draw (m := 13) mo (by kernel_rfl) rfl ?_
  refine DetK.op rfl (OpA.fieldAddr rfl tf33_0 rfl ⟨rfl, rfl⟩) ?_
  refine DetK.op rfl (OpA.load rfl ti9 rfl (.tail .head) rfl rfl ⟨rfl, rfl⟩) ?_
  refine DetK.op rfl (OpA.fieldAddr rfl tf33_0 rfl ⟨rfl, rfl⟩) ?_
  refine DetK.op rfl (OpA.load rfl ti9 rfl .head rfl rfl ⟨rfl, rfl⟩) ?_
  refine DetK.op rfl (OpA.call rfl rfl rfl en39 (sCompare_c a.path b.path ) (by rintro _ rfl; exact ⟨rfl, rfl⟩)) ?_
  refine DetK.op rfl (OpA.fieldAddr rfl tf33_1 rfl ⟨rfl, rfl⟩) ?_
  refine DetK.op rfl (OpA.load rfl ti3 rfl (.tail .head) rfl rfl ⟨rfl, rfl⟩) ?_
  refine DetK.op rfl (OpA.fieldAddr rfl tf33_1 rfl ⟨rfl, rfl⟩) ?_
  refine DetK.op rfl (OpA.load rfl ti3 rfl .head rfl rfl ⟨rfl, rfl⟩) ?_
  refine DetK.op rfl (OpA.call rfl rfl rfl en40 (iCompare_c a.from_ b.from_ ) (by rintro _ rfl; exact ⟨rfl, rfl⟩)) ?_
  refine DetK.op rfl (OpA.ibuildSliceO rfl ts81 rfl (.cons (.of (sz := 1) rfl) (.cons (.of (sz := 1) rfl) .nil)) (by decide) ⟨rfl, rfl⟩) ?_
  refine DetK.op rfl (OpA.call rfl rfl rfl en38 (or_c ([(cmpB a.path b.path), (cmpI a.from_ b.from_)] : List Int) q1) (by rintro _ rfl; exact ⟨rfl, rfl⟩)) ?_
  refine DetK.op rfl (OpA.asn rfl (by with_reducible conv => lhs; whnf) ⟨rfl, rfl⟩) ?_
  refine DetK.nil ?_
  refine wpL_nil ?_
  refine wpA_ret ?_
  exact ⟨_, (.tmp (d := D.i (orF ([(cmpB a.path b.path), (cmpI a.from_ b.from_)] : List Int))) rfl .nil), _, (.same rfl .nil), ⟨(orF ([(cmpB a.path b.path), (cmpI a.from_ b.from_)] : List Int)), rfl, h⟩⟩
theorem merge1_c (a : Span) (b : Span)   : Fun false Tryd.prog 37 [encSpan a, encSpan b] (fun d => d = D.i (spanCmp a b)) :=
  Fun.at (enc := fun r => D.i r) (v := spanCmp a b) (merge1_w a b  (fun r => r = spanCmp a b) (merge1_ok a b _  rfl))

set_option maxHeartbeats 2000000 in
set_option maxRecDepth 10000 in
theorem merge_w (l : (List Span)) (c_l : Nat) (pre_l post_l : List D)  (Q : (List Span) → Prop) (h : merge_vc l Q) : CallH Tryd.prog 23 [.own c_l 3 pre_l.length l.length] [(c_l, .cells 3 (winL encSpan pre_l l post_l))] (fun d h' => ∃ (r : (List Span)) (g : Nat × List D × List D), d = .own g.1 3 g.2.1.length r.length ∧ h' = [(g.1, .cells 3 (winL encSpan g.2.1 r g.2.2))] ∧ Q r) := by
  unfold merge_vc at h
  refine CallH.of_bodyP Tryd.func23 rfl Tryd.ntmps23 rfl ?_
  refine wpA_seq ?_
  refine wpA_region ?_
  refine wpL_op rfl rfl rfl (OpA.asnG (T := Span) (enc := encSpan) (sz := 3) rfl rfl (fun c2_g1 => ?_))
  refine wpL_nil ?_
  refine wpA_seq ?_
  obtain ⟨q1, h⟩ := h
  refine wpA_region ?_
  refine wpL_op rfl rfl rfl (OpA.mv rfl (by with_reducible conv => lhs; whnf) ?_)
  refine wpL_op rfl rfl rfl (OpA.sortW (enc := encSpan) (encV := valSpan) Tryd.sortSpan Tryd.isAgg33 Tryd.sizeOf33 (fun _ => rfl) valSpan_one (fun _ => rfl) (cf := spanCmp) (xs := l) rfl rfl rfl rfl en36 rfl rfl rfl en37 (fun a b => merge1_c a b) (sort0_c [] 37 [] [] spanCmp (fun _ _ => True) en37 (fun a b _ => merge1_c a b) rfl) q1 (.tail .head) ?_)
  refine wpL_nil ?_
  refine wpA_seq ?_
  refine wpA_region ?_
  refine wpL_op rfl rfl rfl (OpA.asnG (T := Span) (enc := encSpan) (sz := 3) rfl rfl (fun c3_g2 => ?_))
  refine wpL_nil ?_
  iterate 2 refine wpA_seq ?_
  refine wpA_cov (fr0 := asg [(0, .own c_l 3 pre_l.length (sortF spanCmp l).length), (2, .own c2_g1 3 ([] : List D).length ([] : List Span).length), (3, .own c3_g2 3 ([] : List D).length ([] : List Span).length), (7, .own c_l 3 pre_l.length (sortF spanCmp l).length), (8, .tup [])]) (Cov.asg ⟨(congrArg (D.own c_l 3 pre_l.length) (by simp only [si_length, gcopy_length, sortF_len spanCmp_swo] <;> rfl)), rfl, rfl, (congrArg (D.own c_l 3 pre_l.length) (by simp only [si_length, gcopy_length, sortF_len spanCmp_swo] <;> rfl)), rfl, trivial⟩) ?_
  refine wpA_region ?_
  refine wpL_op rfl rfl rfl (OpA.mv rfl (by with_reducible conv => lhs; whnf) ?_)
  refine wpL_op rfl rfl rfl (OpA.len rfl rfl rfl rfl ts22.desc (.inr (.inl ⟨_, _, _, rfl⟩)) ?_)
  refine wpL_op rfl rfl rfl (OpA.mv rfl (by with_reducible conv => lhs; whnf) ?_)
  refine wpL_nil ?_
  refine wpA_block ?_
  refine wpA_lfp (S := (List Span) × Int) (G := Nat × List D × List D) (c3_g2, ([] : List D), ([] : List D)) (fun gg ss => asg [(2, .own c2_g1 3 ([] : List D).length ([] : List Span).length), (3, .own gg.1 3 gg.2.1.length ss.1.length), (9, .own c_l 3 pre_l.length (sortF spanCmp l).length), (10, D.i ((sortF spanCmp l).length : Int)), (11, D.i ss.2)]) (fun gg ss => [(gg.1, .cells 3 (winL encSpan gg.2.1 ss.1 gg.2.2)), (c2_g1, .cells 3 (winL encSpan ([] : List D) ([] : List Span) ([] : List D))), (c_l, .cells 3 (winL encSpan pre_l (sortF spanCmp l) post_l))]) h (Cov.asg ⟨rfl, rfl, rfl, rfl, rfl, trivial⟩) (.refl _) ?_
  rintro again3 ⟨cb3, pre3, post3⟩ ⟨out, x⟩ h
  have h : merge_L1 l Q again3 out x := h
  unfold merge_L1 at h
  show wpA _ _ _ _ (asg [(2, .own c2_g1 3 ([] : List D).length ([] : List Span).length), (3, .own cb3 3 pre3.length out.length), (9, .own c_l 3 pre_l.length (sortF spanCmp l).length), (10, D.i ((sortF spanCmp l).length : Int)), (11, D.i x)]) [(cb3, .cells 3 (winL encSpan pre3 out post3)), (c2_g1, .cells 3 (winL encSpan ([] : List D) ([] : List Span) ([] : List D))), (c_l, .cells 3 (winL encSpan pre_l (sortF spanCmp l) post_l))]
  refine wpA_seq ?_
  refine wpA_region ?_
  refine wpL_op rfl rfl rfl (OpA.lss rfl rfl rfl ?_)
  refine wpL_nil ?_
  refine wpA_seq ?_
  refine wpA_cond rfl (fun b4 => ?_) (fun b4 => ?_)
  have h := h.1 (decT b4)
  refine wpA_skip ?_
  refine wpA_seq ?_
  refine wpA_block ?_
  refine wpA_seq ?_
  obtain ⟨q1, h⟩ := h
  refine wpA_region ?_
  refine wpL_op rfl rfl rfl (OpA.ixV rfl ts22 rfl rfl q1 ?_)
  refine wpL_op rfl rfl rfl (OpA.load_whole rfl ti33 rfl rfl (.tail (.tail .head)) (getV (enc := encSpan) q1) ⟨_, rfl⟩ ?_)
  refine wpL_op rfl rfl rfl (OpA.alloc (sz := 3) (d := encSpan (Span.mk ByteArray.empty 0 0)) rfl tz33 (fun _ _ => .agg (.cons (.v _) (.cons (.v _) (.cons (.v _) .nil)))) (.of rfl) (fun c5 _ => ?_))
  refine wpL_eff rfl rfl (OpA.storeW rfl ti33 rfl (by with_reducible conv => lhs; whnf) (.of rfl) rfl rfl .head ?_)
  refine wpL_nil ?_
  refine wpA_seq ?_
  obtain ⟨q1, h⟩ := h
  refine wpA_region ?_
  refine wpL_op rfl rfl rfl (OpA.mv rfl (by with_reducible conv => lhs; whnf) ?_)
  refine wpL_op rfl rfl rfl (OpA.len rfl rfl rfl rfl ts23.desc (.inr (.inl ⟨_, _, _, rfl⟩)) ?_)
  refine wpL_op rfl rfl rfl (OpA.subi rfl rfl rfl q1 ?_)
  refine wpL_op rfl rfl rfl (OpA.asn rfl (by with_reducible conv => lhs; whnf) ?_)
  refine wpL_nil ?_
  refine wpA_seq ?_
  obtain ⟨q1, h⟩ := h
  refine wpA_mid (asg [(2, .own c2_g1 3 ([] : List D).length ([] : List Span).length), (3, .own cb3 3 pre3.length out.length), (5, .ptr c5 3 0 0), (6, D.i ((out.length : Int) - 1)), (9, .own c_l 3 pre_l.length (sortF spanCmp l).length), (10, D.i ((sortF spanCmp l).length : Int)), (11, D.i x), (28, D.b ((decide (((out.length : Int) - 1) ≥ 0)) && (!(behindF (gi out ((out.length : Int) - 1)) (gi (sortF spanCmp l) x)))))]) [(c5, .cells 3 [encSpan (gi (sortF spanCmp l) x)]), (cb3, .cells 3 (winL encSpan pre3 out post3)), (c2_g1, .cells 3 (winL encSpan ([] : List D) ([] : List Span) ([] : List D))), (c_l, .cells 3 (winL encSpan pre_l (sortF spanCmp l) post_l))] ?_ ?_
  refine wpA_draw (m := 11) mo (by kernel_rfl) rfl ?_
  refine DetK.op rfl (OpA.mv rfl (by with_reducible conv => lhs; whnf) ⟨rfl, rfl⟩) ?_
  refine DetK.op rfl (OpA.geq rfl rfl rfl ⟨rfl, rfl⟩) ?_
  refine DetK.op rfl (OpA.mv rfl (by with_reducible conv => lhs; whnf) ⟨rfl, rfl⟩) ?_
  refine DetK_split (s := 20) rfl (fun b9 => ?_) (fun b9 => ?_)
  iterate 2 refine DetK.opg rfl rfl rfl rfl (OpA.mv rfl (by with_reducible conv => lhs; whnf) ⟨rfl, rfl⟩) ?_
  refine DetK.opg rfl rfl rfl rfl (OpA.ixV rfl ts23 rfl rfl (q1 (decT b9)) ⟨rfl, rfl⟩) ?_
  refine DetK.opg rfl rfl rfl rfl (OpA.load_whole rfl ti33 rfl rfl (.tail .head) (getV (enc := encSpan) (q1 (decT b9))) ⟨_, rfl⟩ ⟨rfl, rfl⟩) ?_
  refine DetK.opg rfl rfl rfl rfl (OpA.load_whole rfl ti33 rfl rfl .head rfl ⟨_, rfl⟩ ⟨rfl, rfl⟩) ?_
  refine DetK.opg rfl rfl rfl rfl (OpA.call rfl rfl rfl en21 (behind_c (gi out ((out.length : Int) - 1)) (gi (sortF spanCmp l) x) ) (by rintro _ rfl; exact ⟨rfl, rfl⟩)) ?_
  refine DetK.opg rfl rfl rfl rfl (OpA.not rfl rfl ⟨rfl, rfl⟩) ?_
  refine DetK.op rfl (OpA.pck rfl rfl (by with_reducible conv => lhs; whnf) ⟨rfl, rfl⟩) ?_
  refine DetK.nil ?_
  refine wpL_nil ?_
  exact ⟨(Cov.asg ⟨rfl, rfl, rfl, rfl, rfl, rfl, rfl, (congrArg D.b (Eq.symm (andN b9 rfl))), trivial⟩), (.refl _)⟩
  iterate 7 refine DetK.skip rfl rfl rfl rfl ?_
  refine DetK.op rfl (OpA.pck rfl rfl (by with_reducible conv => lhs; whnf) ⟨rfl, rfl⟩) ?_
  refine DetK.nil ?_
  refine wpL_nil ?_
  exact ⟨(Cov.asg ⟨rfl, rfl, rfl, rfl, rfl, rfl, rfl, (congrArg D.b (Eq.symm (andS b9))), trivial⟩), (.refl _)⟩
  show wpA _ _ _ _ (asg [(2, .own c2_g1 3 ([] : List D).length ([] : List Span).length), (3, .own cb3 3 pre3.length out.length), (5, .ptr c5 3 0 0), (6, D.i ((out.length : Int) - 1)), (9, .own c_l 3 pre_l.length (sortF spanCmp l).length), (10, D.i ((sortF spanCmp l).length : Int)), (11, D.i x), (28, D.b ((decide (((out.length : Int) - 1) ≥ 0)) && (!(behindF (gi out ((out.length : Int) - 1)) (gi (sortF spanCmp l) x)))))]) [(c5, .cells 3 [encSpan (gi (sortF spanCmp l) x)]), (cb3, .cells 3 (winL encSpan pre3 out post3)), (c2_g1, .cells 3 (winL encSpan ([] : List D) ([] : List Span) ([] : List D))), (c_l, .cells 3 (winL encSpan pre_l (sortF spanCmp l) post_l))]
  refine wpA_cond rfl (fun b6 => ?_) (fun b6 => ?_)
  have h := h.1 ⟨(decT (and1 b6)), (notT (and2 b6))⟩
  obtain ⟨q1, h⟩ := h
  refine wpA_draw (m := 12) mo (by kernel_rfl) rfl ?_
  iterate 4 refine DetK.op rfl (OpA.mv rfl (by with_reducible conv => lhs; whnf) ⟨rfl, rfl⟩) ?_
  refine DetK.op rfl (OpA.ixV rfl ts23 rfl rfl q1 ⟨rfl, rfl⟩) ?_
  refine DetK.op rfl (OpA.fieldAddr rfl tf33_2 rfl ⟨rfl, rfl⟩) ?_
  refine DetK.op rfl (OpA.load rfl ti3 rfl (.tail .head) (getV (enc := encSpan) q1) rfl ⟨rfl, rfl⟩) ?_
  refine DetK.op rfl (OpA.fieldAddr rfl tf33_2 rfl ⟨rfl, rfl⟩) ?_
  refine DetK.op rfl (OpA.load rfl ti3 rfl .head rfl rfl ⟨rfl, rfl⟩) ?_
  refine DetK.op rfl (OpA.max (l := [_]) rfl rfl rfl rfl ⟨rfl, rfl⟩) ?_
  refine DetK.op rfl (OpA.ixV rfl ts23 rfl rfl q1 ⟨rfl, rfl⟩) ?_
  refine DetK.op rfl (OpA.fieldAddr rfl tf33_2 rfl ⟨rfl, rfl⟩) ?_
  refine DetK.nil ?_
  refine wpL_eff rfl rfl (OpA.storeVf (enc := encSpan) (v := (Span.mk ((gi out ((out.length : Int) - 1)).path) ((gi out ((out.length : Int) - 1)).from_) (gmax ((gi out ((out.length : Int) - 1)).to) [(gi (sortF spanCmp l) x).to]))) rfl ti3 rfl (.of rfl) (Nat.le_of_ble_eq_true rfl) rfl q1 (.tail .head) ?_)
  refine wpL_nil ?_
  obtain ⟨q1, h⟩ := h
  refine wpA_region ?_
  refine wpL_op rfl rfl rfl (OpA.addi rfl rfl rfl q1 ?_)
  refine wpL_op rfl rfl rfl (OpA.mv rfl (by with_reducible conv => lhs; whnf) ?_)
  refine wpL_nil ?_
  exact ⟨(cb3, pre3, post3), ((si out ((out.length : Int) - 1) (Span.mk ((gi out ((out.length : Int) - 1)).path) ((gi out ((out.length : Int) - 1)).from_) (gmax ((gi out ((out.length : Int) - 1)).to) [(gi (sortF spanCmp l) x).to]))), (x + 1)), h, (Cov.asg ⟨rfl, (congrArg (D.own cb3 3 pre3.length) (by simp only [si_length, gcopy_length, sortF_len spanCmp_swo] <;> rfl)), rfl, rfl, rfl, trivial⟩), (.cons _ (.refl _))⟩
  have h := h.2 ((and0 b6).imp (fun hh => (decF hh)) (fun hh => (notF hh)))
  obtain ⟨q1, h⟩ := h
  refine wpA_region ?_
  refine wpL_op rfl rfl rfl (OpA.mv rfl (by with_reducible conv => lhs; whnf) ?_)
  refine wpL_op rfl rfl rfl (OpA.load_whole rfl ti33 rfl rfl .head rfl ⟨_, rfl⟩ ?_)
  refine wpL_op rfl rfl rfl (OpA.ibuildSliceO rfl ts23 rfl (.cons (.of (sz := 3) rfl) .nil) (by decide) ?_)
  refine wpL_op rfl rfl rfl (OpA.appendW (enc := encSpan) rfl rfl rfl rfl ts23 rfl (fun _ _ => (.tail .head)) (.list (ys := ([(gi (sortF spanCmp l) x)] : List Span))) q1 (fun c7 pre8 => ?_))
  refine wpL_op rfl rfl rfl (OpA.asn rfl (by with_reducible conv => lhs; whnf) ?_)
  refine wpL_nil ?_
  obtain ⟨q1, h⟩ := h
  refine wpA_region ?_
  refine wpL_op rfl rfl rfl (OpA.addi rfl rfl rfl q1 ?_)
  refine wpL_op rfl rfl rfl (OpA.mv rfl (by with_reducible conv => lhs; whnf) ?_)
  refine wpL_nil ?_
  exact ⟨(c7, pre8, ([] : List D)), ((out ++ ([(gi (sortF spanCmp l) x)] : List Span)), (x + 1)), h, (Cov.asg ⟨rfl, rfl, rfl, rfl, rfl, trivial⟩), (.cons _ (.refl _))⟩
  have h := h.2 (decF b4)
  refine wpA_exit ?_
  refine wpA_seq ?_
  refine wpA_region ?_
  refine wpL_op rfl rfl rfl (OpA.mv rfl (by with_reducible conv => lhs; whnf) ?_)
  refine wpL_op rfl rfl rfl (OpA.asn rfl (by with_reducible conv => lhs; whnf) ?_)
  refine wpL_nil ?_
  refine wpA_ret ?_
  exact ⟨_, (.tmp (d := .own cb3 3 pre3.length out.length) rfl .nil), [(cb3, .cells 3 (winL encSpan pre3 out post3)), (c2_g1, .cells 3 (winL encSpan ([] : List D) ([] : List Span) ([] : List D))), (c_l, .cells 3 (winL encSpan pre_l (sortF spanCmp l) post_l))], [(cb3, .cells 3 (winL encSpan pre3 out post3))], (.refl _), (.cons₂ _ (.cons _ (.cons _ (.refl _)))), out, (cb3, pre3, post3), rfl, rfl, h⟩
theorem merge_c (l : (List Span)) (c_l : Nat) (pre_l post_l : List D)  (hp0 : l.length ≤ 1000000) : CallH Tryd.prog 23 [.own c_l 3 pre_l.length l.length] [(c_l, .cells 3 (winL encSpan pre_l l post_l))] (fun d h' => ∃ (g : Nat × List D × List D), d = .own g.1 3 g.2.1.length (mergeF l).length ∧ h' = [(g.1, .cells 3 (winL encSpan g.2.1 (mergeF l) g.2.2))]) :=
  (merge_w l c_l pre_l post_l  (fun r => r = mergeF l) (merge_ok l _ hp0 rfl)).mono (by rintro d h' ⟨r, g, hd, hh, rfl⟩; exact ⟨g, hd, hh⟩)

set_option maxHeartbeats 2000000 in
set_option maxRecDepth 10000 in
theorem of_w (l : (List Line))  (Q : (List Span) × Int → Prop) (h : of_vc l Q) : Fun false Tryd.prog 15 [(encL 2 encLine) l] (fun d => ∃ r, d = .tup [(encL 3 encSpan) (r.1), D.i (r.2)] ∧ Q r) := by
  unfold of_vc at h
  refine Fun.of_body Tryd.func15 rfl Tryd.ntmps15 rfl ?_
  refine wpA_seq ?_
  refine wpA_region ?_
  refine wpL_op rfl rfl rfl (OpA.asn rfl (by with_reducible conv => lhs; whnf) ?_)
  refine wpL_op rfl rfl rfl (OpA.asn rfl (by with_reducible conv => lhs; whnf) ?_)
  refine wpL_nil ?_
  refine wpA_seq ?_
  obtain ⟨q1, h⟩ := h
  refine wpA_region ?_
  refine wpL_op rfl rfl rfl (OpA.mv rfl (by with_reducible conv => lhs; whnf) ?_)
  refine wpL_op rfl rfl rfl (OpA.len rfl rfl rfl rfl ts38.desc (.inl ⟨_, _, rfl, (List.length_map _).symm⟩) ?_)
  refine wpL_op rfl rfl rfl (OpA.makeSliceV (enc := encSpan) (v0 := (Span.mk ByteArray.empty 0 0)) rfl ts22 rfl rfl tz33 (fun _ _ => .agg (.cons (.v _) (.cons (.v _) (.cons (.v _) .nil)))) (.of rfl) q1 (fun c1 => ?_))
  refine wpL_op rfl rfl rfl (OpA.asn rfl (by with_reducible conv => lhs; whnf) ?_)
  refine wpL_nil ?_
  iterate 2 refine wpA_seq ?_
  refine wpA_region ?_
  refine wpL_op rfl rfl rfl (OpA.mv rfl (by with_reducible conv => lhs; whnf) ?_)
  refine wpL_op rfl rfl rfl (OpA.len rfl rfl rfl rfl ts38.desc (.inl ⟨_, _, rfl, (List.length_map _).symm⟩) ?_)
  refine wpL_op rfl rfl rfl (OpA.mv rfl (by with_reducible conv => lhs; whnf) ?_)
  refine wpL_nil ?_
  refine wpA_block ?_
  refine wpA_lfp (S := (List Span) × Int) (G := Nat × List D × List D) (c1, ([] : List D), ([] : List D)) (fun gg ss => asg [(2, .v (.slice none 0 0)), (3, D.i 0), (4, .own gg.1 3 gg.2.1.length ss.1.length), (11, (encL 2 encLine) l), (12, D.i (l.length : Int)), (13, D.i ss.2)]) (fun gg ss => [(gg.1, .cells 3 (winL encSpan gg.2.1 ss.1 gg.2.2))]) h (Cov.asg ⟨rfl, rfl, rfl, rfl, rfl, rfl, trivial⟩) (.refl _) ?_
  rintro again2 ⟨cb10, pre10, post10⟩ ⟨spans, x⟩ h
  have h : of_L1 l Q again2 spans x := h
  unfold of_L1 at h
  show wpA _ _ _ _ (asg [(2, .v (.slice none 0 0)), (3, D.i 0), (4, .own cb10 3 pre10.length spans.length), (11, (encL 2 encLine) l), (12, D.i (l.length : Int)), (13, D.i x)]) [(cb10, .cells 3 (winL encSpan pre10 spans post10))]
  refine wpA_seq ?_
  refine wpA_region ?_
  refine wpL_op rfl rfl rfl (OpA.lss rfl rfl rfl ?_)
  refine wpL_nil ?_
  refine wpA_seq ?_
  refine wpA_cond rfl (fun b3 => ?_) (fun b3 => ?_)
  have h := h.1 (decT b3)
  refine wpA_skip ?_
  refine wpA_seq ?_
  refine wpA_block ?_
  refine wpA_seq ?_
  obtain ⟨q1, h⟩ := h
  refine wpA_region ?_
  refine wpL_op rfl rfl rfl (OpA.iixV (enc := encLine) rfl ts38 rfl rfl rfl q1 ?_)
  refine wpL_op rfl rfl rfl (OpA.iload_whole rfl ti37 rfl ⟨_, rfl, rfl⟩ ?_)
  refine wpL_op rfl rfl rfl (OpA.alloc (sz := 2) (d := encLine (Line.mk ByteArray.empty 0)) rfl tz37 (fun _ _ => .agg (.cons (.v _) (.cons (.v _) .nil))) (.of rfl) (fun c4 _ => ?_))
  refine wpL_eff rfl rfl (OpA.storeW rfl ti37 rfl (by with_reducible conv => lhs; whnf) (.of rfl) rfl rfl .head ?_)
  refine wpL_nil ?_
  refine wpA_seq ?_
  refine wpA_region ?_
  refine wpL_op rfl rfl rfl (OpA.fieldAddr rfl tf37_0 rfl ?_)
  refine wpL_op rfl rfl rfl (OpA.load rfl ti9 rfl .head rfl rfl ?_)
  refine wpL_op rfl rfl rfl (OpA.fieldAddr rfl tf37_1 rfl ?_)
  refine wpL_op rfl rfl rfl (OpA.load rfl ti3 rfl .head rfl rfl ?_)
  refine wpL_op rfl rfl rfl (OpA.fieldAddr rfl tf37_1 rfl ?_)
  refine wpL_op rfl rfl rfl (OpA.load rfl ti3 rfl .head rfl rfl ?_)
  refine wpL_op rfl rfl rfl (OpA.add rfl rfl rfl ?_)
  refine wpL_op rfl rfl rfl (OpA.buildO (zs := [.v (.string ⟨#[]⟩), .v (.int .i64 0), .v (.int .i64 0)]) rfl tp33 tz33 (fun _ _ => (.cons (.v _) (.cons (.v _) (.cons (.v _) .nil)))) (.cons (.of (sz := 1) rfl) (.cons (.of (sz := 1) rfl) (.cons (.of (sz := 1) rfl) .nil))) rfl ?_)
  refine wpL_op rfl rfl rfl (OpA.alloc (sz := 3) (d := encSpan (Span.mk ByteArray.empty 0 0)) rfl tz33 (fun _ _ => .agg (.cons (.v _) (.cons (.v _) (.cons (.v _) .nil)))) (.of rfl) (fun c5 _ => ?_))
  refine wpL_eff rfl rfl (OpA.storeW rfl ti33 rfl (by with_reducible conv => lhs; whnf) (.of rfl) rfl rfl .head ?_)
  refine wpL_nil ?_
  refine wpA_seq ?_
  refine wpA_block ?_
  refine wpA_seq ?_
  obtain ⟨q1, h⟩ := h
  refine wpA_region ?_
  refine wpL_op rfl rfl rfl (OpA.fieldAddr rfl tf37_0 rfl ?_)
  refine wpL_op rfl rfl rfl (OpA.load rfl ti9 rfl (.tail .head) rfl rfl ?_)
  refine wpL_op rfl rfl rfl (OpA.call rfl rfl rfl en22 (path_c ((gi l x).path) q1) ?_)
  rintro _ rfl
  refine wpL_op rfl rfl rfl (OpA.neq rfl rfl rfl ?_)
  refine wpL_op rfl rfl rfl (OpA.asn rfl (by with_reducible conv => lhs; whnf) ?_)
  refine wpL_nil ?_
  refine wpA_cond rfl (fun b6 => ?_) (fun b6 => ?_)
  have h := h.1 (bneT b6)
  refine wpA_seq ?_
  refine wpA_region ?_
  refine wpL_op rfl rfl rfl (OpA.asn rfl (by with_reducible conv => lhs; whnf) ?_)
  refine wpL_op rfl rfl rfl (OpA.asn rfl (by with_reducible conv => lhs; whnf) ?_)
  refine wpL_nil ?_
  refine wpA_ret ?_
  exact ⟨_, (.tmp (d := .v (.slice none 0 0)) rfl (.tmp (d := D.i 2) rfl .nil)), _, (.tup (.nilv (sz := 3) (.same rfl .nil)) .nil), ⟨([], 2), rfl, h⟩⟩
  have h := h.2 (bneF b6)
  refine wpA_seq ?_
  refine wpA_region ?_
  refine wpL_op rfl rfl rfl (OpA.load_whole rfl ti33 rfl rfl .head rfl ⟨_, rfl⟩ ?_)
  refine wpL_op rfl rfl rfl (OpA.call rfl rfl rfl en20 (inside_c (Span.mk ((gi l x).path) ((gi l x).n) (IntKind.i64.wrap (((gi l x).n) + 1))) ) ?_)
  rintro _ rfl
  refine wpL_op rfl rfl rfl (OpA.not rfl rfl ?_)
  refine wpL_op rfl rfl rfl (OpA.asn rfl (by with_reducible conv => lhs; whnf) ?_)
  refine wpL_nil ?_
  refine wpA_cond rfl (fun b7 => ?_) (fun b7 => ?_)
  have h := h.1 (notT b7)
  refine wpA_seq ?_
  refine wpA_region ?_
  refine wpL_op rfl rfl rfl (OpA.asn rfl (by with_reducible conv => lhs; whnf) ?_)
  refine wpL_op rfl rfl rfl (OpA.asn rfl (by with_reducible conv => lhs; whnf) ?_)
  refine wpL_nil ?_
  refine wpA_ret ?_
  exact ⟨_, (.tmp (d := .v (.slice none 0 0)) rfl (.tmp (d := D.i 3) rfl .nil)), _, (.tup (.nilv (sz := 3) (.same rfl .nil)) .nil), ⟨([], 3), rfl, h⟩⟩
  have h := h.2 (notF b7)
  refine wpA_skip ?_
  obtain ⟨q1, h⟩ := h
  refine wpA_region ?_
  refine wpL_op rfl rfl rfl (OpA.mv rfl (by with_reducible conv => lhs; whnf) ?_)
  refine wpL_op rfl rfl rfl (OpA.load_whole rfl ti33 rfl rfl .head rfl ⟨_, rfl⟩ ?_)
  refine wpL_op rfl rfl rfl (OpA.ibuildSliceO rfl ts22 rfl (.cons (.of (sz := 3) rfl) .nil) (by decide) ?_)
  refine wpL_op rfl rfl rfl (OpA.appendW (enc := encSpan) rfl rfl rfl rfl ts22 rfl (fun _ _ => (.tail (.tail .head))) (.list (ys := ([(Span.mk ((gi l x).path) ((gi l x).n) (IntKind.i64.wrap (((gi l x).n) + 1)))] : List Span))) q1 (fun c8 pre9 => ?_))
  refine wpL_op rfl rfl rfl (OpA.asn rfl (by with_reducible conv => lhs; whnf) ?_)
  refine wpL_nil ?_
  refine wpA_region ?_
  refine wpL_op rfl rfl rfl (OpA.add rfl rfl rfl ?_)
  refine wpL_op rfl rfl rfl (OpA.mv rfl (by with_reducible conv => lhs; whnf) ?_)
  refine wpL_nil ?_
  exact ⟨(c8, pre9, ([] : List D)), ((spans ++ ([(Span.mk ((gi l x).path) ((gi l x).n) (IntKind.i64.wrap (((gi l x).n) + 1)))] : List Span)), (IntKind.i64.wrap (x + 1))), h, (Cov.asg ⟨rfl, rfl, rfl, rfl, rfl, rfl, trivial⟩), (.cons _ (.cons _ (.refl _)))⟩
  have h := h.2 (decF b3)
  refine wpA_exit ?_
  refine wpA_seq ?_
  obtain ⟨q1, h⟩ := h
  refine wpA_region ?_
  refine wpL_op rfl rfl rfl (OpA.mv rfl (by with_reducible conv => lhs; whnf) ?_)
  refine wpL_op rfl rfl rfl (OpA.callH rfl rfl rfl en23 (h1 := [(cb10, .cells 3 (winL encSpan pre10 spans post10))]) (h2 := []) (.refl _) (merge_c spans cb10 pre10 post10 q1) ?_)
  rintro _ _ ⟨⟨c10, pre11, post12⟩, rfl, rfl⟩
  refine wpL_op rfl rfl rfl (OpA.asn rfl (by with_reducible conv => lhs; whnf) ?_)
  refine wpL_op rfl rfl rfl (OpA.asn rfl (by with_reducible conv => lhs; whnf) ?_)
  refine wpL_nil ?_
  refine wpA_ret ?_
  exact ⟨_, (.tmp (d := .own c10 3 pre11.length (mergeF spans).length) rfl (.tmp (d := D.i 0) rfl .nil)), _, (.tup (.win .head (by intro hf; cases hf) (.same rfl .nil)) .nil), ⟨((mergeF spans), 0), rfl, h⟩⟩
theorem of_c (l : (List Line))  (hp0 : l.length ≤ 1000000) (hp1 : ∀ z_ ∈ l, z_.path.size ≤ 1000000) : Fun false Tryd.prog 15 [(encL 2 encLine) l] (fun d => d = .tup [(encL 3 encSpan) ((ofF l).1), D.i ((ofF l).2)]) :=
  Fun.at (enc := fun r => .tup [(encL 3 encSpan) (r.1), D.i (r.2)]) (v := ofF l) (of_w l  (fun r => r = ofF l) (of_ok l _ hp0 hp1 rfl))

set_option maxHeartbeats 2000000 in
set_option maxRecDepth 10000 in
theorem grow_w (n : Int)  (Q : (List Span) → Prop) (h : grow_vc n Q) : CallH Tryd.prog 41 [.v (.slice none 0 0), D.i n] [] (fun d h' => ∃ (r : (List Span)) (g : Nat × List D × List D), d = .own g.1 3 g.2.1.length r.length ∧ h' = [(g.1, .cells 3 (winL encSpan g.2.1 r g.2.2))] ∧ Q r) := by
  unfold grow_vc at h
  refine CallH.of_bodyP Tryd.func41 rfl Tryd.ntmps41 rfl ?_
  refine wpA_seq ?_
  refine wpA_region ?_
  refine wpL_op rfl rfl rfl (OpA.asnG (T := Span) (enc := encSpan) (sz := 3) rfl rfl (fun c4_g1 => ?_))
  refine wpL_nil ?_
  iterate 2 refine wpA_seq ?_
  refine wpA_region ?_
  refine wpL_op rfl rfl rfl (OpA.mv rfl (by with_reducible conv => lhs; whnf) ?_)
  refine wpL_op rfl rfl rfl (OpA.lss rfl rfl rfl ?_)
  refine wpL_nil ?_
  refine wpA_cond rfl (fun b2 => ?_) (fun b2 => ?_)
  have h := h.1 (decT b2)
  exact h.elim
  have h := h.2 (decF b2)
  refine wpA_skip ?_
  iterate 2 refine wpA_seq ?_
  obtain ⟨q1, q2, h⟩ := h
  refine wpA_region ?_
  refine wpL_op rfl rfl rfl (OpA.mv rfl (by with_reducible conv => lhs; whnf) ?_)
  refine wpL_op rfl rfl rfl (OpA.mv rfl (by with_reducible conv => lhs; whnf) ?_)
  refine wpL_op rfl rfl rfl (OpA.capNil rfl rfl rfl rfl rfl ts23.desc ?_)
  refine wpL_op rfl rfl rfl (OpA.mv rfl (by with_reducible conv => lhs; whnf) ?_)
  refine wpL_op rfl rfl rfl (OpA.len (n := 0) rfl rfl rfl rfl ts23.desc (.inr (.inr ⟨rfl, rfl⟩)) ?_)
  refine wpL_op rfl rfl rfl (OpA.subi rfl rfl rfl q1 ?_)
  refine wpL_op rfl rfl rfl (OpA.subi rfl rfl rfl q2 ?_)
  refine wpL_op rfl rfl rfl (OpA.asn rfl (by with_reducible conv => lhs; whnf) ?_)
  refine wpL_nil ?_
  refine wpA_seq ?_
  refine wpA_region ?_
  refine wpL_op rfl rfl rfl (OpA.mv rfl (by with_reducible conv => lhs; whnf) ?_)
  refine wpL_op rfl rfl rfl (OpA.gtr rfl rfl rfl ?_)
  refine wpL_nil ?_
  refine wpA_cond rfl (fun b3 => ?_) (fun b3 => ?_)
  have h := h.1 (decT b3)
  obtain ⟨q1, q2, h⟩ := h
  refine wpA_region ?_
  refine wpL_op rfl rfl rfl (OpA.mv rfl (by with_reducible conv => lhs; whnf) ?_)
  refine wpL_op rfl rfl rfl (OpA.mv rfl (by with_reducible conv => lhs; whnf) ?_)
  refine wpL_op rfl rfl rfl (OpA.capNil rfl rfl rfl rfl rfl ts23.desc ?_)
  refine wpL_op rfl rfl rfl (OpA.sliceNil rfl ts23 rfl rfl ?_)
  refine wpL_op rfl rfl rfl (OpA.mv rfl (by with_reducible conv => lhs; whnf) ?_)
  refine wpL_op rfl rfl rfl (OpA.appendZ (enc := encSpan) (v0 := (Span.mk ByteArray.empty 0 0)) rfl rfl rfl rfl ts23 td3 rfl rfl tz33 (fun _ _ => .agg (.cons (.v _) (.cons (.v _) (.cons (.v _) .nil)))) (.of rfl) q1 (fun c4 => ?_))
  refine wpL_op rfl rfl rfl (OpA.mv rfl (by with_reducible conv => lhs; whnf) ?_)
  refine wpL_op rfl rfl rfl (OpA.len (n := 0) rfl rfl rfl rfl ts23.desc (.inr (.inr ⟨rfl, rfl⟩)) ?_)
  refine wpL_op rfl rfl rfl (OpA.sliceV (enc := encSpan) rfl ts23 rfl (.none _) (.some rfl) q2 .head ?_)
  refine wpL_op rfl rfl rfl (OpA.asn rfl (by with_reducible conv => lhs; whnf) ?_)
  refine wpL_nil ?_
  refine wpA_seq ?_
  refine wpA_region ?_
  refine wpL_op rfl rfl rfl (OpA.mv rfl (by with_reducible conv => lhs; whnf) ?_)
  refine wpL_op rfl rfl rfl (OpA.asn rfl (by with_reducible conv => lhs; whnf) ?_)
  refine wpL_nil ?_
  refine wpA_ret ?_
  exact ⟨_, (.tmp (d := .own c4 3 (([] : List D) ++ ((List.replicate (Int.toNat (n - ((0 : Int) - 0))) (Span.mk ByteArray.empty 0 0)).take (Int.toNat 0)).map encSpan).length (lsub (List.replicate (Int.toNat (n - ((0 : Int) - 0))) (Span.mk ByteArray.empty 0 0)) 0 0).length) rfl .nil), [(c4, .cells 3 (winL encSpan (([] : List D) ++ ((List.replicate (Int.toNat (n - ((0 : Int) - 0))) (Span.mk ByteArray.empty 0 0)).take (Int.toNat 0)).map encSpan) (lsub (List.replicate (Int.toNat (n - ((0 : Int) - 0))) (Span.mk ByteArray.empty 0 0)) 0 0) (((List.replicate (Int.toNat (n - ((0 : Int) - 0))) (Span.mk ByteArray.empty 0 0)).drop (Int.toNat 0)).map encSpan ++ ([] : List D)))), (c4_g1, .cells 3 (winL encSpan ([] : List D) ([] : List Span) ([] : List D)))], [(c4, .cells 3 (winL encSpan (([] : List D) ++ ((List.replicate (Int.toNat (n - ((0 : Int) - 0))) (Span.mk ByteArray.empty 0 0)).take (Int.toNat 0)).map encSpan) (lsub (List.replicate (Int.toNat (n - ((0 : Int) - 0))) (Span.mk ByteArray.empty 0 0)) 0 0) (((List.replicate (Int.toNat (n - ((0 : Int) - 0))) (Span.mk ByteArray.empty 0 0)).drop (Int.toNat 0)).map encSpan ++ ([] : List D))))], (.refl _), (.cons₂ _ (.cons _ (.refl _))), (lsub (List.replicate (Int.toNat (n - ((0 : Int) - 0))) (Span.mk ByteArray.empty 0 0)) 0 0), (c4, (([] : List D) ++ ((List.replicate (Int.toNat (n - ((0 : Int) - 0))) (Span.mk ByteArray.empty 0 0)).take (Int.toNat 0)).map encSpan), (((List.replicate (Int.toNat (n - ((0 : Int) - 0))) (Span.mk ByteArray.empty 0 0)).drop (Int.toNat 0)).map encSpan ++ ([] : List D))), rfl, rfl, h⟩
  have h := h.2 (decF b3)
  refine wpA_skip ?_
  refine wpA_seq ?_
  refine wpA_region ?_
  refine wpL_op rfl rfl rfl (OpA.mv rfl (by with_reducible conv => lhs; whnf) ?_)
  refine wpL_op rfl rfl rfl (OpA.asnG (T := Span) (enc := encSpan) (sz := 3) rfl rfl (fun c4_g5 => ?_))
  refine wpL_nil ?_
  refine wpA_ret ?_
  exact ⟨_, (.tmp (d := .own c4_g5 3 ([] : List D).length ([] : List Span).length) rfl .nil), [(c4_g5, .cells 3 (winL encSpan ([] : List D) ([] : List Span) ([] : List D))), (c4_g1, .cells 3 (winL encSpan ([] : List D) ([] : List Span) ([] : List D)))], [(c4_g5, .cells 3 (winL encSpan ([] : List D) ([] : List Span) ([] : List D)))], (.refl _), (.cons₂ _ (.cons _ (.refl _))), ([] : List Span), (c4_g5, ([] : List D), ([] : List D)), rfl, rfl, h⟩
theorem grow_c (n : Int)  (hp0 : (0 : Int) ≤ n) (hp1 : n ≤ (1000000 : Int)) : CallH Tryd.prog 41 [.v (.slice none 0 0), D.i n] [] (fun d h' => ∃ (g : Nat × List D × List D), d = .own g.1 3 g.2.1.length (growF n).length ∧ h' = [(g.1, .cells 3 (winL encSpan g.2.1 (growF n) g.2.2))]) :=
  (grow_w n  (fun r => r = growF n) (grow_ok n _ hp0 hp1 rfl)).mono (by rintro d h' ⟨r, g, hd, hh, rfl⟩; exact ⟨g, hd, hh⟩)

set_option maxHeartbeats 2000000 in
set_option maxRecDepth 10000 in
theorem concat_w (slices : (List (List Span)))  (Q : (List Span) → Prop) (h : concat_vc slices Q) : CallH Tryd.prog 24 [(encL 1 (encL 3 encSpan)) slices] [] (fun d h' => ∃ (r : (List Span)) (g : Nat × List D × List D), d = .own g.1 3 g.2.1.length r.length ∧ h' = [(g.1, .cells 3 (winL encSpan g.2.1 r g.2.2))] ∧ Q r) := by
  unfold concat_vc at h
  refine CallH.of_bodyP Tryd.func24 rfl Tryd.ntmps24 rfl ?_
  refine wpA_seq ?_
  refine wpA_region ?_
  refine wpL_op rfl rfl rfl (OpA.asnG (T := Span) (enc := encSpan) (sz := 3) rfl rfl (fun c2_g1 => ?_))
  refine wpL_nil ?_
  refine wpA_seq ?_
  refine wpA_region ?_
  refine wpL_op rfl rfl rfl (OpA.asn rfl (by with_reducible conv => lhs; whnf) ?_)
  refine wpL_nil ?_
  iterate 2 refine wpA_seq ?_
  refine wpA_region ?_
  refine wpL_op rfl rfl rfl (OpA.mv rfl (by with_reducible conv => lhs; whnf) ?_)
  refine wpL_op rfl rfl rfl (OpA.len rfl rfl rfl rfl ts70.desc (.inl ⟨_, _, rfl, (List.length_map _).symm⟩) ?_)
  refine wpL_op rfl rfl rfl (OpA.mv rfl (by with_reducible conv => lhs; whnf) ?_)
  refine wpL_nil ?_
  refine wpA_block ?_
  refine wpA_lfp (S := Int × Int) (G := Unit) () (fun gg ss => asg [(0, (encL 1 (encL 3 encSpan)) slices), (2, .own c2_g1 3 ([] : List D).length ([] : List Span).length), (3, D.i ss.1), (9, (encL 1 (encL 3 encSpan)) slices), (10, D.i (slices.length : Int)), (11, D.i ss.2)]) (fun gg ss => [(c2_g1, .cells 3 (winL encSpan ([] : List D) ([] : List Span) ([] : List D)))]) h (Cov.asg ⟨rfl, rfl, rfl, rfl, rfl, rfl, trivial⟩) (.refl _) ?_
  rintro again2 _ ⟨size, x⟩ h
  have h : concat_L1 slices Q again2 size x := h
  unfold concat_L1 at h
  show wpA _ _ _ _ (asg [(0, (encL 1 (encL 3 encSpan)) slices), (2, .own c2_g1 3 ([] : List D).length ([] : List Span).length), (3, D.i size), (9, (encL 1 (encL 3 encSpan)) slices), (10, D.i (slices.length : Int)), (11, D.i x)]) [(c2_g1, .cells 3 (winL encSpan ([] : List D) ([] : List Span) ([] : List D)))]
  refine wpA_seq ?_
  refine wpA_region ?_
  refine wpL_op rfl rfl rfl (OpA.lss rfl rfl rfl ?_)
  refine wpL_nil ?_
  refine wpA_seq ?_
  refine wpA_cond rfl (fun b3 => ?_) (fun b3 => ?_)
  have h := h.1 (decT b3)
  refine wpA_skip ?_
  refine wpA_seq ?_
  refine wpA_block ?_
  refine wpA_seq ?_
  obtain ⟨q1, h⟩ := h
  refine wpA_region ?_
  refine wpL_op rfl rfl rfl (OpA.iixV (enc := (encL 3 encSpan)) rfl ts70 rfl rfl rfl q1 ?_)
  refine wpL_op rfl rfl rfl (OpA.iload rfl ti23 rfl rfl ?_)
  refine wpL_op rfl rfl rfl (OpA.asn rfl (by with_reducible conv => lhs; whnf) ?_)
  refine wpL_nil ?_
  refine wpA_seq ?_
  obtain ⟨q1, h⟩ := h
  refine wpA_region ?_
  refine wpL_op rfl rfl rfl (OpA.mv rfl (by with_reducible conv => lhs; whnf) ?_)
  refine wpL_op rfl rfl rfl (OpA.mv rfl (by with_reducible conv => lhs; whnf) ?_)
  refine wpL_op rfl rfl rfl (OpA.len rfl rfl rfl rfl ts23.desc (.inl ⟨_, _, rfl, (List.length_map _).symm⟩) ?_)
  refine wpL_op rfl rfl rfl (OpA.addi rfl rfl rfl q1 ?_)
  refine wpL_op rfl rfl rfl (OpA.asn rfl (by with_reducible conv => lhs; whnf) ?_)
  refine wpL_nil ?_
  refine wpA_seq ?_
  refine wpA_region ?_
  refine wpL_op rfl rfl rfl (OpA.mv rfl (by with_reducible conv => lhs; whnf) ?_)
  refine wpL_op rfl rfl rfl (OpA.lss rfl rfl rfl ?_)
  refine wpL_nil ?_
  refine wpA_cond rfl (fun b4 => ?_) (fun b4 => ?_)
  have h := h.1 (decT b4)
  exact h.elim
  have h := h.2 (decF b4)
  refine wpA_skip ?_
  obtain ⟨q1, h⟩ := h
  refine wpA_region ?_
  refine wpL_op rfl rfl rfl (OpA.addi rfl rfl rfl q1 ?_)
  refine wpL_op rfl rfl rfl (OpA.mv rfl (by with_reducible conv => lhs; whnf) ?_)
  refine wpL_nil ?_
  exact ⟨(), ((size + ((gi slices x).length : Int)), (x + 1)), h, (Cov.asg ⟨rfl, rfl, rfl, rfl, rfl, rfl, trivial⟩), (.refl _)⟩
  have h := h.2 (decF b3)
  refine wpA_exit ?_
  refine wpA_seq ?_
  obtain ⟨q1, q2, h⟩ := h
  refine wpA_region ?_
  refine wpL_op rfl rfl rfl (OpA.mv rfl (by with_reducible conv => lhs; whnf) ?_)
  refine wpL_op rfl rfl rfl (OpA.callH rfl rfl rfl en41 (h1 := []) (h2 := [(c2_g1, .cells 3 (winL encSpan ([] : List D) ([] : List Span) ([] : List D)))]) (.refl _) (grow_c size q1 q2) ?_)
  rintro _ _ ⟨⟨c5, pre6, post7⟩, rfl, rfl⟩
  refine wpL_op rfl rfl rfl (OpA.asn rfl (by with_reducible conv => lhs; whnf) ?_)
  refine wpL_nil ?_
  iterate 2 refine wpA_seq ?_
  refine wpA_region ?_
  refine wpL_op rfl rfl rfl (OpA.mv rfl (by with_reducible conv => lhs; whnf) ?_)
  refine wpL_op rfl rfl rfl (OpA.len rfl rfl rfl rfl ts70.desc (.inl ⟨_, _, rfl, (List.length_map _).symm⟩) ?_)
  refine wpL_op rfl rfl rfl (OpA.mv rfl (by with_reducible conv => lhs; whnf) ?_)
  refine wpL_nil ?_
  refine wpA_block ?_
  refine wpA_lfp (S := (List Span) × Int) (G := Nat × List D × List D) (c5, pre6, post7) (fun gg ss => asg [(2, .own c2_g1 3 ([] : List D).length ([] : List Span).length), (6, .own gg.1 3 gg.2.1.length ss.1.length), (25, (encL 1 (encL 3 encSpan)) slices), (26, D.i (slices.length : Int)), (27, D.i ss.2)]) (fun gg ss => [(gg.1, .cells 3 (winL encSpan gg.2.1 ss.1 gg.2.2)), (c2_g1, .cells 3 (winL encSpan ([] : List D) ([] : List Span) ([] : List D)))]) h (Cov.asg ⟨rfl, rfl, rfl, rfl, rfl, trivial⟩) (.refl _) ?_
  rintro again8 ⟨cb24, pre24, post24⟩ ⟨newslice, x1⟩ h
  have h : concat_L2 slices Q again8 newslice x1 := h
  unfold concat_L2 at h
  show wpA _ _ _ _ (asg [(2, .own c2_g1 3 ([] : List D).length ([] : List Span).length), (6, .own cb24 3 pre24.length newslice.length), (25, (encL 1 (encL 3 encSpan)) slices), (26, D.i (slices.length : Int)), (27, D.i x1)]) [(cb24, .cells 3 (winL encSpan pre24 newslice post24)), (c2_g1, .cells 3 (winL encSpan ([] : List D) ([] : List Span) ([] : List D)))]
  refine wpA_seq ?_
  refine wpA_region ?_
  refine wpL_op rfl rfl rfl (OpA.lss rfl rfl rfl ?_)
  refine wpL_nil ?_
  refine wpA_seq ?_
  refine wpA_cond rfl (fun b9 => ?_) (fun b9 => ?_)
  have h := h.1 (decT b9)
  refine wpA_skip ?_
  refine wpA_seq ?_
  refine wpA_block ?_
  refine wpA_seq ?_
  obtain ⟨q1, h⟩ := h
  refine wpA_region ?_
  refine wpL_op rfl rfl rfl (OpA.iixV (enc := (encL 3 encSpan)) rfl ts70 rfl rfl rfl q1 ?_)
  refine wpL_op rfl rfl rfl (OpA.iload rfl ti23 rfl rfl ?_)
  refine wpL_op rfl rfl rfl (OpA.asn rfl (by with_reducible conv => lhs; whnf) ?_)
  refine wpL_nil ?_
  obtain ⟨q1, h⟩ := h
  refine wpA_region ?_
  refine wpL_op rfl rfl rfl (OpA.mv rfl (by with_reducible conv => lhs; whnf) ?_)
  refine wpL_op rfl rfl rfl (OpA.mv rfl (by with_reducible conv => lhs; whnf) ?_)
  refine wpL_op rfl rfl rfl (OpA.appendW (enc := encSpan) rfl rfl rfl rfl ts23 rfl (fun _ _ => .head) (.list (ys := (gi slices x1))) q1 (fun c10 pre11 => ?_))
  refine wpL_op rfl rfl rfl (OpA.asn rfl (by with_reducible conv => lhs; whnf) ?_)
  refine wpL_nil ?_
  obtain ⟨q1, h⟩ := h
  refine wpA_region ?_
  refine wpL_op rfl rfl rfl (OpA.addi rfl rfl rfl q1 ?_)
  refine wpL_op rfl rfl rfl (OpA.mv rfl (by with_reducible conv => lhs; whnf) ?_)
  refine wpL_nil ?_
  exact ⟨(c10, pre11, ([] : List D)), ((newslice ++ (gi slices x1)), (x1 + 1)), h, (Cov.asg ⟨rfl, rfl, rfl, rfl, rfl, trivial⟩), (.refl _)⟩
  have h := h.2 (decF b9)
  refine wpA_exit ?_
  refine wpA_seq ?_
  refine wpA_region ?_
  refine wpL_op rfl rfl rfl (OpA.mv rfl (by with_reducible conv => lhs; whnf) ?_)
  refine wpL_op rfl rfl rfl (OpA.asn rfl (by with_reducible conv => lhs; whnf) ?_)
  refine wpL_nil ?_
  refine wpA_ret ?_
  exact ⟨_, (.tmp (d := .own cb24 3 pre24.length newslice.length) rfl .nil), [(cb24, .cells 3 (winL encSpan pre24 newslice post24)), (c2_g1, .cells 3 (winL encSpan ([] : List D) ([] : List Span) ([] : List D)))], [(cb24, .cells 3 (winL encSpan pre24 newslice post24))], (.refl _), (.cons₂ _ (.cons _ (.refl _))), newslice, (cb24, pre24, post24), rfl, rfl, h⟩
theorem concat_c (slices : (List (List Span)))  (hp0 : slices.length ≤ 10) (hp1 : (List.flatten slices).length ≤ 1000000) : CallH Tryd.prog 24 [(encL 1 (encL 3 encSpan)) slices] [] (fun d h' => ∃ (g : Nat × List D × List D), d = .own g.1 3 g.2.1.length (List.flatten slices).length ∧ h' = [(g.1, .cells 3 (winL encSpan g.2.1 (List.flatten slices) g.2.2))]) :=
  (concat_w slices  (fun r => r = (List.flatten slices)) (concat_ok slices _ hp0 hp1 rfl)).mono (by rintro d h' ⟨r, g, hd, hh, rfl⟩; exact ⟨g, hd, hh⟩)
end Go.Proofs.YtciihmjdccecgaaDoor
