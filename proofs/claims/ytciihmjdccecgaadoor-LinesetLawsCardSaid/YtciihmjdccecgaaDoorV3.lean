/-
  walks and contracts
-/
import Derived.Test.YtciihmjdccecgaaDoorV2
set_option linter.all false
namespace Go.Proofs.YtciihmjdccecgaaDoor
open Go Go.Lic Go.Sort Go.Proofs
attribute [local irreducible] badR behindF cmpB cmpI countF countL fewF growF has1F hasF hasPrefF indexF insideF itoaF lenF meetF mergeF minusF ofF orF partF pathF printF spanCmp splitF splitG underF unionF validF



set_option maxHeartbeats 2000000 in
set_option maxRecDepth 10000 in
theorem valid_w (l : (List Span))  (Q : Bool → Prop) (h : valid_vc l Q) : Fun false Tryd.prog 6 [(encL 3 encSpan) l] (fun d => ∃ r, d = D.b r ∧ Q r) := by
  unfold valid_vc at h
  refine Fun.of_body Tryd.func6 rfl Tryd.ntmps6 rfl ?_
  refine wpA_seq ?_
  refine wpA_region ?_
  refine wpL_op rfl rfl rfl (OpA.asn rfl (by with_reducible conv => lhs; whnf) ?_)
  refine wpL_nil ?_
  iterate 2 refine wpA_seq ?_
  refine wpA_region ?_
  refine wpL_op rfl rfl rfl (OpA.mv rfl (by with_reducible conv => lhs; whnf) ?_)
  refine wpL_op rfl rfl rfl (OpA.len rfl rfl rfl rfl ts23.desc (.inl ⟨_, _, rfl, (List.length_map _).symm⟩) ?_)
  refine wpL_op rfl rfl rfl (OpA.mv rfl (by with_reducible conv => lhs; whnf) ?_)
  refine wpL_nil ?_
  refine wpA_block ?_
  refine wpA_lfp (S := Int) (G := Unit) () (fun gg ss => asg [(0, (encL 3 encSpan) l), (2, D.b false), (5, (encL 3 encSpan) l), (6, D.i (l.length : Int)), (7, D.i ss)]) (fun gg ss => []) h (Cov.asg ⟨rfl, rfl, rfl, rfl, rfl, trivial⟩) (.refl _) ?_
  rintro again1 _ x h
  have h : valid_L1 l Q again1 x := h
  unfold valid_L1 at h
  show wpA _ _ _ _ (asg [(0, (encL 3 encSpan) l), (2, D.b false), (5, (encL 3 encSpan) l), (6, D.i (l.length : Int)), (7, D.i x)]) []
  refine wpA_seq ?_
  refine wpA_region ?_
  refine wpL_op rfl rfl rfl (OpA.lss rfl rfl rfl ?_)
  refine wpL_nil ?_
  refine wpA_seq ?_
  refine wpA_cond rfl (fun b2 => ?_) (fun b2 => ?_)
  have h := h.1 (decT b2)
  refine wpA_skip ?_
  refine wpA_seq ?_
  refine wpA_block ?_
  refine wpA_seq ?_
  obtain ⟨q1, h⟩ := h
  refine wpA_region ?_
  refine wpL_op rfl rfl rfl (OpA.mv rfl (by with_reducible conv => lhs; whnf) ?_)
  refine wpL_op rfl rfl rfl (OpA.iixV (enc := encSpan) rfl ts23 rfl rfl rfl q1 ?_)
  refine wpL_op rfl rfl rfl (OpA.iload_whole rfl ti33 rfl ⟨_, rfl, rfl⟩ ?_)
  refine wpL_op rfl rfl rfl (OpA.alloc (sz := 3) (d := encSpan (Span.mk ByteArray.empty 0 0)) rfl tz33 (fun _ _ => .agg (.cons (.v _) (.cons (.v _) (.cons (.v _) .nil)))) (.of rfl) (fun c3 _ => ?_))
  refine wpL_op rfl rfl rfl (OpA.asn rfl (by with_reducible conv => lhs; whnf) ?_)
  refine wpL_eff rfl rfl (OpA.storeW rfl ti33 rfl (by with_reducible conv => lhs; whnf) (.of rfl) rfl rfl .head ?_)
  refine wpL_nil ?_
  refine wpA_seq ?_
  obtain ⟨q1, q2, h⟩ := h
  refine wpA_mid (asg [(0, (encL 3 encSpan) l), (2, D.b false), (5, (encL 3 encSpan) l), (6, D.i (l.length : Int)), (7, D.i x), (34, D.b (((!(insideF (gi l x))) || ((decide (x > 0)) && (!(behindF (gi l (x - 1)) (gi l x))))) || ((pathF ((gi l x).path)) != 0)))]) [(c3, .cells 3 [encSpan (gi l x)])] ?_ ?_
  refine wpA_draw (m := 23) mo (by kernel_rfl) rfl ?_
  refine DetK.op rfl (OpA.load_whole rfl ti33 rfl rfl .head rfl ⟨_, rfl⟩ ⟨rfl, rfl⟩) ?_
  refine DetK.op rfl (OpA.call rfl rfl rfl en20 (inside_c (gi l x) ) (by rintro _ rfl; exact ⟨rfl, rfl⟩)) ?_
  refine DetK.op rfl (OpA.not rfl rfl ⟨rfl, rfl⟩) ?_
  refine DetK.op rfl (OpA.mv rfl (by with_reducible conv => lhs; whnf) ⟨rfl, rfl⟩) ?_
  refine DetK_split (s := 15) rfl (fun b5 => ?_) (fun b5 => ?_)
  iterate 3 refine DetK.skip rfl rfl rfl rfl ?_
  iterate 8 refine DetK.skipU rfl rfl rfl ?_
  refine DetK.skip rfl rfl rfl rfl ?_
  refine DetK.op rfl (OpA.pck rfl rfl (by with_reducible conv => lhs; whnf) ⟨rfl, rfl⟩) ?_
  refine DetK.op rfl (OpA.mv rfl (by with_reducible conv => lhs; whnf) ⟨rfl, rfl⟩) ?_
  iterate 4 refine DetK.skip rfl rfl rfl rfl ?_
  refine DetK.op rfl (OpA.pck rfl rfl (by with_reducible conv => lhs; whnf) ⟨rfl, rfl⟩) ?_
  refine DetK.nil ?_
  refine wpL_nil ?_
  exact ⟨(Cov.asg ⟨rfl, rfl, rfl, rfl, rfl, (congrArg D.b (Eq.symm (orS (orS b5)))), trivial⟩), (.refl _)⟩
  refine DetK.opg rfl rfl rfl rfl (OpA.mv rfl (by with_reducible conv => lhs; whnf) ⟨rfl, rfl⟩) ?_
  refine DetK.opg rfl rfl rfl rfl (OpA.gtr rfl rfl rfl ⟨rfl, rfl⟩) ?_
  refine DetK.opg rfl rfl rfl rfl (OpA.mv rfl (by with_reducible conv => lhs; whnf) ⟨rfl, rfl⟩) ?_
  refine DetK_split (s := 18) rfl (fun b6 => ?_) (fun b6 => ?_)
  iterate 2 refine DetK.opg rfl rfl rfl rfl (OpA.mv rfl (by with_reducible conv => lhs; whnf) ⟨rfl, rfl⟩) ?_
  refine DetK.opg rfl rfl rfl rfl (OpA.subi rfl rfl rfl ((q1 (notF b5)) (decT b6)).1 ⟨rfl, rfl⟩) ?_
  refine DetK.opg rfl rfl rfl rfl (OpA.iixV (enc := encSpan) rfl ts23 rfl rfl rfl ((q1 (notF b5)) (decT b6)).2 ⟨rfl, rfl⟩) ?_
  refine DetK.opg rfl rfl rfl rfl (OpA.iload_whole rfl ti33 rfl ⟨_, rfl, rfl⟩ ⟨rfl, rfl⟩) ?_
  refine DetK.opg rfl rfl rfl rfl (OpA.load_whole rfl ti33 rfl rfl .head rfl ⟨_, rfl⟩ ⟨rfl, rfl⟩) ?_
  refine DetK.opg rfl rfl rfl rfl (OpA.call rfl rfl rfl en21 (behind_c (gi l (x - 1)) (gi l x) ) (by rintro _ rfl; exact ⟨rfl, rfl⟩)) ?_
  refine DetK.opg rfl rfl rfl rfl (OpA.not rfl rfl ⟨rfl, rfl⟩) ?_
  refine DetK.opg rfl rfl rfl rfl (OpA.pck rfl rfl (by with_reducible conv => lhs; whnf) ⟨rfl, rfl⟩) ?_
  refine DetK.op rfl (OpA.pck rfl rfl (by with_reducible conv => lhs; whnf) ⟨rfl, rfl⟩) ?_
  refine DetK.op rfl (OpA.mv rfl (by with_reducible conv => lhs; whnf) ⟨rfl, rfl⟩) ?_
  refine DetK_split (s := 29) rfl (fun b7 => ?_) (fun b7 => ?_)
  iterate 4 refine DetK.skip rfl rfl rfl rfl ?_
  refine DetK.op rfl (OpA.pck rfl rfl (by with_reducible conv => lhs; whnf) ⟨rfl, rfl⟩) ?_
  refine DetK.nil ?_
  refine wpL_nil ?_
  exact ⟨(Cov.asg ⟨rfl, rfl, rfl, rfl, rfl, (congrArg D.b (Eq.symm (orS (orN b5 (andN b6 b7))))), trivial⟩), (.refl _)⟩
  refine DetK.opg rfl rfl rfl rfl (OpA.fieldAddr rfl tf33_0 rfl ⟨rfl, rfl⟩) ?_
  refine DetK.opg rfl rfl rfl rfl (OpA.load rfl ti9 rfl .head rfl rfl ⟨rfl, rfl⟩) ?_
  refine DetK.opg rfl rfl rfl rfl (OpA.call rfl rfl rfl en22 (path_c ((gi l x).path) (q2 ⟨(notF b5), (.inr (notF b7))⟩)) (by rintro _ rfl; exact ⟨rfl, rfl⟩)) ?_
  refine DetK.opg rfl rfl rfl rfl (OpA.neq rfl rfl rfl ⟨rfl, rfl⟩) ?_
  refine DetK.op rfl (OpA.pck rfl rfl (by with_reducible conv => lhs; whnf) ⟨rfl, rfl⟩) ?_
  refine DetK.nil ?_
  refine wpL_nil ?_
  exact ⟨(Cov.asg ⟨rfl, rfl, rfl, rfl, rfl, (congrArg D.b (Eq.symm (orN (orN b5 (andN b6 b7)) rfl))), trivial⟩), (.refl _)⟩
  iterate 8 refine DetK.skip rfl rfl rfl rfl ?_
  refine DetK.opg rfl rfl rfl rfl (OpA.pck rfl rfl (by with_reducible conv => lhs; whnf) ⟨rfl, rfl⟩) ?_
  refine DetK.op rfl (OpA.pck rfl rfl (by with_reducible conv => lhs; whnf) ⟨rfl, rfl⟩) ?_
  refine DetK.op rfl (OpA.mv rfl (by with_reducible conv => lhs; whnf) ⟨rfl, rfl⟩) ?_
  refine DetK.opg rfl rfl rfl rfl (OpA.fieldAddr rfl tf33_0 rfl ⟨rfl, rfl⟩) ?_
  refine DetK.opg rfl rfl rfl rfl (OpA.load rfl ti9 rfl .head rfl rfl ⟨rfl, rfl⟩) ?_
  refine DetK.opg rfl rfl rfl rfl (OpA.call rfl rfl rfl en22 (path_c ((gi l x).path) (q2 ⟨(notF b5), (.inl (decF b6))⟩)) (by rintro _ rfl; exact ⟨rfl, rfl⟩)) ?_
  refine DetK.opg rfl rfl rfl rfl (OpA.neq rfl rfl rfl ⟨rfl, rfl⟩) ?_
  refine DetK.op rfl (OpA.pck rfl rfl (by with_reducible conv => lhs; whnf) ⟨rfl, rfl⟩) ?_
  refine DetK.nil ?_
  refine wpL_nil ?_
  exact ⟨(Cov.asg ⟨rfl, rfl, rfl, rfl, rfl, (congrArg D.b (Eq.symm (orN (orN b5 (andS b6)) rfl))), trivial⟩), (.refl _)⟩
  show wpA _ _ _ _ (asg [(0, (encL 3 encSpan) l), (2, D.b false), (5, (encL 3 encSpan) l), (6, D.i (l.length : Int)), (7, D.i x), (34, D.b (((!(insideF (gi l x))) || ((decide (x > 0)) && (!(behindF (gi l (x - 1)) (gi l x))))) || ((pathF ((gi l x).path)) != 0)))]) [(c3, .cells 3 [encSpan (gi l x)])]
  refine wpA_cond rfl (fun b4 => ?_) (fun b4 => ?_)
  have h := h.1 ((or0 b4).imp (fun hh => ((or0 hh).imp (fun hh => (notT hh)) (fun hh => ⟨(decT (and1 hh)), (notT (and2 hh))⟩))) (fun hh => (bneT hh)))
  refine wpA_seq ?_
  refine wpA_region ?_
  refine wpL_op rfl rfl rfl (OpA.asn rfl (by with_reducible conv => lhs; whnf) ?_)
  refine wpL_nil ?_
  refine wpA_ret ?_
  exact ⟨_, (.tmp (d := D.b false) rfl .nil), _, (.same rfl .nil), ⟨false, rfl, h⟩⟩
  have h := h.2 ⟨⟨(notF (or1 (or1 b4))), ((and0 (or2 (or1 b4))).imp (fun hh => (decF hh)) (fun hh => (notF hh)))⟩, (bneF (or2 b4))⟩
  refine wpA_skip ?_
  obtain ⟨q1, h⟩ := h
  refine wpA_region ?_
  refine wpL_op rfl rfl rfl (OpA.addi rfl rfl rfl q1 ?_)
  refine wpL_op rfl rfl rfl (OpA.mv rfl (by with_reducible conv => lhs; whnf) ?_)
  refine wpL_nil ?_
  exact ⟨(), (x + 1), h, (Cov.asg ⟨rfl, rfl, rfl, rfl, rfl, trivial⟩), (.cons _ (.refl _))⟩
  have h := h.2 (decF b2)
  refine wpA_exit ?_
  refine wpA_seq ?_
  refine wpA_region ?_
  refine wpL_op rfl rfl rfl (OpA.asn rfl (by with_reducible conv => lhs; whnf) ?_)
  refine wpL_nil ?_
  refine wpA_ret ?_
  exact ⟨_, (.tmp (d := D.b true) rfl .nil), _, (.same rfl .nil), ⟨true, rfl, h⟩⟩
theorem valid_c (l : (List Span))  (hp0 : l.length ≤ 1000000) (hp1 : ∀ z_ ∈ l, z_.path.size ≤ 1000000) : Fun false Tryd.prog 6 [(encL 3 encSpan) l] (fun d => d = D.b (validF l)) :=
  Fun.at (enc := fun r => D.b r) (v := validF l) (valid_w l  (fun r => r = validF l) (valid_ok l _ hp0 hp1 rfl))

set_option maxHeartbeats 2000000 in
set_option maxRecDepth 10000 in
theorem common_w (a : (List Span)) (b : (List Span))  (Q : (List Span) → Prop) (h : common_vc a b Q) : Fun false Tryd.prog 25 [(encL 3 encSpan) a, (encL 3 encSpan) b] (fun d => ∃ r, d = (encL 3 encSpan) r ∧ Q r) := by
  unfold common_vc at h
  refine Fun.of_body Tryd.func25 rfl Tryd.ntmps25 rfl ?_
  refine wpA_seq ?_
  refine wpA_region ?_
  refine wpL_op rfl rfl rfl (OpA.asn rfl (by with_reducible conv => lhs; whnf) ?_)
  refine wpL_nil ?_
  refine wpA_seq ?_
  refine wpA_region ?_
  refine wpL_op rfl rfl rfl (OpA.asnG (T := Span) (enc := encSpan) (sz := 3) rfl rfl (fun c5_g1 => ?_))
  refine wpL_nil ?_
  iterate 2 refine wpA_seq ?_
  refine wpA_region ?_
  refine wpL_op rfl rfl rfl (OpA.asn rfl (by with_reducible conv => lhs; whnf) ?_)
  refine wpL_op rfl rfl rfl (OpA.asn rfl (by with_reducible conv => lhs; whnf) ?_)
  refine wpL_nil ?_
  refine wpA_block ?_
  refine wpA_lfp (S := (List Span) × Int × Int) (G := Nat × List D × List D) (c5_g1, ([] : List D), ([] : List D)) (fun gg ss => asg [(0, (encL 3 encSpan) a), (1, (encL 3 encSpan) b), (4, .v (.slice none 0 0)), (5, .own gg.1 3 gg.2.1.length ss.1.length), (6, D.i ss.2.1), (7, D.i ss.2.2)]) (fun gg ss => [(gg.1, .cells 3 (winL encSpan gg.2.1 ss.1 gg.2.2))]) h (Cov.asg ⟨rfl, rfl, rfl, rfl, rfl, rfl, trivial⟩) (.refl _) ?_
  rintro again2 ⟨cb5, pre5, post5⟩ ⟨out, i, k⟩ h
  have h : common_L1 a b Q again2 out i k := h
  unfold common_L1 at h
  show wpA _ _ _ _ (asg [(0, (encL 3 encSpan) a), (1, (encL 3 encSpan) b), (4, .v (.slice none 0 0)), (5, .own cb5 3 pre5.length out.length), (6, D.i i), (7, D.i k)]) [(cb5, .cells 3 (winL encSpan pre5 out post5))]
  iterate 2 refine wpA_seq ?_
  refine wpA_mid (asg [(0, (encL 3 encSpan) a), (1, (encL 3 encSpan) b), (4, .v (.slice none 0 0)), (5, .own cb5 3 pre5.length out.length), (6, D.i i), (7, D.i k), (20, D.b ((decide (i < (a.length : Int))) && (decide (k < (b.length : Int)))))]) [(cb5, .cells 3 (winL encSpan pre5 out post5))] ?_ ?_
  refine wpA_region ?_
  refine wpL_op rfl rfl rfl (OpA.mv rfl (by with_reducible conv => lhs; whnf) ?_)
  refine wpL_op rfl rfl rfl (OpA.mv rfl (by with_reducible conv => lhs; whnf) ?_)
  refine wpL_op rfl rfl rfl (OpA.len rfl rfl rfl rfl ts23.desc (.inl ⟨_, _, rfl, (List.length_map _).symm⟩) ?_)
  refine wpL_op rfl rfl rfl (OpA.lss rfl rfl rfl ?_)
  refine wpL_op rfl rfl rfl (OpA.mv rfl (by with_reducible conv => lhs; whnf) ?_)
  refine wpL_split (s := 15) rfl (fun b152 => ?_) (fun b152 => ?_)
  refine wpL_opg rfl rfl rfl rfl rfl rfl (OpA.mv rfl (by with_reducible conv => lhs; whnf) ?_)
  refine wpL_opg rfl rfl rfl rfl rfl rfl (OpA.mv rfl (by with_reducible conv => lhs; whnf) ?_)
  refine wpL_opg rfl rfl rfl rfl rfl rfl (OpA.len rfl rfl rfl rfl ts23.desc (.inl ⟨_, _, rfl, (List.length_map _).symm⟩) ?_)
  refine wpL_opg rfl rfl rfl rfl rfl rfl (OpA.lss rfl rfl rfl ?_)
  refine wpL_op rfl rfl rfl (OpA.pck rfl rfl (by with_reducible conv => lhs; whnf) ?_)
  refine wpL_nil ?_
  exact ⟨(Cov.asg ⟨rfl, rfl, rfl, rfl, rfl, rfl, (congrArg D.b (Eq.symm (andN b152 rfl))), trivial⟩), (.refl _)⟩
  iterate 4 refine wpL_skip rfl rfl rfl rfl rfl rfl ?_
  refine wpL_op rfl rfl rfl (OpA.pck rfl rfl (by with_reducible conv => lhs; whnf) ?_)
  refine wpL_nil ?_
  exact ⟨(Cov.asg ⟨rfl, rfl, rfl, rfl, rfl, rfl, (congrArg D.b (Eq.symm (andS b152))), trivial⟩), (.refl _)⟩
  show wpA _ _ _ _ (asg [(0, (encL 3 encSpan) a), (1, (encL 3 encSpan) b), (4, .v (.slice none 0 0)), (5, .own cb5 3 pre5.length out.length), (6, D.i i), (7, D.i k), (20, D.b ((decide (i < (a.length : Int))) && (decide (k < (b.length : Int)))))]) [(cb5, .cells 3 (winL encSpan pre5 out post5))]
  refine wpA_cond rfl (fun b3 => ?_) (fun b3 => ?_)
  have h := h.1 ⟨(decT (and1 b3)), (decT (and2 b3))⟩
  refine wpA_skip ?_
  refine wpA_block ?_
  refine wpA_seq ?_
  obtain ⟨q2_0, q6_0, h⟩ := h
  refine wpA_states mo (fun W hW => ?_)
  refine flip_goal (a := ∀ (c94 : Nat) (c104 : Nat), W 0 (lv 12 4095) (asg [(0, (encL 3 encSpan) a), (1, (encL 3 encSpan) b), (4, .v (.slice none 0 0)), (5, .own cb5 3 pre5.length out.length), (6, D.i i), (7, D.i k), (8, .ptr c94 3 0 0), (9, .ptr c104 3 0 0)]) [(c104, .cells 3 [encSpan (gi b k)]), (c94, .cells 3 [encSpan (gi a i)]), (cb5, .cells 3 (winL encSpan pre5 out post5))]) (fun s0 => ?_) ?_
  have s1 : ∀ (c94 : Nat) (c104 : Nat), W 1 (lv 12 2047) (asg [(0, (encL 3 encSpan) a), (1, (encL 3 encSpan) b), (4, .v (.slice none 0 0)), (5, .own cb5 3 pre5.length out.length), (6, D.i i), (7, D.i k), (8, .ptr c94 3 0 0), (9, .ptr c104 3 0 0), (28, encSpan (gi b k))]) [(c104, .cells 3 [encSpan (Span.mk ByteArray.empty 0 0)]), (c94, .cells 3 [encSpan (gi a i)]), (cb5, .cells 3 (winL encSpan pre5 out post5))] := fun c94 c104 => wpS_of hW (by refine wpS_step (rs := [11]) (by kernel_rfl) rfl ⟨?_, trivial⟩; refine wpS_eff (i := 11) (li' := (lv 12 4095)) rfl rfl rfl (by kernel_rfl) (OpA.storeW rfl ti33 rfl (by with_reducible conv => lhs; whnf) (.of rfl) rfl rfl .head ?_); exact wpS_to hW (s0 c94 c104) (Cov.asg ⟨rfl, rfl, rfl, rfl, rfl, rfl, rfl, rfl, trivial⟩) (.refl _))
  have s2 : ∀ (c94 : Nat) (c104 : Nat), W 2 (lv 12 1023) (asg [(0, (encL 3 encSpan) a), (1, (encL 3 encSpan) b), (4, .v (.slice none 0 0)), (5, .own cb5 3 pre5.length out.length), (6, D.i i), (7, D.i k), (8, .ptr c94 3 0 0), (9, .ptr c104 3 0 0), (24, encSpan (gi a i)), (28, encSpan (gi b k))]) [(c104, .cells 3 [encSpan (Span.mk ByteArray.empty 0 0)]), (c94, .cells 3 [encSpan (Span.mk ByteArray.empty 0 0)]), (cb5, .cells 3 (winL encSpan pre5 out post5))] := fun c94 c104 => wpS_of hW (by refine wpS_step (rs := [10]) (by kernel_rfl) rfl ⟨?_, trivial⟩; refine wpS_eff (i := 10) (li' := (lv 12 2047)) rfl rfl rfl (by kernel_rfl) (OpA.storeW rfl ti33 rfl (by with_reducible conv => lhs; whnf) (.of rfl) rfl rfl (.tail .head) ?_); exact wpS_to hW (s1 c94 c104) (Cov.asg ⟨rfl, rfl, rfl, rfl, rfl, rfl, rfl, rfl, rfl, trivial⟩) (.refl _))
  have s3 : ∀ (c94 : Nat) (c104 : Nat), W 2 (lv 12 1919) (asg [(0, (encL 3 encSpan) a), (1, (encL 3 encSpan) b), (4, .v (.slice none 0 0)), (5, .own cb5 3 pre5.length out.length), (6, D.i i), (7, D.i k), (8, .ptr c94 3 0 0), (9, .ptr c104 3 0 0), (27, .iptr (encSpan (gi b k)) 0)]) [(c104, .cells 3 [encSpan (Span.mk ByteArray.empty 0 0)]), (c94, .cells 3 [encSpan (gi a i)]), (cb5, .cells 3 (winL encSpan pre5 out post5))] := fun c94 c104 => wpS_of hW (by refine wpS_step (rs := [7]) (by kernel_rfl) rfl ⟨?_, trivial⟩; refine wpS_op (i := 7) (li' := (lv 12 2047)) rfl rfl rfl rfl (by kernel_rfl) (OpA.iload_whole rfl ti33 rfl ⟨_, rfl, rfl⟩ ?_); exact wpS_to hW (s1 c94 c104) (Cov.asg ⟨rfl, rfl, rfl, rfl, rfl, rfl, rfl, rfl, rfl, trivial⟩) (.refl _))
  have s4 : ∀ (c94 : Nat), W 3 (lv 12 511) (asg [(0, (encL 3 encSpan) a), (1, (encL 3 encSpan) b), (4, .v (.slice none 0 0)), (5, .own cb5 3 pre5.length out.length), (6, D.i i), (7, D.i k), (8, .ptr c94 3 0 0), (24, encSpan (gi a i)), (28, encSpan (gi b k))]) [(c94, .cells 3 [encSpan (Span.mk ByteArray.empty 0 0)]), (cb5, .cells 3 (winL encSpan pre5 out post5))] := fun c94 => wpS_of hW (by refine wpS_step (rs := [9]) (by kernel_rfl) rfl ⟨?_, trivial⟩; refine wpS_op (i := 9) (li' := (lv 12 1023)) rfl rfl rfl rfl (by kernel_rfl) (OpA.alloc (sz := 3) (d := encSpan (Span.mk ByteArray.empty 0 0)) rfl tz33 (fun _ _ => .agg (.cons (.v _) (.cons (.v _) (.cons (.v _) .nil)))) (.of rfl) (fun c104 _ => ?_)); exact wpS_to hW (s2 c94 c104) (Cov.asg ⟨rfl, rfl, rfl, rfl, rfl, rfl, rfl, rfl, rfl, rfl, trivial⟩) (.refl _))
  have s5 : ∀ (c104 : Nat), W 3 (lv 12 767) (asg [(0, (encL 3 encSpan) a), (1, (encL 3 encSpan) b), (4, .v (.slice none 0 0)), (5, .own cb5 3 pre5.length out.length), (6, D.i i), (7, D.i k), (9, .ptr c104 3 0 0), (24, encSpan (gi a i)), (28, encSpan (gi b k))]) [(c104, .cells 3 [encSpan (Span.mk ByteArray.empty 0 0)]), (cb5, .cells 3 (winL encSpan pre5 out post5))] := fun c104 => wpS_of hW (by refine wpS_step (rs := [8]) (by kernel_rfl) rfl ⟨?_, trivial⟩; refine wpS_op (i := 8) (li' := (lv 12 1023)) rfl rfl rfl rfl (by kernel_rfl) (OpA.alloc (sz := 3) (d := encSpan (Span.mk ByteArray.empty 0 0)) rfl tz33 (fun _ _ => .agg (.cons (.v _) (.cons (.v _) (.cons (.v _) .nil)))) (.of rfl) (fun c94 _ => ?_)); exact wpS_to hW (s2 c94 c104) (Cov.asg ⟨rfl, rfl, rfl, rfl, rfl, rfl, rfl, rfl, rfl, rfl, trivial⟩) pull1)
  have s6 : ∀ (c94 : Nat) (c104 : Nat), W 3 (lv 12 895) (asg [(0, (encL 3 encSpan) a), (1, (encL 3 encSpan) b), (4, .v (.slice none 0 0)), (5, .own cb5 3 pre5.length out.length), (6, D.i i), (7, D.i k), (8, .ptr c94 3 0 0), (9, .ptr c104 3 0 0), (24, encSpan (gi a i)), (27, .iptr (encSpan (gi b k)) 0)]) [(c104, .cells 3 [encSpan (Span.mk ByteArray.empty 0 0)]), (c94, .cells 3 [encSpan (Span.mk ByteArray.empty 0 0)]), (cb5, .cells 3 (winL encSpan pre5 out post5))] := fun c94 c104 => wpS_of hW (by refine wpS_step (rs := [7, 10]) (by kernel_rfl) rfl ⟨?_, ?_, trivial⟩; refine wpS_op (i := 7) (li' := (lv 12 1023)) rfl rfl rfl rfl (by kernel_rfl) (OpA.iload_whole rfl ti33 rfl ⟨_, rfl, rfl⟩ ?_); exact wpS_to hW (s2 c94 c104) (Cov.asg ⟨rfl, rfl, rfl, rfl, rfl, rfl, rfl, rfl, rfl, rfl, trivial⟩) (.refl _); refine wpS_eff (i := 10) (li' := (lv 12 1919)) rfl rfl rfl (by kernel_rfl) (OpA.storeW rfl ti33 rfl (by with_reducible conv => lhs; whnf) (.of rfl) rfl rfl (.tail .head) ?_); exact wpS_to hW (s3 c94 c104) (Cov.asg ⟨rfl, rfl, rfl, rfl, rfl, rfl, rfl, rfl, rfl, trivial⟩) (.refl _))
  have s7 : ∀ (c94 : Nat) (c104 : Nat), W 3 (lv 12 1855) (asg [(0, (encL 3 encSpan) a), (1, (encL 3 encSpan) b), (4, .v (.slice none 0 0)), (5, .own cb5 3 pre5.length out.length), (6, D.i i), (7, D.i k), (8, .ptr c94 3 0 0), (9, .ptr c104 3 0 0), (25, (encL 3 encSpan) b), (26, D.i k)]) [(c104, .cells 3 [encSpan (Span.mk ByteArray.empty 0 0)]), (c94, .cells 3 [encSpan (gi a i)]), (cb5, .cells 3 (winL encSpan pre5 out post5))] := fun c94 c104 => wpS_of hW (by refine wpS_step (rs := [6]) (by kernel_rfl) rfl ⟨?_, trivial⟩; refine wpS_op (i := 6) (li' := (lv 12 1919)) rfl rfl rfl rfl (by kernel_rfl) (OpA.iixV (enc := encSpan) rfl ts23 rfl rfl rfl q6_0 ?_); exact wpS_to hW (s3 c94 c104) (Cov.asg ⟨rfl, rfl, rfl, rfl, rfl, rfl, rfl, rfl, rfl, trivial⟩) (.refl _))
  have s8 : ∀ (c94 : Nat) (c104 : Nat), W 3 (lv 12 1015) (asg [(0, (encL 3 encSpan) a), (1, (encL 3 encSpan) b), (4, .v (.slice none 0 0)), (5, .own cb5 3 pre5.length out.length), (6, D.i i), (7, D.i k), (8, .ptr c94 3 0 0), (9, .ptr c104 3 0 0), (23, .iptr (encSpan (gi a i)) 0), (28, encSpan (gi b k))]) [(c104, .cells 3 [encSpan (Span.mk ByteArray.empty 0 0)]), (c94, .cells 3 [encSpan (Span.mk ByteArray.empty 0 0)]), (cb5, .cells 3 (winL encSpan pre5 out post5))] := fun c94 c104 => wpS_of hW (by refine wpS_step (rs := [3]) (by kernel_rfl) rfl ⟨?_, trivial⟩; refine wpS_op (i := 3) (li' := (lv 12 1023)) rfl rfl rfl rfl (by kernel_rfl) (OpA.iload_whole rfl ti33 rfl ⟨_, rfl, rfl⟩ ?_); exact wpS_to hW (s2 c94 c104) (Cov.asg ⟨rfl, rfl, rfl, rfl, rfl, rfl, rfl, rfl, rfl, rfl, trivial⟩) (.refl _))
  have s9 : W 4 (lv 12 255) (asg [(0, (encL 3 encSpan) a), (1, (encL 3 encSpan) b), (4, .v (.slice none 0 0)), (5, .own cb5 3 pre5.length out.length), (6, D.i i), (7, D.i k), (24, encSpan (gi a i)), (28, encSpan (gi b k))]) [(cb5, .cells 3 (winL encSpan pre5 out post5))] := wpS_of hW (by refine wpS_step (rs := [8, 9]) (by kernel_rfl) rfl ⟨?_, ?_, trivial⟩; refine wpS_op (i := 8) (li' := (lv 12 511)) rfl rfl rfl rfl (by kernel_rfl) (OpA.alloc (sz := 3) (d := encSpan (Span.mk ByteArray.empty 0 0)) rfl tz33 (fun _ _ => .agg (.cons (.v _) (.cons (.v _) (.cons (.v _) .nil)))) (.of rfl) (fun c94 _ => ?_)); exact wpS_to hW (s4 c94) (Cov.asg ⟨rfl, rfl, rfl, rfl, rfl, rfl, rfl, rfl, rfl, trivial⟩) (.refl _); refine wpS_op (i := 9) (li' := (lv 12 767)) rfl rfl rfl rfl (by kernel_rfl) (OpA.alloc (sz := 3) (d := encSpan (Span.mk ByteArray.empty 0 0)) rfl tz33 (fun _ _ => .agg (.cons (.v _) (.cons (.v _) (.cons (.v _) .nil)))) (.of rfl) (fun c104 _ => ?_)); exact wpS_to hW (s5 c104) (Cov.asg ⟨rfl, rfl, rfl, rfl, rfl, rfl, rfl, rfl, rfl, trivial⟩) (.refl _))
  have s10 : ∀ (c94 : Nat), W 4 (lv 12 383) (asg [(0, (encL 3 encSpan) a), (1, (encL 3 encSpan) b), (4, .v (.slice none 0 0)), (5, .own cb5 3 pre5.length out.length), (6, D.i i), (7, D.i k), (8, .ptr c94 3 0 0), (24, encSpan (gi a i)), (27, .iptr (encSpan (gi b k)) 0)]) [(c94, .cells 3 [encSpan (Span.mk ByteArray.empty 0 0)]), (cb5, .cells 3 (winL encSpan pre5 out post5))] := fun c94 => wpS_of hW (by refine wpS_step (rs := [7, 9]) (by kernel_rfl) rfl ⟨?_, ?_, trivial⟩; refine wpS_op (i := 7) (li' := (lv 12 511)) rfl rfl rfl rfl (by kernel_rfl) (OpA.iload_whole rfl ti33 rfl ⟨_, rfl, rfl⟩ ?_); exact wpS_to hW (s4 c94) (Cov.asg ⟨rfl, rfl, rfl, rfl, rfl, rfl, rfl, rfl, rfl, trivial⟩) (.refl _); refine wpS_op (i := 9) (li' := (lv 12 895)) rfl rfl rfl rfl (by kernel_rfl) (OpA.alloc (sz := 3) (d := encSpan (Span.mk ByteArray.empty 0 0)) rfl tz33 (fun _ _ => .agg (.cons (.v _) (.cons (.v _) (.cons (.v _) .nil)))) (.of rfl) (fun c104 _ => ?_)); exact wpS_to hW (s6 c94 c104) (Cov.asg ⟨rfl, rfl, rfl, rfl, rfl, rfl, rfl, rfl, rfl, rfl, trivial⟩) (.refl _))
  have s11 : ∀ (c104 : Nat), W 4 (lv 12 639) (asg [(0, (encL 3 encSpan) a), (1, (encL 3 encSpan) b), (4, .v (.slice none 0 0)), (5, .own cb5 3 pre5.length out.length), (6, D.i i), (7, D.i k), (9, .ptr c104 3 0 0), (24, encSpan (gi a i)), (27, .iptr (encSpan (gi b k)) 0)]) [(c104, .cells 3 [encSpan (Span.mk ByteArray.empty 0 0)]), (cb5, .cells 3 (winL encSpan pre5 out post5))] := fun c104 => wpS_of hW (by refine wpS_step (rs := [7, 8]) (by kernel_rfl) rfl ⟨?_, ?_, trivial⟩; refine wpS_op (i := 7) (li' := (lv 12 767)) rfl rfl rfl rfl (by kernel_rfl) (OpA.iload_whole rfl ti33 rfl ⟨_, rfl, rfl⟩ ?_); exact wpS_to hW (s5 c104) (Cov.asg ⟨rfl, rfl, rfl, rfl, rfl, rfl, rfl, rfl, rfl, trivial⟩) (.refl _); refine wpS_op (i := 8) (li' := (lv 12 895)) rfl rfl rfl rfl (by kernel_rfl) (OpA.alloc (sz := 3) (d := encSpan (Span.mk ByteArray.empty 0 0)) rfl tz33 (fun _ _ => .agg (.cons (.v _) (.cons (.v _) (.cons (.v _) .nil)))) (.of rfl) (fun c94 _ => ?_)); exact wpS_to hW (s6 c94 c104) (Cov.asg ⟨rfl, rfl, rfl, rfl, rfl, rfl, rfl, rfl, rfl, rfl, trivial⟩) pull1)
  have s12 : ∀ (c94 : Nat) (c104 : Nat), W 4 (lv 12 831) (asg [(0, (encL 3 encSpan) a), (1, (encL 3 encSpan) b), (4, .v (.slice none 0 0)), (5, .own cb5 3 pre5.length out.length), (6, D.i i), (7, D.i k), (8, .ptr c94 3 0 0), (9, .ptr c104 3 0 0), (24, encSpan (gi a i)), (25, (encL 3 encSpan) b), (26, D.i k)]) [(c104, .cells 3 [encSpan (Span.mk ByteArray.empty 0 0)]), (c94, .cells 3 [encSpan (Span.mk ByteArray.empty 0 0)]), (cb5, .cells 3 (winL encSpan pre5 out post5))] := fun c94 c104 => wpS_of hW (by refine wpS_step (rs := [6, 10]) (by kernel_rfl) rfl ⟨?_, ?_, trivial⟩; refine wpS_op (i := 6) (li' := (lv 12 895)) rfl rfl rfl rfl (by kernel_rfl) (OpA.iixV (enc := encSpan) rfl ts23 rfl rfl rfl q6_0 ?_); exact wpS_to hW (s6 c94 c104) (Cov.asg ⟨rfl, rfl, rfl, rfl, rfl, rfl, rfl, rfl, rfl, rfl, trivial⟩) (.refl _); refine wpS_eff (i := 10) (li' := (lv 12 1855)) rfl rfl rfl (by kernel_rfl) (OpA.storeW rfl ti33 rfl (by with_reducible conv => lhs; whnf) (.of rfl) rfl rfl (.tail .head) ?_); exact wpS_to hW (s7 c94 c104) (Cov.asg ⟨rfl, rfl, rfl, rfl, rfl, rfl, rfl, rfl, rfl, rfl, trivial⟩) (.refl _))
  have s13 : ∀ (c94 : Nat), W 4 (lv 12 503) (asg [(0, (encL 3 encSpan) a), (1, (encL 3 encSpan) b), (4, .v (.slice none 0 0)), (5, .own cb5 3 pre5.length out.length), (6, D.i i), (7, D.i k), (8, .ptr c94 3 0 0), (23, .iptr (encSpan (gi a i)) 0), (28, encSpan (gi b k))]) [(c94, .cells 3 [encSpan (Span.mk ByteArray.empty 0 0)]), (cb5, .cells 3 (winL encSpan pre5 out post5))] := fun c94 => wpS_of hW (by refine wpS_step (rs := [3, 9]) (by kernel_rfl) rfl ⟨?_, ?_, trivial⟩; refine wpS_op (i := 3) (li' := (lv 12 511)) rfl rfl rfl rfl (by kernel_rfl) (OpA.iload_whole rfl ti33 rfl ⟨_, rfl, rfl⟩ ?_); exact wpS_to hW (s4 c94) (Cov.asg ⟨rfl, rfl, rfl, rfl, rfl, rfl, rfl, rfl, rfl, trivial⟩) (.refl _); refine wpS_op (i := 9) (li' := (lv 12 1015)) rfl rfl rfl rfl (by kernel_rfl) (OpA.alloc (sz := 3) (d := encSpan (Span.mk ByteArray.empty 0 0)) rfl tz33 (fun _ _ => .agg (.cons (.v _) (.cons (.v _) (.cons (.v _) .nil)))) (.of rfl) (fun c104 _ => ?_)); exact wpS_to hW (s8 c94 c104) (Cov.asg ⟨rfl, rfl, rfl, rfl, rfl, rfl, rfl, rfl, rfl, rfl, trivial⟩) (.refl _))
  have s14 : ∀ (c104 : Nat), W 4 (lv 12 759) (asg [(0, (encL 3 encSpan) a), (1, (encL 3 encSpan) b), (4, .v (.slice none 0 0)), (5, .own cb5 3 pre5.length out.length), (6, D.i i), (7, D.i k), (9, .ptr c104 3 0 0), (23, .iptr (encSpan (gi a i)) 0), (28, encSpan (gi b k))]) [(c104, .cells 3 [encSpan (Span.mk ByteArray.empty 0 0)]), (cb5, .cells 3 (winL encSpan pre5 out post5))] := fun c104 => wpS_of hW (by refine wpS_step (rs := [3, 8]) (by kernel_rfl) rfl ⟨?_, ?_, trivial⟩; refine wpS_op (i := 3) (li' := (lv 12 767)) rfl rfl rfl rfl (by kernel_rfl) (OpA.iload_whole rfl ti33 rfl ⟨_, rfl, rfl⟩ ?_); exact wpS_to hW (s5 c104) (Cov.asg ⟨rfl, rfl, rfl, rfl, rfl, rfl, rfl, rfl, rfl, trivial⟩) (.refl _); refine wpS_op (i := 8) (li' := (lv 12 1015)) rfl rfl rfl rfl (by kernel_rfl) (OpA.alloc (sz := 3) (d := encSpan (Span.mk ByteArray.empty 0 0)) rfl tz33 (fun _ _ => .agg (.cons (.v _) (.cons (.v _) (.cons (.v _) .nil)))) (.of rfl) (fun c94 _ => ?_)); exact wpS_to hW (s8 c94 c104) (Cov.asg ⟨rfl, rfl, rfl, rfl, rfl, rfl, rfl, rfl, rfl, rfl, trivial⟩) pull1)
  have s15 : ∀ (c94 : Nat) (c104 : Nat), W 4 (lv 12 887) (asg [(0, (encL 3 encSpan) a), (1, (encL 3 encSpan) b), (4, .v (.slice none 0 0)), (5, .own cb5 3 pre5.length out.length), (6, D.i i), (7, D.i k), (8, .ptr c94 3 0 0), (9, .ptr c104 3 0 0), (23, .iptr (encSpan (gi a i)) 0), (27, .iptr (encSpan (gi b k)) 0)]) [(c104, .cells 3 [encSpan (Span.mk ByteArray.empty 0 0)]), (c94, .cells 3 [encSpan (Span.mk ByteArray.empty 0 0)]), (cb5, .cells 3 (winL encSpan pre5 out post5))] := fun c94 c104 => wpS_of hW (by refine wpS_step (rs := [3, 7]) (by kernel_rfl) rfl ⟨?_, ?_, trivial⟩; refine wpS_op (i := 3) (li' := (lv 12 895)) rfl rfl rfl rfl (by kernel_rfl) (OpA.iload_whole rfl ti33 rfl ⟨_, rfl, rfl⟩ ?_); exact wpS_to hW (s6 c94 c104) (Cov.asg ⟨rfl, rfl, rfl, rfl, rfl, rfl, rfl, rfl, rfl, rfl, trivial⟩) (.refl _); refine wpS_op (i := 7) (li' := (lv 12 1015)) rfl rfl rfl rfl (by kernel_rfl) (OpA.iload_whole rfl ti33 rfl ⟨_, rfl, rfl⟩ ?_); exact wpS_to hW (s8 c94 c104) (Cov.asg ⟨rfl, rfl, rfl, rfl, rfl, rfl, rfl, rfl, rfl, rfl, trivial⟩) (.refl _))
  have s16 : ∀ (c94 : Nat) (c104 : Nat), W 4 (lv 12 1011) (asg [(0, (encL 3 encSpan) a), (1, (encL 3 encSpan) b), (4, .v (.slice none 0 0)), (5, .own cb5 3 pre5.length out.length), (6, D.i i), (7, D.i k), (8, .ptr c94 3 0 0), (9, .ptr c104 3 0 0), (21, (encL 3 encSpan) a), (22, D.i i), (28, encSpan (gi b k))]) [(c104, .cells 3 [encSpan (Span.mk ByteArray.empty 0 0)]), (c94, .cells 3 [encSpan (Span.mk ByteArray.empty 0 0)]), (cb5, .cells 3 (winL encSpan pre5 out post5))] := fun c94 c104 => wpS_of hW (by refine wpS_step (rs := [2]) (by kernel_rfl) rfl ⟨?_, trivial⟩; refine wpS_op (i := 2) (li' := (lv 12 1015)) rfl rfl rfl rfl (by kernel_rfl) (OpA.iixV (enc := encSpan) rfl ts23 rfl rfl rfl q2_0 ?_); exact wpS_to hW (s8 c94 c104) (Cov.asg ⟨rfl, rfl, rfl, rfl, rfl, rfl, rfl, rfl, rfl, rfl, trivial⟩) (.refl _))
  have s17 : W 5 (lv 12 127) (asg [(0, (encL 3 encSpan) a), (1, (encL 3 encSpan) b), (4, .v (.slice none 0 0)), (5, .own cb5 3 pre5.length out.length), (6, D.i i), (7, D.i k), (24, encSpan (gi a i)), (27, .iptr (encSpan (gi b k)) 0)]) [(cb5, .cells 3 (winL encSpan pre5 out post5))] := wpS_of hW (by refine wpS_step (rs := [7, 8, 9]) (by kernel_rfl) rfl ⟨?_, ?_, ?_, trivial⟩; refine wpS_op (i := 7) (li' := (lv 12 255)) rfl rfl rfl rfl (by kernel_rfl) (OpA.iload_whole rfl ti33 rfl ⟨_, rfl, rfl⟩ ?_); exact wpS_to hW (s9) (Cov.asg ⟨rfl, rfl, rfl, rfl, rfl, rfl, rfl, rfl, trivial⟩) (.refl _); refine wpS_op (i := 8) (li' := (lv 12 383)) rfl rfl rfl rfl (by kernel_rfl) (OpA.alloc (sz := 3) (d := encSpan (Span.mk ByteArray.empty 0 0)) rfl tz33 (fun _ _ => .agg (.cons (.v _) (.cons (.v _) (.cons (.v _) .nil)))) (.of rfl) (fun c94 _ => ?_)); exact wpS_to hW (s10 c94) (Cov.asg ⟨rfl, rfl, rfl, rfl, rfl, rfl, rfl, rfl, rfl, trivial⟩) (.refl _); refine wpS_op (i := 9) (li' := (lv 12 639)) rfl rfl rfl rfl (by kernel_rfl) (OpA.alloc (sz := 3) (d := encSpan (Span.mk ByteArray.empty 0 0)) rfl tz33 (fun _ _ => .agg (.cons (.v _) (.cons (.v _) (.cons (.v _) .nil)))) (.of rfl) (fun c104 _ => ?_)); exact wpS_to hW (s11 c104) (Cov.asg ⟨rfl, rfl, rfl, rfl, rfl, rfl, rfl, rfl, rfl, trivial⟩) (.refl _))
  have s18 : ∀ (c94 : Nat), W 5 (lv 12 319) (asg [(0, (encL 3 encSpan) a), (1, (encL 3 encSpan) b), (4, .v (.slice none 0 0)), (5, .own cb5 3 pre5.length out.length), (6, D.i i), (7, D.i k), (8, .ptr c94 3 0 0), (24, encSpan (gi a i)), (25, (encL 3 encSpan) b), (26, D.i k)]) [(c94, .cells 3 [encSpan (Span.mk ByteArray.empty 0 0)]), (cb5, .cells 3 (winL encSpan pre5 out post5))] := fun c94 => wpS_of hW (by refine wpS_step (rs := [6, 9]) (by kernel_rfl) rfl ⟨?_, ?_, trivial⟩; refine wpS_op (i := 6) (li' := (lv 12 383)) rfl rfl rfl rfl (by kernel_rfl) (OpA.iixV (enc := encSpan) rfl ts23 rfl rfl rfl q6_0 ?_); exact wpS_to hW (s10 c94) (Cov.asg ⟨rfl, rfl, rfl, rfl, rfl, rfl, rfl, rfl, rfl, trivial⟩) (.refl _); refine wpS_op (i := 9) (li' := (lv 12 831)) rfl rfl rfl rfl (by kernel_rfl) (OpA.alloc (sz := 3) (d := encSpan (Span.mk ByteArray.empty 0 0)) rfl tz33 (fun _ _ => .agg (.cons (.v _) (.cons (.v _) (.cons (.v _) .nil)))) (.of rfl) (fun c104 _ => ?_)); exact wpS_to hW (s12 c94 c104) (Cov.asg ⟨rfl, rfl, rfl, rfl, rfl, rfl, rfl, rfl, rfl, rfl, rfl, trivial⟩) (.refl _))
  have s19 : ∀ (c104 : Nat), W 5 (lv 12 575) (asg [(0, (encL 3 encSpan) a), (1, (encL 3 encSpan) b), (4, .v (.slice none 0 0)), (5, .own cb5 3 pre5.length out.length), (6, D.i i), (7, D.i k), (9, .ptr c104 3 0 0), (24, encSpan (gi a i)), (25, (encL 3 encSpan) b), (26, D.i k)]) [(c104, .cells 3 [encSpan (Span.mk ByteArray.empty 0 0)]), (cb5, .cells 3 (winL encSpan pre5 out post5))] := fun c104 => wpS_of hW (by refine wpS_step (rs := [6, 8]) (by kernel_rfl) rfl ⟨?_, ?_, trivial⟩; refine wpS_op (i := 6) (li' := (lv 12 639)) rfl rfl rfl rfl (by kernel_rfl) (OpA.iixV (enc := encSpan) rfl ts23 rfl rfl rfl q6_0 ?_); exact wpS_to hW (s11 c104) (Cov.asg ⟨rfl, rfl, rfl, rfl, rfl, rfl, rfl, rfl, rfl, trivial⟩) (.refl _); refine wpS_op (i := 8) (li' := (lv 12 831)) rfl rfl rfl rfl (by kernel_rfl) (OpA.alloc (sz := 3) (d := encSpan (Span.mk ByteArray.empty 0 0)) rfl tz33 (fun _ _ => .agg (.cons (.v _) (.cons (.v _) (.cons (.v _) .nil)))) (.of rfl) (fun c94 _ => ?_)); exact wpS_to hW (s12 c94 c104) (Cov.asg ⟨rfl, rfl, rfl, rfl, rfl, rfl, rfl, rfl, rfl, rfl, rfl, trivial⟩) pull1)
  have s20 : W 5 (lv 12 247) (asg [(0, (encL 3 encSpan) a), (1, (encL 3 encSpan) b), (4, .v (.slice none 0 0)), (5, .own cb5 3 pre5.length out.length), (6, D.i i), (7, D.i k), (23, .iptr (encSpan (gi a i)) 0), (28, encSpan (gi b k))]) [(cb5, .cells 3 (winL encSpan pre5 out post5))] := wpS_of hW (by refine wpS_step (rs := [3, 8, 9]) (by kernel_rfl) rfl ⟨?_, ?_, ?_, trivial⟩; refine wpS_op (i := 3) (li' := (lv 12 255)) rfl rfl rfl rfl (by kernel_rfl) (OpA.iload_whole rfl ti33 rfl ⟨_, rfl, rfl⟩ ?_); exact wpS_to hW (s9) (Cov.asg ⟨rfl, rfl, rfl, rfl, rfl, rfl, rfl, rfl, trivial⟩) (.refl _); refine wpS_op (i := 8) (li' := (lv 12 503)) rfl rfl rfl rfl (by kernel_rfl) (OpA.alloc (sz := 3) (d := encSpan (Span.mk ByteArray.empty 0 0)) rfl tz33 (fun _ _ => .agg (.cons (.v _) (.cons (.v _) (.cons (.v _) .nil)))) (.of rfl) (fun c94 _ => ?_)); exact wpS_to hW (s13 c94) (Cov.asg ⟨rfl, rfl, rfl, rfl, rfl, rfl, rfl, rfl, rfl, trivial⟩) (.refl _); refine wpS_op (i := 9) (li' := (lv 12 759)) rfl rfl rfl rfl (by kernel_rfl) (OpA.alloc (sz := 3) (d := encSpan (Span.mk ByteArray.empty 0 0)) rfl tz33 (fun _ _ => .agg (.cons (.v _) (.cons (.v _) (.cons (.v _) .nil)))) (.of rfl) (fun c104 _ => ?_)); exact wpS_to hW (s14 c104) (Cov.asg ⟨rfl, rfl, rfl, rfl, rfl, rfl, rfl, rfl, rfl, trivial⟩) (.refl _))
  have s21 : ∀ (c94 : Nat), W 5 (lv 12 375) (asg [(0, (encL 3 encSpan) a), (1, (encL 3 encSpan) b), (4, .v (.slice none 0 0)), (5, .own cb5 3 pre5.length out.length), (6, D.i i), (7, D.i k), (8, .ptr c94 3 0 0), (23, .iptr (encSpan (gi a i)) 0), (27, .iptr (encSpan (gi b k)) 0)]) [(c94, .cells 3 [encSpan (Span.mk ByteArray.empty 0 0)]), (cb5, .cells 3 (winL encSpan pre5 out post5))] := fun c94 => wpS_of hW (by refine wpS_step (rs := [3, 7, 9]) (by kernel_rfl) rfl ⟨?_, ?_, ?_, trivial⟩; refine wpS_op (i := 3) (li' := (lv 12 383)) rfl rfl rfl rfl (by kernel_rfl) (OpA.iload_whole rfl ti33 rfl ⟨_, rfl, rfl⟩ ?_); exact wpS_to hW (s10 c94) (Cov.asg ⟨rfl, rfl, rfl, rfl, rfl, rfl, rfl, rfl, rfl, trivial⟩) (.refl _); refine wpS_op (i := 7) (li' := (lv 12 503)) rfl rfl rfl rfl (by kernel_rfl) (OpA.iload_whole rfl ti33 rfl ⟨_, rfl, rfl⟩ ?_); exact wpS_to hW (s13 c94) (Cov.asg ⟨rfl, rfl, rfl, rfl, rfl, rfl, rfl, rfl, rfl, trivial⟩) (.refl _); refine wpS_op (i := 9) (li' := (lv 12 887)) rfl rfl rfl rfl (by kernel_rfl) (OpA.alloc (sz := 3) (d := encSpan (Span.mk ByteArray.empty 0 0)) rfl tz33 (fun _ _ => .agg (.cons (.v _) (.cons (.v _) (.cons (.v _) .nil)))) (.of rfl) (fun c104 _ => ?_)); exact wpS_to hW (s15 c94 c104) (Cov.asg ⟨rfl, rfl, rfl, rfl, rfl, rfl, rfl, rfl, rfl, rfl, trivial⟩) (.refl _))
  have s22 : ∀ (c104 : Nat), W 5 (lv 12 631) (asg [(0, (encL 3 encSpan) a), (1, (encL 3 encSpan) b), (4, .v (.slice none 0 0)), (5, .own cb5 3 pre5.length out.length), (6, D.i i), (7, D.i k), (9, .ptr c104 3 0 0), (23, .iptr (encSpan (gi a i)) 0), (27, .iptr (encSpan (gi b k)) 0)]) [(c104, .cells 3 [encSpan (Span.mk ByteArray.empty 0 0)]), (cb5, .cells 3 (winL encSpan pre5 out post5))] := fun c104 => wpS_of hW (by refine wpS_step (rs := [3, 7, 8]) (by kernel_rfl) rfl ⟨?_, ?_, ?_, trivial⟩; refine wpS_op (i := 3) (li' := (lv 12 639)) rfl rfl rfl rfl (by kernel_rfl) (OpA.iload_whole rfl ti33 rfl ⟨_, rfl, rfl⟩ ?_); exact wpS_to hW (s11 c104) (Cov.asg ⟨rfl, rfl, rfl, rfl, rfl, rfl, rfl, rfl, rfl, trivial⟩) (.refl _); refine wpS_op (i := 7) (li' := (lv 12 759)) rfl rfl rfl rfl (by kernel_rfl) (OpA.iload_whole rfl ti33 rfl ⟨_, rfl, rfl⟩ ?_); exact wpS_to hW (s14 c104) (Cov.asg ⟨rfl, rfl, rfl, rfl, rfl, rfl, rfl, rfl, rfl, trivial⟩) (.refl _); refine wpS_op (i := 8) (li' := (lv 12 887)) rfl rfl rfl rfl (by kernel_rfl) (OpA.alloc (sz := 3) (d := encSpan (Span.mk ByteArray.empty 0 0)) rfl tz33 (fun _ _ => .agg (.cons (.v _) (.cons (.v _) (.cons (.v _) .nil)))) (.of rfl) (fun c94 _ => ?_)); exact wpS_to hW (s15 c94 c104) (Cov.asg ⟨rfl, rfl, rfl, rfl, rfl, rfl, rfl, rfl, rfl, rfl, trivial⟩) pull1)
  have s23 : ∀ (c94 : Nat) (c104 : Nat), W 5 (lv 12 823) (asg [(0, (encL 3 encSpan) a), (1, (encL 3 encSpan) b), (4, .v (.slice none 0 0)), (5, .own cb5 3 pre5.length out.length), (6, D.i i), (7, D.i k), (8, .ptr c94 3 0 0), (9, .ptr c104 3 0 0), (23, .iptr (encSpan (gi a i)) 0), (25, (encL 3 encSpan) b), (26, D.i k)]) [(c104, .cells 3 [encSpan (Span.mk ByteArray.empty 0 0)]), (c94, .cells 3 [encSpan (Span.mk ByteArray.empty 0 0)]), (cb5, .cells 3 (winL encSpan pre5 out post5))] := fun c94 c104 => wpS_of hW (by refine wpS_step (rs := [3, 6]) (by kernel_rfl) rfl ⟨?_, ?_, trivial⟩; refine wpS_op (i := 3) (li' := (lv 12 831)) rfl rfl rfl rfl (by kernel_rfl) (OpA.iload_whole rfl ti33 rfl ⟨_, rfl, rfl⟩ ?_); exact wpS_to hW (s12 c94 c104) (Cov.asg ⟨rfl, rfl, rfl, rfl, rfl, rfl, rfl, rfl, rfl, rfl, rfl, trivial⟩) (.refl _); refine wpS_op (i := 6) (li' := (lv 12 887)) rfl rfl rfl rfl (by kernel_rfl) (OpA.iixV (enc := encSpan) rfl ts23 rfl rfl rfl q6_0 ?_); exact wpS_to hW (s15 c94 c104) (Cov.asg ⟨rfl, rfl, rfl, rfl, rfl, rfl, rfl, rfl, rfl, rfl, trivial⟩) (.refl _))
  have s24 : ∀ (c94 : Nat), W 5 (lv 12 499) (asg [(0, (encL 3 encSpan) a), (1, (encL 3 encSpan) b), (4, .v (.slice none 0 0)), (5, .own cb5 3 pre5.length out.length), (6, D.i i), (7, D.i k), (8, .ptr c94 3 0 0), (21, (encL 3 encSpan) a), (22, D.i i), (28, encSpan (gi b k))]) [(c94, .cells 3 [encSpan (Span.mk ByteArray.empty 0 0)]), (cb5, .cells 3 (winL encSpan pre5 out post5))] := fun c94 => wpS_of hW (by refine wpS_step (rs := [2, 9]) (by kernel_rfl) rfl ⟨?_, ?_, trivial⟩; refine wpS_op (i := 2) (li' := (lv 12 503)) rfl rfl rfl rfl (by kernel_rfl) (OpA.iixV (enc := encSpan) rfl ts23 rfl rfl rfl q2_0 ?_); exact wpS_to hW (s13 c94) (Cov.asg ⟨rfl, rfl, rfl, rfl, rfl, rfl, rfl, rfl, rfl, trivial⟩) (.refl _); refine wpS_op (i := 9) (li' := (lv 12 1011)) rfl rfl rfl rfl (by kernel_rfl) (OpA.alloc (sz := 3) (d := encSpan (Span.mk ByteArray.empty 0 0)) rfl tz33 (fun _ _ => .agg (.cons (.v _) (.cons (.v _) (.cons (.v _) .nil)))) (.of rfl) (fun c104 _ => ?_)); exact wpS_to hW (s16 c94 c104) (Cov.asg ⟨rfl, rfl, rfl, rfl, rfl, rfl, rfl, rfl, rfl, rfl, rfl, trivial⟩) (.refl _))
  have s25 : ∀ (c104 : Nat), W 5 (lv 12 755) (asg [(0, (encL 3 encSpan) a), (1, (encL 3 encSpan) b), (4, .v (.slice none 0 0)), (5, .own cb5 3 pre5.length out.length), (6, D.i i), (7, D.i k), (9, .ptr c104 3 0 0), (21, (encL 3 encSpan) a), (22, D.i i), (28, encSpan (gi b k))]) [(c104, .cells 3 [encSpan (Span.mk ByteArray.empty 0 0)]), (cb5, .cells 3 (winL encSpan pre5 out post5))] := fun c104 => wpS_of hW (by refine wpS_step (rs := [2, 8]) (by kernel_rfl) rfl ⟨?_, ?_, trivial⟩; refine wpS_op (i := 2) (li' := (lv 12 759)) rfl rfl rfl rfl (by kernel_rfl) (OpA.iixV (enc := encSpan) rfl ts23 rfl rfl rfl q2_0 ?_); exact wpS_to hW (s14 c104) (Cov.asg ⟨rfl, rfl, rfl, rfl, rfl, rfl, rfl, rfl, rfl, trivial⟩) (.refl _); refine wpS_op (i := 8) (li' := (lv 12 1011)) rfl rfl rfl rfl (by kernel_rfl) (OpA.alloc (sz := 3) (d := encSpan (Span.mk ByteArray.empty 0 0)) rfl tz33 (fun _ _ => .agg (.cons (.v _) (.cons (.v _) (.cons (.v _) .nil)))) (.of rfl) (fun c94 _ => ?_)); exact wpS_to hW (s16 c94 c104) (Cov.asg ⟨rfl, rfl, rfl, rfl, rfl, rfl, rfl, rfl, rfl, rfl, rfl, trivial⟩) pull1)
  have s26 : ∀ (c94 : Nat) (c104 : Nat), W 5 (lv 12 883) (asg [(0, (encL 3 encSpan) a), (1, (encL 3 encSpan) b), (4, .v (.slice none 0 0)), (5, .own cb5 3 pre5.length out.length), (6, D.i i), (7, D.i k), (8, .ptr c94 3 0 0), (9, .ptr c104 3 0 0), (21, (encL 3 encSpan) a), (22, D.i i), (27, .iptr (encSpan (gi b k)) 0)]) [(c104, .cells 3 [encSpan (Span.mk ByteArray.empty 0 0)]), (c94, .cells 3 [encSpan (Span.mk ByteArray.empty 0 0)]), (cb5, .cells 3 (winL encSpan pre5 out post5))] := fun c94 c104 => wpS_of hW (by refine wpS_step (rs := [2, 7]) (by kernel_rfl) rfl ⟨?_, ?_, trivial⟩; refine wpS_op (i := 2) (li' := (lv 12 887)) rfl rfl rfl rfl (by kernel_rfl) (OpA.iixV (enc := encSpan) rfl ts23 rfl rfl rfl q2_0 ?_); exact wpS_to hW (s15 c94 c104) (Cov.asg ⟨rfl, rfl, rfl, rfl, rfl, rfl, rfl, rfl, rfl, rfl, trivial⟩) (.refl _); refine wpS_op (i := 7) (li' := (lv 12 1011)) rfl rfl rfl rfl (by kernel_rfl) (OpA.iload_whole rfl ti33 rfl ⟨_, rfl, rfl⟩ ?_); exact wpS_to hW (s16 c94 c104) (Cov.asg ⟨rfl, rfl, rfl, rfl, rfl, rfl, rfl, rfl, rfl, rfl, rfl, trivial⟩) (.refl _))
  have s27 : W 6 (lv 12 63) (asg [(0, (encL 3 encSpan) a), (1, (encL 3 encSpan) b), (4, .v (.slice none 0 0)), (5, .own cb5 3 pre5.length out.length), (6, D.i i), (7, D.i k), (24, encSpan (gi a i)), (25, (encL 3 encSpan) b), (26, D.i k)]) [(cb5, .cells 3 (winL encSpan pre5 out post5))] := wpS_of hW (by refine wpS_step (rs := [6, 8, 9]) (by kernel_rfl) rfl ⟨?_, ?_, ?_, trivial⟩; refine wpS_op (i := 6) (li' := (lv 12 127)) rfl rfl rfl rfl (by kernel_rfl) (OpA.iixV (enc := encSpan) rfl ts23 rfl rfl rfl q6_0 ?_); exact wpS_to hW (s17) (Cov.asg ⟨rfl, rfl, rfl, rfl, rfl, rfl, rfl, rfl, trivial⟩) (.refl _); refine wpS_op (i := 8) (li' := (lv 12 319)) rfl rfl rfl rfl (by kernel_rfl) (OpA.alloc (sz := 3) (d := encSpan (Span.mk ByteArray.empty 0 0)) rfl tz33 (fun _ _ => .agg (.cons (.v _) (.cons (.v _) (.cons (.v _) .nil)))) (.of rfl) (fun c94 _ => ?_)); exact wpS_to hW (s18 c94) (Cov.asg ⟨rfl, rfl, rfl, rfl, rfl, rfl, rfl, rfl, rfl, rfl, trivial⟩) (.refl _); refine wpS_op (i := 9) (li' := (lv 12 575)) rfl rfl rfl rfl (by kernel_rfl) (OpA.alloc (sz := 3) (d := encSpan (Span.mk ByteArray.empty 0 0)) rfl tz33 (fun _ _ => .agg (.cons (.v _) (.cons (.v _) (.cons (.v _) .nil)))) (.of rfl) (fun c104 _ => ?_)); exact wpS_to hW (s19 c104) (Cov.asg ⟨rfl, rfl, rfl, rfl, rfl, rfl, rfl, rfl, rfl, rfl, trivial⟩) (.refl _))
  have s28 : W 6 (lv 12 119) (asg [(0, (encL 3 encSpan) a), (1, (encL 3 encSpan) b), (4, .v (.slice none 0 0)), (5, .own cb5 3 pre5.length out.length), (6, D.i i), (7, D.i k), (23, .iptr (encSpan (gi a i)) 0), (27, .iptr (encSpan (gi b k)) 0)]) [(cb5, .cells 3 (winL encSpan pre5 out post5))] := wpS_of hW (by refine wpS_step (rs := [3, 7, 8, 9]) (by kernel_rfl) rfl ⟨?_, ?_, ?_, ?_, trivial⟩; refine wpS_op (i := 3) (li' := (lv 12 127)) rfl rfl rfl rfl (by kernel_rfl) (OpA.iload_whole rfl ti33 rfl ⟨_, rfl, rfl⟩ ?_); exact wpS_to hW (s17) (Cov.asg ⟨rfl, rfl, rfl, rfl, rfl, rfl, rfl, rfl, trivial⟩) (.refl _); refine wpS_op (i := 7) (li' := (lv 12 247)) rfl rfl rfl rfl (by kernel_rfl) (OpA.iload_whole rfl ti33 rfl ⟨_, rfl, rfl⟩ ?_); exact wpS_to hW (s20) (Cov.asg ⟨rfl, rfl, rfl, rfl, rfl, rfl, rfl, rfl, trivial⟩) (.refl _); refine wpS_op (i := 8) (li' := (lv 12 375)) rfl rfl rfl rfl (by kernel_rfl) (OpA.alloc (sz := 3) (d := encSpan (Span.mk ByteArray.empty 0 0)) rfl tz33 (fun _ _ => .agg (.cons (.v _) (.cons (.v _) (.cons (.v _) .nil)))) (.of rfl) (fun c94 _ => ?_)); exact wpS_to hW (s21 c94) (Cov.asg ⟨rfl, rfl, rfl, rfl, rfl, rfl, rfl, rfl, rfl, trivial⟩) (.refl _); refine wpS_op (i := 9) (li' := (lv 12 631)) rfl rfl rfl rfl (by kernel_rfl) (OpA.alloc (sz := 3) (d := encSpan (Span.mk ByteArray.empty 0 0)) rfl tz33 (fun _ _ => .agg (.cons (.v _) (.cons (.v _) (.cons (.v _) .nil)))) (.of rfl) (fun c104 _ => ?_)); exact wpS_to hW (s22 c104) (Cov.asg ⟨rfl, rfl, rfl, rfl, rfl, rfl, rfl, rfl, rfl, trivial⟩) (.refl _))
  have s29 : ∀ (c94 : Nat), W 6 (lv 12 311) (asg [(0, (encL 3 encSpan) a), (1, (encL 3 encSpan) b), (4, .v (.slice none 0 0)), (5, .own cb5 3 pre5.length out.length), (6, D.i i), (7, D.i k), (8, .ptr c94 3 0 0), (23, .iptr (encSpan (gi a i)) 0), (25, (encL 3 encSpan) b), (26, D.i k)]) [(c94, .cells 3 [encSpan (Span.mk ByteArray.empty 0 0)]), (cb5, .cells 3 (winL encSpan pre5 out post5))] := fun c94 => wpS_of hW (by refine wpS_step (rs := [3, 6, 9]) (by kernel_rfl) rfl ⟨?_, ?_, ?_, trivial⟩; refine wpS_op (i := 3) (li' := (lv 12 319)) rfl rfl rfl rfl (by kernel_rfl) (OpA.iload_whole rfl ti33 rfl ⟨_, rfl, rfl⟩ ?_); exact wpS_to hW (s18 c94) (Cov.asg ⟨rfl, rfl, rfl, rfl, rfl, rfl, rfl, rfl, rfl, rfl, trivial⟩) (.refl _); refine wpS_op (i := 6) (li' := (lv 12 375)) rfl rfl rfl rfl (by kernel_rfl) (OpA.iixV (enc := encSpan) rfl ts23 rfl rfl rfl q6_0 ?_); exact wpS_to hW (s21 c94) (Cov.asg ⟨rfl, rfl, rfl, rfl, rfl, rfl, rfl, rfl, rfl, trivial⟩) (.refl _); refine wpS_op (i := 9) (li' := (lv 12 823)) rfl rfl rfl rfl (by kernel_rfl) (OpA.alloc (sz := 3) (d := encSpan (Span.mk ByteArray.empty 0 0)) rfl tz33 (fun _ _ => .agg (.cons (.v _) (.cons (.v _) (.cons (.v _) .nil)))) (.of rfl) (fun c104 _ => ?_)); exact wpS_to hW (s23 c94 c104) (Cov.asg ⟨rfl, rfl, rfl, rfl, rfl, rfl, rfl, rfl, rfl, rfl, rfl, trivial⟩) (.refl _))
  have s30 : ∀ (c104 : Nat), W 6 (lv 12 567) (asg [(0, (encL 3 encSpan) a), (1, (encL 3 encSpan) b), (4, .v (.slice none 0 0)), (5, .own cb5 3 pre5.length out.length), (6, D.i i), (7, D.i k), (9, .ptr c104 3 0 0), (23, .iptr (encSpan (gi a i)) 0), (25, (encL 3 encSpan) b), (26, D.i k)]) [(c104, .cells 3 [encSpan (Span.mk ByteArray.empty 0 0)]), (cb5, .cells 3 (winL encSpan pre5 out post5))] := fun c104 => wpS_of hW (by refine wpS_step (rs := [3, 6, 8]) (by kernel_rfl) rfl ⟨?_, ?_, ?_, trivial⟩; refine wpS_op (i := 3) (li' := (lv 12 575)) rfl rfl rfl rfl (by kernel_rfl) (OpA.iload_whole rfl ti33 rfl ⟨_, rfl, rfl⟩ ?_); exact wpS_to hW (s19 c104) (Cov.asg ⟨rfl, rfl, rfl, rfl, rfl, rfl, rfl, rfl, rfl, rfl, trivial⟩) (.refl _); refine wpS_op (i := 6) (li' := (lv 12 631)) rfl rfl rfl rfl (by kernel_rfl) (OpA.iixV (enc := encSpan) rfl ts23 rfl rfl rfl q6_0 ?_); exact wpS_to hW (s22 c104) (Cov.asg ⟨rfl, rfl, rfl, rfl, rfl, rfl, rfl, rfl, rfl, trivial⟩) (.refl _); refine wpS_op (i := 8) (li' := (lv 12 823)) rfl rfl rfl rfl (by kernel_rfl) (OpA.alloc (sz := 3) (d := encSpan (Span.mk ByteArray.empty 0 0)) rfl tz33 (fun _ _ => .agg (.cons (.v _) (.cons (.v _) (.cons (.v _) .nil)))) (.of rfl) (fun c94 _ => ?_)); exact wpS_to hW (s23 c94 c104) (Cov.asg ⟨rfl, rfl, rfl, rfl, rfl, rfl, rfl, rfl, rfl, rfl, rfl, trivial⟩) pull1)
  have s31 : W 6 (lv 12 243) (asg [(0, (encL 3 encSpan) a), (1, (encL 3 encSpan) b), (4, .v (.slice none 0 0)), (5, .own cb5 3 pre5.length out.length), (6, D.i i), (7, D.i k), (21, (encL 3 encSpan) a), (22, D.i i), (28, encSpan (gi b k))]) [(cb5, .cells 3 (winL encSpan pre5 out post5))] := wpS_of hW (by refine wpS_step (rs := [2, 8, 9]) (by kernel_rfl) rfl ⟨?_, ?_, ?_, trivial⟩; refine wpS_op (i := 2) (li' := (lv 12 247)) rfl rfl rfl rfl (by kernel_rfl) (OpA.iixV (enc := encSpan) rfl ts23 rfl rfl rfl q2_0 ?_); exact wpS_to hW (s20) (Cov.asg ⟨rfl, rfl, rfl, rfl, rfl, rfl, rfl, rfl, trivial⟩) (.refl _); refine wpS_op (i := 8) (li' := (lv 12 499)) rfl rfl rfl rfl (by kernel_rfl) (OpA.alloc (sz := 3) (d := encSpan (Span.mk ByteArray.empty 0 0)) rfl tz33 (fun _ _ => .agg (.cons (.v _) (.cons (.v _) (.cons (.v _) .nil)))) (.of rfl) (fun c94 _ => ?_)); exact wpS_to hW (s24 c94) (Cov.asg ⟨rfl, rfl, rfl, rfl, rfl, rfl, rfl, rfl, rfl, rfl, trivial⟩) (.refl _); refine wpS_op (i := 9) (li' := (lv 12 755)) rfl rfl rfl rfl (by kernel_rfl) (OpA.alloc (sz := 3) (d := encSpan (Span.mk ByteArray.empty 0 0)) rfl tz33 (fun _ _ => .agg (.cons (.v _) (.cons (.v _) (.cons (.v _) .nil)))) (.of rfl) (fun c104 _ => ?_)); exact wpS_to hW (s25 c104) (Cov.asg ⟨rfl, rfl, rfl, rfl, rfl, rfl, rfl, rfl, rfl, rfl, trivial⟩) (.refl _))
  have s32 : ∀ (c94 : Nat), W 6 (lv 12 371) (asg [(0, (encL 3 encSpan) a), (1, (encL 3 encSpan) b), (4, .v (.slice none 0 0)), (5, .own cb5 3 pre5.length out.length), (6, D.i i), (7, D.i k), (8, .ptr c94 3 0 0), (21, (encL 3 encSpan) a), (22, D.i i), (27, .iptr (encSpan (gi b k)) 0)]) [(c94, .cells 3 [encSpan (Span.mk ByteArray.empty 0 0)]), (cb5, .cells 3 (winL encSpan pre5 out post5))] := fun c94 => wpS_of hW (by refine wpS_step (rs := [2, 7, 9]) (by kernel_rfl) rfl ⟨?_, ?_, ?_, trivial⟩; refine wpS_op (i := 2) (li' := (lv 12 375)) rfl rfl rfl rfl (by kernel_rfl) (OpA.iixV (enc := encSpan) rfl ts23 rfl rfl rfl q2_0 ?_); exact wpS_to hW (s21 c94) (Cov.asg ⟨rfl, rfl, rfl, rfl, rfl, rfl, rfl, rfl, rfl, trivial⟩) (.refl _); refine wpS_op (i := 7) (li' := (lv 12 499)) rfl rfl rfl rfl (by kernel_rfl) (OpA.iload_whole rfl ti33 rfl ⟨_, rfl, rfl⟩ ?_); exact wpS_to hW (s24 c94) (Cov.asg ⟨rfl, rfl, rfl, rfl, rfl, rfl, rfl, rfl, rfl, rfl, trivial⟩) (.refl _); refine wpS_op (i := 9) (li' := (lv 12 883)) rfl rfl rfl rfl (by kernel_rfl) (OpA.alloc (sz := 3) (d := encSpan (Span.mk ByteArray.empty 0 0)) rfl tz33 (fun _ _ => .agg (.cons (.v _) (.cons (.v _) (.cons (.v _) .nil)))) (.of rfl) (fun c104 _ => ?_)); exact wpS_to hW (s26 c94 c104) (Cov.asg ⟨rfl, rfl, rfl, rfl, rfl, rfl, rfl, rfl, rfl, rfl, rfl, trivial⟩) (.refl _))
  have s33 : ∀ (c104 : Nat), W 6 (lv 12 627) (asg [(0, (encL 3 encSpan) a), (1, (encL 3 encSpan) b), (4, .v (.slice none 0 0)), (5, .own cb5 3 pre5.length out.length), (6, D.i i), (7, D.i k), (9, .ptr c104 3 0 0), (21, (encL 3 encSpan) a), (22, D.i i), (27, .iptr (encSpan (gi b k)) 0)]) [(c104, .cells 3 [encSpan (Span.mk ByteArray.empty 0 0)]), (cb5, .cells 3 (winL encSpan pre5 out post5))] := fun c104 => wpS_of hW (by refine wpS_step (rs := [2, 7, 8]) (by kernel_rfl) rfl ⟨?_, ?_, ?_, trivial⟩; refine wpS_op (i := 2) (li' := (lv 12 631)) rfl rfl rfl rfl (by kernel_rfl) (OpA.iixV (enc := encSpan) rfl ts23 rfl rfl rfl q2_0 ?_); exact wpS_to hW (s22 c104) (Cov.asg ⟨rfl, rfl, rfl, rfl, rfl, rfl, rfl, rfl, rfl, trivial⟩) (.refl _); refine wpS_op (i := 7) (li' := (lv 12 755)) rfl rfl rfl rfl (by kernel_rfl) (OpA.iload_whole rfl ti33 rfl ⟨_, rfl, rfl⟩ ?_); exact wpS_to hW (s25 c104) (Cov.asg ⟨rfl, rfl, rfl, rfl, rfl, rfl, rfl, rfl, rfl, rfl, trivial⟩) (.refl _); refine wpS_op (i := 8) (li' := (lv 12 883)) rfl rfl rfl rfl (by kernel_rfl) (OpA.alloc (sz := 3) (d := encSpan (Span.mk ByteArray.empty 0 0)) rfl tz33 (fun _ _ => .agg (.cons (.v _) (.cons (.v _) (.cons (.v _) .nil)))) (.of rfl) (fun c94 _ => ?_)); exact wpS_to hW (s26 c94 c104) (Cov.asg ⟨rfl, rfl, rfl, rfl, rfl, rfl, rfl, rfl, rfl, rfl, rfl, trivial⟩) pull1)
  have s34 : ∀ (c94 : Nat) (c104 : Nat), W 6 (lv 12 819) (asg [(0, (encL 3 encSpan) a), (1, (encL 3 encSpan) b), (4, .v (.slice none 0 0)), (5, .own cb5 3 pre5.length out.length), (6, D.i i), (7, D.i k), (8, .ptr c94 3 0 0), (9, .ptr c104 3 0 0), (21, (encL 3 encSpan) a), (22, D.i i), (25, (encL 3 encSpan) b), (26, D.i k)]) [(c104, .cells 3 [encSpan (Span.mk ByteArray.empty 0 0)]), (c94, .cells 3 [encSpan (Span.mk ByteArray.empty 0 0)]), (cb5, .cells 3 (winL encSpan pre5 out post5))] := fun c94 c104 => wpS_of hW (by refine wpS_step (rs := [2, 6]) (by kernel_rfl) rfl ⟨?_, ?_, trivial⟩; refine wpS_op (i := 2) (li' := (lv 12 823)) rfl rfl rfl rfl (by kernel_rfl) (OpA.iixV (enc := encSpan) rfl ts23 rfl rfl rfl q2_0 ?_); exact wpS_to hW (s23 c94 c104) (Cov.asg ⟨rfl, rfl, rfl, rfl, rfl, rfl, rfl, rfl, rfl, rfl, rfl, trivial⟩) (.refl _); refine wpS_op (i := 6) (li' := (lv 12 883)) rfl rfl rfl rfl (by kernel_rfl) (OpA.iixV (enc := encSpan) rfl ts23 rfl rfl rfl q6_0 ?_); exact wpS_to hW (s26 c94 c104) (Cov.asg ⟨rfl, rfl, rfl, rfl, rfl, rfl, rfl, rfl, rfl, rfl, rfl, trivial⟩) (.refl _))
  have s35 : W 7 (lv 12 55) (asg [(0, (encL 3 encSpan) a), (1, (encL 3 encSpan) b), (4, .v (.slice none 0 0)), (5, .own cb5 3 pre5.length out.length), (6, D.i i), (7, D.i k), (23, .iptr (encSpan (gi a i)) 0), (25, (encL 3 encSpan) b), (26, D.i k)]) [(cb5, .cells 3 (winL encSpan pre5 out post5))] := wpS_of hW (by refine wpS_step (rs := [3, 6, 8, 9]) (by kernel_rfl) rfl ⟨?_, ?_, ?_, ?_, trivial⟩; refine wpS_op (i := 3) (li' := (lv 12 63)) rfl rfl rfl rfl (by kernel_rfl) (OpA.iload_whole rfl ti33 rfl ⟨_, rfl, rfl⟩ ?_); exact wpS_to hW (s27) (Cov.asg ⟨rfl, rfl, rfl, rfl, rfl, rfl, rfl, rfl, rfl, trivial⟩) (.refl _); refine wpS_op (i := 6) (li' := (lv 12 119)) rfl rfl rfl rfl (by kernel_rfl) (OpA.iixV (enc := encSpan) rfl ts23 rfl rfl rfl q6_0 ?_); exact wpS_to hW (s28) (Cov.asg ⟨rfl, rfl, rfl, rfl, rfl, rfl, rfl, rfl, trivial⟩) (.refl _); refine wpS_op (i := 8) (li' := (lv 12 311)) rfl rfl rfl rfl (by kernel_rfl) (OpA.alloc (sz := 3) (d := encSpan (Span.mk ByteArray.empty 0 0)) rfl tz33 (fun _ _ => .agg (.cons (.v _) (.cons (.v _) (.cons (.v _) .nil)))) (.of rfl) (fun c94 _ => ?_)); exact wpS_to hW (s29 c94) (Cov.asg ⟨rfl, rfl, rfl, rfl, rfl, rfl, rfl, rfl, rfl, rfl, trivial⟩) (.refl _); refine wpS_op (i := 9) (li' := (lv 12 567)) rfl rfl rfl rfl (by kernel_rfl) (OpA.alloc (sz := 3) (d := encSpan (Span.mk ByteArray.empty 0 0)) rfl tz33 (fun _ _ => .agg (.cons (.v _) (.cons (.v _) (.cons (.v _) .nil)))) (.of rfl) (fun c104 _ => ?_)); exact wpS_to hW (s30 c104) (Cov.asg ⟨rfl, rfl, rfl, rfl, rfl, rfl, rfl, rfl, rfl, rfl, trivial⟩) (.refl _))
  have s36 : W 7 (lv 12 115) (asg [(0, (encL 3 encSpan) a), (1, (encL 3 encSpan) b), (4, .v (.slice none 0 0)), (5, .own cb5 3 pre5.length out.length), (6, D.i i), (7, D.i k), (21, (encL 3 encSpan) a), (22, D.i i), (27, .iptr (encSpan (gi b k)) 0)]) [(cb5, .cells 3 (winL encSpan pre5 out post5))] := wpS_of hW (by refine wpS_step (rs := [2, 7, 8, 9]) (by kernel_rfl) rfl ⟨?_, ?_, ?_, ?_, trivial⟩; refine wpS_op (i := 2) (li' := (lv 12 119)) rfl rfl rfl rfl (by kernel_rfl) (OpA.iixV (enc := encSpan) rfl ts23 rfl rfl rfl q2_0 ?_); exact wpS_to hW (s28) (Cov.asg ⟨rfl, rfl, rfl, rfl, rfl, rfl, rfl, rfl, trivial⟩) (.refl _); refine wpS_op (i := 7) (li' := (lv 12 243)) rfl rfl rfl rfl (by kernel_rfl) (OpA.iload_whole rfl ti33 rfl ⟨_, rfl, rfl⟩ ?_); exact wpS_to hW (s31) (Cov.asg ⟨rfl, rfl, rfl, rfl, rfl, rfl, rfl, rfl, rfl, trivial⟩) (.refl _); refine wpS_op (i := 8) (li' := (lv 12 371)) rfl rfl rfl rfl (by kernel_rfl) (OpA.alloc (sz := 3) (d := encSpan (Span.mk ByteArray.empty 0 0)) rfl tz33 (fun _ _ => .agg (.cons (.v _) (.cons (.v _) (.cons (.v _) .nil)))) (.of rfl) (fun c94 _ => ?_)); exact wpS_to hW (s32 c94) (Cov.asg ⟨rfl, rfl, rfl, rfl, rfl, rfl, rfl, rfl, rfl, rfl, trivial⟩) (.refl _); refine wpS_op (i := 9) (li' := (lv 12 627)) rfl rfl rfl rfl (by kernel_rfl) (OpA.alloc (sz := 3) (d := encSpan (Span.mk ByteArray.empty 0 0)) rfl tz33 (fun _ _ => .agg (.cons (.v _) (.cons (.v _) (.cons (.v _) .nil)))) (.of rfl) (fun c104 _ => ?_)); exact wpS_to hW (s33 c104) (Cov.asg ⟨rfl, rfl, rfl, rfl, rfl, rfl, rfl, rfl, rfl, rfl, trivial⟩) (.refl _))
  have s37 : ∀ (c94 : Nat), W 7 (lv 12 307) (asg [(0, (encL 3 encSpan) a), (1, (encL 3 encSpan) b), (4, .v (.slice none 0 0)), (5, .own cb5 3 pre5.length out.length), (6, D.i i), (7, D.i k), (8, .ptr c94 3 0 0), (21, (encL 3 encSpan) a), (22, D.i i), (25, (encL 3 encSpan) b), (26, D.i k)]) [(c94, .cells 3 [encSpan (Span.mk ByteArray.empty 0 0)]), (cb5, .cells 3 (winL encSpan pre5 out post5))] := fun c94 => wpS_of hW (by refine wpS_step (rs := [2, 6, 9]) (by kernel_rfl) rfl ⟨?_, ?_, ?_, trivial⟩; refine wpS_op (i := 2) (li' := (lv 12 311)) rfl rfl rfl rfl (by kernel_rfl) (OpA.iixV (enc := encSpan) rfl ts23 rfl rfl rfl q2_0 ?_); exact wpS_to hW (s29 c94) (Cov.asg ⟨rfl, rfl, rfl, rfl, rfl, rfl, rfl, rfl, rfl, rfl, trivial⟩) (.refl _); refine wpS_op (i := 6) (li' := (lv 12 371)) rfl rfl rfl rfl (by kernel_rfl) (OpA.iixV (enc := encSpan) rfl ts23 rfl rfl rfl q6_0 ?_); exact wpS_to hW (s32 c94) (Cov.asg ⟨rfl, rfl, rfl, rfl, rfl, rfl, rfl, rfl, rfl, rfl, trivial⟩) (.refl _); refine wpS_op (i := 9) (li' := (lv 12 819)) rfl rfl rfl rfl (by kernel_rfl) (OpA.alloc (sz := 3) (d := encSpan (Span.mk ByteArray.empty 0 0)) rfl tz33 (fun _ _ => .agg (.cons (.v _) (.cons (.v _) (.cons (.v _) .nil)))) (.of rfl) (fun c104 _ => ?_)); exact wpS_to hW (s34 c94 c104) (Cov.asg ⟨rfl, rfl, rfl, rfl, rfl, rfl, rfl, rfl, rfl, rfl, rfl, rfl, trivial⟩) (.refl _))
  have s38 : ∀ (c104 : Nat), W 7 (lv 12 563) (asg [(0, (encL 3 encSpan) a), (1, (encL 3 encSpan) b), (4, .v (.slice none 0 0)), (5, .own cb5 3 pre5.length out.length), (6, D.i i), (7, D.i k), (9, .ptr c104 3 0 0), (21, (encL 3 encSpan) a), (22, D.i i), (25, (encL 3 encSpan) b), (26, D.i k)]) [(c104, .cells 3 [encSpan (Span.mk ByteArray.empty 0 0)]), (cb5, .cells 3 (winL encSpan pre5 out post5))] := fun c104 => wpS_of hW (by refine wpS_step (rs := [2, 6, 8]) (by kernel_rfl) rfl ⟨?_, ?_, ?_, trivial⟩; refine wpS_op (i := 2) (li' := (lv 12 567)) rfl rfl rfl rfl (by kernel_rfl) (OpA.iixV (enc := encSpan) rfl ts23 rfl rfl rfl q2_0 ?_); exact wpS_to hW (s30 c104) (Cov.asg ⟨rfl, rfl, rfl, rfl, rfl, rfl, rfl, rfl, rfl, rfl, trivial⟩) (.refl _); refine wpS_op (i := 6) (li' := (lv 12 627)) rfl rfl rfl rfl (by kernel_rfl) (OpA.iixV (enc := encSpan) rfl ts23 rfl rfl rfl q6_0 ?_); exact wpS_to hW (s33 c104) (Cov.asg ⟨rfl, rfl, rfl, rfl, rfl, rfl, rfl, rfl, rfl, rfl, trivial⟩) (.refl _); refine wpS_op (i := 8) (li' := (lv 12 819)) rfl rfl rfl rfl (by kernel_rfl) (OpA.alloc (sz := 3) (d := encSpan (Span.mk ByteArray.empty 0 0)) rfl tz33 (fun _ _ => .agg (.cons (.v _) (.cons (.v _) (.cons (.v _) .nil)))) (.of rfl) (fun c94 _ => ?_)); exact wpS_to hW (s34 c94 c104) (Cov.asg ⟨rfl, rfl, rfl, rfl, rfl, rfl, rfl, rfl, rfl, rfl, rfl, rfl, trivial⟩) pull1)
  have s39 : W 8 (lv 12 51) (asg [(0, (encL 3 encSpan) a), (1, (encL 3 encSpan) b), (4, .v (.slice none 0 0)), (5, .own cb5 3 pre5.length out.length), (6, D.i i), (7, D.i k), (21, (encL 3 encSpan) a), (22, D.i i), (25, (encL 3 encSpan) b), (26, D.i k)]) [(cb5, .cells 3 (winL encSpan pre5 out post5))] := wpS_of hW (by refine wpS_step (rs := [2, 6, 8, 9]) (by kernel_rfl) rfl ⟨?_, ?_, ?_, ?_, trivial⟩; refine wpS_op (i := 2) (li' := (lv 12 55)) rfl rfl rfl rfl (by kernel_rfl) (OpA.iixV (enc := encSpan) rfl ts23 rfl rfl rfl q2_0 ?_); exact wpS_to hW (s35) (Cov.asg ⟨rfl, rfl, rfl, rfl, rfl, rfl, rfl, rfl, rfl, trivial⟩) (.refl _); refine wpS_op (i := 6) (li' := (lv 12 115)) rfl rfl rfl rfl (by kernel_rfl) (OpA.iixV (enc := encSpan) rfl ts23 rfl rfl rfl q6_0 ?_); exact wpS_to hW (s36) (Cov.asg ⟨rfl, rfl, rfl, rfl, rfl, rfl, rfl, rfl, rfl, trivial⟩) (.refl _); refine wpS_op (i := 8) (li' := (lv 12 307)) rfl rfl rfl rfl (by kernel_rfl) (OpA.alloc (sz := 3) (d := encSpan (Span.mk ByteArray.empty 0 0)) rfl tz33 (fun _ _ => .agg (.cons (.v _) (.cons (.v _) (.cons (.v _) .nil)))) (.of rfl) (fun c94 _ => ?_)); exact wpS_to hW (s37 c94) (Cov.asg ⟨rfl, rfl, rfl, rfl, rfl, rfl, rfl, rfl, rfl, rfl, rfl, trivial⟩) (.refl _); refine wpS_op (i := 9) (li' := (lv 12 563)) rfl rfl rfl rfl (by kernel_rfl) (OpA.alloc (sz := 3) (d := encSpan (Span.mk ByteArray.empty 0 0)) rfl tz33 (fun _ _ => .agg (.cons (.v _) (.cons (.v _) (.cons (.v _) .nil)))) (.of rfl) (fun c104 _ => ?_)); exact wpS_to hW (s38 c104) (Cov.asg ⟨rfl, rfl, rfl, rfl, rfl, rfl, rfl, rfl, rfl, rfl, rfl, trivial⟩) (.refl _))
  refine wpS_of hW ?_
  refine wpS_firstY (fuel := 11) (i := 0) (li' := (lv 12 1)) rfl rfl (.move rfl) rfl rfl (by kernel_rfl) (by kernel_rfl) (by kernel_rfl) (fun _ _ _ hx => hx) rfl rfl (by kernel_rfl) ?_
  refine wpS_firstY (fuel := 10) (i := 1) (li' := (lv 12 3)) rfl rfl (.move rfl) rfl rfl (by kernel_rfl) (by kernel_rfl) (by kernel_rfl) (fun _ _ _ hx => hx) rfl rfl (by kernel_rfl) ?_
  refine wpS_firstY (fuel := 9) (i := 4) (li' := (lv 12 19)) rfl rfl (.move rfl) rfl rfl (by kernel_rfl) (by kernel_rfl) (by kernel_rfl) (fun _ _ _ hx => hx) rfl rfl (by kernel_rfl) ?_
  refine wpS_firstY (fuel := 8) (i := 5) (li' := (lv 12 51)) rfl rfl (.move rfl) rfl rfl (by kernel_rfl) (by kernel_rfl) (by kernel_rfl) (fun _ _ _ hx => hx) rfl rfl (by kernel_rfl) ?_
  exact wpS_to hW s39 (Cov.asg ⟨rfl, rfl, rfl, rfl, rfl, rfl, rfl, rfl, rfl, rfl, trivial⟩) (.refl _)
  intro c94 c104
  refine wpS_of hW (wpS_done (by kernel_rfl) ?_)
  iterate 2 refine wpA_seq ?_
  refine wpA_region ?_
  refine wpL_op rfl rfl rfl (OpA.fieldAddr rfl tf33_0 rfl ?_)
  refine wpL_op rfl rfl rfl (OpA.load rfl ti9 rfl (.tail .head) rfl rfl ?_)
  refine wpL_op rfl rfl rfl (OpA.fieldAddr rfl tf33_0 rfl ?_)
  refine wpL_op rfl rfl rfl (OpA.load rfl ti9 rfl .head rfl rfl ?_)
  refine wpL_op rfl rfl rfl (OpA.seql rfl rfl rfl ?_)
  refine wpL_nil ?_
  refine wpA_join (S := (List Span)) (G := Nat × List D × List D) (fun gg ss => asg [(0, (encL 3 encSpan) a), (1, (encL 3 encSpan) b), (4, .v (.slice none 0 0)), (5, .own gg.1 3 gg.2.1.length ss.length), (6, D.i i), (7, D.i k), (8, .ptr c94 3 0 0), (9, .ptr c104 3 0 0)]) (fun gg ss => [(c104, .cells 3 [encSpan (gi b k)]), (c94, .cells 3 [encSpan (gi a i)]), (gg.1, .cells 3 (winL encSpan gg.2.1 ss gg.2.2))]) (fun ss => common_J1 a b i k again2 ss) ?_ ?_
  refine wpA_cond rfl (fun b147 => ?_) (fun b147 => ?_)
  have h := h.1 (decT b147)
  refine wpA_seq ?_
  refine wpA_region ?_
  refine wpL_op rfl rfl rfl (OpA.fieldAddr rfl tf33_0 rfl ?_)
  refine wpL_op rfl rfl rfl (OpA.load rfl ti9 rfl (.tail .head) rfl rfl ?_)
  refine wpL_op rfl rfl rfl (OpA.fieldAddr rfl tf33_1 rfl ?_)
  refine wpL_op rfl rfl rfl (OpA.load rfl ti3 rfl (.tail .head) rfl rfl ?_)
  refine wpL_op rfl rfl rfl (OpA.fieldAddr rfl tf33_1 rfl ?_)
  refine wpL_op rfl rfl rfl (OpA.load rfl ti3 rfl .head rfl rfl ?_)
  refine wpL_op rfl rfl rfl (OpA.max (l := [_]) rfl rfl rfl rfl ?_)
  refine wpL_op rfl rfl rfl (OpA.fieldAddr rfl tf33_2 rfl ?_)
  refine wpL_op rfl rfl rfl (OpA.load rfl ti3 rfl (.tail .head) rfl rfl ?_)
  refine wpL_op rfl rfl rfl (OpA.fieldAddr rfl tf33_2 rfl ?_)
  refine wpL_op rfl rfl rfl (OpA.load rfl ti3 rfl .head rfl rfl ?_)
  refine wpL_op rfl rfl rfl (OpA.min (l := [_]) rfl rfl rfl rfl ?_)
  refine wpL_op rfl rfl rfl (OpA.buildO (zs := [.v (.string ⟨#[]⟩), .v (.int .i64 0), .v (.int .i64 0)]) rfl tp33 tz33 (fun _ _ => (.cons (.v _) (.cons (.v _) (.cons (.v _) .nil)))) (.cons (.of (sz := 1) rfl) (.cons (.of (sz := 1) rfl) (.cons (.of (sz := 1) rfl) .nil))) rfl ?_)
  refine wpL_op rfl rfl rfl (OpA.alloc (sz := 3) (d := encSpan (Span.mk ByteArray.empty 0 0)) rfl tz33 (fun _ _ => .agg (.cons (.v _) (.cons (.v _) (.cons (.v _) .nil)))) (.of rfl) (fun c148 _ => ?_))
  refine wpL_eff rfl rfl (OpA.storeW rfl ti33 rfl (by with_reducible conv => lhs; whnf) (.of rfl) rfl rfl .head ?_)
  refine wpL_nil ?_
  refine wpA_seq ?_
  refine wpA_region ?_
  refine wpL_op rfl rfl rfl (OpA.fieldAddr rfl tf33_1 rfl ?_)
  refine wpL_op rfl rfl rfl (OpA.load rfl ti3 rfl .head rfl rfl ?_)
  refine wpL_op rfl rfl rfl (OpA.fieldAddr rfl tf33_2 rfl ?_)
  refine wpL_op rfl rfl rfl (OpA.load rfl ti3 rfl .head rfl rfl ?_)
  refine wpL_op rfl rfl rfl (OpA.lss rfl rfl rfl ?_)
  refine wpL_nil ?_
  refine wpA_cond rfl (fun b149 => ?_) (fun b149 => ?_)
  have h := h.1 (decT b149)
  obtain ⟨q1, h⟩ := h
  refine wpA_region ?_
  refine wpL_op rfl rfl rfl (OpA.mv rfl (by with_reducible conv => lhs; whnf) ?_)
  refine wpL_op rfl rfl rfl (OpA.load_whole rfl ti33 rfl rfl .head rfl ⟨_, rfl⟩ ?_)
  refine wpL_op rfl rfl rfl (OpA.ibuildSliceO rfl ts23 rfl (.cons (.of (sz := 3) rfl) .nil) (by decide) ?_)
  refine wpL_op rfl rfl rfl (OpA.appendW (enc := encSpan) rfl rfl rfl rfl ts23 rfl (fun _ _ => (.tail (.tail (.tail .head)))) (.list (ys := ([(Span.mk ((gi a i).path) (gmax ((gi a i).from_) [(gi b k).from_]) (gmin ((gi a i).to) [(gi b k).to]))] : List Span))) q1 (fun c150 pre151 => ?_))
  refine wpL_op rfl rfl rfl (OpA.asn rfl (by with_reducible conv => lhs; whnf) ?_)
  refine wpL_nil ?_
  exact ⟨(c150, pre151, ([] : List D)), (out ++ ([(Span.mk ((gi a i).path) (gmax ((gi a i).from_) [(gi b k).from_]) (gmin ((gi a i).to) [(gi b k).to]))] : List Span)), h, (Cov.asg ⟨rfl, rfl, rfl, rfl, rfl, rfl, rfl, rfl, trivial⟩), (.cons _ (.refl _))⟩
  have h := h.2 (decF b149)
  refine wpA_skip ?_
  exact ⟨(cb5, pre5, post5), out, h, (Cov.asg ⟨rfl, rfl, rfl, rfl, rfl, rfl, rfl, rfl, trivial⟩), (.cons _ (.refl _))⟩
  have h := h.2 (decF b147)
  refine wpA_skip ?_
  exact ⟨(cb5, pre5, post5), out, h, (Cov.asg ⟨rfl, rfl, rfl, rfl, rfl, rfl, rfl, rfl, trivial⟩), (.refl _)⟩
  rintro ⟨cb51, pre51, post51⟩ out1 h
  have h : common_J1 a b i k again2 out1 := h
  unfold common_J1 at h
  show wpA _ _ _ _ (asg [(0, (encL 3 encSpan) a), (1, (encL 3 encSpan) b), (4, .v (.slice none 0 0)), (5, .own cb51 3 pre51.length out1.length), (6, D.i i), (7, D.i k), (8, .ptr c94 3 0 0), (9, .ptr c104 3 0 0)]) [(c104, .cells 3 [encSpan (gi b k)]), (c94, .cells 3 [encSpan (gi a i)]), (cb51, .cells 3 (winL encSpan pre51 out1 post51))]
  refine wpA_seq ?_
  refine wpA_mid (asg [(0, (encL 3 encSpan) a), (1, (encL 3 encSpan) b), (4, .v (.slice none 0 0)), (5, .own cb51 3 pre51.length out1.length), (6, D.i i), (7, D.i k), (74, D.b ((sless ((gi a i).path) ((gi b k).path)) || ((decide ((gi a i).path = (gi b k).path)) && (decide ((gi a i).to ≤ (gi b k).to)))))]) [(c104, .cells 3 [encSpan (gi b k)]), (c94, .cells 3 [encSpan (gi a i)]), (cb51, .cells 3 (winL encSpan pre51 out1 post51))] ?_ ?_
  refine wpA_region ?_
  refine wpL_op rfl rfl rfl (OpA.fieldAddr rfl tf33_0 rfl ?_)
  refine wpL_op rfl rfl rfl (OpA.load rfl ti9 rfl (.tail .head) rfl rfl ?_)
  refine wpL_op rfl rfl rfl (OpA.fieldAddr rfl tf33_0 rfl ?_)
  refine wpL_op rfl rfl rfl (OpA.load rfl ti9 rfl .head rfl rfl ?_)
  refine wpL_op rfl rfl rfl (OpA.slss rfl rfl rfl ?_)
  refine wpL_op rfl rfl rfl (OpA.mv rfl (by with_reducible conv => lhs; whnf) ?_)
  refine wpL_split (s := 61) rfl (fun b145 => ?_) (fun b145 => ?_)
  iterate 6 refine wpL_skip rfl rfl rfl rfl rfl rfl ?_
  iterate 5 refine wpL_skipU rfl rfl rfl rfl rfl ?_
  refine wpL_skip rfl rfl rfl rfl rfl rfl ?_
  refine wpL_op rfl rfl rfl (OpA.pck rfl rfl (by with_reducible conv => lhs; whnf) ?_)
  refine wpL_nil ?_
  exact ⟨(Cov.asg ⟨rfl, rfl, rfl, rfl, rfl, rfl, (congrArg D.b (Eq.symm (orS b145))), trivial⟩), (.refl _)⟩
  refine wpL_opg rfl rfl rfl rfl rfl rfl (OpA.fieldAddr rfl tf33_0 rfl ?_)
  refine wpL_opg rfl rfl rfl rfl rfl rfl (OpA.load rfl ti9 rfl (.tail .head) rfl rfl ?_)
  refine wpL_opg rfl rfl rfl rfl rfl rfl (OpA.fieldAddr rfl tf33_0 rfl ?_)
  refine wpL_opg rfl rfl rfl rfl rfl rfl (OpA.load rfl ti9 rfl .head rfl rfl ?_)
  refine wpL_opg rfl rfl rfl rfl rfl rfl (OpA.seql rfl rfl rfl ?_)
  refine wpL_opg rfl rfl rfl rfl rfl rfl (OpA.mv rfl (by with_reducible conv => lhs; whnf) ?_)
  refine wpL_split (s := 67) rfl (fun b146 => ?_) (fun b146 => ?_)
  refine wpL_opg rfl rfl rfl rfl rfl rfl (OpA.fieldAddr rfl tf33_2 rfl ?_)
  refine wpL_opg rfl rfl rfl rfl rfl rfl (OpA.load rfl ti3 rfl (.tail .head) rfl rfl ?_)
  refine wpL_opg rfl rfl rfl rfl rfl rfl (OpA.fieldAddr rfl tf33_2 rfl ?_)
  refine wpL_opg rfl rfl rfl rfl rfl rfl (OpA.load rfl ti3 rfl .head rfl rfl ?_)
  refine wpL_opg rfl rfl rfl rfl rfl rfl (OpA.leq rfl rfl rfl ?_)
  refine wpL_opg rfl rfl rfl rfl rfl rfl (OpA.pck rfl rfl (by with_reducible conv => lhs; whnf) ?_)
  refine wpL_op rfl rfl rfl (OpA.pck rfl rfl (by with_reducible conv => lhs; whnf) ?_)
  refine wpL_nil ?_
  exact ⟨(Cov.asg ⟨rfl, rfl, rfl, rfl, rfl, rfl, (congrArg D.b (Eq.symm (orN b145 (andN b146 rfl)))), trivial⟩), (.refl _)⟩
  iterate 5 refine wpL_skip rfl rfl rfl rfl rfl rfl ?_
  refine wpL_opg rfl rfl rfl rfl rfl rfl (OpA.pck rfl rfl (by with_reducible conv => lhs; whnf) ?_)
  refine wpL_op rfl rfl rfl (OpA.pck rfl rfl (by with_reducible conv => lhs; whnf) ?_)
  refine wpL_nil ?_
  exact ⟨(Cov.asg ⟨rfl, rfl, rfl, rfl, rfl, rfl, (congrArg D.b (Eq.symm (orN b145 (andS b146)))), trivial⟩), (.refl _)⟩
  show wpA _ _ _ _ (asg [(0, (encL 3 encSpan) a), (1, (encL 3 encSpan) b), (4, .v (.slice none 0 0)), (5, .own cb51 3 pre51.length out1.length), (6, D.i i), (7, D.i k), (74, D.b ((sless ((gi a i).path) ((gi b k).path)) || ((decide ((gi a i).path = (gi b k).path)) && (decide ((gi a i).to ≤ (gi b k).to)))))]) [(c104, .cells 3 [encSpan (gi b k)]), (c94, .cells 3 [encSpan (gi a i)]), (cb51, .cells 3 (winL encSpan pre51 out1 post51))]
  refine wpA_cond rfl (fun b144 => ?_) (fun b144 => ?_)
  have h := h.1 ((or0 b144).imp (fun hh => hh) (fun hh => ⟨(decT (and1 hh)), (decT (and2 hh))⟩))
  obtain ⟨q1, h⟩ := h
  refine wpA_region ?_
  refine wpL_op rfl rfl rfl (OpA.mv rfl (by with_reducible conv => lhs; whnf) ?_)
  refine wpL_op rfl rfl rfl (OpA.addi rfl rfl rfl q1 ?_)
  refine wpL_op rfl rfl rfl (OpA.asn rfl (by with_reducible conv => lhs; whnf) ?_)
  refine wpL_nil ?_
  exact ⟨(cb51, pre51, post51), (out1, (i + 1), k), h, (Cov.asg ⟨rfl, rfl, rfl, rfl, rfl, rfl, trivial⟩), (.cons _ (.cons _ (.refl _)))⟩
  have h := h.2 ⟨(or1 b144), ((and0 (or2 b144)).imp (fun hh => (decF hh)) (fun hh => (decF hh)))⟩
  obtain ⟨q1, h⟩ := h
  refine wpA_region ?_
  refine wpL_op rfl rfl rfl (OpA.mv rfl (by with_reducible conv => lhs; whnf) ?_)
  refine wpL_op rfl rfl rfl (OpA.addi rfl rfl rfl q1 ?_)
  refine wpL_op rfl rfl rfl (OpA.asn rfl (by with_reducible conv => lhs; whnf) ?_)
  refine wpL_nil ?_
  exact ⟨(cb51, pre51, post51), (out1, i, (k + 1)), h, (Cov.asg ⟨rfl, rfl, rfl, rfl, rfl, rfl, trivial⟩), (.cons _ (.cons _ (.refl _)))⟩
  have h := h.2 ((and0 b3).imp (fun hh => (decF hh)) (fun hh => (decF hh)))
  refine wpA_exit ?_
  refine wpA_seq ?_
  refine wpA_region ?_
  refine wpL_op rfl rfl rfl (OpA.mv rfl (by with_reducible conv => lhs; whnf) ?_)
  refine wpL_op rfl rfl rfl (OpA.asn rfl (by with_reducible conv => lhs; whnf) ?_)
  refine wpL_nil ?_
  refine wpA_ret ?_
  exact ⟨_, (.tmp (d := .own cb5 3 pre5.length out.length) rfl .nil), _, (.win .head (by intro hf; cases hf) .nil), ⟨out, rfl, h⟩⟩
theorem common_c (a : (List Span)) (b : (List Span))  (hp0 : a.length ≤ 1000000) (hp1 : b.length ≤ 1000000) : Fun false Tryd.prog 25 [(encL 3 encSpan) a, (encL 3 encSpan) b] (fun d => d = (encL 3 encSpan) (commonF a b)) :=
  Fun.at (enc := fun r => (encL 3 encSpan) r) (v := commonF a b) (common_w a b  (fun r => r = commonF a b) (common_ok a b _ hp0 hp1 rfl))

set_option maxHeartbeats 2000000 in
set_option maxRecDepth 10000 in
theorem union_w (a : (List Span)) (b : (List Span))  (Q : (List Span) × Int → Prop) (h : union_vc a b Q) : Fun false Tryd.prog 9 [(encL 3 encSpan) a, (encL 3 encSpan) b] (fun d => ∃ r, d = .tup [(encL 3 encSpan) (r.1), D.i (r.2)] ∧ Q r) := by
  unfold union_vc at h
  refine Fun.of_body Tryd.func9 rfl Tryd.ntmps9 rfl ?_
  refine wpA_seq ?_
  refine wpA_region ?_
  refine wpL_op rfl rfl rfl (OpA.asn rfl (by with_reducible conv => lhs; whnf) ?_)
  refine wpL_op rfl rfl rfl (OpA.asn rfl (by with_reducible conv => lhs; whnf) ?_)
  refine wpL_nil ?_
  iterate 2 refine wpA_seq ?_
  obtain ⟨q1, q2, q3, h⟩ := h
  refine wpA_mid (asg [(0, (encL 3 encSpan) a), (1, (encL 3 encSpan) b), (4, .v (.slice none 0 0)), (5, D.i 0), (13, D.b ((!(validF a)) || (!(validF b))))]) [] ?_ ?_
  refine wpA_region ?_
  refine wpL_op rfl rfl rfl (OpA.mv rfl (by with_reducible conv => lhs; whnf) ?_)
  refine wpL_op rfl rfl rfl (OpA.call rfl rfl rfl en6 (valid_c a q1 q2) ?_)
  rintro _ rfl
  refine wpL_op rfl rfl rfl (OpA.not rfl rfl ?_)
  refine wpL_op rfl rfl rfl (OpA.mv rfl (by with_reducible conv => lhs; whnf) ?_)
  refine wpL_split (s := 9) rfl (fun b8 => ?_) (fun b8 => ?_)
  iterate 3 refine wpL_skip rfl rfl rfl rfl rfl rfl ?_
  refine wpL_op rfl rfl rfl (OpA.pck rfl rfl (by with_reducible conv => lhs; whnf) ?_)
  refine wpL_nil ?_
  exact ⟨(Cov.asg ⟨rfl, rfl, rfl, rfl, (congrArg D.b (Eq.symm (orS b8))), trivial⟩), (.refl _)⟩
  refine wpL_opg rfl rfl rfl rfl rfl rfl (OpA.mv rfl (by with_reducible conv => lhs; whnf) ?_)
  refine wpL_opg rfl rfl rfl rfl rfl rfl (OpA.call rfl rfl rfl en6 (valid_c b (q3 (notF b8)).1 (q3 (notF b8)).2) ?_)
  rintro _ rfl
  refine wpL_opg rfl rfl rfl rfl rfl rfl (OpA.not rfl rfl ?_)
  refine wpL_op rfl rfl rfl (OpA.pck rfl rfl (by with_reducible conv => lhs; whnf) ?_)
  refine wpL_nil ?_
  exact ⟨(Cov.asg ⟨rfl, rfl, rfl, rfl, (congrArg D.b (Eq.symm (orN b8 rfl))), trivial⟩), (.refl _)⟩
  show wpA _ _ _ _ (asg [(0, (encL 3 encSpan) a), (1, (encL 3 encSpan) b), (4, .v (.slice none 0 0)), (5, D.i 0), (13, D.b ((!(validF a)) || (!(validF b))))]) []
  refine wpA_cond rfl (fun b1 => ?_) (fun b1 => ?_)
  have h := h.1 ((or0 b1).imp (fun hh => (notT hh)) (fun hh => (notT hh)))
  refine wpA_seq ?_
  refine wpA_region ?_
  refine wpL_op rfl rfl rfl (OpA.asn rfl (by with_reducible conv => lhs; whnf) ?_)
  refine wpL_op rfl rfl rfl (OpA.asn rfl (by with_reducible conv => lhs; whnf) ?_)
  refine wpL_nil ?_
  refine wpA_ret ?_
  exact ⟨_, (.tmp (d := .v (.slice none 0 0)) rfl (.tmp (d := D.i 1) rfl .nil)), _, (.tup (.nilv (sz := 3) (.same rfl .nil)) .nil), ⟨([], 1), rfl, h⟩⟩
  have h := h.2 ⟨(notF (or1 b1)), (notF (or2 b1))⟩
  refine wpA_skip ?_
  refine wpA_seq ?_
  obtain ⟨q1, q2, h⟩ := h
  refine wpA_region ?_
  refine wpL_op rfl rfl rfl (OpA.mv rfl (by with_reducible conv => lhs; whnf) ?_)
  refine wpL_op rfl rfl rfl (OpA.mv rfl (by with_reducible conv => lhs; whnf) ?_)
  refine wpL_op rfl rfl rfl (OpA.ibuildSliceO rfl ts70 rfl (.cons (.of (sz := 1) rfl) (.cons (.of (sz := 1) rfl) .nil)) (by decide) ?_)
  refine wpL_op rfl rfl rfl (OpA.callH rfl rfl rfl en24 (h1 := []) (h2 := []) (.refl _) (concat_c ([a, b] : List (List Span)) q1 q2) ?_)
  rintro _ _ ⟨⟨c2, pre3, post4⟩, rfl, rfl⟩
  refine wpL_op rfl rfl rfl (OpA.callH rfl rfl rfl en23 (h1 := [(c2, .cells 3 (winL encSpan pre3 (List.flatten ([a, b] : List (List Span))) post4))]) (h2 := []) (.refl _) (merge_c (List.flatten ([a, b] : List (List Span))) c2 pre3 post4 q2) ?_)
  rintro _ _ ⟨⟨c5, pre6, post7⟩, rfl, rfl⟩
  refine wpL_op rfl rfl rfl (OpA.asn rfl (by with_reducible conv => lhs; whnf) ?_)
  refine wpL_op rfl rfl rfl (OpA.asn rfl (by with_reducible conv => lhs; whnf) ?_)
  refine wpL_nil ?_
  refine wpA_ret ?_
  exact ⟨_, (.tmp (d := .own c5 3 pre6.length (mergeF (List.flatten ([a, b] : List (List Span)))).length) rfl (.tmp (d := D.i 0) rfl .nil)), _, (.tup (.win .head (by intro hf; cases hf) (.same rfl .nil)) .nil), ⟨((mergeF (List.flatten ([a, b] : List (List Span)))), 0), rfl, h⟩⟩
theorem union_c (a : (List Span)) (b : (List Span))  (hp0 : a.length ≤ 100000) (hp1 : b.length ≤ 100000) (hp2 : ∀ z_ ∈ a, z_.path.size ≤ 1000000) (hp3 : ∀ z_ ∈ b, z_.path.size ≤ 1000000) : Fun false Tryd.prog 9 [(encL 3 encSpan) a, (encL 3 encSpan) b] (fun d => d = .tup [(encL 3 encSpan) ((unionF a b).1), D.i ((unionF a b).2)]) :=
  Fun.at (enc := fun r => .tup [(encL 3 encSpan) (r.1), D.i (r.2)]) (v := unionF a b) (union_w a b  (fun r => r = unionF a b) (union_ok a b _ hp0 hp1 hp2 hp3 rfl))

set_option maxHeartbeats 2000000 in
set_option maxRecDepth 10000 in
theorem meet_w (a : (List Span)) (b : (List Span))  (Q : (List Span) × Int → Prop) (h : meet_vc a b Q) : Fun false Tryd.prog 11 [(encL 3 encSpan) a, (encL 3 encSpan) b] (fun d => ∃ r, d = .tup [(encL 3 encSpan) (r.1), D.i (r.2)] ∧ Q r) := by
  unfold meet_vc at h
  refine Fun.of_body Tryd.func11 rfl Tryd.ntmps11 rfl ?_
  refine wpA_seq ?_
  refine wpA_region ?_
  refine wpL_op rfl rfl rfl (OpA.asnN (T := Span) (enc := encSpan) (sz := 3) rfl rfl ?_)
  refine wpL_op rfl rfl rfl (OpA.asn rfl (by with_reducible conv => lhs; whnf) ?_)
  refine wpL_nil ?_
  iterate 2 refine wpA_seq ?_
  obtain ⟨q1, q2, q3, h⟩ := h
  refine wpA_mid (asg [(0, (encL 3 encSpan) a), (1, (encL 3 encSpan) b), (4, (encL 3 encSpan) ([] : List Span)), (5, D.i 0), (13, D.b ((!(validF a)) || (!(validF b))))]) [] ?_ ?_
  refine wpA_region ?_
  refine wpL_op rfl rfl rfl (OpA.mv rfl (by with_reducible conv => lhs; whnf) ?_)
  refine wpL_op rfl rfl rfl (OpA.call rfl rfl rfl en6 (valid_c a q1 q2) ?_)
  rintro _ rfl
  refine wpL_op rfl rfl rfl (OpA.not rfl rfl ?_)
  refine wpL_op rfl rfl rfl (OpA.mv rfl (by with_reducible conv => lhs; whnf) ?_)
  refine wpL_split (s := 9) rfl (fun b2 => ?_) (fun b2 => ?_)
  iterate 3 refine wpL_skip rfl rfl rfl rfl rfl rfl ?_
  refine wpL_op rfl rfl rfl (OpA.pck rfl rfl (by with_reducible conv => lhs; whnf) ?_)
  refine wpL_nil ?_
  exact ⟨(Cov.asg ⟨rfl, rfl, rfl, rfl, (congrArg D.b (Eq.symm (orS b2))), trivial⟩), (.refl _)⟩
  refine wpL_opg rfl rfl rfl rfl rfl rfl (OpA.mv rfl (by with_reducible conv => lhs; whnf) ?_)
  refine wpL_opg rfl rfl rfl rfl rfl rfl (OpA.call rfl rfl rfl en6 (valid_c b (q3 (notF b2)).1 (q3 (notF b2)).2) ?_)
  rintro _ rfl
  refine wpL_opg rfl rfl rfl rfl rfl rfl (OpA.not rfl rfl ?_)
  refine wpL_op rfl rfl rfl (OpA.pck rfl rfl (by with_reducible conv => lhs; whnf) ?_)
  refine wpL_nil ?_
  exact ⟨(Cov.asg ⟨rfl, rfl, rfl, rfl, (congrArg D.b (Eq.symm (orN b2 rfl))), trivial⟩), (.refl _)⟩
  show wpA _ _ _ _ (asg [(0, (encL 3 encSpan) a), (1, (encL 3 encSpan) b), (4, (encL 3 encSpan) ([] : List Span)), (5, D.i 0), (13, D.b ((!(validF a)) || (!(validF b))))]) []
  refine wpA_cond rfl (fun b1 => ?_) (fun b1 => ?_)
  have h := h.1 ((or0 b1).imp (fun hh => (notT hh)) (fun hh => (notT hh)))
  refine wpA_seq ?_
  refine wpA_region ?_
  refine wpL_op rfl rfl rfl (OpA.asnN (T := Span) (enc := encSpan) (sz := 3) rfl rfl ?_)
  refine wpL_op rfl rfl rfl (OpA.asn rfl (by with_reducible conv => lhs; whnf) ?_)
  refine wpL_nil ?_
  refine wpA_ret ?_
  exact ⟨_, (.tmp (d := (encL 3 encSpan) ([] : List Span)) rfl (.tmp (d := D.i 1) rfl .nil)), _, (.tup (.same rfl (.same rfl .nil)) .nil), ⟨(([] : List Span), 1), rfl, h⟩⟩
  have h := h.2 ⟨(notF (or1 b1)), (notF (or2 b1))⟩
  refine wpA_skip ?_
  refine wpA_seq ?_
  obtain ⟨q1, q2, h⟩ := h
  refine wpA_region ?_
  refine wpL_op rfl rfl rfl (OpA.mv rfl (by with_reducible conv => lhs; whnf) ?_)
  refine wpL_op rfl rfl rfl (OpA.mv rfl (by with_reducible conv => lhs; whnf) ?_)
  refine wpL_op rfl rfl rfl (OpA.call rfl rfl rfl en25 (common_c a b q1 q2) ?_)
  rintro _ rfl
  refine wpL_op rfl rfl rfl (OpA.asn rfl (by with_reducible conv => lhs; whnf) ?_)
  refine wpL_op rfl rfl rfl (OpA.asn rfl (by with_reducible conv => lhs; whnf) ?_)
  refine wpL_nil ?_
  refine wpA_ret ?_
  exact ⟨_, (.tmp (d := (encL 3 encSpan) (commonF a b)) rfl (.tmp (d := D.i 0) rfl .nil)), _, (.tup (.same rfl (.same rfl .nil)) .nil), ⟨((commonF a b), 0), rfl, h⟩⟩
theorem meet_c (a : (List Span)) (b : (List Span))  (hp0 : a.length ≤ 100000) (hp1 : b.length ≤ 100000) (hp2 : ∀ z_ ∈ a, z_.path.size ≤ 1000000) (hp3 : ∀ z_ ∈ b, z_.path.size ≤ 1000000) : Fun false Tryd.prog 11 [(encL 3 encSpan) a, (encL 3 encSpan) b] (fun d => d = .tup [(encL 3 encSpan) ((meetF a b).1), D.i ((meetF a b).2)]) :=
  Fun.at (enc := fun r => .tup [(encL 3 encSpan) (r.1), D.i (r.2)]) (v := meetF a b) (meet_w a b  (fun r => r = meetF a b) (meet_ok a b _ hp0 hp1 hp2 hp3 rfl))

set_option maxHeartbeats 2000000 in
set_option maxRecDepth 10000 in
theorem count_w (l : (List Span))  (Q : Int → Prop) (h : count_vc l Q) : Fun false Tryd.prog 18 [(encL 3 encSpan) l] (fun d => ∃ r, d = D.i r ∧ Q r) := by
  unfold count_vc at h
  refine Fun.of_body Tryd.func18 rfl Tryd.ntmps18 rfl ?_
  refine wpA_seq ?_
  refine wpA_region ?_
  refine wpL_op rfl rfl rfl (OpA.asn rfl (by with_reducible conv => lhs; whnf) ?_)
  refine wpL_nil ?_
  iterate 2 refine wpA_seq ?_
  obtain ⟨q1, q2, h⟩ := h
  refine wpA_region ?_
  refine wpL_op rfl rfl rfl (OpA.mv rfl (by with_reducible conv => lhs; whnf) ?_)
  refine wpL_op rfl rfl rfl (OpA.call rfl rfl rfl en6 (valid_c l q1 q2) ?_)
  rintro _ rfl
  refine wpL_op rfl rfl rfl (OpA.not rfl rfl ?_)
  refine wpL_nil ?_
  refine wpA_cond rfl (fun b1 => ?_) (fun b1 => ?_)
  have h := h.1 (notT b1)
  refine wpA_seq ?_
  refine wpA_region ?_
  refine wpL_op rfl rfl rfl (OpA.asn rfl (by with_reducible conv => lhs; whnf) ?_)
  refine wpL_nil ?_
  refine wpA_ret ?_
  exact ⟨_, (.tmp (d := D.i 0) rfl .nil), _, (.same rfl .nil), ⟨0, rfl, h⟩⟩
  have h := h.2 (notF b1)
  refine wpA_skip ?_
  refine wpA_seq ?_
  refine wpA_region ?_
  refine wpL_op rfl rfl rfl (OpA.asn rfl (by with_reducible conv => lhs; whnf) ?_)
  refine wpL_nil ?_
  iterate 2 refine wpA_seq ?_
  refine wpA_region ?_
  refine wpL_op rfl rfl rfl (OpA.mv rfl (by with_reducible conv => lhs; whnf) ?_)
  refine wpL_op rfl rfl rfl (OpA.len rfl rfl rfl rfl ts23.desc (.inl ⟨_, _, rfl, (List.length_map _).symm⟩) ?_)
  refine wpL_op rfl rfl rfl (OpA.mv rfl (by with_reducible conv => lhs; whnf) ?_)
  refine wpL_nil ?_
  refine wpA_block ?_
  refine wpA_lfp (S := Int × Int) (G := Unit) () (fun gg ss => asg [(2, D.i 0), (3, D.i ss.1), (9, (encL 3 encSpan) l), (10, D.i (l.length : Int)), (11, D.i ss.2)]) (fun gg ss => []) h (Cov.asg ⟨rfl, rfl, rfl, rfl, rfl, trivial⟩) (.refl _) ?_
  rintro again2 _ ⟨n, x⟩ h
  have h : count_L1 l Q again2 n x := h
  unfold count_L1 at h
  show wpA _ _ _ _ (asg [(2, D.i 0), (3, D.i n), (9, (encL 3 encSpan) l), (10, D.i (l.length : Int)), (11, D.i x)]) []
  refine wpA_seq ?_
  refine wpA_region ?_
  refine wpL_op rfl rfl rfl (OpA.lss rfl rfl rfl ?_)
  refine wpL_nil ?_
  refine wpA_seq ?_
  refine wpA_cond rfl (fun b3 => ?_) (fun b3 => ?_)
  have h := h.1 (decT b3)
  refine wpA_skip ?_
  refine wpA_seq ?_
  refine wpA_block ?_
  refine wpA_seq ?_
  obtain ⟨q1, h⟩ := h
  refine wpA_region ?_
  refine wpL_op rfl rfl rfl (OpA.iixV (enc := encSpan) rfl ts23 rfl rfl rfl q1 ?_)
  refine wpL_op rfl rfl rfl (OpA.iload_whole rfl ti33 rfl ⟨_, rfl, rfl⟩ ?_)
  refine wpL_op rfl rfl rfl (OpA.alloc (sz := 3) (d := encSpan (Span.mk ByteArray.empty 0 0)) rfl tz33 (fun _ _ => .agg (.cons (.v _) (.cons (.v _) (.cons (.v _) .nil)))) (.of rfl) (fun c4 _ => ?_))
  refine wpL_eff rfl rfl (OpA.storeW rfl ti33 rfl (by with_reducible conv => lhs; whnf) (.of rfl) rfl rfl .head ?_)
  refine wpL_nil ?_
  obtain ⟨q1, q2, h⟩ := h
  refine wpA_region ?_
  refine wpL_op rfl rfl rfl (OpA.mv rfl (by with_reducible conv => lhs; whnf) ?_)
  refine wpL_op rfl rfl rfl (OpA.fieldAddr rfl tf33_2 rfl ?_)
  refine wpL_op rfl rfl rfl (OpA.load rfl ti3 rfl .head rfl rfl ?_)
  refine wpL_op rfl rfl rfl (OpA.fieldAddr rfl tf33_1 rfl ?_)
  refine wpL_op rfl rfl rfl (OpA.load rfl ti3 rfl .head rfl rfl ?_)
  refine wpL_op rfl rfl rfl (OpA.subi rfl rfl rfl q1 ?_)
  refine wpL_op rfl rfl rfl (OpA.addi rfl rfl rfl q2 ?_)
  refine wpL_op rfl rfl rfl (OpA.asn rfl (by with_reducible conv => lhs; whnf) ?_)
  refine wpL_nil ?_
  obtain ⟨q1, h⟩ := h
  refine wpA_region ?_
  refine wpL_op rfl rfl rfl (OpA.addi rfl rfl rfl q1 ?_)
  refine wpL_op rfl rfl rfl (OpA.mv rfl (by with_reducible conv => lhs; whnf) ?_)
  refine wpL_nil ?_
  exact ⟨(), ((n + (((gi l x).to) - ((gi l x).from_))), (x + 1)), h, (Cov.asg ⟨rfl, rfl, rfl, rfl, rfl, trivial⟩), (.cons _ (.refl _))⟩
  have h := h.2 (decF b3)
  refine wpA_exit ?_
  refine wpA_seq ?_
  refine wpA_region ?_
  refine wpL_op rfl rfl rfl (OpA.mv rfl (by with_reducible conv => lhs; whnf) ?_)
  refine wpL_op rfl rfl rfl (OpA.asn rfl (by with_reducible conv => lhs; whnf) ?_)
  refine wpL_nil ?_
  refine wpA_ret ?_
  exact ⟨_, (.tmp (d := D.i n) rfl .nil), _, (.same rfl .nil), ⟨n, rfl, h⟩⟩
theorem count_c (l : (List Span))  (hp0 : l.length ≤ 1000) (hp1 : ∀ z_ ∈ l, z_.path.size ≤ 1000000) : Fun false Tryd.prog 18 [(encL 3 encSpan) l] (fun d => d = D.i (countL l)) :=
  Fun.at (enc := fun r => D.i r) (v := countL l) (count_w l  (fun r => r = countL l) (count_ok l _ hp0 hp1 rfl))

set_option maxHeartbeats 2000000 in
set_option maxRecDepth 10000 in
theorem has1_w (s_ : Span) (x : Line)  (Q : Bool → Prop) (h : has1_vc s_ x Q) : Fun false Tryd.prog 30 [encSpan s_, .iptr (encLine x) 0] (fun d => ∃ r, d = D.b r ∧ Q r) := by
  unfold has1_vc at h
  refine Fun.of_body Tryd.func30 rfl Tryd.ntmps30 rfl ?_
  refine wpA_seq ?_
  refine wpA_region ?_
  refine wpL_op rfl rfl rfl (OpA.bx (sz := 3) rfl (by with_reducible conv => lhs; whnf) (.of rfl) (fun c1 _ => ?_))
  refine wpL_op rfl rfl rfl (OpA.asn rfl (by with_reducible conv => lhs; whnf) ?_)
  refine wpL_nil ?_
  refine wpA_seq ?_
  refine wpA_mid (asg [(3, D.b (((decide (s_.path = x.path)) && (decide (s_.from_ ≤ x.n))) && (decide (x.n < s_.to))))]) [(c1, .cells 3 [encSpan s_])] ?_ ?_
  refine wpA_region ?_
  refine wpL_op rfl rfl rfl (OpA.fieldAddr rfl tf33_0 rfl ?_)
  refine wpL_op rfl rfl rfl (OpA.load rfl ti9 rfl .head rfl rfl ?_)
  refine wpL_op rfl rfl rfl (OpA.ifieldAddr rfl tf37_0 rfl ?_)
  refine wpL_op rfl rfl rfl (OpA.iload rfl ti9 rfl rfl ?_)
  refine wpL_op rfl rfl rfl (OpA.seql rfl rfl rfl ?_)
  refine wpL_op rfl rfl rfl (OpA.mv rfl (by with_reducible conv => lhs; whnf) ?_)
  refine wpL_split (s := 9) rfl (fun b2 => ?_) (fun b2 => ?_)
  refine wpL_opg rfl rfl rfl rfl rfl rfl (OpA.fieldAddr rfl tf33_1 rfl ?_)
  refine wpL_opg rfl rfl rfl rfl rfl rfl (OpA.load rfl ti3 rfl .head rfl rfl ?_)
  refine wpL_opg rfl rfl rfl rfl rfl rfl (OpA.ifieldAddr rfl tf37_1 rfl ?_)
  refine wpL_opg rfl rfl rfl rfl rfl rfl (OpA.iload rfl ti3 rfl rfl ?_)
  refine wpL_opg rfl rfl rfl rfl rfl rfl (OpA.leq rfl rfl rfl ?_)
  refine wpL_op rfl rfl rfl (OpA.pck rfl rfl (by with_reducible conv => lhs; whnf) ?_)
  refine wpL_op rfl rfl rfl (OpA.mv rfl (by with_reducible conv => lhs; whnf) ?_)
  refine wpL_split (s := 16) rfl (fun b3 => ?_) (fun b3 => ?_)
  refine wpL_opg rfl rfl rfl rfl rfl rfl (OpA.ifieldAddr rfl tf37_1 rfl ?_)
  refine wpL_opg rfl rfl rfl rfl rfl rfl (OpA.iload rfl ti3 rfl rfl ?_)
  refine wpL_opg rfl rfl rfl rfl rfl rfl (OpA.fieldAddr rfl tf33_2 rfl ?_)
  refine wpL_opg rfl rfl rfl rfl rfl rfl (OpA.load rfl ti3 rfl .head rfl rfl ?_)
  refine wpL_opg rfl rfl rfl rfl rfl rfl (OpA.lss rfl rfl rfl ?_)
  refine wpL_op rfl rfl rfl (OpA.pck rfl rfl (by with_reducible conv => lhs; whnf) ?_)
  refine wpL_op rfl rfl rfl (OpA.asn rfl (by with_reducible conv => lhs; whnf) ?_)
  refine wpL_nil ?_
  exact ⟨(Cov.asg ⟨(congrArg D.b (Eq.symm (andN (andN b2 b3) rfl))), trivial⟩), (.refl _)⟩
  iterate 5 refine wpL_skip rfl rfl rfl rfl rfl rfl ?_
  refine wpL_op rfl rfl rfl (OpA.pck rfl rfl (by with_reducible conv => lhs; whnf) ?_)
  refine wpL_op rfl rfl rfl (OpA.asn rfl (by with_reducible conv => lhs; whnf) ?_)
  refine wpL_nil ?_
  exact ⟨(Cov.asg ⟨(congrArg D.b (Eq.symm (andS (andN b2 b3)))), trivial⟩), (.refl _)⟩
  iterate 5 refine wpL_skip rfl rfl rfl rfl rfl rfl ?_
  refine wpL_op rfl rfl rfl (OpA.pck rfl rfl (by with_reducible conv => lhs; whnf) ?_)
  refine wpL_op rfl rfl rfl (OpA.mv rfl (by with_reducible conv => lhs; whnf) ?_)
  iterate 5 refine wpL_skip rfl rfl rfl rfl rfl rfl ?_
  refine wpL_op rfl rfl rfl (OpA.pck rfl rfl (by with_reducible conv => lhs; whnf) ?_)
  refine wpL_op rfl rfl rfl (OpA.asn rfl (by with_reducible conv => lhs; whnf) ?_)
  refine wpL_nil ?_
  exact ⟨(Cov.asg ⟨(congrArg D.b (Eq.symm (andS (andS b2)))), trivial⟩), (.refl _)⟩
  show wpA _ _ _ _ (asg [(3, D.b (((decide (s_.path = x.path)) && (decide (s_.from_ ≤ x.n))) && (decide (x.n < s_.to))))]) [(c1, .cells 3 [encSpan s_])]
  refine wpA_ret ?_
  exact ⟨_, (.tmp (d := D.b (((decide (s_.path = x.path)) && (decide (s_.from_ ≤ x.n))) && (decide (x.n < s_.to)))) rfl .nil), _, (.same rfl .nil), ⟨(((decide (s_.path = x.path)) && (decide (s_.from_ ≤ x.n))) && (decide (x.n < s_.to))), rfl, h⟩⟩
theorem has1_c (s_ : Span) (x : Line)   : Fun false Tryd.prog 30 [encSpan s_, .iptr (encLine x) 0] (fun d => d = D.b (has1F s_ x)) :=
  Fun.at (enc := fun r => D.b r) (v := has1F s_ x) (has1_w s_ x  (fun r => r = has1F s_ x) (has1_ok s_ x _  rfl))

set_option maxHeartbeats 2000000 in
set_option maxRecDepth 10000 in
theorem ixSpan_w (s_ : (List Span)) (g_p : Nat) (fs_p cs_p : List D) (p : Span → Bool) (pD : Span → Prop) (hen_p : entersB Tryd.prog g_p = true) (hg_p : ∀ x0_, pD x0_ → Fun false Tryd.prog g_p (fs_p ++ [encSpan x0_] ++ cs_p) (fun d => d = D.b (p x0_))) (Q : Int → Prop) (h : ixSpan_vc s_ p pD Q) : Fun false Tryd.prog 45 [(encL 3 encSpan) s_, .fn (.func g_p) fs_p cs_p] (fun d => ∃ r, d = D.i r ∧ Q r) := by
  unfold ixSpan_vc at h
  refine Fun.of_body Tryd.func45 rfl Tryd.ntmps45 rfl ?_
  refine wpA_seq ?_
  refine wpA_region ?_
  refine wpL_op rfl rfl rfl (OpA.asn rfl (by with_reducible conv => lhs; whnf) ?_)
  refine wpL_nil ?_
  iterate 2 refine wpA_seq ?_
  refine wpA_region ?_
  refine wpL_op rfl rfl rfl (OpA.mv rfl (by with_reducible conv => lhs; whnf) ?_)
  refine wpL_op rfl rfl rfl (OpA.len rfl rfl rfl rfl ts23.desc (.inl ⟨_, _, rfl, (List.length_map _).symm⟩) ?_)
  refine wpL_op rfl rfl rfl (OpA.mv rfl (by with_reducible conv => lhs; whnf) ?_)
  refine wpL_nil ?_
  refine wpA_block ?_
  refine wpA_lfp (S := Int) (G := Unit) () (fun gg ss => asg [(0, (encL 3 encSpan) s_), (1, .fn (.func g_p) fs_p cs_p), (4, D.i 0), (7, D.i (s_.length : Int)), (8, D.i ss)]) (fun gg ss => []) h (Cov.asg ⟨rfl, rfl, rfl, rfl, rfl, trivial⟩) (.refl _) ?_
  rintro again1 _ x h
  have h : ixSpan_L1 s_ p pD Q again1 x := h
  unfold ixSpan_L1 at h
  show wpA _ _ _ _ (asg [(0, (encL 3 encSpan) s_), (1, .fn (.func g_p) fs_p cs_p), (4, D.i 0), (7, D.i (s_.length : Int)), (8, D.i x)]) []
  refine wpA_seq ?_
  refine wpA_region ?_
  refine wpL_op rfl rfl rfl (OpA.lss rfl rfl rfl ?_)
  refine wpL_nil ?_
  refine wpA_seq ?_
  refine wpA_cond rfl (fun b2 => ?_) (fun b2 => ?_)
  have h := h.1 (decT b2)
  refine wpA_skip ?_
  refine wpA_seq ?_
  refine wpA_block ?_
  refine wpA_seq ?_
  refine wpA_region ?_
  refine wpL_op rfl rfl rfl (OpA.mv rfl (by with_reducible conv => lhs; whnf) ?_)
  refine wpL_op rfl rfl rfl (OpA.asn rfl (by with_reducible conv => lhs; whnf) ?_)
  refine wpL_nil ?_
  refine wpA_seq ?_
  obtain ⟨q1, q2, h⟩ := h
  refine wpA_region ?_
  refine wpL_op rfl rfl rfl (OpA.mv rfl (by with_reducible conv => lhs; whnf) ?_)
  refine wpL_op rfl rfl rfl (OpA.mv rfl (by with_reducible conv => lhs; whnf) ?_)
  refine wpL_op rfl rfl rfl (OpA.mv rfl (by with_reducible conv => lhs; whnf) ?_)
  refine wpL_op rfl rfl rfl (OpA.iixV (enc := encSpan) rfl ts23 rfl rfl rfl q1 ?_)
  refine wpL_op rfl rfl rfl (OpA.iload_whole rfl ti33 rfl ⟨_, rfl, rfl⟩ ?_)
  refine wpL_op rfl rfl rfl (OpA.call rfl rfl rfl hen_p (hg_p (gi s_ x) q2) ?_)
  rintro _ rfl
  refine wpL_nil ?_
  refine wpA_cond rfl (fun b3 => ?_) (fun b3 => ?_)
  have h := h.1 b3
  refine wpA_seq ?_
  refine wpA_region ?_
  refine wpL_op rfl rfl rfl (OpA.mv rfl (by with_reducible conv => lhs; whnf) ?_)
  refine wpL_op rfl rfl rfl (OpA.asn rfl (by with_reducible conv => lhs; whnf) ?_)
  refine wpL_nil ?_
  refine wpA_ret ?_
  exact ⟨_, (.tmp (d := D.i x) rfl .nil), _, (.same rfl .nil), ⟨x, rfl, h⟩⟩
  have h := h.2 b3
  refine wpA_skip ?_
  obtain ⟨q1, h⟩ := h
  refine wpA_region ?_
  refine wpL_op rfl rfl rfl (OpA.addi rfl rfl rfl q1 ?_)
  refine wpL_op rfl rfl rfl (OpA.mv rfl (by with_reducible conv => lhs; whnf) ?_)
  refine wpL_nil ?_
  exact ⟨(), (x + 1), h, (Cov.asg ⟨rfl, rfl, rfl, rfl, rfl, trivial⟩), (.refl _)⟩
  have h := h.2 (decF b2)
  refine wpA_exit ?_
  refine wpA_seq ?_
  refine wpA_region ?_
  refine wpL_op rfl rfl rfl (OpA.asn rfl (by with_reducible conv => lhs; whnf) ?_)
  refine wpL_nil ?_
  refine wpA_ret ?_
  exact ⟨_, (.tmp (d := D.i (-1)) rfl .nil), _, (.same rfl .nil), ⟨(-1), rfl, h⟩⟩
theorem ixSpan_c (s_ : (List Span)) (g_p : Nat) (fs_p cs_p : List D) (p : Span → Bool) (pD : Span → Prop) (hen_p : entersB Tryd.prog g_p = true) (hg_p : ∀ x0_, pD x0_ → Fun false Tryd.prog g_p (fs_p ++ [encSpan x0_] ++ cs_p) (fun d => d = D.b (p x0_))) (hp0 : s_.length ≤ 9223372036854775807) (hp1 : ∀ x ∈ s_, pD x) : Fun false Tryd.prog 45 [(encL 3 encSpan) s_, .fn (.func g_p) fs_p cs_p] (fun d => d = D.i ((idxOf p s_))) :=
  Fun.at (enc := fun r => D.i r) (v := (idxOf p s_)) (ixSpan_w s_ g_p fs_p cs_p p pD hen_p hg_p (fun r => r = (idxOf p s_)) (ixSpan_ok s_ p pD _ hp0 hp1 rfl))

set_option maxHeartbeats 2000000 in
set_option maxRecDepth 10000 in
theorem cfSpan_w (s_ : (List Span)) (g_p : Nat) (fs_p cs_p : List D) (p : Span → Bool) (pD : Span → Prop) (hen_p : entersB Tryd.prog g_p = true) (hg_p : ∀ x0_, pD x0_ → Fun false Tryd.prog g_p (fs_p ++ [encSpan x0_] ++ cs_p) (fun d => d = D.b (p x0_))) (Q : Bool → Prop) (h : cfSpan_vc s_ p pD Q) : Fun false Tryd.prog 31 [(encL 3 encSpan) s_, .fn (.func g_p) fs_p cs_p] (fun d => ∃ r, d = D.b r ∧ Q r) := by
  unfold cfSpan_vc at h
  refine Fun.of_body Tryd.func31 rfl Tryd.ntmps31 rfl ?_
  refine wpA_seq ?_
  refine wpA_region ?_
  refine wpL_op rfl rfl rfl (OpA.asn rfl (by with_reducible conv => lhs; whnf) ?_)
  refine wpL_nil ?_
  refine wpA_seq ?_
  obtain ⟨q1, q2, h⟩ := h
  refine wpA_region ?_
  refine wpL_op rfl rfl rfl (OpA.mv rfl (by with_reducible conv => lhs; whnf) ?_)
  refine wpL_op rfl rfl rfl (OpA.mv rfl (by with_reducible conv => lhs; whnf) ?_)
  refine wpL_op rfl rfl rfl (OpA.call rfl rfl rfl en45 (ixSpan_c s_ g_p fs_p cs_p p pD hen_p hg_p q1 q2) ?_)
  rintro _ rfl
  refine wpL_op rfl rfl rfl (OpA.geq rfl rfl rfl ?_)
  refine wpL_op rfl rfl rfl (OpA.asn rfl (by with_reducible conv => lhs; whnf) ?_)
  refine wpL_nil ?_
  refine wpA_ret ?_
  exact ⟨_, (.tmp (d := D.b (decide ((idxOf p s_) ≥ 0))) rfl .nil), _, (.same rfl .nil), ⟨(decide ((idxOf p s_) ≥ 0)), rfl, h⟩⟩
theorem cfSpan_c (s_ : (List Span)) (g_p : Nat) (fs_p cs_p : List D) (p : Span → Bool) (pD : Span → Prop) (hen_p : entersB Tryd.prog g_p = true) (hg_p : ∀ x0_, pD x0_ → Fun false Tryd.prog g_p (fs_p ++ [encSpan x0_] ++ cs_p) (fun d => d = D.b (p x0_))) (hp0 : s_.length ≤ 9223372036854775807) (hp1 : ∀ x ∈ s_, pD x) : Fun false Tryd.prog 31 [(encL 3 encSpan) s_, .fn (.func g_p) fs_p cs_p] (fun d => d = D.b ((s_.any p))) :=
  Fun.at (enc := fun r => D.b r) (v := (s_.any p)) (cfSpan_w s_ g_p fs_p cs_p p pD hen_p hg_p (fun r => r = (s_.any p)) (cfSpan_ok s_ p pD _ hp0 hp1 rfl))

set_option maxHeartbeats 2000000 in
set_option maxRecDepth 10000 in
theorem has_w (l : (List Span)) (x : Line)  (Q : Bool → Prop) (h : has_vc l x Q) : Fun false Tryd.prog 19 [(encL 3 encSpan) l, encLine x] (fun d => ∃ r, d = D.b r ∧ Q r) := by
  unfold has_vc at h
  refine Fun.of_body Tryd.func19 rfl Tryd.ntmps19 rfl ?_
  refine wpA_seq ?_
  refine wpA_region ?_
  refine wpL_op rfl rfl rfl (OpA.bx (sz := 2) rfl (by with_reducible conv => lhs; whnf) (.of rfl) (fun c1 _ => ?_))
  refine wpL_op rfl rfl rfl (OpA.asn rfl (by with_reducible conv => lhs; whnf) ?_)
  refine wpL_nil ?_
  refine wpA_seq ?_
  refine wpA_region ?_
  refine wpL_op rfl rfl rfl (OpA.makeFunc rfl ?_)
  refine wpL_op rfl rfl rfl (OpA.asn rfl (by with_reducible conv => lhs; whnf) ?_)
  refine wpL_nil ?_
  refine wpA_seq ?_
  obtain ⟨q1, q2, q3, h⟩ := h
  refine wpA_mid (asg [(4, D.b ((l.any (fun (x0_ : Span) => has1F x0_ x)) && (validF l)))]) [(c1, .cells 2 [encLine x])] ?_ ?_
  refine wpA_region ?_
  refine wpL_op rfl rfl rfl (OpA.mv rfl (by with_reducible conv => lhs; whnf) ?_)
  refine wpL_op rfl rfl rfl (OpA.mv rfl (by with_reducible conv => lhs; whnf) ?_)
  refine wpL_op rfl rfl rfl (OpA.call_snap rfl rfl rfl en31 (.same rfl (.fn .nil (.ptrp rfl .head rfl .nil) .nil)) (cfSpan_c l 30 [] [.iptr (encLine x) 0] (fun (x0_ : Span) => has1F x0_ x) (fun (x0_ : Span) => True) en30 (fun x0_ _ => has1_c x0_ x ) q1 q2) (by rintro _ rfl; exact .inr (.v _)) ?_)
  rintro _ rfl
  refine wpL_op rfl rfl rfl (OpA.mv rfl (by with_reducible conv => lhs; whnf) ?_)
  refine wpL_split (s := 10) rfl (fun b2 => ?_) (fun b2 => ?_)
  refine wpL_opg rfl rfl rfl rfl rfl rfl (OpA.mv rfl (by with_reducible conv => lhs; whnf) ?_)
  refine wpL_opg rfl rfl rfl rfl rfl rfl (OpA.call rfl rfl rfl en6 (valid_c l (q3 b2).1 (q3 b2).2) ?_)
  rintro _ rfl
  refine wpL_op rfl rfl rfl (OpA.pck rfl rfl (by with_reducible conv => lhs; whnf) ?_)
  refine wpL_op rfl rfl rfl (OpA.asn rfl (by with_reducible conv => lhs; whnf) ?_)
  refine wpL_nil ?_
  exact ⟨(Cov.asg ⟨(congrArg D.b (Eq.symm (andN b2 rfl))), trivial⟩), (.refl _)⟩
  iterate 2 refine wpL_skip rfl rfl rfl rfl rfl rfl ?_
  refine wpL_op rfl rfl rfl (OpA.pck rfl rfl (by with_reducible conv => lhs; whnf) ?_)
  refine wpL_op rfl rfl rfl (OpA.asn rfl (by with_reducible conv => lhs; whnf) ?_)
  refine wpL_nil ?_
  exact ⟨(Cov.asg ⟨(congrArg D.b (Eq.symm (andS b2))), trivial⟩), (.refl _)⟩
  show wpA _ _ _ _ (asg [(4, D.b ((l.any (fun (x0_ : Span) => has1F x0_ x)) && (validF l)))]) [(c1, .cells 2 [encLine x])]
  refine wpA_ret ?_
  exact ⟨_, (.tmp (d := D.b ((l.any (fun (x0_ : Span) => has1F x0_ x)) && (validF l))) rfl .nil), _, (.same rfl .nil), ⟨((l.any (fun (x0_ : Span) => has1F x0_ x)) && (validF l)), rfl, h⟩⟩
theorem has_c (l : (List Span)) (x : Line)  (hp0 : l.length ≤ 1000) (hp1 : ∀ z_ ∈ l, z_.path.size ≤ 1000000) : Fun false Tryd.prog 19 [(encL 3 encSpan) l, encLine x] (fun d => d = D.b (hasF l x)) :=
  Fun.at (enc := fun r => D.b r) (v := hasF l x) (has_w l x  (fun r => r = hasF l x) (has_ok l x _ hp0 hp1 rfl))

set_option maxHeartbeats 2000000 in
set_option maxRecDepth 10000 in
theorem under_w (l : (List Span)) (dir : ByteArray)  (Q : (List Span) × Int → Prop) (h : under_vc l dir Q) : Fun false Tryd.prog 17 [(encL 3 encSpan) l, D.s dir] (fun d => ∃ r, d = .tup [(encL 3 encSpan) (r.1), D.i (r.2)] ∧ Q r) := by
  unfold under_vc at h
  refine Fun.of_body Tryd.func17 rfl Tryd.ntmps17 rfl ?_
  refine wpA_seq ?_
  refine wpA_region ?_
  refine wpL_op rfl rfl rfl (OpA.asn rfl (by with_reducible conv => lhs; whnf) ?_)
  refine wpL_op rfl rfl rfl (OpA.asn rfl (by with_reducible conv => lhs; whnf) ?_)
  refine wpL_nil ?_
  iterate 2 refine wpA_seq ?_
  obtain ⟨q1, q2, h⟩ := h
  refine wpA_region ?_
  refine wpL_op rfl rfl rfl (OpA.mv rfl (by with_reducible conv => lhs; whnf) ?_)
  refine wpL_op rfl rfl rfl (OpA.call rfl rfl rfl en6 (valid_c l q1 q2) ?_)
  rintro _ rfl
  refine wpL_op rfl rfl rfl (OpA.not rfl rfl ?_)
  refine wpL_nil ?_
  refine wpA_cond rfl (fun b1 => ?_) (fun b1 => ?_)
  have h := h.1 (notT b1)
  refine wpA_seq ?_
  refine wpA_region ?_
  refine wpL_op rfl rfl rfl (OpA.asn rfl (by with_reducible conv => lhs; whnf) ?_)
  refine wpL_op rfl rfl rfl (OpA.asn rfl (by with_reducible conv => lhs; whnf) ?_)
  refine wpL_nil ?_
  refine wpA_ret ?_
  exact ⟨_, (.tmp (d := .v (.slice none 0 0)) rfl (.tmp (d := D.i 1) rfl .nil)), _, (.tup (.nilv (sz := 3) (.same rfl .nil)) .nil), ⟨([], 1), rfl, h⟩⟩
  have h := h.2 (notF b1)
  refine wpA_skip ?_
  iterate 2 refine wpA_seq ?_
  obtain ⟨q1, h⟩ := h
  refine wpA_region ?_
  refine wpL_op rfl rfl rfl (OpA.mv rfl (by with_reducible conv => lhs; whnf) ?_)
  refine wpL_op rfl rfl rfl (OpA.call rfl rfl rfl en22 (path_c dir q1) ?_)
  rintro _ rfl
  refine wpL_op rfl rfl rfl (OpA.neq rfl rfl rfl ?_)
  refine wpL_nil ?_
  refine wpA_cond rfl (fun b2 => ?_) (fun b2 => ?_)
  have h := h.1 (bneT b2)
  refine wpA_seq ?_
  refine wpA_region ?_
  refine wpL_op rfl rfl rfl (OpA.asn rfl (by with_reducible conv => lhs; whnf) ?_)
  refine wpL_op rfl rfl rfl (OpA.asn rfl (by with_reducible conv => lhs; whnf) ?_)
  refine wpL_nil ?_
  refine wpA_ret ?_
  exact ⟨_, (.tmp (d := .v (.slice none 0 0)) rfl (.tmp (d := D.i 2) rfl .nil)), _, (.tup (.nilv (sz := 3) (.same rfl .nil)) .nil), ⟨([], 2), rfl, h⟩⟩
  have h := h.2 (bneF b2)
  refine wpA_skip ?_
  refine wpA_seq ?_
  refine wpA_region ?_
  refine wpL_op rfl rfl rfl (OpA.asnG (T := Span) (enc := encSpan) (sz := 3) rfl rfl (fun c6_g3 => ?_))
  refine wpL_nil ?_
  iterate 2 refine wpA_seq ?_
  refine wpA_region ?_
  refine wpL_op rfl rfl rfl (OpA.mv rfl (by with_reducible conv => lhs; whnf) ?_)
  refine wpL_op rfl rfl rfl (OpA.len rfl rfl rfl rfl ts23.desc (.inl ⟨_, _, rfl, (List.length_map _).symm⟩) ?_)
  refine wpL_op rfl rfl rfl (OpA.mv rfl (by with_reducible conv => lhs; whnf) ?_)
  refine wpL_nil ?_
  refine wpA_block ?_
  refine wpA_lfp (S := (List Span) × Int) (G := Nat × List D × List D) (c6_g3, ([] : List D), ([] : List D)) (fun gg ss => asg [(1, D.s dir), (4, .v (.slice none 0 0)), (5, D.i 0), (6, .own gg.1 3 gg.2.1.length ss.1.length), (15, (encL 3 encSpan) l), (16, D.i (l.length : Int)), (17, D.i ss.2)]) (fun gg ss => [(gg.1, .cells 3 (winL encSpan gg.2.1 ss.1 gg.2.2))]) h (Cov.asg ⟨rfl, rfl, rfl, rfl, rfl, rfl, rfl, trivial⟩) (.refl _) ?_
  rintro again4 ⟨cb6, pre6, post6⟩ ⟨out, x⟩ h
  have h : under_L1 l dir Q again4 out x := h
  unfold under_L1 at h
  show wpA _ _ _ _ (asg [(1, D.s dir), (4, .v (.slice none 0 0)), (5, D.i 0), (6, .own cb6 3 pre6.length out.length), (15, (encL 3 encSpan) l), (16, D.i (l.length : Int)), (17, D.i x)]) [(cb6, .cells 3 (winL encSpan pre6 out post6))]
  refine wpA_seq ?_
  refine wpA_region ?_
  refine wpL_op rfl rfl rfl (OpA.lss rfl rfl rfl ?_)
  refine wpL_nil ?_
  refine wpA_seq ?_
  refine wpA_cond rfl (fun b5 => ?_) (fun b5 => ?_)
  have h := h.1 (decT b5)
  refine wpA_skip ?_
  refine wpA_seq ?_
  refine wpA_block ?_
  refine wpA_seq ?_
  obtain ⟨q1, h⟩ := h
  refine wpA_region ?_
  refine wpL_op rfl rfl rfl (OpA.iixV (enc := encSpan) rfl ts23 rfl rfl rfl q1 ?_)
  refine wpL_op rfl rfl rfl (OpA.iload_whole rfl ti33 rfl ⟨_, rfl, rfl⟩ ?_)
  refine wpL_op rfl rfl rfl (OpA.alloc (sz := 3) (d := encSpan (Span.mk ByteArray.empty 0 0)) rfl tz33 (fun _ _ => .agg (.cons (.v _) (.cons (.v _) (.cons (.v _) .nil)))) (.of rfl) (fun c6 _ => ?_))
  refine wpL_eff rfl rfl (OpA.storeW rfl ti33 rfl (by with_reducible conv => lhs; whnf) (.of rfl) rfl rfl .head ?_)
  refine wpL_nil ?_
  refine wpA_seq ?_
  obtain ⟨q1, h⟩ := h
  refine wpA_region ?_
  refine wpL_op rfl rfl rfl (OpA.fieldAddr rfl tf33_0 rfl ?_)
  refine wpL_op rfl rfl rfl (OpA.load rfl ti9 rfl .head rfl rfl ?_)
  refine wpL_op rfl rfl rfl (OpA.mv rfl (by with_reducible conv => lhs; whnf) ?_)
  refine wpL_op rfl rfl rfl (OpA.sadd rfl rfl rfl q1 ?_)
  refine wpL_op rfl rfl rfl (OpA.call rfl rfl rfl en29 (hasPref_c ((gi l x).path) (dir ++ (⟨#[47]⟩ : ByteArray)) ) ?_)
  rintro _ rfl
  refine wpL_nil ?_
  refine wpA_cond rfl (fun b7 => ?_) (fun b7 => ?_)
  have h := h.1 b7
  obtain ⟨q1, h⟩ := h
  refine wpA_region ?_
  refine wpL_op rfl rfl rfl (OpA.mv rfl (by with_reducible conv => lhs; whnf) ?_)
  refine wpL_op rfl rfl rfl (OpA.load_whole rfl ti33 rfl rfl .head rfl ⟨_, rfl⟩ ?_)
  refine wpL_op rfl rfl rfl (OpA.ibuildSliceO rfl ts23 rfl (.cons (.of (sz := 3) rfl) .nil) (by decide) ?_)
  refine wpL_op rfl rfl rfl (OpA.appendW (enc := encSpan) rfl rfl rfl rfl ts23 rfl (fun _ _ => (.tail .head)) (.list (ys := ([(gi l x)] : List Span))) q1 (fun c8 pre9 => ?_))
  refine wpL_op rfl rfl rfl (OpA.asn rfl (by with_reducible conv => lhs; whnf) ?_)
  refine wpL_nil ?_
  obtain ⟨q1, h⟩ := h
  refine wpA_region ?_
  refine wpL_op rfl rfl rfl (OpA.addi rfl rfl rfl q1 ?_)
  refine wpL_op rfl rfl rfl (OpA.mv rfl (by with_reducible conv => lhs; whnf) ?_)
  refine wpL_nil ?_
  exact ⟨(c8, pre9, ([] : List D)), ((out ++ ([(gi l x)] : List Span)), (x + 1)), h, (Cov.asg ⟨rfl, rfl, rfl, rfl, rfl, rfl, rfl, trivial⟩), (.cons _ (.refl _))⟩
  have h := h.2 b7
  refine wpA_skip ?_
  obtain ⟨q1, h⟩ := h
  refine wpA_region ?_
  refine wpL_op rfl rfl rfl (OpA.addi rfl rfl rfl q1 ?_)
  refine wpL_op rfl rfl rfl (OpA.mv rfl (by with_reducible conv => lhs; whnf) ?_)
  refine wpL_nil ?_
  exact ⟨(cb6, pre6, post6), (out, (x + 1)), h, (Cov.asg ⟨rfl, rfl, rfl, rfl, rfl, rfl, rfl, trivial⟩), (.cons _ (.refl _))⟩
  have h := h.2 (decF b5)
  refine wpA_exit ?_
  refine wpA_seq ?_
  refine wpA_region ?_
  refine wpL_op rfl rfl rfl (OpA.mv rfl (by with_reducible conv => lhs; whnf) ?_)
  refine wpL_op rfl rfl rfl (OpA.asn rfl (by with_reducible conv => lhs; whnf) ?_)
  refine wpL_op rfl rfl rfl (OpA.asn rfl (by with_reducible conv => lhs; whnf) ?_)
  refine wpL_nil ?_
  refine wpA_ret ?_
  exact ⟨_, (.tmp (d := .own cb6 3 pre6.length out.length) rfl (.tmp (d := D.i 0) rfl .nil)), _, (.tup (.win .head (by intro hf; cases hf) (.same rfl .nil)) .nil), ⟨(out, 0), rfl, h⟩⟩
theorem under_c (l : (List Span)) (dir : ByteArray)  (hp0 : l.length ≤ 1000) (hp1 : ∀ z_ ∈ l, z_.path.size ≤ 1000000) (hp2 : dir.size ≤ 1000000) : Fun false Tryd.prog 17 [(encL 3 encSpan) l, D.s dir] (fun d => d = .tup [(encL 3 encSpan) ((underF l dir).1), D.i ((underF l dir).2)]) :=
  Fun.at (enc := fun r => .tup [(encL 3 encSpan) (r.1), D.i (r.2)]) (v := underF l dir) (under_w l dir  (fun r => r = underF l dir) (under_ok l dir _ hp0 hp1 hp2 rfl))

set_option maxHeartbeats 2000000 in
set_option maxRecDepth 10000 in
theorem print_w (l : (List Span))  (Q : ByteArray × Int → Prop) (h : print_vc l Q) : Fun false Tryd.prog 16 [(encL 3 encSpan) l] (fun d => ∃ r, d = .tup [D.s (r.1), D.i (r.2)] ∧ Q r) := by
  unfold print_vc at h
  refine Fun.of_body Tryd.func16 rfl Tryd.ntmps16 rfl ?_
  refine wpA_seq ?_
  refine wpA_region ?_
  refine wpL_op rfl rfl rfl (OpA.asn rfl (by with_reducible conv => lhs; whnf) ?_)
  refine wpL_op rfl rfl rfl (OpA.asn rfl (by with_reducible conv => lhs; whnf) ?_)
  refine wpL_nil ?_
  iterate 2 refine wpA_seq ?_
  obtain ⟨q1, q2, h⟩ := h
  refine wpA_region ?_
  refine wpL_op rfl rfl rfl (OpA.mv rfl (by with_reducible conv => lhs; whnf) ?_)
  refine wpL_op rfl rfl rfl (OpA.call rfl rfl rfl en6 (valid_c l q1 q2) ?_)
  rintro _ rfl
  refine wpL_op rfl rfl rfl (OpA.not rfl rfl ?_)
  refine wpL_nil ?_
  refine wpA_cond rfl (fun b1 => ?_) (fun b1 => ?_)
  have h := h.1 (notT b1)
  refine wpA_seq ?_
  refine wpA_region ?_
  refine wpL_op rfl rfl rfl (OpA.asn rfl (by with_reducible conv => lhs; whnf) ?_)
  refine wpL_op rfl rfl rfl (OpA.asn rfl (by with_reducible conv => lhs; whnf) ?_)
  refine wpL_nil ?_
  refine wpA_ret ?_
  exact ⟨_, (.tmp (d := D.s (⟨#[]⟩ : ByteArray)) rfl (.tmp (d := D.i 1) rfl .nil)), _, (.tup (.same rfl (.same rfl .nil)) .nil), ⟨((⟨#[]⟩ : ByteArray), 1), rfl, h⟩⟩
  have h := h.2 (notF b1)
  refine wpA_skip ?_
  refine wpA_seq ?_
  refine wpA_region ?_
  refine wpL_op rfl rfl rfl (OpA.allocB (e := 5) rfl tz52 (fun c2 c3 => ?_))
  refine wpL_nil ?_
  iterate 2 refine wpA_seq ?_
  refine wpA_region ?_
  refine wpL_op rfl rfl rfl (OpA.mv rfl (by with_reducible conv => lhs; whnf) ?_)
  refine wpL_op rfl rfl rfl (OpA.len rfl rfl rfl rfl ts23.desc (.inl ⟨_, _, rfl, (List.length_map _).symm⟩) ?_)
  refine wpL_op rfl rfl rfl (OpA.mv rfl (by with_reducible conv => lhs; whnf) ?_)
  refine wpL_nil ?_
  refine wpA_block ?_
  refine wpA_lfp (S := (List Int) × Int) (G := Bool × Nat × List D) (false, c3, ([] : List D)) (fun gg ss => asg [(2, D.s (⟨#[]⟩ : ByteArray)), (3, D.i 0), (4, .ptr c2 2 0 0), (10, (encL 3 encSpan) l), (11, D.i (l.length : Int)), (12, D.i ss.2)]) (fun gg ss => [(c2, .cells 2 [bldD 52 5 c2 gg.1 gg.2.1 ss.1]), (gg.2.1, .cells 1 (winL (D.k .u8) ([] : List D) ss.1 gg.2.2))]) h (Cov.asg ⟨rfl, rfl, rfl, rfl, rfl, rfl, trivial⟩) (.refl _) ?_
  rintro again4 ⟨u, cb4b, post4b⟩ ⟨xs, x⟩ h
  have h : print_L1 l Q again4 xs x := h
  unfold print_L1 at h
  show wpA _ _ _ _ (asg [(2, D.s (⟨#[]⟩ : ByteArray)), (3, D.i 0), (4, .ptr c2 2 0 0), (10, (encL 3 encSpan) l), (11, D.i (l.length : Int)), (12, D.i x)]) [(c2, .cells 2 [bldD 52 5 c2 u cb4b xs]), (cb4b, .cells 1 (winL (D.k .u8) ([] : List D) xs post4b))]
  refine wpA_seq ?_
  refine wpA_region ?_
  refine wpL_op rfl rfl rfl (OpA.lss rfl rfl rfl ?_)
  refine wpL_nil ?_
  refine wpA_seq ?_
  refine wpA_cond rfl (fun b5 => ?_) (fun b5 => ?_)
  have h := h.1 (decT b5)
  refine wpA_skip ?_
  refine wpA_seq ?_
  refine wpA_block ?_
  refine wpA_seq ?_
  obtain ⟨q1, h⟩ := h
  refine wpA_region ?_
  refine wpL_op rfl rfl rfl (OpA.iixV (enc := encSpan) rfl ts23 rfl rfl rfl q1 ?_)
  refine wpL_op rfl rfl rfl (OpA.iload_whole rfl ti33 rfl ⟨_, rfl, rfl⟩ ?_)
  refine wpL_op rfl rfl rfl (OpA.alloc (sz := 3) (d := encSpan (Span.mk ByteArray.empty 0 0)) rfl tz33 (fun _ _ => .agg (.cons (.v _) (.cons (.v _) (.cons (.v _) .nil)))) (.of rfl) (fun c6 _ => ?_))
  refine wpL_eff rfl rfl (OpA.storeW rfl ti33 rfl (by with_reducible conv => lhs; whnf) (.of rfl) rfl rfl .head ?_)
  refine wpL_nil ?_
  obtain ⟨q1, q2, q3, q4, q5, q6, q7, q8, q9, q10, h⟩ := h
  refine wpA_draw (m := 13) mo (by kernel_rfl) rfl ?_
  refine DetK.op rfl (OpA.fieldAddr rfl tf33_0 rfl ⟨rfl, rfl⟩) ?_
  refine DetK.op rfl (OpA.load rfl ti9 rfl .head rfl rfl ⟨rfl, rfl⟩) ?_
  refine DetK.op rfl (OpA.sadd rfl rfl rfl q1 ⟨rfl, rfl⟩) ?_
  refine DetK.op rfl (OpA.fieldAddr rfl tf33_1 rfl ⟨rfl, rfl⟩) ?_
  refine DetK.op rfl (OpA.load rfl ti3 rfl .head rfl rfl ⟨rfl, rfl⟩) ?_
  refine DetK.op rfl (OpA.call rfl rfl rfl en27 (itoa_c ((gi l x).from_) q2 q3) (by rintro _ rfl; exact ⟨rfl, rfl⟩)) ?_
  refine DetK.op rfl (OpA.sadd rfl rfl rfl q4 ⟨rfl, rfl⟩) ?_
  refine DetK.op rfl (OpA.sadd rfl rfl rfl q5 ⟨rfl, rfl⟩) ?_
  refine DetK.op rfl (OpA.fieldAddr rfl tf33_2 rfl ⟨rfl, rfl⟩) ?_
  refine DetK.op rfl (OpA.load rfl ti3 rfl .head rfl rfl ⟨rfl, rfl⟩) ?_
  refine DetK.op rfl (OpA.call rfl rfl rfl en27 (itoa_c ((gi l x).to) q6 q7) (by rintro _ rfl; exact ⟨rfl, rfl⟩)) ?_
  refine DetK.op rfl (OpA.sadd rfl rfl rfl q8 ⟨rfl, rfl⟩) ?_
  refine DetK.op rfl (OpA.sadd rfl rfl rfl q9 ⟨rfl, rfl⟩) ?_
  refine DetK.nil ?_
  refine wpL_op rfl rfl rfl (OpA.callH rfl rfl rfl en26 (h1 := [(c2, .cells 2 [bldD 52 5 c2 u cb4b xs]), (cb4b, .cells 1 (winL (D.k .u8) ([] : List D) xs post4b))]) (h2 := [(c6, .cells 3 [encSpan (gi l x)])]) (pull1.trans (.cons _ pull1)) (bldWS_c xs c2 u cb4b post4b (((((((gi l x).path) ++ (⟨#[32]⟩ : ByteArray)) ++ (itoaF ((gi l x).from_))) ++ (⟨#[32]⟩ : ByteArray)) ++ (itoaF ((gi l x).to))) ++ (⟨#[10]⟩ : ByteArray)) q10) ?_)
  rintro _ _ ⟨⟨u7, c8, post9⟩, rfl, rfl⟩
  refine wpL_perm (h' := [(c6, .cells 3 [encSpan (gi l x)]), (c2, .cells 2 [bldD 52 5 c2 u7 c8 (((((((((((gi l x).path) ++ (⟨#[32]⟩ : ByteArray)) ++ (itoaF ((gi l x).from_))) ++ (⟨#[32]⟩ : ByteArray)) ++ (itoaF ((gi l x).to))) ++ (⟨#[10]⟩ : ByteArray))).size : Int), xs ++ sbytes (((((((gi l x).path) ++ (⟨#[32]⟩ : ByteArray)) ++ (itoaF ((gi l x).from_))) ++ (⟨#[32]⟩ : ByteArray)) ++ (itoaF ((gi l x).to))) ++ (⟨#[10]⟩ : ByteArray))).2)]), (c8, .cells 1 (winL (D.k .u8) ([] : List D) (((((((((((gi l x).path) ++ (⟨#[32]⟩ : ByteArray)) ++ (itoaF ((gi l x).from_))) ++ (⟨#[32]⟩ : ByteArray)) ++ (itoaF ((gi l x).to))) ++ (⟨#[10]⟩ : ByteArray))).size : Int), xs ++ sbytes (((((((gi l x).path) ++ (⟨#[32]⟩ : ByteArray)) ++ (itoaF ((gi l x).from_))) ++ (⟨#[32]⟩ : ByteArray)) ++ (itoaF ((gi l x).to))) ++ (⟨#[10]⟩ : ByteArray))).2) post9))]) pull2 ?_
  refine wpL_nil ?_
  obtain ⟨q1, h⟩ := h
  refine wpA_region ?_
  refine wpL_op rfl rfl rfl (OpA.addi rfl rfl rfl q1 ?_)
  refine wpL_op rfl rfl rfl (OpA.mv rfl (by with_reducible conv => lhs; whnf) ?_)
  refine wpL_nil ?_
  exact ⟨(u7, c8, post9), ((((((((((((gi l x).path) ++ (⟨#[32]⟩ : ByteArray)) ++ (itoaF ((gi l x).from_))) ++ (⟨#[32]⟩ : ByteArray)) ++ (itoaF ((gi l x).to))) ++ (⟨#[10]⟩ : ByteArray))).size : Int), xs ++ sbytes (((((((gi l x).path) ++ (⟨#[32]⟩ : ByteArray)) ++ (itoaF ((gi l x).from_))) ++ (⟨#[32]⟩ : ByteArray)) ++ (itoaF ((gi l x).to))) ++ (⟨#[10]⟩ : ByteArray))).2), (x + 1)), h, (Cov.asg ⟨rfl, rfl, rfl, rfl, rfl, rfl, trivial⟩), (.cons _ (.refl _))⟩
  have h := h.2 (decF b5)
  refine wpA_exit ?_
  refine wpA_seq ?_
  obtain ⟨q1, h⟩ := h
  refine wpA_region ?_
  refine wpL_op rfl rfl rfl (OpA.callH rfl rfl rfl en28 (h1 := [(c2, .cells 2 [bldD 52 5 c2 u cb4b xs]), (cb4b, .cells 1 (winL (D.k .u8) ([] : List D) xs post4b))]) (h2 := []) (.refl _) (bldStr_c xs c2 u cb4b post4b q1) ?_)
  rintro _ _ ⟨_, rfl, rfl⟩
  refine wpL_op rfl rfl rfl (OpA.asn rfl (by with_reducible conv => lhs; whnf) ?_)
  refine wpL_op rfl rfl rfl (OpA.asn rfl (by with_reducible conv => lhs; whnf) ?_)
  refine wpL_nil ?_
  refine wpA_ret ?_
  exact ⟨_, (.tmp (d := D.s (bstr xs)) rfl (.tmp (d := D.i 0) rfl .nil)), _, (.tup (.same rfl (.same rfl .nil)) .nil), ⟨((bstr xs), 0), rfl, h⟩⟩
theorem print_c (l : (List Span))  (hp0 : l.length ≤ 1000) (hp1 : ∀ z_ ∈ l, z_.path.size ≤ 1000000) : Fun false Tryd.prog 16 [(encL 3 encSpan) l] (fun d => d = .tup [D.s ((printF l).1), D.i ((printF l).2)]) :=
  Fun.at (enc := fun r => .tup [D.s (r.1), D.i (r.2)]) (v := printF l) (print_w l  (fun r => r = printF l) (print_ok l _ hp0 hp1 rfl))
end Go.Proofs.YtciihmjdccecgaaDoor
