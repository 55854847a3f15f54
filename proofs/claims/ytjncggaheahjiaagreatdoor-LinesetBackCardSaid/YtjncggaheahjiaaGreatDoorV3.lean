/-
  walks and contracts
-/
import Derived.Test.YtjncggaheahjiaaGreatDoorV2
set_option maxRecDepth 10000
set_option maxHeartbeats 2000000
set_option linter.all false
namespace Go.Proofs.YtjncggaheahjiaaGreatDoor
open Go Go.Lic Go.Sort Go.Proofs
attribute [local irreducible] badR behindF cmpB cmpI countF countL fewF has1F hasF hasPrefF indexF insideF itoaF lenF listF mergeF minusF nameR numF numR ofF oneF orF parseF partF pathB pathF printF scutF spanCmp spanF spanR splitB splitF splitG underF validF
theorem merge_w (l : (List Span)) (c_l : Nat) (pre_l post_l : List D) (Q : (List Span) → Prop) (h : merge_vc l Q) : CallH Tryz.prog 33 [.own c_l 3 pre_l.length l.length] [(c_l, .cells 3 (winL encSpan pre_l l post_l))] (fun d h' => ∃ (r : (List Span)) (g : Nat × List D × List D), d = .own g.1 3 g.2.1.length r.length ∧ h' = [(g.1, .cells 3 (winL encSpan g.2.1 r g.2.2))] ∧ Q r) := by
 unfold merge_vc at h
 refine CallH.of_bodyP Tryz.func33 rfl Tryz.ntmps33 rfl ?_
 refine wpA_seq ?_
 refine wpA_region ?_
 refine wL (OpA.asnG (T := Span) (enc := encSpan) (sz := 3) rfl rfl (fun c2_g1 => ?_))
 refine wpL_nil ?_
 refine wpA_seq ?_
 obtain ⟨q1, h⟩ := h
 refine wpA_region ?_
 refine wL (OpA.m ?_)
 refine wL (OpA.sortW (enc := encSpan) (encV := valSpan) Tryz.sortSpan Tryz.isAgg33 Tryz.sizeOf33 (fun _ => rfl) valSpan_one (fun _ => rfl) (cf := spanCmp) (xs := l) rfl rfl rfl rfl en49 rfl rfl rfl en50 (fun a b => @merge1_c flYes a b) (sort0_c [] 50 [] [] spanCmp (fun _ _ => True) en50 (fun a b _ => merge1_c a b) rfl) q1 (.tail .head) ?_)
 refine wpL_nil ?_
 refine wpA_seq ?_
 refine wpA_region ?_
 refine wL (OpA.asnG (T := Span) (enc := encSpan) (sz := 3) rfl rfl (fun c3_g2 => ?_))
 refine wpL_nil ?_
 iterate 2 refine wpA_seq ?_
 refine wpA_cov (fr0 := asg [(0, .own c_l 3 pre_l.length (sortF spanCmp l).length), (2, .own c2_g1 3 ([] : List D).length ([] : List Span).length), (3, .own c3_g2 3 ([] : List D).length ([] : List Span).length), (7, .own c_l 3 pre_l.length (sortF spanCmp l).length), (8, .tup [])]) (Cov.asg ⟨(congrArg (D.own c_l 3 pre_l.length) (by simp only [si_length, gcopy_length, sortF_len spanCmp_swo, List.length_reverse] <;> rfl)), rfl, rfl, (congrArg (D.own c_l 3 pre_l.length) (by simp only [si_length, gcopy_length, sortF_len spanCmp_swo, List.length_reverse] <;> rfl)), rfl, trivial⟩) ?_
 refine wpA_region ?_
 refine wL (OpA.m ?_)
 refine wL (OpA.len rfl rfl rfl rfl ts22.desc (.inr (.inl ⟨_, _, _, rfl⟩)) ?_)
 refine wL (OpA.m ?_)
 refine wpL_nil ?_
 refine wpA_block ?_
 refine wpA_lfp (S := (List Span) × Int) (G := Nat × List D × List D) (c3_g2, ([] : List D), ([] : List D)) (fun gg ss => asg [(2, .own c2_g1 3 ([] : List D).length ([] : List Span).length), (3, .own gg.1 3 gg.2.1.length ss.1.length), (9, .own c_l 3 pre_l.length (sortF spanCmp l).length), (10, D.i ((sortF spanCmp l).length : Int)), (11, D.i ss.2)]) (fun gg ss => [(gg.1, .cells 3 (winL encSpan gg.2.1 ss.1 gg.2.2)), (c2_g1, .cells 3 (winL encSpan ([] : List D) ([] : List Span) ([] : List D))), (c_l, .cells 3 (winL encSpan pre_l (sortF spanCmp l) post_l))]) h (Cov.asg ⟨rfl, rfl, rfl, rfl, rfl, trivial⟩) (.refl _) ?_
 rintro again3 ⟨cb3, pre3, post3⟩ ⟨out, x⟩ h
 have h : merge_L1 l Q again3 out x := h
 unfold merge_L1 at h
 show wpA _ _ _ _ (asg [(2, .own c2_g1 3 ([] : List D).length ([] : List Span).length), (3, .own cb3 3 pre3.length out.length), (9, .own c_l 3 pre_l.length (sortF spanCmp l).length), (10, D.i ((sortF spanCmp l).length : Int)), (11, D.i x)]) [(cb3, .cells 3 (winL encSpan pre3 out post3)), (c2_g1, .cells 3 (winL encSpan ([] : List D) ([] : List Span) ([] : List D))), (c_l, .cells 3 (winL encSpan pre_l (sortF spanCmp l) post_l))]
 refine wpA_seq ?_
 refine wpA_region ?_
 refine wL (OpA.lss rfl rfl rfl ?_)
 refine wpL_nil ?_
 refine wpA_seq ?_
 refine wpA_cond rfl (fun b4 => ?_) (fun b4 => ?_)
 have h := h.1 (decT b4)
 refine wpA_skip ?_
 refine wpA_seq ?_
 refine wpA_block ?_
 refine wpA_seq ?_
 obtain ⟨q1, h⟩ := h
 refine wpA_region ?_
 refine wL (OpA.ixV rfl ts22 rfl rfl q1 ?_)
 refine wL (OpA.load_whole rfl ti33 rfl rfl (.tail (.tail .head)) (getV (enc := encSpan) q1) ⟨_, rfl⟩ ?_)
 refine wL (OpA.alloc (sz := 3) (d := encSpan (Span.mk ByteArray.empty 0 0)) rfl tz33 (fun _ _ => .agg (.cons (.v _) (.cons (.v _) (.cons (.v _) .nil)))) (.of rfl) (fun c5 _ => ?_))
 refine wE (OpA.storeW rfl ti33 rfl (by with_reducible conv => lhs; whnf) (.of rfl) rfl rfl .head ?_)
 refine wpL_nil ?_
 refine wpA_seq ?_
 obtain ⟨q1, h⟩ := h
 refine wpA_region ?_
 refine wL (OpA.m ?_)
 refine wL (OpA.len rfl rfl rfl rfl ts23.desc (.inr (.inl ⟨_, _, _, rfl⟩)) ?_)
 refine wL (OpA.subi rfl rfl rfl q1 ?_)
 refine wL (OpA.a ?_)
 refine wpL_nil ?_
 refine wpA_seq ?_
 obtain ⟨q1, h⟩ := h
 refine wpA_mid (asg [(2, .own c2_g1 3 ([] : List D).length ([] : List Span).length), (3, .own cb3 3 pre3.length out.length), (5, .ptr c5 3 0 0), (6, D.i ((out.length : Int) - 1)), (9, .own c_l 3 pre_l.length (sortF spanCmp l).length), (10, D.i ((sortF spanCmp l).length : Int)), (11, D.i x), (28, D.b ((decide (((out.length : Int) - 1) ≥ 0)) && (!(behindF (gi out ((out.length : Int) - 1)) (gi (sortF spanCmp l) x)))))]) [(c5, .cells 3 [encSpan (gi (sortF spanCmp l) x)]), (cb3, .cells 3 (winL encSpan pre3 out post3)), (c2_g1, .cells 3 (winL encSpan ([] : List D) ([] : List Span) ([] : List D))), (c_l, .cells 3 (winL encSpan pre_l (sortF spanCmp l) post_l))] ?_ ?_
 refine wpA_draw (m := 11) mo (by kernel_rfl) rfl ?_
 refine dL (OpA.m ⟨rfl, rfl⟩) ?_
 refine dL (OpA.geq rfl rfl rfl ⟨rfl, rfl⟩) ?_
 refine dL (OpA.m ⟨rfl, rfl⟩) ?_
 refine DetK_split (s := 20) rfl (fun b9 => ?_) (fun b9 => ?_)
 iterate 2 refine dG (OpA.m ⟨rfl, rfl⟩) ?_
 refine dG (OpA.ixV rfl ts23 rfl rfl (q1 (decT b9)) ⟨rfl, rfl⟩) ?_
 refine dG (OpA.load_whole rfl ti33 rfl rfl (.tail .head) (getV (enc := encSpan) (q1 (decT b9))) ⟨_, rfl⟩ ⟨rfl, rfl⟩) ?_
 refine dG (OpA.load_whole rfl ti33 rfl rfl .head rfl ⟨_, rfl⟩ ⟨rfl, rfl⟩) ?_
 refine dG (OpA.call rfl rfl rfl en31 (behind_c (gi out ((out.length : Int) - 1)) (gi (sortF spanCmp l) x) ) (by rintro _ rfl; exact ⟨rfl, rfl⟩)) ?_
 refine dG (OpA.not rfl rfl ⟨rfl, rfl⟩) ?_
 refine dL (OpA.p ⟨rfl, rfl⟩) ?_
 refine DetK.nil ?_
 refine wpL_nil ?_
 exact ⟨(Cov.asg ⟨rfl, rfl, rfl, rfl, rfl, rfl, rfl, (congrArg D.b (Eq.symm (andN b9 rfl))), trivial⟩), (.refl _)⟩
 iterate 7 refine dS ?_
 refine dL (OpA.p ⟨rfl, rfl⟩) ?_
 refine DetK.nil ?_
 refine wpL_nil ?_
 exact ⟨(Cov.asg ⟨rfl, rfl, rfl, rfl, rfl, rfl, rfl, (congrArg D.b (Eq.symm (andS b9))), trivial⟩), (.refl _)⟩
 show wpA _ _ _ _ (asg [(2, .own c2_g1 3 ([] : List D).length ([] : List Span).length), (3, .own cb3 3 pre3.length out.length), (5, .ptr c5 3 0 0), (6, D.i ((out.length : Int) - 1)), (9, .own c_l 3 pre_l.length (sortF spanCmp l).length), (10, D.i ((sortF spanCmp l).length : Int)), (11, D.i x), (28, D.b ((decide (((out.length : Int) - 1) ≥ 0)) && (!(behindF (gi out ((out.length : Int) - 1)) (gi (sortF spanCmp l) x)))))]) [(c5, .cells 3 [encSpan (gi (sortF spanCmp l) x)]), (cb3, .cells 3 (winL encSpan pre3 out post3)), (c2_g1, .cells 3 (winL encSpan ([] : List D) ([] : List Span) ([] : List D))), (c_l, .cells 3 (winL encSpan pre_l (sortF spanCmp l) post_l))]
 refine wpA_cond rfl (fun b6 => ?_) (fun b6 => ?_)
 have h := h.1 ⟨(decT (and1 b6)), (notT (and2 b6))⟩
 obtain ⟨q1, h⟩ := h
 refine wpA_draw (m := 12) mo (by kernel_rfl) rfl ?_
 iterate 4 refine dL (OpA.m ⟨rfl, rfl⟩) ?_
 refine dL (OpA.ixV rfl ts23 rfl rfl q1 ⟨rfl, rfl⟩) ?_
 refine dL (OpA.fieldAddr rfl tf33_2 rfl ⟨rfl, rfl⟩) ?_
 refine dL (OpA.load rfl ti3 rfl (.tail .head) (getV (enc := encSpan) q1) rfl ⟨rfl, rfl⟩) ?_
 refine dL (OpA.fieldAddr rfl tf33_2 rfl ⟨rfl, rfl⟩) ?_
 refine dL (OpA.load rfl ti3 rfl .head rfl rfl ⟨rfl, rfl⟩) ?_
 refine dL (OpA.max (l := [_]) rfl rfl rfl rfl ⟨rfl, rfl⟩) ?_
 refine dL (OpA.ixV rfl ts23 rfl rfl q1 ⟨rfl, rfl⟩) ?_
 refine dL (OpA.fieldAddr rfl tf33_2 rfl ⟨rfl, rfl⟩) ?_
 refine DetK.nil ?_
 refine wE (OpA.storeVf (enc := encSpan) (v := (Span.mk ((gi out ((out.length : Int) - 1)).path) ((gi out ((out.length : Int) - 1)).from_) (gmax ((gi out ((out.length : Int) - 1)).to) [(gi (sortF spanCmp l) x).to]))) rfl ti3 rfl (.of rfl) (Nat.le_of_ble_eq_true rfl) rfl q1 (.tail .head) ?_)
 refine wpL_nil ?_
 obtain ⟨q1, h⟩ := h
 refine wpA_region ?_
 refine wL (OpA.addi rfl rfl rfl q1 ?_)
 refine wL (OpA.m ?_)
 refine wpL_nil ?_
 exact ⟨(cb3, pre3, post3), ((si out ((out.length : Int) - 1) (Span.mk ((gi out ((out.length : Int) - 1)).path) ((gi out ((out.length : Int) - 1)).from_) (gmax ((gi out ((out.length : Int) - 1)).to) [(gi (sortF spanCmp l) x).to]))), (x + 1)), h, (Cov.asg ⟨rfl, (congrArg (D.own cb3 3 pre3.length) (by simp only [si_length, gcopy_length, sortF_len spanCmp_swo, List.length_reverse] <;> rfl)), rfl, rfl, rfl, trivial⟩), (.cons _ (.refl _))⟩
 have h := h.2 ((and0 b6).imp (fun hh => (decF hh)) (fun hh => (notF hh)))
 obtain ⟨q1, h⟩ := h
 refine wpA_region ?_
 refine wL (OpA.m ?_)
 refine wL (OpA.load_whole rfl ti33 rfl rfl .head rfl ⟨_, rfl⟩ ?_)
 refine wL (OpA.ibuildSliceO rfl ts23 rfl (.cons (.of (sz := 3) rfl) .nil) (by decide) ?_)
 refine wL (OpA.appendW (enc := encSpan) rfl rfl rfl rfl ts23 rfl (fun _ _ => (.tail .head)) (.list (ys := ([(gi (sortF spanCmp l) x)] : List Span))) q1 (fun c7 pre8 => ?_))
 refine wL (OpA.a ?_)
 refine wpL_nil ?_
 obtain ⟨q1, h⟩ := h
 refine wpA_region ?_
 refine wL (OpA.addi rfl rfl rfl q1 ?_)
 refine wL (OpA.m ?_)
 refine wpL_nil ?_
 exact ⟨(c7, pre8, ([] : List D)), ((out ++ ([(gi (sortF spanCmp l) x)] : List Span)), (x + 1)), h, (Cov.asg ⟨rfl, rfl, rfl, rfl, rfl, trivial⟩), (.cons _ (.refl _))⟩
 have h := h.2 (decF b4)
 refine wpA_exit ?_
 refine wpA_seq ?_
 refine wpA_region ?_
 refine wL (OpA.m ?_)
 refine wL (OpA.a ?_)
 refine wpL_nil ?_
 refine wpA_ret ?_
 exact ⟨_, (.tmp (d := .own cb3 3 pre3.length out.length) rfl .nil), [(cb3, .cells 3 (winL encSpan pre3 out post3)), (c2_g1, .cells 3 (winL encSpan ([] : List D) ([] : List Span) ([] : List D))), (c_l, .cells 3 (winL encSpan pre_l (sortF spanCmp l) post_l))], [(cb3, .cells 3 (winL encSpan pre3 out post3))], (.refl _), (.cons₂ _ (.cons _ (.cons _ (.refl _)))), out, (cb3, pre3, post3), rfl, rfl, h⟩
theorem merge_c (l : (List Span)) (c_l : Nat) (pre_l post_l : List D) (hp0 : l.length ≤ 1000000) : CallH Tryz.prog 33 [.own c_l 3 pre_l.length l.length] [(c_l, .cells 3 (winL encSpan pre_l l post_l))] (fun d h' => ∃ (g : Nat × List D × List D), d = .own g.1 3 g.2.1.length (mergeF l).length ∧ h' = [(g.1, .cells 3 (winL encSpan g.2.1 (mergeF l) g.2.2))]) :=
 (merge_w l c_l pre_l post_l  (fun r => r = mergeF l) (merge_ok l _ hp0 rfl)).mono (by rintro d h' ⟨r, g, hd, hh, rfl⟩; exact ⟨g, hd, hh⟩)
theorem of_w (l : (List Line)) (Q : (List Span) × Int → Prop) (h : of_vc l Q) : Fun false Tryz.prog 16 [(encL 2 encLine) l] (fun d => ∃ r, d = .tup [(encL 3 encSpan) (r.1), D.i (r.2)] ∧ Q r) := by
 unfold of_vc at h
 refine Fun.of_body Tryz.func16 rfl Tryz.ntmps16 rfl ?_
 refine wpA_seq ?_
 refine wpA_region ?_
 iterate 2 refine wL (OpA.a ?_)
 refine wpL_nil ?_
 refine wpA_seq ?_
 obtain ⟨q1, h⟩ := h
 refine wpA_region ?_
 refine wL (OpA.m ?_)
 refine wL (OpA.len rfl rfl rfl rfl ts36.desc (.inl ⟨_, _, rfl, (List.length_map _).symm⟩) ?_)
 refine wL (OpA.makeSliceV (enc := encSpan) (v0 := (Span.mk ByteArray.empty 0 0)) rfl ts22 rfl rfl tz33 (fun _ _ => .agg (.cons (.v _) (.cons (.v _) (.cons (.v _) .nil)))) (.of rfl) q1 (fun c1 => ?_))
 refine wL (OpA.a ?_)
 refine wpL_nil ?_
 iterate 2 refine wpA_seq ?_
 refine wpA_region ?_
 refine wL (OpA.m ?_)
 refine wL (OpA.len rfl rfl rfl rfl ts36.desc (.inl ⟨_, _, rfl, (List.length_map _).symm⟩) ?_)
 refine wL (OpA.m ?_)
 refine wpL_nil ?_
 refine wpA_block ?_
 refine wpA_lfp (S := (List Span) × Int) (G := Nat × List D × List D) (c1, ([] : List D), ([] : List D)) (fun gg ss => asg [(2, .v (.slice none 0 0)), (3, D.i 0), (4, .own gg.1 3 gg.2.1.length ss.1.length), (11, (encL 2 encLine) l), (12, D.i (l.length : Int)), (13, D.i ss.2)]) (fun gg ss => [(gg.1, .cells 3 (winL encSpan gg.2.1 ss.1 gg.2.2))]) h (Cov.asg ⟨rfl, rfl, rfl, rfl, rfl, rfl, trivial⟩) (.refl _) ?_
 rintro again2 ⟨cb10, pre10, post10⟩ ⟨spans, x⟩ h
 have h : of_L1 l Q again2 spans x := h
 unfold of_L1 at h
 show wpA _ _ _ _ (asg [(2, .v (.slice none 0 0)), (3, D.i 0), (4, .own cb10 3 pre10.length spans.length), (11, (encL 2 encLine) l), (12, D.i (l.length : Int)), (13, D.i x)]) [(cb10, .cells 3 (winL encSpan pre10 spans post10))]
 refine wpA_seq ?_
 refine wpA_region ?_
 refine wL (OpA.lss rfl rfl rfl ?_)
 refine wpL_nil ?_
 refine wpA_seq ?_
 refine wpA_cond rfl (fun b3 => ?_) (fun b3 => ?_)
 have h := h.1 (decT b3)
 refine wpA_skip ?_
 refine wpA_seq ?_
 refine wpA_block ?_
 refine wpA_seq ?_
 obtain ⟨q1, h⟩ := h
 refine wpA_region ?_
 refine wL (OpA.iixV (enc := encLine) rfl ts36 rfl rfl rfl q1 ?_)
 refine wL (OpA.iload_whole rfl ti40 rfl ⟨_, rfl, rfl⟩ ?_)
 refine wL (OpA.alloc (sz := 2) (d := encLine (Line.mk ByteArray.empty 0)) rfl tz40 (fun _ _ => .agg (.cons (.v _) (.cons (.v _) .nil))) (.of rfl) (fun c4 _ => ?_))
 refine wE (OpA.storeW rfl ti40 rfl (by with_reducible conv => lhs; whnf) (.of rfl) rfl rfl .head ?_)
 refine wpL_nil ?_
 refine wpA_seq ?_
 refine wpA_region ?_
 refine wL (OpA.fieldAddr rfl tf40_0 rfl ?_)
 refine wL (OpA.load rfl ti9 rfl .head rfl rfl ?_)
 refine wL (OpA.fieldAddr rfl tf40_1 rfl ?_)
 refine wL (OpA.load rfl ti3 rfl .head rfl rfl ?_)
 refine wL (OpA.fieldAddr rfl tf40_1 rfl ?_)
 refine wL (OpA.load rfl ti3 rfl .head rfl rfl ?_)
 refine wL (OpA.add rfl rfl rfl ?_)
 refine wL (OpA.buildO (zs := [.v (.string ⟨#[]⟩), .v (.int .i64 0), .v (.int .i64 0)]) rfl tp33 tz33 (fun _ _ => (.cons (.v _) (.cons (.v _) (.cons (.v _) .nil)))) (.cons (.of (sz := 1) rfl) (.cons (.of (sz := 1) rfl) (.cons (.of (sz := 1) rfl) .nil))) rfl ?_)
 refine wL (OpA.alloc (sz := 3) (d := encSpan (Span.mk ByteArray.empty 0 0)) rfl tz33 (fun _ _ => .agg (.cons (.v _) (.cons (.v _) (.cons (.v _) .nil)))) (.of rfl) (fun c5 _ => ?_))
 refine wE (OpA.storeW rfl ti33 rfl (by with_reducible conv => lhs; whnf) (.of rfl) rfl rfl .head ?_)
 refine wpL_nil ?_
 refine wpA_seq ?_
 refine wpA_block ?_
 refine wpA_seq ?_
 obtain ⟨q1, h⟩ := h
 refine wpA_region ?_
 refine wL (OpA.fieldAddr rfl tf40_0 rfl ?_)
 refine wL (OpA.load rfl ti9 rfl (.tail .head) rfl rfl ?_)
 refine wL (OpA.call rfl rfl rfl en32 (path_c ((gi l x).path) q1) ?_)
 rintro _ rfl
 refine wL (OpA.neq rfl rfl rfl ?_)
 refine wL (OpA.a ?_)
 refine wpL_nil ?_
 refine wpA_cond rfl (fun b6 => ?_) (fun b6 => ?_)
 have h := h.1 (bneT b6)
 refine wpA_seq ?_
 refine wpA_region ?_
 iterate 2 refine wL (OpA.a ?_)
 refine wpL_nil ?_
 refine wpA_ret ?_
 exact ⟨_, (.tmp (d := .v (.slice none 0 0)) rfl (.tmp (d := D.i 2) rfl .nil)), _, (.tup (.nilv (sz := 3) (.same rfl .nil)) .nil), ⟨([], 2), rfl, h⟩⟩
 have h := h.2 (bneF b6)
 refine wpA_seq ?_
 refine wpA_region ?_
 refine wL (OpA.load_whole rfl ti33 rfl rfl .head rfl ⟨_, rfl⟩ ?_)
 refine wL (OpA.call rfl rfl rfl en30 (inside_c (Span.mk ((gi l x).path) ((gi l x).n) (IntKind.i64.wrap (((gi l x).n) + 1))) ) ?_)
 rintro _ rfl
 refine wL (OpA.not rfl rfl ?_)
 refine wL (OpA.a ?_)
 refine wpL_nil ?_
 refine wpA_cond rfl (fun b7 => ?_) (fun b7 => ?_)
 have h := h.1 (notT b7)
 refine wpA_seq ?_
 refine wpA_region ?_
 iterate 2 refine wL (OpA.a ?_)
 refine wpL_nil ?_
 refine wpA_ret ?_
 exact ⟨_, (.tmp (d := .v (.slice none 0 0)) rfl (.tmp (d := D.i 3) rfl .nil)), _, (.tup (.nilv (sz := 3) (.same rfl .nil)) .nil), ⟨([], 3), rfl, h⟩⟩
 have h := h.2 (notF b7)
 refine wpA_skip ?_
 obtain ⟨q1, h⟩ := h
 refine wpA_region ?_
 refine wL (OpA.m ?_)
 refine wL (OpA.load_whole rfl ti33 rfl rfl .head rfl ⟨_, rfl⟩ ?_)
 refine wL (OpA.ibuildSliceO rfl ts22 rfl (.cons (.of (sz := 3) rfl) .nil) (by decide) ?_)
 refine wL (OpA.appendW (enc := encSpan) rfl rfl rfl rfl ts22 rfl (fun _ _ => (.tail (.tail .head))) (.list (ys := ([(Span.mk ((gi l x).path) ((gi l x).n) (IntKind.i64.wrap (((gi l x).n) + 1)))] : List Span))) q1 (fun c8 pre9 => ?_))
 refine wL (OpA.a ?_)
 refine wpL_nil ?_
 refine wpA_region ?_
 refine wL (OpA.add rfl rfl rfl ?_)
 refine wL (OpA.m ?_)
 refine wpL_nil ?_
 exact ⟨(c8, pre9, ([] : List D)), ((spans ++ ([(Span.mk ((gi l x).path) ((gi l x).n) (IntKind.i64.wrap (((gi l x).n) + 1)))] : List Span)), (IntKind.i64.wrap (x + 1))), h, (Cov.asg ⟨rfl, rfl, rfl, rfl, rfl, rfl, trivial⟩), (.cons _ (.cons _ (.refl _)))⟩
 have h := h.2 (decF b3)
 refine wpA_exit ?_
 refine wpA_seq ?_
 obtain ⟨q1, h⟩ := h
 refine wpA_region ?_
 refine wL (OpA.m ?_)
 refine wL (OpA.callH rfl rfl rfl en33 (h1 := [(cb10, .cells 3 (winL encSpan pre10 spans post10))]) (h2 := []) (.refl _) (merge_c spans cb10 pre10 post10 q1) ?_)
 rintro _ _ ⟨⟨c10, pre11, post12⟩, rfl, rfl⟩
 iterate 2 refine wL (OpA.a ?_)
 refine wpL_nil ?_
 refine wpA_ret ?_
 exact ⟨_, (.tmp (d := .own c10 3 pre11.length (mergeF spans).length) rfl (.tmp (d := D.i 0) rfl .nil)), _, (.tup (.win .head (by intro hf; cases hf) (.same rfl .nil)) .nil), ⟨((mergeF spans), 0), rfl, h⟩⟩
theorem of_c (l : (List Line)) (hp0 : l.length ≤ 1000000) (hp1 : ∀ z_ ∈ l, z_.path.size ≤ 1000000) : Fun false Tryz.prog 16 [(encL 2 encLine) l] (fun d => d = .tup [(encL 3 encSpan) ((ofF l).1), D.i ((ofF l).2)]) :=
 Fun.at (enc := fun r => .tup [(encL 3 encSpan) (r.1), D.i (r.2)]) (v := ofF l) (of_w l  (fun r => r = ofF l) (of_ok l _ hp0 hp1 rfl))
theorem valid_w (l : (List Span)) (Q : Bool → Prop) (h : valid_vc l Q) : Fun false Tryz.prog 12 [(encL 3 encSpan) l] (fun d => ∃ r, d = D.b r ∧ Q r) := by
 unfold valid_vc at h
 refine Fun.of_body Tryz.func12 rfl Tryz.ntmps12 rfl ?_
 refine wpA_seq ?_
 refine wpA_region ?_
 refine wL (OpA.a ?_)
 refine wpL_nil ?_
 iterate 2 refine wpA_seq ?_
 refine wpA_region ?_
 refine wL (OpA.m ?_)
 refine wL (OpA.len rfl rfl rfl rfl ts23.desc (.inl ⟨_, _, rfl, (List.length_map _).symm⟩) ?_)
 refine wL (OpA.m ?_)
 refine wpL_nil ?_
 refine wpA_block ?_
 refine wpA_lfp (S := Int) (G := Unit) () (fun gg ss => asg [(0, (encL 3 encSpan) l), (2, D.b false), (5, (encL 3 encSpan) l), (6, D.i (l.length : Int)), (7, D.i ss)]) (fun gg ss => []) h (Cov.asg ⟨rfl, rfl, rfl, rfl, rfl, trivial⟩) (.refl _) ?_
 rintro again1 _ x h
 have h : valid_L1 l Q again1 x := h
 unfold valid_L1 at h
 show wpA _ _ _ _ (asg [(0, (encL 3 encSpan) l), (2, D.b false), (5, (encL 3 encSpan) l), (6, D.i (l.length : Int)), (7, D.i x)]) []
 refine wpA_seq ?_
 refine wpA_region ?_
 refine wL (OpA.lss rfl rfl rfl ?_)
 refine wpL_nil ?_
 refine wpA_seq ?_
 refine wpA_cond rfl (fun b2 => ?_) (fun b2 => ?_)
 have h := h.1 (decT b2)
 refine wpA_skip ?_
 refine wpA_seq ?_
 refine wpA_block ?_
 refine wpA_seq ?_
 obtain ⟨q1, h⟩ := h
 refine wpA_region ?_
 refine wL (OpA.m ?_)
 refine wL (OpA.iixV (enc := encSpan) rfl ts23 rfl rfl rfl q1 ?_)
 refine wL (OpA.iload_whole rfl ti33 rfl ⟨_, rfl, rfl⟩ ?_)
 refine wL (OpA.alloc (sz := 3) (d := encSpan (Span.mk ByteArray.empty 0 0)) rfl tz33 (fun _ _ => .agg (.cons (.v _) (.cons (.v _) (.cons (.v _) .nil)))) (.of rfl) (fun c3 _ => ?_))
 refine wL (OpA.a ?_)
 refine wE (OpA.storeW rfl ti33 rfl (by with_reducible conv => lhs; whnf) (.of rfl) rfl rfl .head ?_)
 refine wpL_nil ?_
 refine wpA_seq ?_
 obtain ⟨q1, q2, h⟩ := h
 refine wpA_mid (asg [(0, (encL 3 encSpan) l), (2, D.b false), (5, (encL 3 encSpan) l), (6, D.i (l.length : Int)), (7, D.i x), (34, D.b (((!(insideF (gi l x))) || ((decide (x > 0)) && (!(behindF (gi l (x - 1)) (gi l x))))) || ((pathF ((gi l x).path)) != 0)))]) [(c3, .cells 3 [encSpan (gi l x)])] ?_ ?_
 refine wpA_draw (m := 23) mo (by kernel_rfl) rfl ?_
 refine dL (OpA.load_whole rfl ti33 rfl rfl .head rfl ⟨_, rfl⟩ ⟨rfl, rfl⟩) ?_
 refine dL (OpA.call rfl rfl rfl en30 (inside_c (gi l x) ) (by rintro _ rfl; exact ⟨rfl, rfl⟩)) ?_
 refine dL (OpA.not rfl rfl ⟨rfl, rfl⟩) ?_
 refine dL (OpA.m ⟨rfl, rfl⟩) ?_
 refine DetK_split (s := 15) rfl (fun b5 => ?_) (fun b5 => ?_)
 iterate 3 refine dS ?_
 iterate 8 refine DetK.skipU rfl rfl rfl ?_
 refine dS ?_
 refine dL (OpA.p ⟨rfl, rfl⟩) ?_
 refine dL (OpA.m ⟨rfl, rfl⟩) ?_
 iterate 4 refine dS ?_
 refine dL (OpA.p ⟨rfl, rfl⟩) ?_
 refine DetK.nil ?_
 refine wpL_nil ?_
 exact ⟨(Cov.asg ⟨rfl, rfl, rfl, rfl, rfl, (congrArg D.b (Eq.symm (orS (orS b5)))), trivial⟩), (.refl _)⟩
 refine dG (OpA.m ⟨rfl, rfl⟩) ?_
 refine dG (OpA.gtr rfl rfl rfl ⟨rfl, rfl⟩) ?_
 refine dG (OpA.m ⟨rfl, rfl⟩) ?_
 refine DetK_split (s := 18) rfl (fun b6 => ?_) (fun b6 => ?_)
 iterate 2 refine dG (OpA.m ⟨rfl, rfl⟩) ?_
 refine dG (OpA.subi rfl rfl rfl ((q1 (notF b5)) (decT b6)).1 ⟨rfl, rfl⟩) ?_
 refine dG (OpA.iixV (enc := encSpan) rfl ts23 rfl rfl rfl ((q1 (notF b5)) (decT b6)).2 ⟨rfl, rfl⟩) ?_
 refine dG (OpA.iload_whole rfl ti33 rfl ⟨_, rfl, rfl⟩ ⟨rfl, rfl⟩) ?_
 refine dG (OpA.load_whole rfl ti33 rfl rfl .head rfl ⟨_, rfl⟩ ⟨rfl, rfl⟩) ?_
 refine dG (OpA.call rfl rfl rfl en31 (behind_c (gi l (x - 1)) (gi l x) ) (by rintro _ rfl; exact ⟨rfl, rfl⟩)) ?_
 refine dG (OpA.not rfl rfl ⟨rfl, rfl⟩) ?_
 refine dG (OpA.p ⟨rfl, rfl⟩) ?_
 refine dL (OpA.p ⟨rfl, rfl⟩) ?_
 refine dL (OpA.m ⟨rfl, rfl⟩) ?_
 refine DetK_split (s := 29) rfl (fun b7 => ?_) (fun b7 => ?_)
 iterate 4 refine dS ?_
 refine dL (OpA.p ⟨rfl, rfl⟩) ?_
 refine DetK.nil ?_
 refine wpL_nil ?_
 exact ⟨(Cov.asg ⟨rfl, rfl, rfl, rfl, rfl, (congrArg D.b (Eq.symm (orS (orN b5 (andN b6 b7))))), trivial⟩), (.refl _)⟩
 refine dG (OpA.fieldAddr rfl tf33_0 rfl ⟨rfl, rfl⟩) ?_
 refine dG (OpA.load rfl ti9 rfl .head rfl rfl ⟨rfl, rfl⟩) ?_
 refine dG (OpA.call rfl rfl rfl en32 (path_c ((gi l x).path) (q2 ⟨(notF b5), (.inr (notF b7))⟩)) (by rintro _ rfl; exact ⟨rfl, rfl⟩)) ?_
 refine dG (OpA.neq rfl rfl rfl ⟨rfl, rfl⟩) ?_
 refine dL (OpA.p ⟨rfl, rfl⟩) ?_
 refine DetK.nil ?_
 refine wpL_nil ?_
 exact ⟨(Cov.asg ⟨rfl, rfl, rfl, rfl, rfl, (congrArg D.b (Eq.symm (orN (orN b5 (andN b6 b7)) rfl))), trivial⟩), (.refl _)⟩
 iterate 8 refine dS ?_
 refine dG (OpA.p ⟨rfl, rfl⟩) ?_
 refine dL (OpA.p ⟨rfl, rfl⟩) ?_
 refine dL (OpA.m ⟨rfl, rfl⟩) ?_
 refine dG (OpA.fieldAddr rfl tf33_0 rfl ⟨rfl, rfl⟩) ?_
 refine dG (OpA.load rfl ti9 rfl .head rfl rfl ⟨rfl, rfl⟩) ?_
 refine dG (OpA.call rfl rfl rfl en32 (path_c ((gi l x).path) (q2 ⟨(notF b5), (.inl (decF b6))⟩)) (by rintro _ rfl; exact ⟨rfl, rfl⟩)) ?_
 refine dG (OpA.neq rfl rfl rfl ⟨rfl, rfl⟩) ?_
 refine dL (OpA.p ⟨rfl, rfl⟩) ?_
 refine DetK.nil ?_
 refine wpL_nil ?_
 exact ⟨(Cov.asg ⟨rfl, rfl, rfl, rfl, rfl, (congrArg D.b (Eq.symm (orN (orN b5 (andS b6)) rfl))), trivial⟩), (.refl _)⟩
 show wpA _ _ _ _ (asg [(0, (encL 3 encSpan) l), (2, D.b false), (5, (encL 3 encSpan) l), (6, D.i (l.length : Int)), (7, D.i x), (34, D.b (((!(insideF (gi l x))) || ((decide (x > 0)) && (!(behindF (gi l (x - 1)) (gi l x))))) || ((pathF ((gi l x).path)) != 0)))]) [(c3, .cells 3 [encSpan (gi l x)])]
 refine wpA_cond rfl (fun b4 => ?_) (fun b4 => ?_)
 have h := h.1 ((or0 b4).imp (fun hh => ((or0 hh).imp (fun hh => (notT hh)) (fun hh => ⟨(decT (and1 hh)), (notT (and2 hh))⟩))) (fun hh => (bneT hh)))
 refine wpA_seq ?_
 refine wpA_region ?_
 refine wL (OpA.a ?_)
 refine wpL_nil ?_
 refine wpA_ret ?_
 exact ⟨_, (.tmp (d := D.b false) rfl .nil), _, (.same rfl .nil), ⟨false, rfl, h⟩⟩
 have h := h.2 ⟨⟨(notF (or1 (or1 b4))), ((and0 (or2 (or1 b4))).imp (fun hh => (decF hh)) (fun hh => (notF hh)))⟩, (bneF (or2 b4))⟩
 refine wpA_skip ?_
 obtain ⟨q1, h⟩ := h
 refine wpA_region ?_
 refine wL (OpA.addi rfl rfl rfl q1 ?_)
 refine wL (OpA.m ?_)
 refine wpL_nil ?_
 exact ⟨(), (x + 1), h, (Cov.asg ⟨rfl, rfl, rfl, rfl, rfl, trivial⟩), (.cons _ (.refl _))⟩
 have h := h.2 (decF b2)
 refine wpA_exit ?_
 refine wpA_seq ?_
 refine wpA_region ?_
 refine wL (OpA.a ?_)
 refine wpL_nil ?_
 refine wpA_ret ?_
 exact ⟨_, (.tmp (d := D.b true) rfl .nil), _, (.same rfl .nil), ⟨true, rfl, h⟩⟩
theorem valid_c (l : (List Span)) (hp0 : l.length ≤ 1000000) (hp1 : ∀ z_ ∈ l, z_.path.size ≤ 1000000) : Fun false Tryz.prog 12 [(encL 3 encSpan) l] (fun d => d = D.b (validF l)) :=
 Fun.at (enc := fun r => D.b r) (v := validF l) (valid_w l  (fun r => r = validF l) (valid_ok l _ hp0 hp1 rfl))
theorem common_w (a : (List Span)) (b : (List Span)) (Q : (List Span) → Prop) (h : common_vc a b Q) : Fun false Tryz.prog 34 [(encL 3 encSpan) a, (encL 3 encSpan) b] (fun d => ∃ r, d = (encL 3 encSpan) r ∧ Q r) := by
 unfold common_vc at h
 refine Fun.of_body Tryz.func34 rfl Tryz.ntmps34 rfl ?_
 refine wpA_seq ?_
 refine wpA_region ?_
 refine wL (OpA.a ?_)
 refine wpL_nil ?_
 refine wpA_seq ?_
 refine wpA_region ?_
 refine wL (OpA.asnG (T := Span) (enc := encSpan) (sz := 3) rfl rfl (fun c5_g1 => ?_))
 refine wpL_nil ?_
 iterate 2 refine wpA_seq ?_
 refine wpA_region ?_
 iterate 2 refine wL (OpA.a ?_)
 refine wpL_nil ?_
 refine wpA_block ?_
 refine wpA_lfp (S := (List Span) × Int × Int) (G := Nat × List D × List D) (c5_g1, ([] : List D), ([] : List D)) (fun gg ss => asg [(0, (encL 3 encSpan) a), (1, (encL 3 encSpan) b), (4, .v (.slice none 0 0)), (5, .own gg.1 3 gg.2.1.length ss.1.length), (6, D.i ss.2.1), (7, D.i ss.2.2)]) (fun gg ss => [(gg.1, .cells 3 (winL encSpan gg.2.1 ss.1 gg.2.2))]) h (Cov.asg ⟨rfl, rfl, rfl, rfl, rfl, rfl, trivial⟩) (.refl _) ?_
 rintro again2 ⟨cb5, pre5, post5⟩ ⟨out, i, k⟩ h
 have h : common_L1 a b Q again2 out i k := h
 unfold common_L1 at h
 show wpA _ _ _ _ (asg [(0, (encL 3 encSpan) a), (1, (encL 3 encSpan) b), (4, .v (.slice none 0 0)), (5, .own cb5 3 pre5.length out.length), (6, D.i i), (7, D.i k)]) [(cb5, .cells 3 (winL encSpan pre5 out post5))]
 iterate 2 refine wpA_seq ?_
 refine wpA_mid (asg [(0, (encL 3 encSpan) a), (1, (encL 3 encSpan) b), (4, .v (.slice none 0 0)), (5, .own cb5 3 pre5.length out.length), (6, D.i i), (7, D.i k), (20, D.b ((decide (i < (a.length : Int))) && (decide (k < (b.length : Int)))))]) [(cb5, .cells 3 (winL encSpan pre5 out post5))] ?_ ?_
 refine wpA_region ?_
 iterate 2 refine wL (OpA.m ?_)
 refine wL (OpA.len rfl rfl rfl rfl ts23.desc (.inl ⟨_, _, rfl, (List.length_map _).symm⟩) ?_)
 refine wL (OpA.lss rfl rfl rfl ?_)
 refine wL (OpA.m ?_)
 refine wpL_split (s := 15) rfl (fun b152 => ?_) (fun b152 => ?_)
 iterate 2 refine wG (OpA.m ?_)
 refine wG (OpA.len rfl rfl rfl rfl ts23.desc (.inl ⟨_, _, rfl, (List.length_map _).symm⟩) ?_)
 refine wG (OpA.lss rfl rfl rfl ?_)
 refine wL (OpA.p ?_)
 refine wpL_nil ?_
 exact ⟨(Cov.asg ⟨rfl, rfl, rfl, rfl, rfl, rfl, (congrArg D.b (Eq.symm (andN b152 rfl))), trivial⟩), (.refl _)⟩
 iterate 4 refine wS ?_
 refine wL (OpA.p ?_)
 refine wpL_nil ?_
 exact ⟨(Cov.asg ⟨rfl, rfl, rfl, rfl, rfl, rfl, (congrArg D.b (Eq.symm (andS b152))), trivial⟩), (.refl _)⟩
 show wpA _ _ _ _ (asg [(0, (encL 3 encSpan) a), (1, (encL 3 encSpan) b), (4, .v (.slice none 0 0)), (5, .own cb5 3 pre5.length out.length), (6, D.i i), (7, D.i k), (20, D.b ((decide (i < (a.length : Int))) && (decide (k < (b.length : Int)))))]) [(cb5, .cells 3 (winL encSpan pre5 out post5))]
 refine wpA_cond rfl (fun b3 => ?_) (fun b3 => ?_)
 have h := h.1 ⟨(decT (and1 b3)), (decT (and2 b3))⟩
 refine wpA_skip ?_
 refine wpA_block ?_
 refine wpA_seq ?_
 obtain ⟨q2_0, q6_0, h⟩ := h
 refine wpA_states mo (fun W hW => ?_)
 refine flip_goal (a := ∀ (c94 : Nat) (c104 : Nat), W 0 (lv 12 4095) (asg [(0, (encL 3 encSpan) a), (1, (encL 3 encSpan) b), (4, .v (.slice none 0 0)), (5, .own cb5 3 pre5.length out.length), (6, D.i i), (7, D.i k), (8, .ptr c94 3 0 0), (9, .ptr c104 3 0 0)]) [(c104, .cells 3 [encSpan (gi b k)]), (c94, .cells 3 [encSpan (gi a i)]), (cb5, .cells 3 (winL encSpan pre5 out post5))]) (fun s0 => ?_) ?_
 have s1 : ∀ (c94 : Nat) (c104 : Nat), W 1 (lv 12 2047) (asg [(0, (encL 3 encSpan) a), (1, (encL 3 encSpan) b), (4, .v (.slice none 0 0)), (5, .own cb5 3 pre5.length out.length), (6, D.i i), (7, D.i k), (8, .ptr c94 3 0 0), (9, .ptr c104 3 0 0), (28, encSpan (gi b k))]) [(c104, .cells 3 [encSpan (Span.mk ByteArray.empty 0 0)]), (c94, .cells 3 [encSpan (gi a i)]), (cb5, .cells 3 (winL encSpan pre5 out post5))] := fun c94 c104 => wpS_of hW (by refine wpS_step (rs := [11]) (by kernel_rfl) rfl ⟨?_, trivial⟩; refine wpS_eff (i := 11) (li' := (lv 12 4095)) rfl rfl rfl (by kernel_rfl) (OpA.storeW rfl ti33 rfl (by with_reducible conv => lhs; whnf) (.of rfl) rfl rfl .head ?_); exact wpS_to hW (s0 c94 c104) (Cov.asg ⟨rfl, rfl, rfl, rfl, rfl, rfl, rfl, rfl, trivial⟩) (.refl _))
 have s2 : ∀ (c94 : Nat) (c104 : Nat), W 2 (lv 12 1023) (asg [(0, (encL 3 encSpan) a), (1, (encL 3 encSpan) b), (4, .v (.slice none 0 0)), (5, .own cb5 3 pre5.length out.length), (6, D.i i), (7, D.i k), (8, .ptr c94 3 0 0), (9, .ptr c104 3 0 0), (24, encSpan (gi a i)), (28, encSpan (gi b k))]) [(c104, .cells 3 [encSpan (Span.mk ByteArray.empty 0 0)]), (c94, .cells 3 [encSpan (Span.mk ByteArray.empty 0 0)]), (cb5, .cells 3 (winL encSpan pre5 out post5))] := fun c94 c104 => wpS_of hW (by refine wpS_step (rs := [10]) (by kernel_rfl) rfl ⟨?_, trivial⟩; refine wpS_eff (i := 10) (li' := (lv 12 2047)) rfl rfl rfl (by kernel_rfl) (OpA.storeW rfl ti33 rfl (by with_reducible conv => lhs; whnf) (.of rfl) rfl rfl (.tail .head) ?_); exact wpS_to hW (s1 c94 c104) (Cov.asg ⟨rfl, rfl, rfl, rfl, rfl, rfl, rfl, rfl, rfl, trivial⟩) (.refl _))
 have s3 : ∀ (c94 : Nat) (c104 : Nat), W 2 (lv 12 1919) (asg [(0, (encL 3 encSpan) a), (1, (encL 3 encSpan) b), (4, .v (.slice none 0 0)), (5, .own cb5 3 pre5.length out.length), (6, D.i i), (7, D.i k), (8, .ptr c94 3 0 0), (9, .ptr c104 3 0 0), (27, .iptr (encSpan (gi b k)) 0)]) [(c104, .cells 3 [encSpan (Span.mk ByteArray.empty 0 0)]), (c94, .cells 3 [encSpan (gi a i)]), (cb5, .cells 3 (winL encSpan pre5 out post5))] := fun c94 c104 => wpS_of hW (by refine wpS_step (rs := [7]) (by kernel_rfl) rfl ⟨?_, trivial⟩; refine wpS_op (i := 7) (li' := (lv 12 2047)) rfl rfl rfl rfl (by kernel_rfl) (OpA.iload_whole rfl ti33 rfl ⟨_, rfl, rfl⟩ ?_); exact wpS_to hW (s1 c94 c104) (Cov.asg ⟨rfl, rfl, rfl, rfl, rfl, rfl, rfl, rfl, rfl, trivial⟩) (.refl _))
 have s4 : ∀ (c94 : Nat), W 3 (lv 12 511) (asg [(0, (encL 3 encSpan) a), (1, (encL 3 encSpan) b), (4, .v (.slice none 0 0)), (5, .own cb5 3 pre5.length out.length), (6, D.i i), (7, D.i k), (8, .ptr c94 3 0 0), (24, encSpan (gi a i)), (28, encSpan (gi b k))]) [(c94, .cells 3 [encSpan (Span.mk ByteArray.empty 0 0)]), (cb5, .cells 3 (winL encSpan pre5 out post5))] := fun c94 => wpS_of hW (by refine wpS_step (rs := [9]) (by kernel_rfl) rfl ⟨?_, trivial⟩; refine wpS_op (i := 9) (li' := (lv 12 1023)) rfl rfl rfl rfl (by kernel_rfl) (OpA.alloc (sz := 3) (d := encSpan (Span.mk ByteArray.empty 0 0)) rfl tz33 (fun _ _ => .agg (.cons (.v _) (.cons (.v _) (.cons (.v _) .nil)))) (.of rfl) (fun c104 _ => ?_)); exact wpS_to hW (s2 c94 c104) (Cov.asg ⟨rfl, rfl, rfl, rfl, rfl, rfl, rfl, rfl, rfl, rfl, trivial⟩) (.refl _))
 have s5 : ∀ (c104 : Nat), W 3 (lv 12 767) (asg [(0, (encL 3 encSpan) a), (1, (encL 3 encSpan) b), (4, .v (.slice none 0 0)), (5, .own cb5 3 pre5.length out.length), (6, D.i i), (7, D.i k), (9, .ptr c104 3 0 0), (24, encSpan (gi a i)), (28, encSpan (gi b k))]) [(c104, .cells 3 [encSpan (Span.mk ByteArray.empty 0 0)]), (cb5, .cells 3 (winL encSpan pre5 out post5))] := fun c104 => wpS_of hW (by refine wpS_step (rs := [8]) (by kernel_rfl) rfl ⟨?_, trivial⟩; refine wpS_op (i := 8) (li' := (lv 12 1023)) rfl rfl rfl rfl (by kernel_rfl) (OpA.alloc (sz := 3) (d := encSpan (Span.mk ByteArray.empty 0 0)) rfl tz33 (fun _ _ => .agg (.cons (.v _) (.cons (.v _) (.cons (.v _) .nil)))) (.of rfl) (fun c94 _ => ?_)); exact wpS_to hW (s2 c94 c104) (Cov.asg ⟨rfl, rfl, rfl, rfl, rfl, rfl, rfl, rfl, rfl, rfl, trivial⟩) pull1)
 have s6 : ∀ (c94 : Nat) (c104 : Nat), W 3 (lv 12 895) (asg [(0, (encL 3 encSpan) a), (1, (encL 3 encSpan) b), (4, .v (.slice none 0 0)), (5, .own cb5 3 pre5.length out.length), (6, D.i i), (7, D.i k), (8, .ptr c94 3 0 0), (9, .ptr c104 3 0 0), (24, encSpan (gi a i)), (27, .iptr (encSpan (gi b k)) 0)]) [(c104, .cells 3 [encSpan (Span.mk ByteArray.empty 0 0)]), (c94, .cells 3 [encSpan (Span.mk ByteArray.empty 0 0)]), (cb5, .cells 3 (winL encSpan pre5 out post5))] := fun c94 c104 => wpS_of hW (by refine wpS_step (rs := [7, 10]) (by kernel_rfl) rfl ⟨?_, ?_, trivial⟩; refine wpS_op (i := 7) (li' := (lv 12 1023)) rfl rfl rfl rfl (by kernel_rfl) (OpA.iload_whole rfl ti33 rfl ⟨_, rfl, rfl⟩ ?_); exact wpS_to hW (s2 c94 c104) (Cov.asg ⟨rfl, rfl, rfl, rfl, rfl, rfl, rfl, rfl, rfl, rfl, trivial⟩) (.refl _); refine wpS_eff (i := 10) (li' := (lv 12 1919)) rfl rfl rfl (by kernel_rfl) (OpA.storeW rfl ti33 rfl (by with_reducible conv => lhs; whnf) (.of rfl) rfl rfl (.tail .head) ?_); exact wpS_to hW (s3 c94 c104) (Cov.asg ⟨rfl, rfl, rfl, rfl, rfl, rfl, rfl, rfl, rfl, trivial⟩) (.refl _))
 have s7 : ∀ (c94 : Nat) (c104 : Nat), W 3 (lv 12 1015) (asg [(0, (encL 3 encSpan) a), (1, (encL 3 encSpan) b), (4, .v (.slice none 0 0)), (5, .own cb5 3 pre5.length out.length), (6, D.i i), (7, D.i k), (8, .ptr c94 3 0 0), (9, .ptr c104 3 0 0), (23, .iptr (encSpan (gi a i)) 0), (28, encSpan (gi b k))]) [(c104, .cells 3 [encSpan (Span.mk ByteArray.empty 0 0)]), (c94, .cells 3 [encSpan (Span.mk ByteArray.empty 0 0)]), (cb5, .cells 3 (winL encSpan pre5 out post5))] := fun c94 c104 => wpS_of hW (by refine wpS_step (rs := [3]) (by kernel_rfl) rfl ⟨?_, trivial⟩; refine wpS_op (i := 3) (li' := (lv 12 1023)) rfl rfl rfl rfl (by kernel_rfl) (OpA.iload_whole rfl ti33 rfl ⟨_, rfl, rfl⟩ ?_); exact wpS_to hW (s2 c94 c104) (Cov.asg ⟨rfl, rfl, rfl, rfl, rfl, rfl, rfl, rfl, rfl, rfl, trivial⟩) (.refl _))
 have s8 : W 4 (lv 12 255) (asg [(0, (encL 3 encSpan) a), (1, (encL 3 encSpan) b), (4, .v (.slice none 0 0)), (5, .own cb5 3 pre5.length out.length), (6, D.i i), (7, D.i k), (24, encSpan (gi a i)), (28, encSpan (gi b k))]) [(cb5, .cells 3 (winL encSpan pre5 out post5))] := wpS_of hW (by refine wpS_step (rs := [8, 9]) (by kernel_rfl) rfl ⟨?_, ?_, trivial⟩; refine wpS_op (i := 8) (li' := (lv 12 511)) rfl rfl rfl rfl (by kernel_rfl) (OpA.alloc (sz := 3) (d := encSpan (Span.mk ByteArray.empty 0 0)) rfl tz33 (fun _ _ => .agg (.cons (.v _) (.cons (.v _) (.cons (.v _) .nil)))) (.of rfl) (fun c94 _ => ?_)); exact wpS_to hW (s4 c94) (Cov.asg ⟨rfl, rfl, rfl, rfl, rfl, rfl, rfl, rfl, rfl, trivial⟩) (.refl _); refine wpS_op (i := 9) (li' := (lv 12 767)) rfl rfl rfl rfl (by kernel_rfl) (OpA.alloc (sz := 3) (d := encSpan (Span.mk ByteArray.empty 0 0)) rfl tz33 (fun _ _ => .agg (.cons (.v _) (.cons (.v _) (.cons (.v _) .nil)))) (.of rfl) (fun c104 _ => ?_)); exact wpS_to hW (s5 c104) (Cov.asg ⟨rfl, rfl, rfl, rfl, rfl, rfl, rfl, rfl, rfl, trivial⟩) (.refl _))
 have s9 : ∀ (c94 : Nat), W 4 (lv 12 383) (asg [(0, (encL 3 encSpan) a), (1, (encL 3 encSpan) b), (4, .v (.slice none 0 0)), (5, .own cb5 3 pre5.length out.length), (6, D.i i), (7, D.i k), (8, .ptr c94 3 0 0), (24, encSpan (gi a i)), (27, .iptr (encSpan (gi b k)) 0)]) [(c94, .cells 3 [encSpan (Span.mk ByteArray.empty 0 0)]), (cb5, .cells 3 (winL encSpan pre5 out post5))] := fun c94 => wpS_of hW (by refine wpS_step (rs := [7, 9]) (by kernel_rfl) rfl ⟨?_, ?_, trivial⟩; refine wpS_op (i := 7) (li' := (lv 12 511)) rfl rfl rfl rfl (by kernel_rfl) (OpA.iload_whole rfl ti33 rfl ⟨_, rfl, rfl⟩ ?_); exact wpS_to hW (s4 c94) (Cov.asg ⟨rfl, rfl, rfl, rfl, rfl, rfl, rfl, rfl, rfl, trivial⟩) (.refl _); refine wpS_op (i := 9) (li' := (lv 12 895)) rfl rfl rfl rfl (by kernel_rfl) (OpA.alloc (sz := 3) (d := encSpan (Span.mk ByteArray.empty 0 0)) rfl tz33 (fun _ _ => .agg (.cons (.v _) (.cons (.v _) (.cons (.v _) .nil)))) (.of rfl) (fun c104 _ => ?_)); exact wpS_to hW (s6 c94 c104) (Cov.asg ⟨rfl, rfl, rfl, rfl, rfl, rfl, rfl, rfl, rfl, rfl, trivial⟩) (.refl _))
 have s10 : ∀ (c104 : Nat), W 4 (lv 12 639) (asg [(0, (encL 3 encSpan) a), (1, (encL 3 encSpan) b), (4, .v (.slice none 0 0)), (5, .own cb5 3 pre5.length out.length), (6, D.i i), (7, D.i k), (9, .ptr c104 3 0 0), (24, encSpan (gi a i)), (27, .iptr (encSpan (gi b k)) 0)]) [(c104, .cells 3 [encSpan (Span.mk ByteArray.empty 0 0)]), (cb5, .cells 3 (winL encSpan pre5 out post5))] := fun c104 => wpS_of hW (by refine wpS_step (rs := [7, 8]) (by kernel_rfl) rfl ⟨?_, ?_, trivial⟩; refine wpS_op (i := 7) (li' := (lv 12 767)) rfl rfl rfl rfl (by kernel_rfl) (OpA.iload_whole rfl ti33 rfl ⟨_, rfl, rfl⟩ ?_); exact wpS_to hW (s5 c104) (Cov.asg ⟨rfl, rfl, rfl, rfl, rfl, rfl, rfl, rfl, rfl, trivial⟩) (.refl _); refine wpS_op (i := 8) (li' := (lv 12 895)) rfl rfl rfl rfl (by kernel_rfl) (OpA.alloc (sz := 3) (d := encSpan (Span.mk ByteArray.empty 0 0)) rfl tz33 (fun _ _ => .agg (.cons (.v _) (.cons (.v _) (.cons (.v _) .nil)))) (.of rfl) (fun c94 _ => ?_)); exact wpS_to hW (s6 c94 c104) (Cov.asg ⟨rfl, rfl, rfl, rfl, rfl, rfl, rfl, rfl, rfl, rfl, trivial⟩) pull1)
 have s11 : ∀ (c94 : Nat), W 4 (lv 12 503) (asg [(0, (encL 3 encSpan) a), (1, (encL 3 encSpan) b), (4, .v (.slice none 0 0)), (5, .own cb5 3 pre5.length out.length), (6, D.i i), (7, D.i k), (8, .ptr c94 3 0 0), (23, .iptr (encSpan (gi a i)) 0), (28, encSpan (gi b k))]) [(c94, .cells 3 [encSpan (Span.mk ByteArray.empty 0 0)]), (cb5, .cells 3 (winL encSpan pre5 out post5))] := fun c94 => wpS_of hW (by refine wpS_step (rs := [3, 9]) (by kernel_rfl) rfl ⟨?_, ?_, trivial⟩; refine wpS_op (i := 3) (li' := (lv 12 511)) rfl rfl rfl rfl (by kernel_rfl) (OpA.iload_whole rfl ti33 rfl ⟨_, rfl, rfl⟩ ?_); exact wpS_to hW (s4 c94) (Cov.asg ⟨rfl, rfl, rfl, rfl, rfl, rfl, rfl, rfl, rfl, trivial⟩) (.refl _); refine wpS_op (i := 9) (li' := (lv 12 1015)) rfl rfl rfl rfl (by kernel_rfl) (OpA.alloc (sz := 3) (d := encSpan (Span.mk ByteArray.empty 0 0)) rfl tz33 (fun _ _ => .agg (.cons (.v _) (.cons (.v _) (.cons (.v _) .nil)))) (.of rfl) (fun c104 _ => ?_)); exact wpS_to hW (s7 c94 c104) (Cov.asg ⟨rfl, rfl, rfl, rfl, rfl, rfl, rfl, rfl, rfl, rfl, trivial⟩) (.refl _))
 have s12 : ∀ (c104 : Nat), W 4 (lv 12 759) (asg [(0, (encL 3 encSpan) a), (1, (encL 3 encSpan) b), (4, .v (.slice none 0 0)), (5, .own cb5 3 pre5.length out.length), (6, D.i i), (7, D.i k), (9, .ptr c104 3 0 0), (23, .iptr (encSpan (gi a i)) 0), (28, encSpan (gi b k))]) [(c104, .cells 3 [encSpan (Span.mk ByteArray.empty 0 0)]), (cb5, .cells 3 (winL encSpan pre5 out post5))] := fun c104 => wpS_of hW (by refine wpS_step (rs := [3, 8]) (by kernel_rfl) rfl ⟨?_, ?_, trivial⟩; refine wpS_op (i := 3) (li' := (lv 12 767)) rfl rfl rfl rfl (by kernel_rfl) (OpA.iload_whole rfl ti33 rfl ⟨_, rfl, rfl⟩ ?_); exact wpS_to hW (s5 c104) (Cov.asg ⟨rfl, rfl, rfl, rfl, rfl, rfl, rfl, rfl, rfl, trivial⟩) (.refl _); refine wpS_op (i := 8) (li' := (lv 12 1015)) rfl rfl rfl rfl (by kernel_rfl) (OpA.alloc (sz := 3) (d := encSpan (Span.mk ByteArray.empty 0 0)) rfl tz33 (fun _ _ => .agg (.cons (.v _) (.cons (.v _) (.cons (.v _) .nil)))) (.of rfl) (fun c94 _ => ?_)); exact wpS_to hW (s7 c94 c104) (Cov.asg ⟨rfl, rfl, rfl, rfl, rfl, rfl, rfl, rfl, rfl, rfl, trivial⟩) pull1)
 have s13 : ∀ (c94 : Nat) (c104 : Nat), W 4 (lv 12 887) (asg [(0, (encL 3 encSpan) a), (1, (encL 3 encSpan) b), (4, .v (.slice none 0 0)), (5, .own cb5 3 pre5.length out.length), (6, D.i i), (7, D.i k), (8, .ptr c94 3 0 0), (9, .ptr c104 3 0 0), (23, .iptr (encSpan (gi a i)) 0), (27, .iptr (encSpan (gi b k)) 0)]) [(c104, .cells 3 [encSpan (Span.mk ByteArray.empty 0 0)]), (c94, .cells 3 [encSpan (Span.mk ByteArray.empty 0 0)]), (cb5, .cells 3 (winL encSpan pre5 out post5))] := fun c94 c104 => wpS_of hW (by refine wpS_step (rs := [3, 7]) (by kernel_rfl) rfl ⟨?_, ?_, trivial⟩; refine wpS_op (i := 3) (li' := (lv 12 895)) rfl rfl rfl rfl (by kernel_rfl) (OpA.iload_whole rfl ti33 rfl ⟨_, rfl, rfl⟩ ?_); exact wpS_to hW (s6 c94 c104) (Cov.asg ⟨rfl, rfl, rfl, rfl, rfl, rfl, rfl, rfl, rfl, rfl, trivial⟩) (.refl _); refine wpS_op (i := 7) (li' := (lv 12 1015)) rfl rfl rfl rfl (by kernel_rfl) (OpA.iload_whole rfl ti33 rfl ⟨_, rfl, rfl⟩ ?_); exact wpS_to hW (s7 c94 c104) (Cov.asg ⟨rfl, rfl, rfl, rfl, rfl, rfl, rfl, rfl, rfl, rfl, trivial⟩) (.refl _))
 have s14 : W 5 (lv 12 127) (asg [(0, (encL 3 encSpan) a), (1, (encL 3 encSpan) b), (4, .v (.slice none 0 0)), (5, .own cb5 3 pre5.length out.length), (6, D.i i), (7, D.i k), (24, encSpan (gi a i)), (27, .iptr (encSpan (gi b k)) 0)]) [(cb5, .cells 3 (winL encSpan pre5 out post5))] := wpS_of hW (by refine wpS_step (rs := [7, 8, 9]) (by kernel_rfl) rfl ⟨?_, ?_, ?_, trivial⟩; refine wpS_op (i := 7) (li' := (lv 12 255)) rfl rfl rfl rfl (by kernel_rfl) (OpA.iload_whole rfl ti33 rfl ⟨_, rfl, rfl⟩ ?_); exact wpS_to hW (s8) (Cov.asg ⟨rfl, rfl, rfl, rfl, rfl, rfl, rfl, rfl, trivial⟩) (.refl _); refine wpS_op (i := 8) (li' := (lv 12 383)) rfl rfl rfl rfl (by kernel_rfl) (OpA.alloc (sz := 3) (d := encSpan (Span.mk ByteArray.empty 0 0)) rfl tz33 (fun _ _ => .agg (.cons (.v _) (.cons (.v _) (.cons (.v _) .nil)))) (.of rfl) (fun c94 _ => ?_)); exact wpS_to hW (s9 c94) (Cov.asg ⟨rfl, rfl, rfl, rfl, rfl, rfl, rfl, rfl, rfl, trivial⟩) (.refl _); refine wpS_op (i := 9) (li' := (lv 12 639)) rfl rfl rfl rfl (by kernel_rfl) (OpA.alloc (sz := 3) (d := encSpan (Span.mk ByteArray.empty 0 0)) rfl tz33 (fun _ _ => .agg (.cons (.v _) (.cons (.v _) (.cons (.v _) .nil)))) (.of rfl) (fun c104 _ => ?_)); exact wpS_to hW (s10 c104) (Cov.asg ⟨rfl, rfl, rfl, rfl, rfl, rfl, rfl, rfl, rfl, trivial⟩) (.refl _))
 have s15 : W 5 (lv 12 247) (asg [(0, (encL 3 encSpan) a), (1, (encL 3 encSpan) b), (4, .v (.slice none 0 0)), (5, .own cb5 3 pre5.length out.length), (6, D.i i), (7, D.i k), (23, .iptr (encSpan (gi a i)) 0), (28, encSpan (gi b k))]) [(cb5, .cells 3 (winL encSpan pre5 out post5))] := wpS_of hW (by refine wpS_step (rs := [3, 8, 9]) (by kernel_rfl) rfl ⟨?_, ?_, ?_, trivial⟩; refine wpS_op (i := 3) (li' := (lv 12 255)) rfl rfl rfl rfl (by kernel_rfl) (OpA.iload_whole rfl ti33 rfl ⟨_, rfl, rfl⟩ ?_); exact wpS_to hW (s8) (Cov.asg ⟨rfl, rfl, rfl, rfl, rfl, rfl, rfl, rfl, trivial⟩) (.refl _); refine wpS_op (i := 8) (li' := (lv 12 503)) rfl rfl rfl rfl (by kernel_rfl) (OpA.alloc (sz := 3) (d := encSpan (Span.mk ByteArray.empty 0 0)) rfl tz33 (fun _ _ => .agg (.cons (.v _) (.cons (.v _) (.cons (.v _) .nil)))) (.of rfl) (fun c94 _ => ?_)); exact wpS_to hW (s11 c94) (Cov.asg ⟨rfl, rfl, rfl, rfl, rfl, rfl, rfl, rfl, rfl, trivial⟩) (.refl _); refine wpS_op (i := 9) (li' := (lv 12 759)) rfl rfl rfl rfl (by kernel_rfl) (OpA.alloc (sz := 3) (d := encSpan (Span.mk ByteArray.empty 0 0)) rfl tz33 (fun _ _ => .agg (.cons (.v _) (.cons (.v _) (.cons (.v _) .nil)))) (.of rfl) (fun c104 _ => ?_)); exact wpS_to hW (s12 c104) (Cov.asg ⟨rfl, rfl, rfl, rfl, rfl, rfl, rfl, rfl, rfl, trivial⟩) (.refl _))
 have s16 : ∀ (c94 : Nat), W 5 (lv 12 375) (asg [(0, (encL 3 encSpan) a), (1, (encL 3 encSpan) b), (4, .v (.slice none 0 0)), (5, .own cb5 3 pre5.length out.length), (6, D.i i), (7, D.i k), (8, .ptr c94 3 0 0), (23, .iptr (encSpan (gi a i)) 0), (27, .iptr (encSpan (gi b k)) 0)]) [(c94, .cells 3 [encSpan (Span.mk ByteArray.empty 0 0)]), (cb5, .cells 3 (winL encSpan pre5 out post5))] := fun c94 => wpS_of hW (by refine wpS_step (rs := [3, 7, 9]) (by kernel_rfl) rfl ⟨?_, ?_, ?_, trivial⟩; refine wpS_op (i := 3) (li' := (lv 12 383)) rfl rfl rfl rfl (by kernel_rfl) (OpA.iload_whole rfl ti33 rfl ⟨_, rfl, rfl⟩ ?_); exact wpS_to hW (s9 c94) (Cov.asg ⟨rfl, rfl, rfl, rfl, rfl, rfl, rfl, rfl, rfl, trivial⟩) (.refl _); refine wpS_op (i := 7) (li' := (lv 12 503)) rfl rfl rfl rfl (by kernel_rfl) (OpA.iload_whole rfl ti33 rfl ⟨_, rfl, rfl⟩ ?_); exact wpS_to hW (s11 c94) (Cov.asg ⟨rfl, rfl, rfl, rfl, rfl, rfl, rfl, rfl, rfl, trivial⟩) (.refl _); refine wpS_op (i := 9) (li' := (lv 12 887)) rfl rfl rfl rfl (by kernel_rfl) (OpA.alloc (sz := 3) (d := encSpan (Span.mk ByteArray.empty 0 0)) rfl tz33 (fun _ _ => .agg (.cons (.v _) (.cons (.v _) (.cons (.v _) .nil)))) (.of rfl) (fun c104 _ => ?_)); exact wpS_to hW (s13 c94 c104) (Cov.asg ⟨rfl, rfl, rfl, rfl, rfl, rfl, rfl, rfl, rfl, rfl, trivial⟩) (.refl _))
 have s17 : ∀ (c104 : Nat), W 5 (lv 12 631) (asg [(0, (encL 3 encSpan) a), (1, (encL 3 encSpan) b), (4, .v (.slice none 0 0)), (5, .own cb5 3 pre5.length out.length), (6, D.i i), (7, D.i k), (9, .ptr c104 3 0 0), (23, .iptr (encSpan (gi a i)) 0), (27, .iptr (encSpan (gi b k)) 0)]) [(c104, .cells 3 [encSpan (Span.mk ByteArray.empty 0 0)]), (cb5, .cells 3 (winL encSpan pre5 out post5))] := fun c104 => wpS_of hW (by refine wpS_step (rs := [3, 7, 8]) (by kernel_rfl) rfl ⟨?_, ?_, ?_, trivial⟩; refine wpS_op (i := 3) (li' := (lv 12 639)) rfl rfl rfl rfl (by kernel_rfl) (OpA.iload_whole rfl ti33 rfl ⟨_, rfl, rfl⟩ ?_); exact wpS_to hW (s10 c104) (Cov.asg ⟨rfl, rfl, rfl, rfl, rfl, rfl, rfl, rfl, rfl, trivial⟩) (.refl _); refine wpS_op (i := 7) (li' := (lv 12 759)) rfl rfl rfl rfl (by kernel_rfl) (OpA.iload_whole rfl ti33 rfl ⟨_, rfl, rfl⟩ ?_); exact wpS_to hW (s12 c104) (Cov.asg ⟨rfl, rfl, rfl, rfl, rfl, rfl, rfl, rfl, rfl, trivial⟩) (.refl _); refine wpS_op (i := 8) (li' := (lv 12 887)) rfl rfl rfl rfl (by kernel_rfl) (OpA.alloc (sz := 3) (d := encSpan (Span.mk ByteArray.empty 0 0)) rfl tz33 (fun _ _ => .agg (.cons (.v _) (.cons (.v _) (.cons (.v _) .nil)))) (.of rfl) (fun c94 _ => ?_)); exact wpS_to hW (s13 c94 c104) (Cov.asg ⟨rfl, rfl, rfl, rfl, rfl, rfl, rfl, rfl, rfl, rfl, trivial⟩) pull1)
 have s18 : W 6 (lv 12 119) (asg [(0, (encL 3 encSpan) a), (1, (encL 3 encSpan) b), (4, .v (.slice none 0 0)), (5, .own cb5 3 pre5.length out.length), (6, D.i i), (7, D.i k), (23, .iptr (encSpan (gi a i)) 0), (27, .iptr (encSpan (gi b k)) 0)]) [(cb5, .cells 3 (winL encSpan pre5 out post5))] := wpS_of hW (by refine wpS_step (rs := [3, 7, 8, 9]) (by kernel_rfl) rfl ⟨?_, ?_, ?_, ?_, trivial⟩; refine wpS_op (i := 3) (li' := (lv 12 127)) rfl rfl rfl rfl (by kernel_rfl) (OpA.iload_whole rfl ti33 rfl ⟨_, rfl, rfl⟩ ?_); exact wpS_to hW (s14) (Cov.asg ⟨rfl, rfl, rfl, rfl, rfl, rfl, rfl, rfl, trivial⟩) (.refl _); refine wpS_op (i := 7) (li' := (lv 12 247)) rfl rfl rfl rfl (by kernel_rfl) (OpA.iload_whole rfl ti33 rfl ⟨_, rfl, rfl⟩ ?_); exact wpS_to hW (s15) (Cov.asg ⟨rfl, rfl, rfl, rfl, rfl, rfl, rfl, rfl, trivial⟩) (.refl _); refine wpS_op (i := 8) (li' := (lv 12 375)) rfl rfl rfl rfl (by kernel_rfl) (OpA.alloc (sz := 3) (d := encSpan (Span.mk ByteArray.empty 0 0)) rfl tz33 (fun _ _ => .agg (.cons (.v _) (.cons (.v _) (.cons (.v _) .nil)))) (.of rfl) (fun c94 _ => ?_)); exact wpS_to hW (s16 c94) (Cov.asg ⟨rfl, rfl, rfl, rfl, rfl, rfl, rfl, rfl, rfl, trivial⟩) (.refl _); refine wpS_op (i := 9) (li' := (lv 12 631)) rfl rfl rfl rfl (by kernel_rfl) (OpA.alloc (sz := 3) (d := encSpan (Span.mk ByteArray.empty 0 0)) rfl tz33 (fun _ _ => .agg (.cons (.v _) (.cons (.v _) (.cons (.v _) .nil)))) (.of rfl) (fun c104 _ => ?_)); exact wpS_to hW (s17 c104) (Cov.asg ⟨rfl, rfl, rfl, rfl, rfl, rfl, rfl, rfl, rfl, trivial⟩) (.refl _))
 refine wpS_of hW ?_
 refine wpS_firstY (fuel := 11) (i := 0) (li' := (lv 12 1)) rfl rfl (.move rfl) rfl rfl (by kernel_rfl) (by kernel_rfl) (by kernel_rfl) (fun _ _ _ hx => hx) rfl rfl (by kernel_rfl) ?_
 refine wpS_firstY (fuel := 10) (i := 1) (li' := (lv 12 3)) rfl rfl (.move rfl) rfl rfl (by kernel_rfl) (by kernel_rfl) (by kernel_rfl) (fun _ _ _ hx => hx) rfl rfl (by kernel_rfl) ?_
 refine wpS_firstY (fuel := 9) (i := 2) (li' := (lv 12 7)) rfl rfl (.iix (enc := encSpan) rfl ts23 rfl rfl rfl q2_0) rfl rfl (by kernel_rfl) (by kernel_rfl) (by kernel_rfl) (fun _ _ _ hx => hx) rfl rfl (by kernel_rfl) ?_
 refine wpS_firstY (fuel := 8) (i := 4) (li' := (lv 12 23)) rfl rfl (.move rfl) rfl rfl (by kernel_rfl) (by kernel_rfl) (by kernel_rfl) (fun _ _ _ hx => hx) rfl rfl (by kernel_rfl) ?_
 refine wpS_firstY (fuel := 7) (i := 5) (li' := (lv 12 55)) rfl rfl (.move rfl) rfl rfl (by kernel_rfl) (by kernel_rfl) (by kernel_rfl) (fun _ _ _ hx => hx) rfl rfl (by kernel_rfl) ?_
 refine wpS_firstY (fuel := 6) (i := 6) (li' := (lv 12 119)) rfl rfl (.iix (enc := encSpan) rfl ts23 rfl rfl rfl q6_0) rfl rfl (by kernel_rfl) (by kernel_rfl) (by kernel_rfl) (fun _ _ _ hx => hx) rfl rfl (by kernel_rfl) ?_
 exact wpS_to hW s18 (Cov.asg ⟨rfl, rfl, rfl, rfl, rfl, rfl, rfl, rfl, trivial⟩) (.refl _)
 intro c94 c104
 refine wpS_of hW (wpS_done (by kernel_rfl) ?_)
 iterate 2 refine wpA_seq ?_
 refine wpA_region ?_
 refine wL (OpA.fieldAddr rfl tf33_0 rfl ?_)
 refine wL (OpA.load rfl ti9 rfl (.tail .head) rfl rfl ?_)
 refine wL (OpA.fieldAddr rfl tf33_0 rfl ?_)
 refine wL (OpA.load rfl ti9 rfl .head rfl rfl ?_)
 refine wL (OpA.seql rfl rfl rfl ?_)
 refine wpL_nil ?_
 refine wpA_join (S := (List Span)) (G := Nat × List D × List D) (fun gg ss => asg [(0, (encL 3 encSpan) a), (1, (encL 3 encSpan) b), (4, .v (.slice none 0 0)), (5, .own gg.1 3 gg.2.1.length ss.length), (6, D.i i), (7, D.i k), (8, .ptr c94 3 0 0), (9, .ptr c104 3 0 0)]) (fun gg ss => [(c104, .cells 3 [encSpan (gi b k)]), (c94, .cells 3 [encSpan (gi a i)]), (gg.1, .cells 3 (winL encSpan gg.2.1 ss gg.2.2))]) (fun ss => common_J1 a b i k again2 ss) ?_ ?_
 refine wpA_cond rfl (fun b147 => ?_) (fun b147 => ?_)
 have h := h.1 (decT b147)
 refine wpA_seq ?_
 refine wpA_region ?_
 refine wL (OpA.fieldAddr rfl tf33_0 rfl ?_)
 refine wL (OpA.load rfl ti9 rfl (.tail .head) rfl rfl ?_)
 refine wL (OpA.fieldAddr rfl tf33_1 rfl ?_)
 refine wL (OpA.load rfl ti3 rfl (.tail .head) rfl rfl ?_)
 refine wL (OpA.fieldAddr rfl tf33_1 rfl ?_)
 refine wL (OpA.load rfl ti3 rfl .head rfl rfl ?_)
 refine wL (OpA.max (l := [_]) rfl rfl rfl rfl ?_)
 refine wL (OpA.fieldAddr rfl tf33_2 rfl ?_)
 refine wL (OpA.load rfl ti3 rfl (.tail .head) rfl rfl ?_)
 refine wL (OpA.fieldAddr rfl tf33_2 rfl ?_)
 refine wL (OpA.load rfl ti3 rfl .head rfl rfl ?_)
 refine wL (OpA.min (l := [_]) rfl rfl rfl rfl ?_)
 refine wL (OpA.buildO (zs := [.v (.string ⟨#[]⟩), .v (.int .i64 0), .v (.int .i64 0)]) rfl tp33 tz33 (fun _ _ => (.cons (.v _) (.cons (.v _) (.cons (.v _) .nil)))) (.cons (.of (sz := 1) rfl) (.cons (.of (sz := 1) rfl) (.cons (.of (sz := 1) rfl) .nil))) rfl ?_)
 refine wL (OpA.alloc (sz := 3) (d := encSpan (Span.mk ByteArray.empty 0 0)) rfl tz33 (fun _ _ => .agg (.cons (.v _) (.cons (.v _) (.cons (.v _) .nil)))) (.of rfl) (fun c148 _ => ?_))
 refine wE (OpA.storeW rfl ti33 rfl (by with_reducible conv => lhs; whnf) (.of rfl) rfl rfl .head ?_)
 refine wpL_nil ?_
 refine wpA_seq ?_
 refine wpA_region ?_
 refine wL (OpA.fieldAddr rfl tf33_1 rfl ?_)
 refine wL (OpA.load rfl ti3 rfl .head rfl rfl ?_)
 refine wL (OpA.fieldAddr rfl tf33_2 rfl ?_)
 refine wL (OpA.load rfl ti3 rfl .head rfl rfl ?_)
 refine wL (OpA.lss rfl rfl rfl ?_)
 refine wpL_nil ?_
 refine wpA_cond rfl (fun b149 => ?_) (fun b149 => ?_)
 have h := h.1 (decT b149)
 obtain ⟨q1, h⟩ := h
 refine wpA_region ?_
 refine wL (OpA.m ?_)
 refine wL (OpA.load_whole rfl ti33 rfl rfl .head rfl ⟨_, rfl⟩ ?_)
 refine wL (OpA.ibuildSliceO rfl ts23 rfl (.cons (.of (sz := 3) rfl) .nil) (by decide) ?_)
 refine wL (OpA.appendW (enc := encSpan) rfl rfl rfl rfl ts23 rfl (fun _ _ => (.tail (.tail (.tail .head)))) (.list (ys := ([(Span.mk ((gi a i).path) (gmax ((gi a i).from_) [(gi b k).from_]) (gmin ((gi a i).to) [(gi b k).to]))] : List Span))) q1 (fun c150 pre151 => ?_))
 refine wL (OpA.a ?_)
 refine wpL_nil ?_
 exact ⟨(c150, pre151, ([] : List D)), (out ++ ([(Span.mk ((gi a i).path) (gmax ((gi a i).from_) [(gi b k).from_]) (gmin ((gi a i).to) [(gi b k).to]))] : List Span)), h, (Cov.asg ⟨rfl, rfl, rfl, rfl, rfl, rfl, rfl, rfl, trivial⟩), (.cons _ (.refl _))⟩
 have h := h.2 (decF b149)
 refine wpA_skip ?_
 exact ⟨(cb5, pre5, post5), out, h, (Cov.asg ⟨rfl, rfl, rfl, rfl, rfl, rfl, rfl, rfl, trivial⟩), (.cons _ (.refl _))⟩
 have h := h.2 (decF b147)
 refine wpA_skip ?_
 exact ⟨(cb5, pre5, post5), out, h, (Cov.asg ⟨rfl, rfl, rfl, rfl, rfl, rfl, rfl, rfl, trivial⟩), (.refl _)⟩
 rintro ⟨cb51, pre51, post51⟩ out1 h
 have h : common_J1 a b i k again2 out1 := h
 unfold common_J1 at h
 show wpA _ _ _ _ (asg [(0, (encL 3 encSpan) a), (1, (encL 3 encSpan) b), (4, .v (.slice none 0 0)), (5, .own cb51 3 pre51.length out1.length), (6, D.i i), (7, D.i k), (8, .ptr c94 3 0 0), (9, .ptr c104 3 0 0)]) [(c104, .cells 3 [encSpan (gi b k)]), (c94, .cells 3 [encSpan (gi a i)]), (cb51, .cells 3 (winL encSpan pre51 out1 post51))]
 refine wpA_seq ?_
 refine wpA_mid (asg [(0, (encL 3 encSpan) a), (1, (encL 3 encSpan) b), (4, .v (.slice none 0 0)), (5, .own cb51 3 pre51.length out1.length), (6, D.i i), (7, D.i k), (74, D.b ((sless ((gi a i).path) ((gi b k).path)) || ((decide ((gi a i).path = (gi b k).path)) && (decide ((gi a i).to ≤ (gi b k).to)))))]) [(c104, .cells 3 [encSpan (gi b k)]), (c94, .cells 3 [encSpan (gi a i)]), (cb51, .cells 3 (winL encSpan pre51 out1 post51))] ?_ ?_
 refine wpA_region ?_
 refine wL (OpA.fieldAddr rfl tf33_0 rfl ?_)
 refine wL (OpA.load rfl ti9 rfl (.tail .head) rfl rfl ?_)
 refine wL (OpA.fieldAddr rfl tf33_0 rfl ?_)
 refine wL (OpA.load rfl ti9 rfl .head rfl rfl ?_)
 refine wL (OpA.slss rfl rfl rfl ?_)
 refine wL (OpA.m ?_)
 refine wpL_split (s := 61) rfl (fun b145 => ?_) (fun b145 => ?_)
 iterate 6 refine wS ?_
 iterate 5 refine wpL_skipU rfl rfl rfl rfl rfl ?_
 refine wS ?_
 refine wL (OpA.p ?_)
 refine wpL_nil ?_
 exact ⟨(Cov.asg ⟨rfl, rfl, rfl, rfl, rfl, rfl, (congrArg D.b (Eq.symm (orS b145))), trivial⟩), (.refl _)⟩
 refine wG (OpA.fieldAddr rfl tf33_0 rfl ?_)
 refine wG (OpA.load rfl ti9 rfl (.tail .head) rfl rfl ?_)
 refine wG (OpA.fieldAddr rfl tf33_0 rfl ?_)
 refine wG (OpA.load rfl ti9 rfl .head rfl rfl ?_)
 refine wG (OpA.seql rfl rfl rfl ?_)
 refine wG (OpA.m ?_)
 refine wpL_split (s := 67) rfl (fun b146 => ?_) (fun b146 => ?_)
 refine wG (OpA.fieldAddr rfl tf33_2 rfl ?_)
 refine wG (OpA.load rfl ti3 rfl (.tail .head) rfl rfl ?_)
 refine wG (OpA.fieldAddr rfl tf33_2 rfl ?_)
 refine wG (OpA.load rfl ti3 rfl .head rfl rfl ?_)
 refine wG (OpA.leq rfl rfl rfl ?_)
 refine wG (OpA.p ?_)
 refine wL (OpA.p ?_)
 refine wpL_nil ?_
 exact ⟨(Cov.asg ⟨rfl, rfl, rfl, rfl, rfl, rfl, (congrArg D.b (Eq.symm (orN b145 (andN b146 rfl)))), trivial⟩), (.refl _)⟩
 iterate 5 refine wS ?_
 refine wG (OpA.p ?_)
 refine wL (OpA.p ?_)
 refine wpL_nil ?_
 exact ⟨(Cov.asg ⟨rfl, rfl, rfl, rfl, rfl, rfl, (congrArg D.b (Eq.symm (orN b145 (andS b146)))), trivial⟩), (.refl _)⟩
 show wpA _ _ _ _ (asg [(0, (encL 3 encSpan) a), (1, (encL 3 encSpan) b), (4, .v (.slice none 0 0)), (5, .own cb51 3 pre51.length out1.length), (6, D.i i), (7, D.i k), (74, D.b ((sless ((gi a i).path) ((gi b k).path)) || ((decide ((gi a i).path = (gi b k).path)) && (decide ((gi a i).to ≤ (gi b k).to)))))]) [(c104, .cells 3 [encSpan (gi b k)]), (c94, .cells 3 [encSpan (gi a i)]), (cb51, .cells 3 (winL encSpan pre51 out1 post51))]
 refine wpA_cond rfl (fun b144 => ?_) (fun b144 => ?_)
 have h := h.1 ((or0 b144).imp (fun hh => hh) (fun hh => ⟨(decT (and1 hh)), (decT (and2 hh))⟩))
 obtain ⟨q1, h⟩ := h
 refine wpA_region ?_
 refine wL (OpA.m ?_)
 refine wL (OpA.addi rfl rfl rfl q1 ?_)
 refine wL (OpA.a ?_)
 refine wpL_nil ?_
 exact ⟨(cb51, pre51, post51), (out1, (i + 1), k), h, (Cov.asg ⟨rfl, rfl, rfl, rfl, rfl, rfl, trivial⟩), (.cons _ (.cons _ (.refl _)))⟩
 have h := h.2 ⟨(or1 b144), ((and0 (or2 b144)).imp (fun hh => (decF hh)) (fun hh => (decF hh)))⟩
 obtain ⟨q1, h⟩ := h
 refine wpA_region ?_
 refine wL (OpA.m ?_)
 refine wL (OpA.addi rfl rfl rfl q1 ?_)
 refine wL (OpA.a ?_)
 refine wpL_nil ?_
 exact ⟨(cb51, pre51, post51), (out1, i, (k + 1)), h, (Cov.asg ⟨rfl, rfl, rfl, rfl, rfl, rfl, trivial⟩), (.cons _ (.cons _ (.refl _)))⟩
 have h := h.2 ((and0 b3).imp (fun hh => (decF hh)) (fun hh => (decF hh)))
 refine wpA_exit ?_
 refine wpA_seq ?_
 refine wpA_region ?_
 refine wL (OpA.m ?_)
 refine wL (OpA.a ?_)
 refine wpL_nil ?_
 refine wpA_ret ?_
 exact ⟨_, (.tmp (d := .own cb5 3 pre5.length out.length) rfl .nil), _, (.win .head (by intro hf; cases hf) .nil), ⟨out, rfl, h⟩⟩
theorem common_c (a : (List Span)) (b : (List Span)) (hp0 : a.length ≤ 1000000) (hp1 : b.length ≤ 1000000) : Fun false Tryz.prog 34 [(encL 3 encSpan) a, (encL 3 encSpan) b] (fun d => d = (encL 3 encSpan) (commonF a b)) :=
 Fun.at (enc := fun r => (encL 3 encSpan) r) (v := commonF a b) (common_w a b  (fun r => r = commonF a b) (common_ok a b _ hp0 hp1 rfl))
theorem count_w (l : (List Span)) (Q : Int → Prop) (h : count_vc l Q) : Fun false Tryz.prog 13 [(encL 3 encSpan) l] (fun d => ∃ r, d = D.i r ∧ Q r) := by
 unfold count_vc at h
 refine Fun.of_body Tryz.func13 rfl Tryz.ntmps13 rfl ?_
 refine wpA_seq ?_
 refine wpA_region ?_
 refine wL (OpA.a ?_)
 refine wpL_nil ?_
 iterate 2 refine wpA_seq ?_
 obtain ⟨q1, q2, h⟩ := h
 refine wpA_region ?_
 refine wL (OpA.m ?_)
 refine wL (OpA.call rfl rfl rfl en12 (valid_c l q1 q2) ?_)
 rintro _ rfl
 refine wL (OpA.not rfl rfl ?_)
 refine wpL_nil ?_
 refine wpA_cond rfl (fun b1 => ?_) (fun b1 => ?_)
 have h := h.1 (notT b1)
 refine wpA_seq ?_
 refine wpA_region ?_
 refine wL (OpA.a ?_)
 refine wpL_nil ?_
 refine wpA_ret ?_
 exact ⟨_, (.tmp (d := D.i 0) rfl .nil), _, (.same rfl .nil), ⟨0, rfl, h⟩⟩
 have h := h.2 (notF b1)
 refine wpA_skip ?_
 refine wpA_seq ?_
 refine wpA_region ?_
 refine wL (OpA.a ?_)
 refine wpL_nil ?_
 iterate 2 refine wpA_seq ?_
 refine wpA_region ?_
 refine wL (OpA.m ?_)
 refine wL (OpA.len rfl rfl rfl rfl ts23.desc (.inl ⟨_, _, rfl, (List.length_map _).symm⟩) ?_)
 refine wL (OpA.m ?_)
 refine wpL_nil ?_
 refine wpA_block ?_
 refine wpA_lfp (S := Int × Int) (G := Unit) () (fun gg ss => asg [(2, D.i 0), (3, D.i ss.1), (9, (encL 3 encSpan) l), (10, D.i (l.length : Int)), (11, D.i ss.2)]) (fun gg ss => []) h (Cov.asg ⟨rfl, rfl, rfl, rfl, rfl, trivial⟩) (.refl _) ?_
 rintro again2 _ ⟨n, x⟩ h
 have h : count_L1 l Q again2 n x := h
 unfold count_L1 at h
 show wpA _ _ _ _ (asg [(2, D.i 0), (3, D.i n), (9, (encL 3 encSpan) l), (10, D.i (l.length : Int)), (11, D.i x)]) []
 refine wpA_seq ?_
 refine wpA_region ?_
 refine wL (OpA.lss rfl rfl rfl ?_)
 refine wpL_nil ?_
 refine wpA_seq ?_
 refine wpA_cond rfl (fun b3 => ?_) (fun b3 => ?_)
 have h := h.1 (decT b3)
 refine wpA_skip ?_
 refine wpA_seq ?_
 refine wpA_block ?_
 refine wpA_seq ?_
 obtain ⟨q1, h⟩ := h
 refine wpA_region ?_
 refine wL (OpA.iixV (enc := encSpan) rfl ts23 rfl rfl rfl q1 ?_)
 refine wL (OpA.iload_whole rfl ti33 rfl ⟨_, rfl, rfl⟩ ?_)
 refine wL (OpA.alloc (sz := 3) (d := encSpan (Span.mk ByteArray.empty 0 0)) rfl tz33 (fun _ _ => .agg (.cons (.v _) (.cons (.v _) (.cons (.v _) .nil)))) (.of rfl) (fun c4 _ => ?_))
 refine wE (OpA.storeW rfl ti33 rfl (by with_reducible conv => lhs; whnf) (.of rfl) rfl rfl .head ?_)
 refine wpL_nil ?_
 obtain ⟨q1, q2, h⟩ := h
 refine wpA_region ?_
 refine wL (OpA.m ?_)
 refine wL (OpA.fieldAddr rfl tf33_2 rfl ?_)
 refine wL (OpA.load rfl ti3 rfl .head rfl rfl ?_)
 refine wL (OpA.fieldAddr rfl tf33_1 rfl ?_)
 refine wL (OpA.load rfl ti3 rfl .head rfl rfl ?_)
 refine wL (OpA.subi rfl rfl rfl q1 ?_)
 refine wL (OpA.addi rfl rfl rfl q2 ?_)
 refine wL (OpA.a ?_)
 refine wpL_nil ?_
 obtain ⟨q1, h⟩ := h
 refine wpA_region ?_
 refine wL (OpA.addi rfl rfl rfl q1 ?_)
 refine wL (OpA.m ?_)
 refine wpL_nil ?_
 exact ⟨(), ((n + (((gi l x).to) - ((gi l x).from_))), (x + 1)), h, (Cov.asg ⟨rfl, rfl, rfl, rfl, rfl, trivial⟩), (.cons _ (.refl _))⟩
 have h := h.2 (decF b3)
 refine wpA_exit ?_
 refine wpA_seq ?_
 refine wpA_region ?_
 refine wL (OpA.m ?_)
 refine wL (OpA.a ?_)
 refine wpL_nil ?_
 refine wpA_ret ?_
 exact ⟨_, (.tmp (d := D.i n) rfl .nil), _, (.same rfl .nil), ⟨n, rfl, h⟩⟩
theorem count_c (l : (List Span)) (hp0 : l.length ≤ 1000) (hp1 : ∀ z_ ∈ l, z_.path.size ≤ 1000000) : Fun false Tryz.prog 13 [(encL 3 encSpan) l] (fun d => d = D.i (countL l)) :=
 Fun.at (enc := fun r => D.i r) (v := countL l) (count_w l  (fun r => r = countL l) (count_ok l _ hp0 hp1 rfl))
theorem has1_w (s_ : Span) (x : Line) (Q : Bool → Prop) (h : has1_vc s_ x Q) : Fun false Tryz.prog 36 [encSpan s_, .iptr (encLine x) 0] (fun d => ∃ r, d = D.b r ∧ Q r) := by
 unfold has1_vc at h
 refine Fun.of_body Tryz.func36 rfl Tryz.ntmps36 rfl ?_
 refine wpA_seq ?_
 refine wpA_region ?_
 refine wL (OpA.bx (sz := 3) rfl (by with_reducible conv => lhs; whnf) (.of rfl) (fun c1 _ => ?_))
 refine wL (OpA.a ?_)
 refine wpL_nil ?_
 refine wpA_seq ?_
 refine wpA_mid (asg [(3, D.b (((decide (s_.path = x.path)) && (decide (s_.from_ ≤ x.n))) && (decide (x.n < s_.to))))]) [(c1, .cells 3 [encSpan s_])] ?_ ?_
 refine wpA_region ?_
 refine wL (OpA.fieldAddr rfl tf33_0 rfl ?_)
 refine wL (OpA.load rfl ti9 rfl .head rfl rfl ?_)
 refine wL (OpA.ifieldAddr rfl tf40_0 rfl ?_)
 refine wL (OpA.iload rfl ti9 rfl rfl ?_)
 refine wL (OpA.seql rfl rfl rfl ?_)
 refine wL (OpA.m ?_)
 refine wpL_split (s := 9) rfl (fun b2 => ?_) (fun b2 => ?_)
 refine wG (OpA.fieldAddr rfl tf33_1 rfl ?_)
 refine wG (OpA.load rfl ti3 rfl .head rfl rfl ?_)
 refine wG (OpA.ifieldAddr rfl tf40_1 rfl ?_)
 refine wG (OpA.iload rfl ti3 rfl rfl ?_)
 refine wG (OpA.leq rfl rfl rfl ?_)
 refine wL (OpA.p ?_)
 refine wL (OpA.m ?_)
 refine wpL_split (s := 16) rfl (fun b3 => ?_) (fun b3 => ?_)
 refine wG (OpA.ifieldAddr rfl tf40_1 rfl ?_)
 refine wG (OpA.iload rfl ti3 rfl rfl ?_)
 refine wG (OpA.fieldAddr rfl tf33_2 rfl ?_)
 refine wG (OpA.load rfl ti3 rfl .head rfl rfl ?_)
 refine wG (OpA.lss rfl rfl rfl ?_)
 refine wL (OpA.p ?_)
 refine wL (OpA.a ?_)
 refine wpL_nil ?_
 exact ⟨(Cov.asg ⟨(congrArg D.b (Eq.symm (andN (andN b2 b3) rfl))), trivial⟩), (.refl _)⟩
 iterate 5 refine wS ?_
 refine wL (OpA.p ?_)
 refine wL (OpA.a ?_)
 refine wpL_nil ?_
 exact ⟨(Cov.asg ⟨(congrArg D.b (Eq.symm (andS (andN b2 b3)))), trivial⟩), (.refl _)⟩
 iterate 5 refine wS ?_
 refine wL (OpA.p ?_)
 refine wL (OpA.m ?_)
 iterate 5 refine wS ?_
 refine wL (OpA.p ?_)
 refine wL (OpA.a ?_)
 refine wpL_nil ?_
 exact ⟨(Cov.asg ⟨(congrArg D.b (Eq.symm (andS (andS b2)))), trivial⟩), (.refl _)⟩
 show wpA _ _ _ _ (asg [(3, D.b (((decide (s_.path = x.path)) && (decide (s_.from_ ≤ x.n))) && (decide (x.n < s_.to))))]) [(c1, .cells 3 [encSpan s_])]
 refine wpA_ret ?_
 exact ⟨_, (.tmp (d := D.b (((decide (s_.path = x.path)) && (decide (s_.from_ ≤ x.n))) && (decide (x.n < s_.to)))) rfl .nil), _, (.same rfl .nil), ⟨(((decide (s_.path = x.path)) && (decide (s_.from_ ≤ x.n))) && (decide (x.n < s_.to))), rfl, h⟩⟩
theorem has1_c (s_ : Span) (x : Line)  : Fun false Tryz.prog 36 [encSpan s_, .iptr (encLine x) 0] (fun d => d = D.b (has1F s_ x)) :=
 Fun.at (enc := fun r => D.b r) (v := has1F s_ x) (has1_w s_ x  (fun r => r = has1F s_ x) (has1_ok s_ x _  rfl))
theorem ixSpan_w (s_ : (List Span)) (g_p : Nat) (fs_p cs_p : List D) (p : Span → Bool) (pD : Span → Prop) (hen_p : entersB Tryz.prog g_p = true) (hg_p : ∀ x0_, pD x0_ → Fun false Tryz.prog g_p (fs_p ++ [encSpan x0_] ++ cs_p) (fun d => d = D.b (p x0_))) (Q : Int → Prop) (h : ixSpan_vc s_ p pD Q) : Fun false Tryz.prog 55 [(encL 3 encSpan) s_, .fn (.func g_p) fs_p cs_p] (fun d => ∃ r, d = D.i r ∧ Q r) := by
 unfold ixSpan_vc at h
 refine Fun.of_body Tryz.func55 rfl Tryz.ntmps55 rfl ?_
 refine wpA_seq ?_
 refine wpA_region ?_
 refine wL (OpA.a ?_)
 refine wpL_nil ?_
 iterate 2 refine wpA_seq ?_
 refine wpA_region ?_
 refine wL (OpA.m ?_)
 refine wL (OpA.len rfl rfl rfl rfl ts23.desc (.inl ⟨_, _, rfl, (List.length_map _).symm⟩) ?_)
 refine wL (OpA.m ?_)
 refine wpL_nil ?_
 refine wpA_block ?_
 refine wpA_lfp (S := Int) (G := Unit) () (fun gg ss => asg [(0, (encL 3 encSpan) s_), (1, .fn (.func g_p) fs_p cs_p), (4, D.i 0), (7, D.i (s_.length : Int)), (8, D.i ss)]) (fun gg ss => []) h (Cov.asg ⟨rfl, rfl, rfl, rfl, rfl, trivial⟩) (.refl _) ?_
 rintro again1 _ x h
 have h : ixSpan_L1 s_ p pD Q again1 x := h
 unfold ixSpan_L1 at h
 show wpA _ _ _ _ (asg [(0, (encL 3 encSpan) s_), (1, .fn (.func g_p) fs_p cs_p), (4, D.i 0), (7, D.i (s_.length : Int)), (8, D.i x)]) []
 refine wpA_seq ?_
 refine wpA_region ?_
 refine wL (OpA.lss rfl rfl rfl ?_)
 refine wpL_nil ?_
 refine wpA_seq ?_
 refine wpA_cond rfl (fun b2 => ?_) (fun b2 => ?_)
 have h := h.1 (decT b2)
 refine wpA_skip ?_
 refine wpA_seq ?_
 refine wpA_block ?_
 refine wpA_seq ?_
 refine wpA_region ?_
 refine wL (OpA.m ?_)
 refine wL (OpA.a ?_)
 refine wpL_nil ?_
 refine wpA_seq ?_
 obtain ⟨q1, q2, h⟩ := h
 refine wpA_region ?_
 iterate 3 refine wL (OpA.m ?_)
 refine wL (OpA.iixV (enc := encSpan) rfl ts23 rfl rfl rfl q1 ?_)
 refine wL (OpA.iload_whole rfl ti33 rfl ⟨_, rfl, rfl⟩ ?_)
 refine wL (OpA.call rfl rfl rfl hen_p (hg_p (gi s_ x) q2) ?_)
 rintro _ rfl
 refine wpL_nil ?_
 refine wpA_cond rfl (fun b3 => ?_) (fun b3 => ?_)
 have h := h.1 b3
 refine wpA_seq ?_
 refine wpA_region ?_
 refine wL (OpA.m ?_)
 refine wL (OpA.a ?_)
 refine wpL_nil ?_
 refine wpA_ret ?_
 exact ⟨_, (.tmp (d := D.i x) rfl .nil), _, (.same rfl .nil), ⟨x, rfl, h⟩⟩
 have h := h.2 b3
 refine wpA_skip ?_
 obtain ⟨q1, h⟩ := h
 refine wpA_region ?_
 refine wL (OpA.addi rfl rfl rfl q1 ?_)
 refine wL (OpA.m ?_)
 refine wpL_nil ?_
 exact ⟨(), (x + 1), h, (Cov.asg ⟨rfl, rfl, rfl, rfl, rfl, trivial⟩), (.refl _)⟩
 have h := h.2 (decF b2)
 refine wpA_exit ?_
 refine wpA_seq ?_
 refine wpA_region ?_
 refine wL (OpA.a ?_)
 refine wpL_nil ?_
 refine wpA_ret ?_
 exact ⟨_, (.tmp (d := D.i (-1)) rfl .nil), _, (.same rfl .nil), ⟨(-1), rfl, h⟩⟩
theorem ixSpan_c (s_ : (List Span)) (g_p : Nat) (fs_p cs_p : List D) (p : Span → Bool) (pD : Span → Prop) (hen_p : entersB Tryz.prog g_p = true) (hg_p : ∀ x0_, pD x0_ → Fun false Tryz.prog g_p (fs_p ++ [encSpan x0_] ++ cs_p) (fun d => d = D.b (p x0_))) (hp0 : s_.length ≤ 9223372036854775807) (hp1 : ∀ x ∈ s_, pD x) : Fun false Tryz.prog 55 [(encL 3 encSpan) s_, .fn (.func g_p) fs_p cs_p] (fun d => d = D.i ((idxOf p s_))) :=
 Fun.at (enc := fun r => D.i r) (v := (idxOf p s_)) (ixSpan_w s_ g_p fs_p cs_p p pD hen_p hg_p (fun r => r = (idxOf p s_)) (ixSpan_ok s_ p pD _ hp0 hp1 rfl))
theorem cfSpan_w (s_ : (List Span)) (g_p : Nat) (fs_p cs_p : List D) (p : Span → Bool) (pD : Span → Prop) (hen_p : entersB Tryz.prog g_p = true) (hg_p : ∀ x0_, pD x0_ → Fun false Tryz.prog g_p (fs_p ++ [encSpan x0_] ++ cs_p) (fun d => d = D.b (p x0_))) (Q : Bool → Prop) (h : cfSpan_vc s_ p pD Q) : Fun false Tryz.prog 37 [(encL 3 encSpan) s_, .fn (.func g_p) fs_p cs_p] (fun d => ∃ r, d = D.b r ∧ Q r) := by
 unfold cfSpan_vc at h
 refine Fun.of_body Tryz.func37 rfl Tryz.ntmps37 rfl ?_
 refine wpA_seq ?_
 refine wpA_region ?_
 refine wL (OpA.a ?_)
 refine wpL_nil ?_
 refine wpA_seq ?_
 obtain ⟨q1, q2, h⟩ := h
 refine wpA_region ?_
 iterate 2 refine wL (OpA.m ?_)
 refine wL (OpA.call rfl rfl rfl en55 (ixSpan_c s_ g_p fs_p cs_p p pD hen_p hg_p q1 q2) ?_)
 rintro _ rfl
 refine wL (OpA.geq rfl rfl rfl ?_)
 refine wL (OpA.a ?_)
 refine wpL_nil ?_
 refine wpA_ret ?_
 exact ⟨_, (.tmp (d := D.b (decide ((idxOf p s_) ≥ 0))) rfl .nil), _, (.same rfl .nil), ⟨(decide ((idxOf p s_) ≥ 0)), rfl, h⟩⟩
theorem cfSpan_c (s_ : (List Span)) (g_p : Nat) (fs_p cs_p : List D) (p : Span → Bool) (pD : Span → Prop) (hen_p : entersB Tryz.prog g_p = true) (hg_p : ∀ x0_, pD x0_ → Fun false Tryz.prog g_p (fs_p ++ [encSpan x0_] ++ cs_p) (fun d => d = D.b (p x0_))) (hp0 : s_.length ≤ 9223372036854775807) (hp1 : ∀ x ∈ s_, pD x) : Fun false Tryz.prog 37 [(encL 3 encSpan) s_, .fn (.func g_p) fs_p cs_p] (fun d => d = D.b ((s_.any p))) :=
 Fun.at (enc := fun r => D.b r) (v := (s_.any p)) (cfSpan_w s_ g_p fs_p cs_p p pD hen_p hg_p (fun r => r = (s_.any p)) (cfSpan_ok s_ p pD _ hp0 hp1 rfl))
theorem has_w (l : (List Span)) (x : Line) (Q : Bool → Prop) (h : has_vc l x Q) : Fun false Tryz.prog 19 [(encL 3 encSpan) l, encLine x] (fun d => ∃ r, d = D.b r ∧ Q r) := by
 unfold has_vc at h
 refine Fun.of_body Tryz.func19 rfl Tryz.ntmps19 rfl ?_
 refine wpA_seq ?_
 refine wpA_region ?_
 refine wL (OpA.bx (sz := 2) rfl (by with_reducible conv => lhs; whnf) (.of rfl) (fun c1 _ => ?_))
 refine wL (OpA.a ?_)
 refine wpL_nil ?_
 refine wpA_seq ?_
 refine wpA_region ?_
 refine wL (OpA.makeFunc rfl ?_)
 refine wL (OpA.a ?_)
 refine wpL_nil ?_
 refine wpA_seq ?_
 obtain ⟨q1, q2, q3, h⟩ := h
 refine wpA_mid (asg [(4, D.b ((l.any (fun (x0_ : Span) => has1F x0_ x)) && (validF l)))]) [(c1, .cells 2 [encLine x])] ?_ ?_
 refine wpA_region ?_
 iterate 2 refine wL (OpA.m ?_)
 refine wL (OpA.call_snap rfl rfl rfl en37 (.same rfl (.fn .nil (.ptrp rfl .head rfl .nil) .nil)) (cfSpan_c l 36 [] [.iptr (encLine x) 0] (fun (x0_ : Span) => has1F x0_ x) (fun (x0_ : Span) => True) en36 (fun x0_ _ => has1_c x0_ x ) q1 q2) (by rintro _ rfl; exact .inr (.v _)) ?_)
 rintro _ rfl
 refine wL (OpA.m ?_)
 refine wpL_split (s := 10) rfl (fun b2 => ?_) (fun b2 => ?_)
 refine wG (OpA.m ?_)
 refine wG (OpA.call rfl rfl rfl en12 (valid_c l (q3 b2).1 (q3 b2).2) ?_)
 rintro _ rfl
 refine wL (OpA.p ?_)
 refine wL (OpA.a ?_)
 refine wpL_nil ?_
 exact ⟨(Cov.asg ⟨(congrArg D.b (Eq.symm (andN b2 rfl))), trivial⟩), (.refl _)⟩
 iterate 2 refine wS ?_
 refine wL (OpA.p ?_)
 refine wL (OpA.a ?_)
 refine wpL_nil ?_
 exact ⟨(Cov.asg ⟨(congrArg D.b (Eq.symm (andS b2))), trivial⟩), (.refl _)⟩
 show wpA _ _ _ _ (asg [(4, D.b ((l.any (fun (x0_ : Span) => has1F x0_ x)) && (validF l)))]) [(c1, .cells 2 [encLine x])]
 refine wpA_ret ?_
 exact ⟨_, (.tmp (d := D.b ((l.any (fun (x0_ : Span) => has1F x0_ x)) && (validF l))) rfl .nil), _, (.same rfl .nil), ⟨((l.any (fun (x0_ : Span) => has1F x0_ x)) && (validF l)), rfl, h⟩⟩
theorem has_c (l : (List Span)) (x : Line) (hp0 : l.length ≤ 1000) (hp1 : ∀ z_ ∈ l, z_.path.size ≤ 1000000) : Fun false Tryz.prog 19 [(encL 3 encSpan) l, encLine x] (fun d => d = D.b (hasF l x)) :=
 Fun.at (enc := fun r => D.b r) (v := hasF l x) (has_w l x  (fun r => r = hasF l x) (has_ok l x _ hp0 hp1 rfl))
theorem under_w (l : (List Span)) (dir : ByteArray) (Q : (List Span) × Int → Prop) (h : under_vc l dir Q) : Fun false Tryz.prog 18 [(encL 3 encSpan) l, D.s dir] (fun d => ∃ r, d = .tup [(encL 3 encSpan) (r.1), D.i (r.2)] ∧ Q r) := by
 unfold under_vc at h
 refine Fun.of_body Tryz.func18 rfl Tryz.ntmps18 rfl ?_
 refine wpA_seq ?_
 refine wpA_region ?_
 iterate 2 refine wL (OpA.a ?_)
 refine wpL_nil ?_
 iterate 2 refine wpA_seq ?_
 obtain ⟨q1, q2, h⟩ := h
 refine wpA_region ?_
 refine wL (OpA.m ?_)
 refine wL (OpA.call rfl rfl rfl en12 (valid_c l q1 q2) ?_)
 rintro _ rfl
 refine wL (OpA.not rfl rfl ?_)
 refine wpL_nil ?_
 refine wpA_cond rfl (fun b1 => ?_) (fun b1 => ?_)
 have h := h.1 (notT b1)
 refine wpA_seq ?_
 refine wpA_region ?_
 iterate 2 refine wL (OpA.a ?_)
 refine wpL_nil ?_
 refine wpA_ret ?_
 exact ⟨_, (.tmp (d := .v (.slice none 0 0)) rfl (.tmp (d := D.i 1) rfl .nil)), _, (.tup (.nilv (sz := 3) (.same rfl .nil)) .nil), ⟨([], 1), rfl, h⟩⟩
 have h := h.2 (notF b1)
 refine wpA_skip ?_
 iterate 2 refine wpA_seq ?_
 obtain ⟨q1, h⟩ := h
 refine wpA_region ?_
 refine wL (OpA.m ?_)
 refine wL (OpA.call rfl rfl rfl en32 (path_c dir q1) ?_)
 rintro _ rfl
 refine wL (OpA.neq rfl rfl rfl ?_)
 refine wpL_nil ?_
 refine wpA_cond rfl (fun b2 => ?_) (fun b2 => ?_)
 have h := h.1 (bneT b2)
 refine wpA_seq ?_
 refine wpA_region ?_
 iterate 2 refine wL (OpA.a ?_)
 refine wpL_nil ?_
 refine wpA_ret ?_
 exact ⟨_, (.tmp (d := .v (.slice none 0 0)) rfl (.tmp (d := D.i 2) rfl .nil)), _, (.tup (.nilv (sz := 3) (.same rfl .nil)) .nil), ⟨([], 2), rfl, h⟩⟩
 have h := h.2 (bneF b2)
 refine wpA_skip ?_
 refine wpA_seq ?_
 refine wpA_region ?_
 refine wL (OpA.asnG (T := Span) (enc := encSpan) (sz := 3) rfl rfl (fun c6_g3 => ?_))
 refine wpL_nil ?_
 iterate 2 refine wpA_seq ?_
 refine wpA_region ?_
 refine wL (OpA.m ?_)
 refine wL (OpA.len rfl rfl rfl rfl ts23.desc (.inl ⟨_, _, rfl, (List.length_map _).symm⟩) ?_)
 refine wL (OpA.m ?_)
 refine wpL_nil ?_
 refine wpA_block ?_
 refine wpA_lfp (S := (List Span) × Int) (G := Nat × List D × List D) (c6_g3, ([] : List D), ([] : List D)) (fun gg ss => asg [(1, D.s dir), (4, .v (.slice none 0 0)), (5, D.i 0), (6, .own gg.1 3 gg.2.1.length ss.1.length), (15, (encL 3 encSpan) l), (16, D.i (l.length : Int)), (17, D.i ss.2)]) (fun gg ss => [(gg.1, .cells 3 (winL encSpan gg.2.1 ss.1 gg.2.2))]) h (Cov.asg ⟨rfl, rfl, rfl, rfl, rfl, rfl, rfl, trivial⟩) (.refl _) ?_
 rintro again4 ⟨cb6, pre6, post6⟩ ⟨out, x⟩ h
 have h : under_L1 l dir Q again4 out x := h
 unfold under_L1 at h
 show wpA _ _ _ _ (asg [(1, D.s dir), (4, .v (.slice none 0 0)), (5, D.i 0), (6, .own cb6 3 pre6.length out.length), (15, (encL 3 encSpan) l), (16, D.i (l.length : Int)), (17, D.i x)]) [(cb6, .cells 3 (winL encSpan pre6 out post6))]
 refine wpA_seq ?_
 refine wpA_region ?_
 refine wL (OpA.lss rfl rfl rfl ?_)
 refine wpL_nil ?_
 refine wpA_seq ?_
 refine wpA_cond rfl (fun b5 => ?_) (fun b5 => ?_)
 have h := h.1 (decT b5)
 refine wpA_skip ?_
 refine wpA_seq ?_
 refine wpA_block ?_
 refine wpA_seq ?_
 obtain ⟨q1, h⟩ := h
 refine wpA_region ?_
 refine wL (OpA.iixV (enc := encSpan) rfl ts23 rfl rfl rfl q1 ?_)
 refine wL (OpA.iload_whole rfl ti33 rfl ⟨_, rfl, rfl⟩ ?_)
 refine wL (OpA.alloc (sz := 3) (d := encSpan (Span.mk ByteArray.empty 0 0)) rfl tz33 (fun _ _ => .agg (.cons (.v _) (.cons (.v _) (.cons (.v _) .nil)))) (.of rfl) (fun c6 _ => ?_))
 refine wE (OpA.storeW rfl ti33 rfl (by with_reducible conv => lhs; whnf) (.of rfl) rfl rfl .head ?_)
 refine wpL_nil ?_
 refine wpA_seq ?_
 obtain ⟨q1, h⟩ := h
 refine wpA_region ?_
 refine wL (OpA.fieldAddr rfl tf33_0 rfl ?_)
 refine wL (OpA.load rfl ti9 rfl .head rfl rfl ?_)
 refine wL (OpA.m ?_)
 refine wL (OpA.sadd rfl rfl rfl q1 ?_)
 refine wL (OpA.call rfl rfl rfl en35 (hasPref_c ((gi l x).path) (dir ++ (⟨#[47]⟩ : ByteArray)) ) ?_)
 rintro _ rfl
 refine wpL_nil ?_
 refine wpA_cond rfl (fun b7 => ?_) (fun b7 => ?_)
 have h := h.1 b7
 obtain ⟨q1, h⟩ := h
 refine wpA_region ?_
 refine wL (OpA.m ?_)
 refine wL (OpA.load_whole rfl ti33 rfl rfl .head rfl ⟨_, rfl⟩ ?_)
 refine wL (OpA.ibuildSliceO rfl ts23 rfl (.cons (.of (sz := 3) rfl) .nil) (by decide) ?_)
 refine wL (OpA.appendW (enc := encSpan) rfl rfl rfl rfl ts23 rfl (fun _ _ => (.tail .head)) (.list (ys := ([(gi l x)] : List Span))) q1 (fun c8 pre9 => ?_))
 refine wL (OpA.a ?_)
 refine wpL_nil ?_
 obtain ⟨q1, h⟩ := h
 refine wpA_region ?_
 refine wL (OpA.addi rfl rfl rfl q1 ?_)
 refine wL (OpA.m ?_)
 refine wpL_nil ?_
 exact ⟨(c8, pre9, ([] : List D)), ((out ++ ([(gi l x)] : List Span)), (x + 1)), h, (Cov.asg ⟨rfl, rfl, rfl, rfl, rfl, rfl, rfl, trivial⟩), (.cons _ (.refl _))⟩
 have h := h.2 b7
 refine wpA_skip ?_
 obtain ⟨q1, h⟩ := h
 refine wpA_region ?_
 refine wL (OpA.addi rfl rfl rfl q1 ?_)
 refine wL (OpA.m ?_)
 refine wpL_nil ?_
 exact ⟨(cb6, pre6, post6), (out, (x + 1)), h, (Cov.asg ⟨rfl, rfl, rfl, rfl, rfl, rfl, rfl, trivial⟩), (.cons _ (.refl _))⟩
 have h := h.2 (decF b5)
 refine wpA_exit ?_
 refine wpA_seq ?_
 refine wpA_region ?_
 refine wL (OpA.m ?_)
 iterate 2 refine wL (OpA.a ?_)
 refine wpL_nil ?_
 refine wpA_ret ?_
 exact ⟨_, (.tmp (d := .own cb6 3 pre6.length out.length) rfl (.tmp (d := D.i 0) rfl .nil)), _, (.tup (.win .head (by intro hf; cases hf) (.same rfl .nil)) .nil), ⟨(out, 0), rfl, h⟩⟩
theorem under_c (l : (List Span)) (dir : ByteArray) (hp0 : l.length ≤ 1000) (hp1 : ∀ z_ ∈ l, z_.path.size ≤ 1000000) (hp2 : dir.size ≤ 1000000) : Fun false Tryz.prog 18 [(encL 3 encSpan) l, D.s dir] (fun d => d = .tup [(encL 3 encSpan) ((underF l dir).1), D.i ((underF l dir).2)]) :=
 Fun.at (enc := fun r => .tup [(encL 3 encSpan) (r.1), D.i (r.2)]) (v := underF l dir) (under_w l dir  (fun r => r = underF l dir) (under_ok l dir _ hp0 hp1 hp2 rfl))
theorem print_w (l : (List Span)) (Q : ByteArray × Int → Prop) (h : print_vc l Q) : Fun false Tryz.prog 7 [(encL 3 encSpan) l] (fun d => ∃ r, d = .tup [D.s (r.1), D.i (r.2)] ∧ Q r) := by
 unfold print_vc at h
 refine Fun.of_body Tryz.func7 rfl Tryz.ntmps7 rfl ?_
 refine wpA_seq ?_
 refine wpA_region ?_
 iterate 2 refine wL (OpA.a ?_)
 refine wpL_nil ?_
 iterate 2 refine wpA_seq ?_
 obtain ⟨q1, q2, h⟩ := h
 refine wpA_region ?_
 refine wL (OpA.m ?_)
 refine wL (OpA.call rfl rfl rfl en12 (valid_c l q1 q2) ?_)
 rintro _ rfl
 refine wL (OpA.not rfl rfl ?_)
 refine wpL_nil ?_
 refine wpA_cond rfl (fun b1 => ?_) (fun b1 => ?_)
 have h := h.1 (notT b1)
 refine wpA_seq ?_
 refine wpA_region ?_
 iterate 2 refine wL (OpA.a ?_)
 refine wpL_nil ?_
 refine wpA_ret ?_
 exact ⟨_, (.tmp (d := D.s (⟨#[]⟩ : ByteArray)) rfl (.tmp (d := D.i 1) rfl .nil)), _, (.tup (.same rfl (.same rfl .nil)) .nil), ⟨((⟨#[]⟩ : ByteArray), 1), rfl, h⟩⟩
 have h := h.2 (notF b1)
 refine wpA_skip ?_
 refine wpA_seq ?_
 refine wpA_region ?_
 refine wL (OpA.allocB (e := 5) rfl tz49 (fun c2 c3 => ?_))
 refine wpL_nil ?_
 iterate 2 refine wpA_seq ?_
 refine wpA_region ?_
 refine wL (OpA.m ?_)
 refine wL (OpA.len rfl rfl rfl rfl ts23.desc (.inl ⟨_, _, rfl, (List.length_map _).symm⟩) ?_)
 refine wL (OpA.m ?_)
 refine wpL_nil ?_
 refine wpA_block ?_
 refine wpA_lfp (S := (List Int) × Int) (G := Bool × Nat × List D) (false, c3, ([] : List D)) (fun gg ss => asg [(2, D.s (⟨#[]⟩ : ByteArray)), (3, D.i 0), (4, .ptr c2 2 0 0), (10, (encL 3 encSpan) l), (11, D.i (l.length : Int)), (12, D.i ss.2)]) (fun gg ss => [(c2, .cells 2 [bldD 49 5 c2 gg.1 gg.2.1 ss.1]), (gg.2.1, .cells 1 (winL (D.k .u8) ([] : List D) ss.1 gg.2.2))]) h (Cov.asg ⟨rfl, rfl, rfl, rfl, rfl, rfl, trivial⟩) (.refl _) ?_
 rintro again4 ⟨u, cb4b, post4b⟩ ⟨xs, x⟩ h
 have h : print_L1 l Q again4 xs x := h
 unfold print_L1 at h
 show wpA _ _ _ _ (asg [(2, D.s (⟨#[]⟩ : ByteArray)), (3, D.i 0), (4, .ptr c2 2 0 0), (10, (encL 3 encSpan) l), (11, D.i (l.length : Int)), (12, D.i x)]) [(c2, .cells 2 [bldD 49 5 c2 u cb4b xs]), (cb4b, .cells 1 (winL (D.k .u8) ([] : List D) xs post4b))]
 refine wpA_seq ?_
 refine wpA_region ?_
 refine wL (OpA.lss rfl rfl rfl ?_)
 refine wpL_nil ?_
 refine wpA_seq ?_
 refine wpA_cond rfl (fun b5 => ?_) (fun b5 => ?_)
 have h := h.1 (decT b5)
 refine wpA_skip ?_
 refine wpA_seq ?_
 refine wpA_block ?_
 refine wpA_seq ?_
 obtain ⟨q1, h⟩ := h
 refine wpA_region ?_
 refine wL (OpA.iixV (enc := encSpan) rfl ts23 rfl rfl rfl q1 ?_)
 refine wL (OpA.iload_whole rfl ti33 rfl ⟨_, rfl, rfl⟩ ?_)
 refine wL (OpA.alloc (sz := 3) (d := encSpan (Span.mk ByteArray.empty 0 0)) rfl tz33 (fun _ _ => .agg (.cons (.v _) (.cons (.v _) (.cons (.v _) .nil)))) (.of rfl) (fun c6 _ => ?_))
 refine wE (OpA.storeW rfl ti33 rfl (by with_reducible conv => lhs; whnf) (.of rfl) rfl rfl .head ?_)
 refine wpL_nil ?_
 obtain ⟨q1, q2, q3, q4, q5, q6, q7, q8, q9, q10, h⟩ := h
 refine wpA_draw (m := 13) mo (by kernel_rfl) rfl ?_
 refine dL (OpA.fieldAddr rfl tf33_0 rfl ⟨rfl, rfl⟩) ?_
 refine dL (OpA.load rfl ti9 rfl .head rfl rfl ⟨rfl, rfl⟩) ?_
 refine dL (OpA.sadd rfl rfl rfl q1 ⟨rfl, rfl⟩) ?_
 refine dL (OpA.fieldAddr rfl tf33_1 rfl ⟨rfl, rfl⟩) ?_
 refine dL (OpA.load rfl ti3 rfl .head rfl rfl ⟨rfl, rfl⟩) ?_
 refine dL (OpA.call rfl rfl rfl en21 (itoa_c ((gi l x).from_) q2 q3) (by rintro _ rfl; exact ⟨rfl, rfl⟩)) ?_
 refine dL (OpA.sadd rfl rfl rfl q4 ⟨rfl, rfl⟩) ?_
 refine dL (OpA.sadd rfl rfl rfl q5 ⟨rfl, rfl⟩) ?_
 refine dL (OpA.fieldAddr rfl tf33_2 rfl ⟨rfl, rfl⟩) ?_
 refine dL (OpA.load rfl ti3 rfl .head rfl rfl ⟨rfl, rfl⟩) ?_
 refine dL (OpA.call rfl rfl rfl en21 (itoa_c ((gi l x).to) q6 q7) (by rintro _ rfl; exact ⟨rfl, rfl⟩)) ?_
 refine dL (OpA.sadd rfl rfl rfl q8 ⟨rfl, rfl⟩) ?_
 refine dL (OpA.sadd rfl rfl rfl q9 ⟨rfl, rfl⟩) ?_
 refine DetK.nil ?_
 refine wL (OpA.callH rfl rfl rfl en20 (h1 := [(c2, .cells 2 [bldD 49 5 c2 u cb4b xs]), (cb4b, .cells 1 (winL (D.k .u8) ([] : List D) xs post4b))]) (h2 := [(c6, .cells 3 [encSpan (gi l x)])]) (pull1.trans (.cons _ pull1)) (bldWS_c xs c2 u cb4b post4b (((((((gi l x).path) ++ (⟨#[32]⟩ : ByteArray)) ++ (itoaF ((gi l x).from_))) ++ (⟨#[32]⟩ : ByteArray)) ++ (itoaF ((gi l x).to))) ++ (⟨#[10]⟩ : ByteArray)) q10) ?_)
 rintro _ _ ⟨⟨u7, c8, post9⟩, rfl, rfl⟩
 refine wpL_perm (h' := [(c6, .cells 3 [encSpan (gi l x)]), (c2, .cells 2 [bldD 49 5 c2 u7 c8 (((((((((((gi l x).path) ++ (⟨#[32]⟩ : ByteArray)) ++ (itoaF ((gi l x).from_))) ++ (⟨#[32]⟩ : ByteArray)) ++ (itoaF ((gi l x).to))) ++ (⟨#[10]⟩ : ByteArray))).size : Int), xs ++ sbytes (((((((gi l x).path) ++ (⟨#[32]⟩ : ByteArray)) ++ (itoaF ((gi l x).from_))) ++ (⟨#[32]⟩ : ByteArray)) ++ (itoaF ((gi l x).to))) ++ (⟨#[10]⟩ : ByteArray))).2)]), (c8, .cells 1 (winL (D.k .u8) ([] : List D) (((((((((((gi l x).path) ++ (⟨#[32]⟩ : ByteArray)) ++ (itoaF ((gi l x).from_))) ++ (⟨#[32]⟩ : ByteArray)) ++ (itoaF ((gi l x).to))) ++ (⟨#[10]⟩ : ByteArray))).size : Int), xs ++ sbytes (((((((gi l x).path) ++ (⟨#[32]⟩ : ByteArray)) ++ (itoaF ((gi l x).from_))) ++ (⟨#[32]⟩ : ByteArray)) ++ (itoaF ((gi l x).to))) ++ (⟨#[10]⟩ : ByteArray))).2) post9))]) pull2 ?_
 refine wpL_nil ?_
 obtain ⟨q1, h⟩ := h
 refine wpA_region ?_
 refine wL (OpA.addi rfl rfl rfl q1 ?_)
 refine wL (OpA.m ?_)
 refine wpL_nil ?_
 exact ⟨(u7, c8, post9), ((((((((((((gi l x).path) ++ (⟨#[32]⟩ : ByteArray)) ++ (itoaF ((gi l x).from_))) ++ (⟨#[32]⟩ : ByteArray)) ++ (itoaF ((gi l x).to))) ++ (⟨#[10]⟩ : ByteArray))).size : Int), xs ++ sbytes (((((((gi l x).path) ++ (⟨#[32]⟩ : ByteArray)) ++ (itoaF ((gi l x).from_))) ++ (⟨#[32]⟩ : ByteArray)) ++ (itoaF ((gi l x).to))) ++ (⟨#[10]⟩ : ByteArray))).2), (x + 1)), h, (Cov.asg ⟨rfl, rfl, rfl, rfl, rfl, rfl, trivial⟩), (.cons _ (.refl _))⟩
 have h := h.2 (decF b5)
 refine wpA_exit ?_
 refine wpA_seq ?_
 obtain ⟨q1, h⟩ := h
 refine wpA_region ?_
 refine wL (OpA.callH rfl rfl rfl en22 (h1 := [(c2, .cells 2 [bldD 49 5 c2 u cb4b xs]), (cb4b, .cells 1 (winL (D.k .u8) ([] : List D) xs post4b))]) (h2 := []) (.refl _) (bldStr_c xs c2 u cb4b post4b q1) ?_)
 rintro _ _ ⟨_, rfl, rfl⟩
 iterate 2 refine wL (OpA.a ?_)
 refine wpL_nil ?_
 refine wpA_ret ?_
 exact ⟨_, (.tmp (d := D.s (bstr xs)) rfl (.tmp (d := D.i 0) rfl .nil)), _, (.tup (.same rfl (.same rfl .nil)) .nil), ⟨((bstr xs), 0), rfl, h⟩⟩
theorem print_c (l : (List Span)) (hp0 : l.length ≤ 1000) (hp1 : ∀ z_ ∈ l, z_.path.size ≤ 1000000) : Fun false Tryz.prog 7 [(encL 3 encSpan) l] (fun d => d = .tup [D.s ((printF l).1), D.i ((printF l).2)]) :=
 Fun.at (enc := fun r => .tup [D.s (r.1), D.i (r.2)]) (v := printF l) (print_w l  (fun r => r = printF l) (print_ok l _ hp0 hp1 rfl))
end Go.Proofs.YtjncggaheahjiaaGreatDoor
