/-
  walks and contracts
-/
import Derived.Test.YtjncggaheahjiaaGreatDoorV5
set_option linter.all false
namespace Go.Proofs.YtjncggaheahjiaaGreatDoor
open Go Go.Lic Go.Sort Go.Proofs
attribute [local irreducible] badR behindF cmpB cmpI countF countL fewF has1F hasF hasPrefF indexF insideF itoaF lenF listF mergeF minusF nameR numF numR ofF oneF orF parseF partF pathB pathF printF scutF spanCmp spanF spanR splitB splitF splitG underF validF
set_option maxHeartbeats 2000000 in
set_option maxRecDepth 10000 in
theorem listO_w (l : (List Span)) (Q : (List Line) → Prop) (h : listO_vc l Q) : CallH Tryz.prog 14 [(encL 3 encSpan) l] [] (fun d h' => ∃ (r : (List Line)) (g : Nat × List D × List D), d = .own g.1 2 g.2.1.length r.length ∧ h' = [(g.1, .cells 2 (winL encLine g.2.1 r g.2.2))] ∧ Q r) := by
 unfold listO_vc at h
 refine CallH.of_bodyP Tryz.func14 rfl Tryz.ntmps14 rfl ?_
 refine wpA_seq ?_
 refine wpA_region ?_
 refine wL (OpA.asnG (T := Line) (enc := encLine) (sz := 2) rfl rfl (fun c2_g1 => ?_))
 refine wpL_nil ?_
 iterate 2 refine wpA_seq ?_
 obtain ⟨q1, q2, h⟩ := h
 refine wpA_region ?_
 refine wL (OpA.m ?_)
 refine wL (OpA.call rfl rfl rfl en12 (valid_c l q1 q2) ?_)
 rintro _ rfl
 refine wL (OpA.not rfl rfl ?_)
 refine wpL_nil ?_
 refine wpA_cond rfl (fun b2 => ?_) (fun b2 => ?_)
 have h := h.1 (notT b2)
 refine wpA_seq ?_
 refine wpA_region ?_
 refine wL (OpA.asnG (T := Line) (enc := encLine) (sz := 2) rfl rfl (fun c2_g3 => ?_))
 refine wpL_nil ?_
 refine wpA_ret ?_
 exact ⟨_, (.tmp (d := .own c2_g3 2 ([] : List D).length ([] : List Line).length) rfl .nil), [(c2_g3, .cells 2 (winL encLine ([] : List D) ([] : List Line) ([] : List D))), (c2_g1, .cells 2 (winL encLine ([] : List D) ([] : List Line) ([] : List D)))], [(c2_g3, .cells 2 (winL encLine ([] : List D) ([] : List Line) ([] : List D)))], (.refl _), (.cons₂ _ (.cons _ (.refl _))), ([] : List Line), (c2_g3, ([] : List D), ([] : List D)), rfl, rfl, h⟩
 have h := h.2 (notF b2)
 refine wpA_skip ?_
 refine wpA_seq ?_
 refine wpA_region ?_
 refine wL (OpA.asnG (T := Line) (enc := encLine) (sz := 2) rfl rfl (fun c3_g4 => ?_))
 refine wpL_nil ?_
 iterate 2 refine wpA_seq ?_
 refine wpA_region ?_
 refine wL (OpA.m ?_)
 refine wL (OpA.len rfl rfl rfl rfl ts23.desc (.inl ⟨_, _, rfl, (List.length_map _).symm⟩) ?_)
 refine wL (OpA.m ?_)
 refine wpL_nil ?_
 refine wpA_block ?_
 refine wpA_lfp (S := (List Line) × Int) (G := Nat × List D × List D) (c3_g4, ([] : List D), ([] : List D)) (fun gg ss => asg [(2, .own c2_g1 2 ([] : List D).length ([] : List Line).length), (3, .own gg.1 2 gg.2.1.length ss.1.length), (10, (encL 3 encSpan) l), (11, D.i (l.length : Int)), (12, D.i ss.2)]) (fun gg ss => [(gg.1, .cells 2 (winL encLine gg.2.1 ss.1 gg.2.2)), (c2_g1, .cells 2 (winL encLine ([] : List D) ([] : List Line) ([] : List D)))]) h (Cov.asg ⟨rfl, rfl, rfl, rfl, rfl, trivial⟩) (.refl _) ?_
 rintro again5 ⟨cb3, pre3, post3⟩ ⟨out, x⟩ h
 have h : listO_L1 l Q again5 out x := h
 unfold listO_L1 at h
 show wpA _ _ _ _ (asg [(2, .own c2_g1 2 ([] : List D).length ([] : List Line).length), (3, .own cb3 2 pre3.length out.length), (10, (encL 3 encSpan) l), (11, D.i (l.length : Int)), (12, D.i x)]) [(cb3, .cells 2 (winL encLine pre3 out post3)), (c2_g1, .cells 2 (winL encLine ([] : List D) ([] : List Line) ([] : List D)))]
 refine wpA_seq ?_
 refine wpA_region ?_
 refine wL (OpA.lss rfl rfl rfl ?_)
 refine wpL_nil ?_
 refine wpA_seq ?_
 refine wpA_cond rfl (fun b6 => ?_) (fun b6 => ?_)
 have h := h.1 (decT b6)
 refine wpA_skip ?_
 refine wpA_seq ?_
 refine wpA_block ?_
 refine wpA_seq ?_
 obtain ⟨q1, h⟩ := h
 refine wpA_region ?_
 refine wL (OpA.iixV (enc := encSpan) rfl ts23 rfl rfl rfl q1 ?_)
 refine wL (OpA.iload_whole rfl ti33 rfl ⟨_, rfl, rfl⟩ ?_)
 refine wL (OpA.alloc (sz := 3) (d := encSpan (Span.mk ByteArray.empty 0 0)) rfl tz33 (fun _ _ => .agg (.cons (.v _) (.cons (.v _) (.cons (.v _) .nil)))) (.of rfl) (fun c7 _ => ?_))
 refine wE (OpA.storeW rfl ti33 rfl (by with_reducible conv => lhs; whnf) (.of rfl) rfl rfl .head ?_)
 refine wpL_nil ?_
 refine wpA_seq ?_
 refine wpA_region ?_
 refine wL (OpA.fieldAddr rfl tf33_1 rfl ?_)
 refine wL (OpA.load rfl ti3 rfl .head rfl rfl ?_)
 refine wL (OpA.a ?_)
 refine wpL_nil ?_
 refine wpA_block ?_
 refine wpA_lfp (S := (List Line) × Int) (G := Nat × List D × List D) (cb3, pre3, post3) (fun gg ss => asg [(2, .own c2_g1 2 ([] : List D).length ([] : List Line).length), (3, .own gg.1 2 gg.2.1.length ss.1.length), (5, .ptr c7 3 0 0), (6, D.i ss.2), (10, (encL 3 encSpan) l), (11, D.i (l.length : Int)), (12, D.i x)]) (fun gg ss => [(c7, .cells 3 [encSpan (gi l x)]), (gg.1, .cells 2 (winL encLine gg.2.1 ss.1 gg.2.2)), (c2_g1, .cells 2 (winL encLine ([] : List D) ([] : List Line) ([] : List D)))]) h (Cov.asg ⟨rfl, rfl, rfl, rfl, rfl, rfl, rfl, trivial⟩) (.refl _) ?_
 rintro again8 ⟨cb31, pre31, post31⟩ ⟨out1, n⟩ h
 have h : listO_L2 l x again5 again8 out1 n := h
 unfold listO_L2 at h
 show wpA _ _ _ _ (asg [(2, .own c2_g1 2 ([] : List D).length ([] : List Line).length), (3, .own cb31 2 pre31.length out1.length), (5, .ptr c7 3 0 0), (6, D.i n), (10, (encL 3 encSpan) l), (11, D.i (l.length : Int)), (12, D.i x)]) [(c7, .cells 3 [encSpan (gi l x)]), (cb31, .cells 2 (winL encLine pre31 out1 post31)), (c2_g1, .cells 2 (winL encLine ([] : List D) ([] : List Line) ([] : List D)))]
 iterate 2 refine wpA_seq ?_
 refine wpA_region ?_
 refine wL (OpA.m ?_)
 refine wL (OpA.fieldAddr rfl tf33_2 rfl ?_)
 refine wL (OpA.load rfl ti3 rfl .head rfl rfl ?_)
 refine wL (OpA.lss rfl rfl rfl ?_)
 refine wpL_nil ?_
 refine wpA_cond rfl (fun b9 => ?_) (fun b9 => ?_)
 have h := h.1 (decT b9)
 refine wpA_skip ?_
 refine wpA_seq ?_
 refine wpA_block ?_
 obtain ⟨q1, h⟩ := h
 refine wpA_region ?_
 refine wL (OpA.m ?_)
 refine wL (OpA.fieldAddr rfl tf33_0 rfl ?_)
 refine wL (OpA.load rfl ti9 rfl .head rfl rfl ?_)
 refine wL (OpA.m ?_)
 refine wL (OpA.buildO (zs := [.v (.string ⟨#[]⟩), .v (.int .i64 0)]) rfl tp40 tz40 (fun _ _ => (.cons (.v _) (.cons (.v _) .nil))) (.cons (.of (sz := 1) rfl) (.cons (.of (sz := 1) rfl) .nil)) rfl ?_)
 refine wL (OpA.ibuildSliceO rfl ts36 rfl (.cons (.of (sz := 2) rfl) .nil) (by decide) ?_)
 refine wL (OpA.appendW (enc := encLine) rfl rfl rfl rfl ts36 rfl (fun _ _ => (.tail .head)) (.list (ys := ([(Line.mk ((gi l x).path) n)] : List Line))) q1 (fun c10 pre11 => ?_))
 refine wL (OpA.a ?_)
 refine wpL_nil ?_
 obtain ⟨q1, h⟩ := h
 refine wpA_region ?_
 refine wL (OpA.m ?_)
 refine wL (OpA.addi rfl rfl rfl q1 ?_)
 refine wL (OpA.a ?_)
 refine wpL_nil ?_
 exact ⟨(c10, pre11, ([] : List D)), ((out1 ++ ([(Line.mk ((gi l x).path) n)] : List Line)), (n + 1)), h, (Cov.asg ⟨rfl, rfl, rfl, rfl, rfl, rfl, rfl, trivial⟩), (.refl _)⟩
 have h := h.2 (decF b9)
 refine wpA_exit ?_
 obtain ⟨q1, h⟩ := h
 refine wpA_region ?_
 refine wL (OpA.addi rfl rfl rfl q1 ?_)
 refine wL (OpA.m ?_)
 refine wpL_nil ?_
 exact ⟨(cb31, pre31, post31), (out1, (x + 1)), h, (Cov.asg ⟨rfl, rfl, rfl, rfl, rfl, trivial⟩), (.cons _ (.refl _))⟩
 have h := h.2 (decF b6)
 refine wpA_exit ?_
 refine wpA_seq ?_
 refine wpA_region ?_
 refine wL (OpA.m ?_)
 refine wL (OpA.a ?_)
 refine wpL_nil ?_
 refine wpA_ret ?_
 exact ⟨_, (.tmp (d := .own cb3 2 pre3.length out.length) rfl .nil), [(cb3, .cells 2 (winL encLine pre3 out post3)), (c2_g1, .cells 2 (winL encLine ([] : List D) ([] : List Line) ([] : List D)))], [(cb3, .cells 2 (winL encLine pre3 out post3))], (.refl _), (.cons₂ _ (.cons _ (.refl _))), out, (cb3, pre3, post3), rfl, rfl, h⟩
theorem listO_c (l : (List Span)) (hp0 : l.length ≤ 1000) (hp1 : ∀ z_ ∈ l, z_.path.size ≤ 1000000) : CallH Tryz.prog 14 [(encL 3 encSpan) l] [] (fun d h' => ∃ (g : Nat × List D × List D), d = .own g.1 2 g.2.1.length (listF l).length ∧ h' = [(g.1, .cells 2 (winL encLine g.2.1 (listF l) g.2.2))]) :=
 (listO_w l  (fun r => r = listF l) (listO_ok l _ hp0 hp1 rfl)).mono (by rintro d h' ⟨r, g, hd, hh, rfl⟩; exact ⟨g, hd, hh⟩)
abbrev lawBack_e0 (l : (List Span)) := ((((((((ofF ((List.reverse (listF l)) ++ (listF l))).2) == 0) && (((printF l).2) == 0)) && (((parseF ((printF l).1)).2.2) == 0)) && (((parseF ((printF l).1)).2.1) == (-1))) && (decide (((ofF ((List.reverse (listF l)) ++ (listF l))).1) = l))) && (decide (((parseF ((printF l).1)).1) = l)))
set_option maxHeartbeats 2000000 in
set_option maxRecDepth 10000 in
theorem lawBack_w (l : (List Span)) (s_ : ByteArray) (Q : Bool → Prop) (h : lawBack_vc l s_ Q) : Fun false Tryz.prog 4 [(encL 3 encSpan) l, D.s s_] (fun d => ∃ r, d = D.b r ∧ Q r) := by
 unfold lawBack_vc at h
 refine Fun.of_body Tryz.func4 rfl Tryz.ntmps4 rfl ?_
 refine wpA_seq ?_
 refine wpA_region ?_
 refine wL (OpA.a ?_)
 refine wpL_nil ?_
 iterate 2 refine wpA_seq ?_
 refine wpA_region ?_
 refine wL (OpA.call rfl rfl rfl en5 (awake_c  ) ?_)
 rintro _ rfl
 refine wL (OpA.not rfl rfl ?_)
 refine wpL_nil ?_
 refine wpA_cond rfl (fun b1 => ?_) (fun b1 => ?_)
 have h := h.1 (notT b1)
 refine wpA_seq ?_
 refine wpA_region ?_
 refine wL (OpA.a ?_)
 refine wpL_nil ?_
 refine wpA_ret ?_
 exact ⟨_, (.tmp (d := D.b false) rfl .nil), _, (.same rfl .nil), ⟨false, rfl, h⟩⟩
 have h := h.2 (notF b1)
 refine wpA_skip ?_
 iterate 2 refine wpA_seq ?_
 refine wpA_mid (asg [(0, (encL 3 encSpan) l), (1, D.s s_), (4, D.b false), (27, D.b ((!(fewF l)) || (decide ((s_.size : Int) > 1000))))]) [] ?_ ?_
 refine wpA_region ?_
 refine wL (OpA.m ?_)
 refine wL (OpA.call rfl rfl rfl en6 (rfew_c l ) ?_)
 rintro _ rfl
 refine wL (OpA.not rfl rfl ?_)
 refine wL (OpA.m ?_)
 refine wpL_split (s := 23) rfl (fun b24 => ?_) (fun b24 => ?_)
 iterate 3 refine wS ?_
 refine wL (OpA.p ?_)
 refine wpL_nil ?_
 exact ⟨(Cov.asg ⟨rfl, rfl, rfl, (congrArg D.b (Eq.symm (orS b24))), trivial⟩), (.refl _)⟩
 refine wG (OpA.m ?_)
 refine wG (OpA.slen rfl rfl rfl rfl td9 rfl ?_)
 refine wG (OpA.gtr rfl rfl rfl ?_)
 refine wL (OpA.p ?_)
 refine wpL_nil ?_
 exact ⟨(Cov.asg ⟨rfl, rfl, rfl, (congrArg D.b (Eq.symm (orN b24 rfl))), trivial⟩), (.refl _)⟩
 show wpA _ _ _ _ (asg [(0, (encL 3 encSpan) l), (1, D.s s_), (4, D.b false), (27, D.b ((!(fewF l)) || (decide ((s_.size : Int) > 1000))))]) []
 refine wpA_cond rfl (fun b2 => ?_) (fun b2 => ?_)
 have h := h.1 ((or0 b2).imp (fun hh => (notT hh)) (fun hh => (decT hh)))
 refine wpA_seq ?_
 refine wpA_region ?_
 refine wL (OpA.a ?_)
 refine wpL_nil ?_
 refine wpA_ret ?_
 exact ⟨_, (.tmp (d := D.b true) rfl .nil), _, (.same rfl .nil), ⟨true, rfl, h⟩⟩
 have h := h.2 ⟨(notF (or1 b2)), (decF (or2 b2))⟩
 refine wpA_skip ?_
 iterate 2 refine wpA_seq ?_
 obtain ⟨q1, h⟩ := h
 refine wpA_region ?_
 refine wL (OpA.m ?_)
 refine wL (OpA.call rfl rfl rfl en9 (lparse_c s_ q1) ?_)
 rintro _ rfl
 refine wL (OpA.m ?_)
 iterate 3 refine wL (OpA.extract rfl rfl rfl ?_)
 iterate 3 refine wL (OpA.a ?_)
 refine wpL_nil ?_
 refine wpA_seq ?_
 refine wpA_region ?_
 refine wL (OpA.m ?_)
 refine wL (OpA.eql rfl rfl rfl ?_)
 refine wpL_nil ?_
 refine wpA_join (S := Unit) (G := Unit) (fun gg ss => asg [(0, (encL 3 encSpan) l), (4, D.b false)]) (fun gg ss => []) (fun ss => lawBack_J1 l Q) ?_ ?_
 refine wpA_cond rfl (fun b18 => ?_) (fun b18 => ?_)
 have h := h.1 (beqT b18)
 refine wpA_seq ?_
 obtain ⟨q1, q2, h⟩ := h
 refine wpA_region ?_
 refine wL (OpA.m ?_)
 refine wL (OpA.call rfl rfl rfl en7 (print_c ((parseF s_).1) q1 q2) ?_)
 rintro _ rfl
 refine wL (OpA.m ?_)
 iterate 2 refine wL (OpA.extract rfl rfl rfl ?_)
 iterate 2 refine wL (OpA.a ?_)
 refine wpL_nil ?_
 refine wpA_seq ?_
 refine wpA_mid (asg [(0, (encL 3 encSpan) l), (4, D.b false), (51, D.b (((((printF ((parseF s_).1)).2) != 0) || (!decide ((printF ((parseF s_).1)).1 = s_))) || (((parseF s_).2.1) != (-1))))]) [] ?_ ?_
 refine wpA_region ?_
 refine wL (OpA.m ?_)
 refine wL (OpA.neq rfl rfl rfl ?_)
 refine wL (OpA.m ?_)
 refine wpL_split (s := 43) rfl (fun b20 => ?_) (fun b20 => ?_)
 iterate 3 refine wS ?_
 refine wL (OpA.p ?_)
 refine wL (OpA.m ?_)
 iterate 2 refine wS ?_
 refine wL (OpA.p ?_)
 refine wpL_nil ?_
 exact ⟨(Cov.asg ⟨rfl, rfl, (congrArg D.b (Eq.symm (orS (orS b20)))), trivial⟩), (.refl _)⟩
 iterate 2 refine wG (OpA.m ?_)
 refine wG (OpA.sneq rfl rfl rfl ?_)
 refine wL (OpA.p ?_)
 refine wL (OpA.m ?_)
 refine wpL_split (s := 48) rfl (fun b21 => ?_) (fun b21 => ?_)
 iterate 2 refine wS ?_
 refine wL (OpA.p ?_)
 refine wpL_nil ?_
 exact ⟨(Cov.asg ⟨rfl, rfl, (congrArg D.b (Eq.symm (orS (orN b20 b21)))), trivial⟩), (.refl _)⟩
 refine wG (OpA.m ?_)
 refine wG (OpA.neq rfl rfl rfl ?_)
 refine wL (OpA.p ?_)
 refine wpL_nil ?_
 exact ⟨(Cov.asg ⟨rfl, rfl, (congrArg D.b (Eq.symm (orN (orN b20 b21) rfl))), trivial⟩), (.refl _)⟩
 show wpA _ _ _ _ (asg [(0, (encL 3 encSpan) l), (4, D.b false), (51, D.b (((((printF ((parseF s_).1)).2) != 0) || (!decide ((printF ((parseF s_).1)).1 = s_))) || (((parseF s_).2.1) != (-1))))]) []
 refine wpA_cond rfl (fun b19 => ?_) (fun b19 => ?_)
 have h := h.1 ((or0 b19).imp (fun hh => ((or0 hh).imp (fun hh => (bneT hh)) (fun hh => (ndecT hh)))) (fun hh => (bneT hh)))
 refine wpA_seq ?_
 refine wpA_region ?_
 refine wL (OpA.a ?_)
 refine wpL_nil ?_
 refine wpA_ret ?_
 exact ⟨_, (.tmp (d := D.b false) rfl .nil), _, (.same rfl .nil), ⟨false, rfl, h⟩⟩
 have h := h.2 ⟨⟨(bneF (or1 (or1 b19))), (ndecF (or2 (or1 b19)))⟩, (bneF (or2 b19))⟩
 refine wpA_skip ?_
 exact ⟨(), (), h, (Cov.asg ⟨rfl, rfl, trivial⟩), (.refl _)⟩
 have h := h.2 (beqF b18)
 refine wpA_seq ?_
 refine wpA_mid (asg [(0, (encL 3 encSpan) l), (4, D.b false), (58, D.b (((((parseF s_).1).length : Int) != 0) || (decide ((parseF s_).2.1 < 0))))]) [] ?_ ?_
 refine wpA_region ?_
 refine wL (OpA.m ?_)
 refine wL (OpA.len rfl rfl rfl rfl ts23.desc (.inl ⟨_, _, rfl, (List.length_map _).symm⟩) ?_)
 refine wL (OpA.neq rfl rfl rfl ?_)
 refine wL (OpA.m ?_)
 refine wpL_split (s := 55) rfl (fun b23 => ?_) (fun b23 => ?_)
 iterate 2 refine wS ?_
 refine wL (OpA.p ?_)
 refine wpL_nil ?_
 exact ⟨(Cov.asg ⟨rfl, rfl, (congrArg D.b (Eq.symm (orS b23))), trivial⟩), (.refl _)⟩
 refine wG (OpA.m ?_)
 refine wG (OpA.lss rfl rfl rfl ?_)
 refine wL (OpA.p ?_)
 refine wpL_nil ?_
 exact ⟨(Cov.asg ⟨rfl, rfl, (congrArg D.b (Eq.symm (orN b23 rfl))), trivial⟩), (.refl _)⟩
 show wpA _ _ _ _ (asg [(0, (encL 3 encSpan) l), (4, D.b false), (58, D.b (((((parseF s_).1).length : Int) != 0) || (decide ((parseF s_).2.1 < 0))))]) []
 refine wpA_cond rfl (fun b22 => ?_) (fun b22 => ?_)
 have h := h.1 ((or0 b22).imp (fun hh => (bneT hh)) (fun hh => (decT hh)))
 refine wpA_seq ?_
 refine wpA_region ?_
 refine wL (OpA.a ?_)
 refine wpL_nil ?_
 refine wpA_ret ?_
 exact ⟨_, (.tmp (d := D.b false) rfl .nil), _, (.same rfl .nil), ⟨false, rfl, h⟩⟩
 have h := h.2 ⟨(bneF (or1 b22)), (decF (or2 b22))⟩
 refine wpA_skip ?_
 exact ⟨(), (), h, (Cov.asg ⟨rfl, rfl, trivial⟩), (.refl _)⟩
 rintro _ _ h
 have h : lawBack_J1 l Q := h
 unfold lawBack_J1 at h
 show wpA _ _ _ _ (asg [(0, (encL 3 encSpan) l), (4, D.b false)]) []
 iterate 2 refine wpA_seq ?_
 obtain ⟨q1, q2, q3, h⟩ := h
 refine wpA_mid (asg [(0, (encL 3 encSpan) l), (4, D.b false), (66, D.b ((!(validF l)) || (decide ((countL l) > 300))))]) [] ?_ ?_
 refine wpA_region ?_
 refine wL (OpA.m ?_)
 refine wL (OpA.call rfl rfl rfl en12 (valid_c l q1 q2) ?_)
 rintro _ rfl
 refine wL (OpA.not rfl rfl ?_)
 refine wL (OpA.m ?_)
 refine wpL_split (s := 62) rfl (fun b17 => ?_) (fun b17 => ?_)
 iterate 3 refine wS ?_
 refine wL (OpA.p ?_)
 refine wpL_nil ?_
 exact ⟨(Cov.asg ⟨rfl, rfl, (congrArg D.b (Eq.symm (orS b17))), trivial⟩), (.refl _)⟩
 refine wG (OpA.m ?_)
 refine wG (OpA.call rfl rfl rfl en13 (count_c l (q3 (notF b17)) q2) ?_)
 rintro _ rfl
 refine wG (OpA.gtr rfl rfl rfl ?_)
 refine wL (OpA.p ?_)
 refine wpL_nil ?_
 exact ⟨(Cov.asg ⟨rfl, rfl, (congrArg D.b (Eq.symm (orN b17 rfl))), trivial⟩), (.refl _)⟩
 show wpA _ _ _ _ (asg [(0, (encL 3 encSpan) l), (4, D.b false), (66, D.b ((!(validF l)) || (decide ((countL l) > 300))))]) []
 refine wpA_cond rfl (fun b3 => ?_) (fun b3 => ?_)
 have h := h.1 ((or0 b3).imp (fun hh => (notT hh)) (fun hh => (decT hh)))
 refine wpA_seq ?_
 refine wpA_region ?_
 refine wL (OpA.a ?_)
 refine wpL_nil ?_
 refine wpA_ret ?_
 exact ⟨_, (.tmp (d := D.b true) rfl .nil), _, (.same rfl .nil), ⟨true, rfl, h⟩⟩
 have h := h.2 ⟨(notF (or1 b3)), (decF (or2 b3))⟩
 refine wpA_skip ?_
 refine wpA_seq ?_
 obtain ⟨q1, q2, h⟩ := h
 refine wpA_region ?_
 refine wL (OpA.m ?_)
 refine wL (OpA.callH rfl rfl rfl en14 (h1 := []) (h2 := []) (.refl _) (listO_c l q1 q2) ?_)
 rintro _ _ ⟨⟨c4, pre5, post6⟩, rfl, rfl⟩
 refine wL (OpA.a ?_)
 refine wpL_nil ?_
 refine wpA_seq ?_
 obtain ⟨q1, h⟩ := h
 refine wpA_region ?_
 refine wL (OpA.m ?_)
 refine wL (OpA.callH rfl rfl rfl en15 (h1 := [(c4, .cells 2 (winL encLine pre5 (listF l) post6))]) (h2 := []) (.refl _) (revL_c (listF l) c4 pre5 post6 q1) ?_)
 rintro _ _ ⟨_, rfl, rfl⟩
 refine wpL_nil ?_
 refine wpA_seq ?_
 refine wpA_cov (fr0 := asg [(0, (encL 3 encSpan) l), (4, D.b false), (10, .own c4 2 pre5.length (List.reverse (listF l)).length), (66, D.b ((!(validF l)) || (decide ((countL l) > 300)))), (67, (encL 3 encSpan) l), (68, .own c4 2 pre5.length (List.reverse (listF l)).length), (69, .own c4 2 pre5.length (List.reverse (listF l)).length), (70, .tup [])]) (Cov.asg ⟨rfl, rfl, (congrArg (D.own c4 2 pre5.length) (by simp only [si_length, gcopy_length, sortF_len spanCmp_swo, List.length_reverse] <;> rfl)), rfl, rfl, (congrArg (D.own c4 2 pre5.length) (by simp only [si_length, gcopy_length, sortF_len spanCmp_swo, List.length_reverse] <;> rfl)), (congrArg (D.own c4 2 pre5.length) (by simp only [si_length, gcopy_length, sortF_len spanCmp_swo, List.length_reverse] <;> rfl)), rfl, trivial⟩) ?_
 obtain ⟨q1, q2, q3, q4, q5, h⟩ := h
 refine wpA_region ?_
 iterate 2 refine wL (OpA.m ?_)
 refine wL (OpA.callH rfl rfl rfl en14 (h1 := []) (h2 := [(c4, .cells 2 (winL encLine pre5 (List.reverse (listF l)) post6))]) (.refl _) (listO_c l q1 q2) ?_)
 rintro _ _ ⟨⟨c7, pre8, post9⟩, rfl, rfl⟩
 refine wL (OpA.appendW (enc := encLine) rfl rfl rfl rfl ts36 rfl (fun _ _ => (.tail .head)) (.own .head) q3 (fun c10 pre11 => ?_))
 refine wL (OpA.frz (s := 75) (d := .own c10 2 pre11.length ((List.reverse (listF l)) ++ (listF l)).length) (d' := (encL 2 encLine) ((List.reverse (listF l)) ++ (listF l))) (.swap _ _ _) rfl (.win (enc := encLine) .head (by intro hf; cases hf) .nil) (OpA.call rfl rfl rfl en16 (of_c ((List.reverse (listF l)) ++ (listF l)) q4 q5) ?_))
 rintro _ rfl
 refine wL (OpA.m ?_)
 iterate 2 refine wL (OpA.extract rfl rfl rfl ?_)
 iterate 2 refine wL (OpA.a ?_)
 refine wpL_nil ?_
 refine wpA_seq ?_
 obtain ⟨q1, q2, h⟩ := h
 refine wpA_region ?_
 refine wL (OpA.m ?_)
 refine wL (OpA.call rfl rfl rfl en7 (print_c l q1 q2) ?_)
 rintro _ rfl
 refine wL (OpA.m ?_)
 iterate 2 refine wL (OpA.extract rfl rfl rfl ?_)
 iterate 2 refine wL (OpA.a ?_)
 refine wpL_nil ?_
 refine wpA_seq ?_
 obtain ⟨q1, h⟩ := h
 refine wpA_region ?_
 refine wL (OpA.m ?_)
 refine wL (OpA.call rfl rfl rfl en9 (lparse_c ((printF l).1) q1) ?_)
 rintro _ rfl
 refine wL (OpA.m ?_)
 iterate 3 refine wL (OpA.extract rfl rfl rfl ?_)
 iterate 3 refine wL (OpA.a ?_)
 refine wpL_nil ?_
 refine wpA_seq ?_
 obtain ⟨q1, q2, h⟩ := h
 refine wpA_mid (asg [(4, D.b (lawBack_e0 l))]) [(c7, .cells 2 (winL encLine pre8 (listF l) post9))] ?_ ?_
 refine wpA_region ?_
 refine wL (OpA.m ?_)
 refine wL (OpA.eql rfl rfl rfl ?_)
 refine wL (OpA.m ?_)
 refine wpL_split (s := 92) rfl (fun b12 => ?_) (fun b12 => ?_)
 refine wG (OpA.m ?_)
 refine wG (OpA.eql rfl rfl rfl ?_)
 refine wL (OpA.p ?_)
 refine wL (OpA.m ?_)
 refine wpL_split (s := 96) rfl (fun b13 => ?_) (fun b13 => ?_)
 refine wG (OpA.m ?_)
 refine wG (OpA.eql rfl rfl rfl ?_)
 refine wL (OpA.p ?_)
 refine wL (OpA.m ?_)
 refine wpL_split (s := 100) rfl (fun b14 => ?_) (fun b14 => ?_)
 refine wG (OpA.m ?_)
 refine wG (OpA.eql rfl rfl rfl ?_)
 refine wL (OpA.p ?_)
 refine wL (OpA.m ?_)
 refine wpL_split (s := 104) rfl (fun b15 => ?_) (fun b15 => ?_)
 iterate 2 refine wG (OpA.m ?_)
 refine wG (OpA.call rfl rfl rfl en11 (eqSpans_c ((ofF ((List.reverse (listF l)) ++ (listF l))).1) l (q1 ⟨⟨⟨(beqT b12), (beqT b13)⟩, (beqT b14)⟩, (beqT b15)⟩)) ?_)
 rintro _ rfl
 refine wL (OpA.p ?_)
 refine wL (OpA.m ?_)
 refine wpL_split (s := 109) rfl (fun b16 => ?_) (fun b16 => ?_)
 iterate 2 refine wG (OpA.m ?_)
 refine wG (OpA.call rfl rfl rfl en11 (eqSpans_c ((parseF ((printF l).1)).1) l (q2 ⟨⟨⟨⟨(beqT b12), (beqT b13)⟩, (beqT b14)⟩, (beqT b15)⟩, b16⟩)) ?_)
 rintro _ rfl
 refine wL (OpA.p ?_)
 refine wL (OpA.a ?_)
 refine wpL_nil ?_
 exact ⟨(Cov.asg ⟨(congrArg D.b (Eq.symm (andN (andN (andN (andN (andN b12 b13) b14) b15) b16) rfl))), trivial⟩), (.refl _)⟩
 iterate 3 refine wS ?_
 refine wL (OpA.p ?_)
 refine wL (OpA.a ?_)
 refine wpL_nil ?_
 exact ⟨(Cov.asg ⟨(congrArg D.b (Eq.symm (andS (andN (andN (andN (andN b12 b13) b14) b15) b16)))), trivial⟩), (.refl _)⟩
 iterate 3 refine wS ?_
 refine wL (OpA.p ?_)
 refine wL (OpA.m ?_)
 iterate 3 refine wS ?_
 refine wL (OpA.p ?_)
 refine wL (OpA.a ?_)
 refine wpL_nil ?_
 exact ⟨(Cov.asg ⟨(congrArg D.b (Eq.symm (andS (andS (andN (andN (andN b12 b13) b14) b15))))), trivial⟩), (.refl _)⟩
 iterate 2 refine wS ?_
 refine wL (OpA.p ?_)
 refine wL (OpA.m ?_)
 iterate 3 refine wS ?_
 refine wL (OpA.p ?_)
 refine wL (OpA.m ?_)
 iterate 3 refine wS ?_
 refine wL (OpA.p ?_)
 refine wL (OpA.a ?_)
 refine wpL_nil ?_
 exact ⟨(Cov.asg ⟨(congrArg D.b (Eq.symm (andS (andS (andS (andN (andN b12 b13) b14)))))), trivial⟩), (.refl _)⟩
 iterate 2 refine wS ?_
 refine wL (OpA.p ?_)
 refine wL (OpA.m ?_)
 iterate 2 refine wS ?_
 refine wL (OpA.p ?_)
 refine wL (OpA.m ?_)
 iterate 3 refine wS ?_
 refine wL (OpA.p ?_)
 refine wL (OpA.m ?_)
 iterate 3 refine wS ?_
 refine wL (OpA.p ?_)
 refine wL (OpA.a ?_)
 refine wpL_nil ?_
 exact ⟨(Cov.asg ⟨(congrArg D.b (Eq.symm (andS (andS (andS (andS (andN b12 b13))))))), trivial⟩), (.refl _)⟩
 iterate 2 refine wS ?_
 refine wL (OpA.p ?_)
 refine wL (OpA.m ?_)
 iterate 2 refine wS ?_
 refine wL (OpA.p ?_)
 refine wL (OpA.m ?_)
 iterate 2 refine wS ?_
 refine wL (OpA.p ?_)
 refine wL (OpA.m ?_)
 iterate 3 refine wS ?_
 refine wL (OpA.p ?_)
 refine wL (OpA.m ?_)
 iterate 3 refine wS ?_
 refine wL (OpA.p ?_)
 refine wL (OpA.a ?_)
 refine wpL_nil ?_
 exact ⟨(Cov.asg ⟨(congrArg D.b (Eq.symm (andS (andS (andS (andS (andS b12))))))), trivial⟩), (.refl _)⟩
 show wpA _ _ _ _ (asg [(4, D.b (lawBack_e0 l))]) [(c7, .cells 2 (winL encLine pre8 (listF l) post9))]
 refine wpA_ret ?_
 exact ⟨_, (.tmp (d := D.b (lawBack_e0 l)) rfl .nil), _, (.same rfl .nil), ⟨(lawBack_e0 l), rfl, h⟩⟩
theorem lawBack_c (l : (List Span)) (s_ : ByteArray)  : Fun false Tryz.prog 4 [(encL 3 encSpan) l, D.s s_] (fun d => d = D.b (true)) :=
 Fun.at (enc := fun r => D.b r) (v := true) (lawBack_w l s_  (fun r => r = true) (lawBack_ok l s_ _  rfl))
end Go.Proofs.YtjncggaheahjiaaGreatDoor
