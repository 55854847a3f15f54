/-
  walks and contracts
-/
import Derived.Test.YtjncggaheahjiaaGreatDoorV4
import Derived.Test.YtjncggaheahjiaaGreatDoorNum
set_option maxRecDepth 10000
set_option maxHeartbeats 2000000
set_option linter.all false
namespace Go.Proofs.YtjncggaheahjiaaGreatDoor
open Go Go.Lic Go.Sort Go.Proofs
attribute [local irreducible] badR behindF cmpB cmpI countF countL fewF has1F hasF hasPrefF indexF insideF itoaF lenF listF mergeF minusF nameR numF numR ofF oneF orF parseF partF pathB pathF printF scutF spanCmp spanF spanR splitB splitF splitG underF validF
theorem lcut_w (s_ : ByteArray) (sep : ByteArray) (Q : ByteArray × ByteArray × Bool → Prop) (h : lcut_vc s_ sep Q) : Fun false Tryz.prog 41 [D.s s_, D.s sep] (fun d => ∃ r, d = .tup [D.s (r.1), D.s (r.2.1), D.b (r.2.2)] ∧ Q r) := by
 unfold lcut_vc at h
 refine Fun.of_body Tryz.func41 rfl Tryz.ntmps41 rfl ?_
 refine wpA_seq ?_
 refine wpA_region ?_
 iterate 3 refine wL (OpA.a ?_)
 refine wpL_nil ?_
 iterate 2 refine wpA_seq ?_
 obtain ⟨q1, h⟩ := h
 refine wpA_region ?_
 iterate 2 refine wL (OpA.m ?_)
 refine wL (OpA.call rfl rfl rfl en58 (sIndex_c s_ sep q1) ?_)
 rintro _ rfl
 refine wL (OpA.a ?_)
 refine wpL_nil ?_
 refine wpA_seq ?_
 refine wpA_region ?_
 refine wL (OpA.m ?_)
 refine wL (OpA.geq rfl rfl rfl ?_)
 refine wpL_nil ?_
 refine wpA_cond rfl (fun b1 => ?_) (fun b1 => ?_)
 have h := h.1 (decT b1)
 refine wpA_seq ?_
 obtain ⟨q1, q2, q3, h⟩ := h
 refine wpA_draw (m := 12) mo (by kernel_rfl) rfl ?_
 iterate 2 refine dL (OpA.m ⟨rfl, rfl⟩) ?_
 refine dL (OpA.ssliceV rfl td9 rfl (.none _) (.some rfl) q1 ⟨rfl, rfl⟩) ?_
 iterate 3 refine dL (OpA.m ⟨rfl, rfl⟩) ?_
 refine dL (OpA.slen rfl rfl rfl rfl td9 rfl ⟨rfl, rfl⟩) ?_
 refine dL (OpA.addi rfl rfl rfl q2 ⟨rfl, rfl⟩) ?_
 refine dL (OpA.ssliceV rfl td9 rfl (.some rfl) (.none _) q3 ⟨rfl, rfl⟩) ?_
 iterate 3 refine dL (OpA.a ⟨rfl, rfl⟩) ?_
 refine DetK.nil ?_
 refine wpL_nil ?_
 refine wpA_ret ?_
 exact ⟨_, (.tmp (d := D.s (ssub s_ 0 (indexF s_ sep))) rfl (.tmp (d := D.s (ssub s_ ((indexF s_ sep) + (sep.size : Int)) (s_.size : Int))) rfl (.tmp (d := D.b true) rfl .nil))), _, (.tup (.same rfl (.same rfl (.same rfl .nil))) .nil), ⟨((ssub s_ 0 (indexF s_ sep)), (ssub s_ ((indexF s_ sep) + (sep.size : Int)) (s_.size : Int)), true), rfl, h⟩⟩
 have h := h.2 (decF b1)
 refine wpA_skip ?_
 refine wpA_seq ?_
 refine wpA_region ?_
 refine wL (OpA.m ?_)
 iterate 3 refine wL (OpA.a ?_)
 refine wpL_nil ?_
 refine wpA_ret ?_
 exact ⟨_, (.tmp (d := D.s s_) rfl (.tmp (d := D.s (⟨#[]⟩ : ByteArray)) rfl (.tmp (d := D.b false) rfl .nil))), _, (.tup (.same rfl (.same rfl (.same rfl .nil))) .nil), ⟨(s_, (⟨#[]⟩ : ByteArray), false), rfl, h⟩⟩
theorem lcut_c (s_ : ByteArray) (sep : ByteArray) (hp0 : s_.size ≤ 1000000) (hp1 : sep.size = 1) : Fun false Tryz.prog 41 [D.s s_, D.s sep] (fun d => d = .tup [D.s ((scutF s_ sep).1), D.s ((scutF s_ sep).2.1), D.b ((scutF s_ sep).2.2)]) :=
 Fun.at (enc := fun r => .tup [D.s (r.1), D.s (r.2.1), D.b (r.2.2)]) (v := scutF s_ sep) (lcut_w s_ sep  (fun r => r = scutF s_ sep) (lcut_ok s_ sep _ hp0 hp1 rfl))
theorem scut_w (s_ : ByteArray) (sep : ByteArray) (Q : ByteArray × ByteArray × Bool → Prop) (h : scut_vc s_ sep Q) : Fun false Tryz.prog 25 [D.s s_, D.s sep] (fun d => ∃ r, d = .tup [D.s (r.1), D.s (r.2.1), D.b (r.2.2)] ∧ Q r) := by
 unfold scut_vc at h
 refine Fun.of_body Tryz.func25 rfl Tryz.ntmps25 rfl ?_
 refine wpA_seq ?_
 refine wpA_region ?_
 iterate 3 refine wL (OpA.a ?_)
 refine wpL_nil ?_
 refine wpA_seq ?_
 obtain ⟨q1, q2, h⟩ := h
 refine wpA_region ?_
 iterate 2 refine wL (OpA.m ?_)
 refine wL (OpA.call rfl rfl rfl en41 (lcut_c s_ sep q1 q2) ?_)
 rintro _ rfl
 iterate 3 refine wL (OpA.extract rfl rfl rfl ?_)
 iterate 3 refine wL (OpA.a ?_)
 refine wpL_nil ?_
 refine wpA_ret ?_
 exact ⟨_, (.tmp (d := D.s ((scutF s_ sep).1)) rfl (.tmp (d := D.s ((scutF s_ sep).2.1)) rfl (.tmp (d := D.b ((scutF s_ sep).2.2)) rfl .nil))), _, (.tup (.same rfl (.same rfl (.same rfl .nil))) .nil), ⟨((scutF s_ sep).1, (scutF s_ sep).2.1, (scutF s_ sep).2.2), rfl, h⟩⟩
theorem scut_c (s_ : ByteArray) (sep : ByteArray) (hp0 : s_.size ≤ 1000000) (hp1 : sep.size = 1) : Fun false Tryz.prog 25 [D.s s_, D.s sep] (fun d => d = .tup [D.s ((scutF s_ sep).1), D.s ((scutF s_ sep).2.1), D.b ((scutF s_ sep).2.2)]) :=
 Fun.at (enc := fun r => .tup [D.s (r.1), D.s (r.2.1), D.b (r.2.2)]) (v := scutF s_ sep) (scut_w s_ sep  (fun r => r = scutF s_ sep) (scut_ok s_ sep _ hp0 hp1 rfl))
abbrev lspan_e0 (line : ByteArray) := (Span.mk (gi (splitF line (⟨#[32]⟩ : ByteArray)) 0) (numF (gi (splitF line (⟨#[32]⟩ : ByteArray)) 1)) (numF (gi (splitF line (⟨#[32]⟩ : ByteArray)) 2)))
theorem lspan_w (line : ByteArray) (before : (List Span)) (c_before : Nat) (pre_before post_before : List D) (Q : Span × Int → Prop) (h : lspan_vc line before Q) : CallH Tryz.prog 26 [D.s line, .own c_before 3 pre_before.length before.length] [(c_before, .cells 3 (winL encSpan pre_before before post_before))] (fun d h' => ∃ (r : Span × Int) (g : Unit), d = .tup [encSpan r.1, D.i r.2] ∧ h' = [(c_before, .cells 3 (winL encSpan pre_before before post_before))] ∧ Q r) := by
 unfold lspan_vc at h
 refine CallH.of_bodyP Tryz.func26 rfl Tryz.ntmps26 rfl ?_
 refine wpA_seq ?_
 refine wpA_region ?_
 refine wL (OpA.alloc (sz := 3) (d := encSpan (Span.mk ByteArray.empty 0 0)) rfl tz33 (fun _ _ => .agg (.cons (.v _) (.cons (.v _) (.cons (.v _) .nil)))) (.of rfl) (fun c1 _ => ?_))
 refine wL (OpA.a ?_)
 refine wpL_nil ?_
 refine wpA_seq ?_
 obtain ⟨q1, q2, h⟩ := h
 refine wpA_region ?_
 refine wL (OpA.m ?_)
 refine wL (OpA.call rfl rfl rfl en42 (split_c line (⟨#[32]⟩ : ByteArray) q1 q2) ?_)
 rintro _ rfl
 refine wL (OpA.a ?_)
 refine wpL_nil ?_
 iterate 2 refine wpA_seq ?_
 refine wpA_region ?_
 refine wL (OpA.m ?_)
 refine wL (OpA.len rfl rfl rfl rfl ts60.desc (.inl ⟨_, _, rfl, (List.length_map _).symm⟩) ?_)
 refine wL (OpA.neq rfl rfl rfl ?_)
 refine wpL_nil ?_
 refine wpA_cond rfl (fun b2 => ?_) (fun b2 => ?_)
 have h := h.1 (bneT b2)
 refine wpA_seq ?_
 refine wpA_region ?_
 refine wL (OpA.buildO (zs := [.v (.string ⟨#[]⟩), .v (.int .i64 0), .v (.int .i64 0)]) rfl tp33 tz33 (fun _ _ => (.cons (.v _) (.cons (.v _) (.cons (.v _) .nil)))) .nil rfl ?_)
 refine wE (OpA.storeW rfl ti33 rfl (by with_reducible conv => lhs; whnf) (.of rfl) rfl rfl .head ?_)
 refine wL (OpA.a ?_)
 refine wpL_nil ?_
 refine wpA_ret ?_
 exact ⟨_, (.cell (.whole ti33 rfl rfl .head rfl ⟨_, rfl⟩) (.tmp (d := D.i 4) rfl .nil)), [(c_before, .cells 3 (winL encSpan pre_before before post_before)), (c1, .cells 3 [encSpan (Span.mk ByteArray.empty 0 0)])], [(c_before, .cells 3 (winL encSpan pre_before before post_before))], pull1, (.cons₂ _ (.cons _ (.refl _))), ((Span.mk ByteArray.empty 0 0), 4), (), rfl, rfl, h⟩
 have h := h.2 (bneF b2)
 refine wpA_skip ?_
 refine wpA_seq ?_
 obtain ⟨q1_0, q4_0, q6_0, q8_0, q10_0, h⟩ := h
 refine wpA_states mo (fun W hW => ?_)
 refine flip_goal (a := ∀ (c133 : Nat), W 0 (lv 14 16383) (asg [(1, .own c_before 3 pre_before.length before.length), (4, .ptr c1 3 0 0), (5, D.i 0), (7, .ptr c133 3 0 0)]) [(c133, .cells 3 [encSpan (lspan_e0 line)]), (c1, .cells 3 [encSpan (Span.mk ByteArray.empty 0 0)]), (c_before, .cells 3 (winL encSpan pre_before before post_before))]) (fun s0 => ?_) ?_
 have s1 : ∀ (c133 : Nat), W 1 (lv 14 8191) (asg [(1, .own c_before 3 pre_before.length before.length), (4, .ptr c1 3 0 0), (5, D.i 0), (7, .ptr c133 3 0 0), (25, encSpan (lspan_e0 line))]) [(c133, .cells 3 [encSpan (Span.mk ByteArray.empty 0 0)]), (c1, .cells 3 [encSpan (Span.mk ByteArray.empty 0 0)]), (c_before, .cells 3 (winL encSpan pre_before before post_before))] := fun c133 => wpS_of hW (by refine wpS_step (rs := [13]) (by kernel_rfl) rfl ⟨?_, trivial⟩; refine wpS_eff (i := 13) (li' := (lv 14 16383)) rfl rfl rfl (by kernel_rfl) (OpA.storeW rfl ti33 rfl (by with_reducible conv => lhs; whnf) (.of rfl) rfl rfl .head ?_); exact wpS_to hW (s0 c133) (Cov.asg ⟨rfl, rfl, rfl, rfl, trivial⟩) (.refl _))
 have s2 : W 2 (lv 14 4095) (asg [(1, .own c_before 3 pre_before.length before.length), (4, .ptr c1 3 0 0), (5, D.i 0), (25, encSpan (lspan_e0 line))]) [(c1, .cells 3 [encSpan (Span.mk ByteArray.empty 0 0)]), (c_before, .cells 3 (winL encSpan pre_before before post_before))] := wpS_of hW (by refine wpS_step (rs := [12]) (by kernel_rfl) rfl ⟨?_, trivial⟩; refine wpS_op (i := 12) (li' := (lv 14 8191)) rfl rfl rfl rfl (by kernel_rfl) (OpA.alloc (sz := 3) (d := encSpan (Span.mk ByteArray.empty 0 0)) rfl tz33 (fun _ _ => .agg (.cons (.v _) (.cons (.v _) (.cons (.v _) .nil)))) (.of rfl) (fun c133 _ => ?_)); exact wpS_to hW (s1 c133) (Cov.asg ⟨rfl, rfl, rfl, rfl, rfl, trivial⟩) (.refl _))
 have s3 : ∀ (c133 : Nat), W 2 (lv 14 6143) (asg [(1, .own c_before 3 pre_before.length before.length), (4, .ptr c1 3 0 0), (5, D.i 0), (7, .ptr c133 3 0 0), (16, D.s (gi (splitF line (⟨#[32]⟩ : ByteArray)) 0)), (20, D.i (numF (gi (splitF line (⟨#[32]⟩ : ByteArray)) 1))), (24, D.i (numF (gi (splitF line (⟨#[32]⟩ : ByteArray)) 2)))]) [(c133, .cells 3 [encSpan (Span.mk ByteArray.empty 0 0)]), (c1, .cells 3 [encSpan (Span.mk ByteArray.empty 0 0)]), (c_before, .cells 3 (winL encSpan pre_before before post_before))] := fun c133 => wpS_of hW (by refine wpS_step (rs := [11]) (by kernel_rfl) rfl ⟨?_, trivial⟩; refine wpS_op (i := 11) (li' := (lv 14 8191)) rfl rfl rfl rfl (by kernel_rfl) (OpA.buildO (zs := [.v (.string ⟨#[]⟩), .v (.int .i64 0), .v (.int .i64 0)]) rfl tp33 tz33 (fun _ _ => (.cons (.v _) (.cons (.v _) (.cons (.v _) .nil)))) (.cons (.of (sz := 1) rfl) (.cons (.of (sz := 1) rfl) (.cons (.of (sz := 1) rfl) .nil))) rfl ?_); exact wpS_to hW (s1 c133) (Cov.asg ⟨rfl, rfl, rfl, rfl, rfl, trivial⟩) (.refl _))
 have s4 : W 3 (lv 14 2047) (asg [(1, .own c_before 3 pre_before.length before.length), (4, .ptr c1 3 0 0), (5, D.i 0), (16, D.s (gi (splitF line (⟨#[32]⟩ : ByteArray)) 0)), (20, D.i (numF (gi (splitF line (⟨#[32]⟩ : ByteArray)) 1))), (24, D.i (numF (gi (splitF line (⟨#[32]⟩ : ByteArray)) 2)))]) [(c1, .cells 3 [encSpan (Span.mk ByteArray.empty 0 0)]), (c_before, .cells 3 (winL encSpan pre_before before post_before))] := wpS_of hW (by refine wpS_step (rs := [11, 12]) (by kernel_rfl) rfl ⟨?_, ?_, trivial⟩; refine wpS_op (i := 11) (li' := (lv 14 4095)) rfl rfl rfl rfl (by kernel_rfl) (OpA.buildO (zs := [.v (.string ⟨#[]⟩), .v (.int .i64 0), .v (.int .i64 0)]) rfl tp33 tz33 (fun _ _ => (.cons (.v _) (.cons (.v _) (.cons (.v _) .nil)))) (.cons (.of (sz := 1) rfl) (.cons (.of (sz := 1) rfl) (.cons (.of (sz := 1) rfl) .nil))) rfl ?_); exact wpS_to hW (s2) (Cov.asg ⟨rfl, rfl, rfl, rfl, trivial⟩) (.refl _); refine wpS_op (i := 12) (li' := (lv 14 6143)) rfl rfl rfl rfl (by kernel_rfl) (OpA.alloc (sz := 3) (d := encSpan (Span.mk ByteArray.empty 0 0)) rfl tz33 (fun _ _ => .agg (.cons (.v _) (.cons (.v _) (.cons (.v _) .nil)))) (.of rfl) (fun c133 _ => ?_)); exact wpS_to hW (s3 c133) (Cov.asg ⟨rfl, rfl, rfl, rfl, rfl, rfl, rfl, trivial⟩) (.refl _))
 have s5 : ∀ (c133 : Nat), W 3 (lv 14 5119) (asg [(1, .own c_before 3 pre_before.length before.length), (4, .ptr c1 3 0 0), (5, D.i 0), (7, .ptr c133 3 0 0), (16, D.s (gi (splitF line (⟨#[32]⟩ : ByteArray)) 0)), (20, D.i (numF (gi (splitF line (⟨#[32]⟩ : ByteArray)) 1))), (23, D.s (gi (splitF line (⟨#[32]⟩ : ByteArray)) 2))]) [(c133, .cells 3 [encSpan (Span.mk ByteArray.empty 0 0)]), (c1, .cells 3 [encSpan (Span.mk ByteArray.empty 0 0)]), (c_before, .cells 3 (winL encSpan pre_before before post_before))] := fun c133 => wpS_of hW (by refine wpS_step (rs := [10]) (by kernel_rfl) rfl ⟨?_, trivial⟩; refine wpS_op (i := 10) (li' := (lv 14 6143)) rfl rfl rfl rfl (by kernel_rfl) (OpA.call rfl rfl rfl en43 (num_c (gi (splitF line (⟨#[32]⟩ : ByteArray)) 2) q10_0) ?_); rintro _ rfl; exact wpS_to hW (s3 c133) (Cov.asg ⟨rfl, rfl, rfl, rfl, rfl, rfl, rfl, trivial⟩) (.refl _))
 have s6 : ∀ (c133 : Nat), W 3 (lv 14 6139) (asg [(1, .own c_before 3 pre_before.length before.length), (4, .ptr c1 3 0 0), (5, D.i 0), (7, .ptr c133 3 0 0), (15, .iptr (D.s (gi (splitF line (⟨#[32]⟩ : ByteArray)) 0)) 0), (20, D.i (numF (gi (splitF line (⟨#[32]⟩ : ByteArray)) 1))), (24, D.i (numF (gi (splitF line (⟨#[32]⟩ : ByteArray)) 2)))]) [(c133, .cells 3 [encSpan (Span.mk ByteArray.empty 0 0)]), (c1, .cells 3 [encSpan (Span.mk ByteArray.empty 0 0)]), (c_before, .cells 3 (winL encSpan pre_before before post_before))] := fun c133 => wpS_of hW (by refine wpS_step (rs := [2]) (by kernel_rfl) rfl ⟨?_, trivial⟩; refine wpS_op (i := 2) (li' := (lv 14 6143)) rfl rfl rfl rfl (by kernel_rfl) (OpA.iload rfl ti9 rfl rfl ?_); exact wpS_to hW (s3 c133) (Cov.asg ⟨rfl, rfl, rfl, rfl, rfl, rfl, rfl, trivial⟩) (.refl _))
 have s7 : W 4 (lv 14 1023) (asg [(1, .own c_before 3 pre_before.length before.length), (4, .ptr c1 3 0 0), (5, D.i 0), (16, D.s (gi (splitF line (⟨#[32]⟩ : ByteArray)) 0)), (20, D.i (numF (gi (splitF line (⟨#[32]⟩ : ByteArray)) 1))), (23, D.s (gi (splitF line (⟨#[32]⟩ : ByteArray)) 2))]) [(c1, .cells 3 [encSpan (Span.mk ByteArray.empty 0 0)]), (c_before, .cells 3 (winL encSpan pre_before before post_before))] := wpS_of hW (by refine wpS_step (rs := [10, 12]) (by kernel_rfl) rfl ⟨?_, ?_, trivial⟩; refine wpS_op (i := 10) (li' := (lv 14 2047)) rfl rfl rfl rfl (by kernel_rfl) (OpA.call rfl rfl rfl en43 (num_c (gi (splitF line (⟨#[32]⟩ : ByteArray)) 2) q10_0) ?_); rintro _ rfl; exact wpS_to hW (s4) (Cov.asg ⟨rfl, rfl, rfl, rfl, rfl, rfl, trivial⟩) (.refl _); refine wpS_op (i := 12) (li' := (lv 14 5119)) rfl rfl rfl rfl (by kernel_rfl) (OpA.alloc (sz := 3) (d := encSpan (Span.mk ByteArray.empty 0 0)) rfl tz33 (fun _ _ => .agg (.cons (.v _) (.cons (.v _) (.cons (.v _) .nil)))) (.of rfl) (fun c133 _ => ?_)); exact wpS_to hW (s5 c133) (Cov.asg ⟨rfl, rfl, rfl, rfl, rfl, rfl, rfl, trivial⟩) (.refl _))
 have s8 : ∀ (c133 : Nat), W 4 (lv 14 4607) (asg [(1, .own c_before 3 pre_before.length before.length), (4, .ptr c1 3 0 0), (5, D.i 0), (7, .ptr c133 3 0 0), (16, D.s (gi (splitF line (⟨#[32]⟩ : ByteArray)) 0)), (20, D.i (numF (gi (splitF line (⟨#[32]⟩ : ByteArray)) 1))), (22, .iptr (D.s (gi (splitF line (⟨#[32]⟩ : ByteArray)) 2)) 0)]) [(c133, .cells 3 [encSpan (Span.mk ByteArray.empty 0 0)]), (c1, .cells 3 [encSpan (Span.mk ByteArray.empty 0 0)]), (c_before, .cells 3 (winL encSpan pre_before before post_before))] := fun c133 => wpS_of hW (by refine wpS_step (rs := [9]) (by kernel_rfl) rfl ⟨?_, trivial⟩; refine wpS_op (i := 9) (li' := (lv 14 5119)) rfl rfl rfl rfl (by kernel_rfl) (OpA.iload rfl ti9 rfl rfl ?_); exact wpS_to hW (s5 c133) (Cov.asg ⟨rfl, rfl, rfl, rfl, rfl, rfl, rfl, trivial⟩) (.refl _))
 have s9 : ∀ (c133 : Nat), W 4 (lv 14 5055) (asg [(1, .own c_before 3 pre_before.length before.length), (4, .ptr c1 3 0 0), (5, D.i 0), (7, .ptr c133 3 0 0), (16, D.s (gi (splitF line (⟨#[32]⟩ : ByteArray)) 0)), (19, D.s (gi (splitF line (⟨#[32]⟩ : ByteArray)) 1)), (23, D.s (gi (splitF line (⟨#[32]⟩ : ByteArray)) 2))]) [(c133, .cells 3 [encSpan (Span.mk ByteArray.empty 0 0)]), (c1, .cells 3 [encSpan (Span.mk ByteArray.empty 0 0)]), (c_before, .cells 3 (winL encSpan pre_before before post_before))] := fun c133 => wpS_of hW (by refine wpS_step (rs := [6]) (by kernel_rfl) rfl ⟨?_, trivial⟩; refine wpS_op (i := 6) (li' := (lv 14 5119)) rfl rfl rfl rfl (by kernel_rfl) (OpA.call rfl rfl rfl en43 (num_c (gi (splitF line (⟨#[32]⟩ : ByteArray)) 1) q6_0) ?_); rintro _ rfl; exact wpS_to hW (s5 c133) (Cov.asg ⟨rfl, rfl, rfl, rfl, rfl, rfl, rfl, trivial⟩) (.refl _))
 have s10 : W 4 (lv 14 2043) (asg [(1, .own c_before 3 pre_before.length before.length), (4, .ptr c1 3 0 0), (5, D.i 0), (15, .iptr (D.s (gi (splitF line (⟨#[32]⟩ : ByteArray)) 0)) 0), (20, D.i (numF (gi (splitF line (⟨#[32]⟩ : ByteArray)) 1))), (24, D.i (numF (gi (splitF line (⟨#[32]⟩ : ByteArray)) 2)))]) [(c1, .cells 3 [encSpan (Span.mk ByteArray.empty 0 0)]), (c_before, .cells 3 (winL encSpan pre_before before post_before))] := wpS_of hW (by refine wpS_step (rs := [2, 12]) (by kernel_rfl) rfl ⟨?_, ?_, trivial⟩; refine wpS_op (i := 2) (li' := (lv 14 2047)) rfl rfl rfl rfl (by kernel_rfl) (OpA.iload rfl ti9 rfl rfl ?_); exact wpS_to hW (s4) (Cov.asg ⟨rfl, rfl, rfl, rfl, rfl, rfl, trivial⟩) (.refl _); refine wpS_op (i := 12) (li' := (lv 14 6139)) rfl rfl rfl rfl (by kernel_rfl) (OpA.alloc (sz := 3) (d := encSpan (Span.mk ByteArray.empty 0 0)) rfl tz33 (fun _ _ => .agg (.cons (.v _) (.cons (.v _) (.cons (.v _) .nil)))) (.of rfl) (fun c133 _ => ?_)); exact wpS_to hW (s6 c133) (Cov.asg ⟨rfl, rfl, rfl, rfl, rfl, rfl, rfl, trivial⟩) (.refl _))
 have s11 : ∀ (c133 : Nat), W 4 (lv 14 5115) (asg [(1, .own c_before 3 pre_before.length before.length), (4, .ptr c1 3 0 0), (5, D.i 0), (7, .ptr c133 3 0 0), (15, .iptr (D.s (gi (splitF line (⟨#[32]⟩ : ByteArray)) 0)) 0), (20, D.i (numF (gi (splitF line (⟨#[32]⟩ : ByteArray)) 1))), (23, D.s (gi (splitF line (⟨#[32]⟩ : ByteArray)) 2))]) [(c133, .cells 3 [encSpan (Span.mk ByteArray.empty 0 0)]), (c1, .cells 3 [encSpan (Span.mk ByteArray.empty 0 0)]), (c_before, .cells 3 (winL encSpan pre_before before post_before))] := fun c133 => wpS_of hW (by refine wpS_step (rs := [2, 10]) (by kernel_rfl) rfl ⟨?_, ?_, trivial⟩; refine wpS_op (i := 2) (li' := (lv 14 5119)) rfl rfl rfl rfl (by kernel_rfl) (OpA.iload rfl ti9 rfl rfl ?_); exact wpS_to hW (s5 c133) (Cov.asg ⟨rfl, rfl, rfl, rfl, rfl, rfl, rfl, trivial⟩) (.refl _); refine wpS_op (i := 10) (li' := (lv 14 6139)) rfl rfl rfl rfl (by kernel_rfl) (OpA.call rfl rfl rfl en43 (num_c (gi (splitF line (⟨#[32]⟩ : ByteArray)) 2) q10_0) ?_); rintro _ rfl; exact wpS_to hW (s6 c133) (Cov.asg ⟨rfl, rfl, rfl, rfl, rfl, rfl, rfl, trivial⟩) (.refl _))
 have s12 : W 5 (lv 14 511) (asg [(1, .own c_before 3 pre_before.length before.length), (4, .ptr c1 3 0 0), (5, D.i 0), (16, D.s (gi (splitF line (⟨#[32]⟩ : ByteArray)) 0)), (20, D.i (numF (gi (splitF line (⟨#[32]⟩ : ByteArray)) 1))), (22, .iptr (D.s (gi (splitF line (⟨#[32]⟩ : ByteArray)) 2)) 0)]) [(c1, .cells 3 [encSpan (Span.mk ByteArray.empty 0 0)]), (c_before, .cells 3 (winL encSpan pre_before before post_before))] := wpS_of hW (by refine wpS_step (rs := [9, 12]) (by kernel_rfl) rfl ⟨?_, ?_, trivial⟩; refine wpS_op (i := 9) (li' := (lv 14 1023)) rfl rfl rfl rfl (by kernel_rfl) (OpA.iload rfl ti9 rfl rfl ?_); exact wpS_to hW (s7) (Cov.asg ⟨rfl, rfl, rfl, rfl, rfl, rfl, trivial⟩) (.refl _); refine wpS_op (i := 12) (li' := (lv 14 4607)) rfl rfl rfl rfl (by kernel_rfl) (OpA.alloc (sz := 3) (d := encSpan (Span.mk ByteArray.empty 0 0)) rfl tz33 (fun _ _ => .agg (.cons (.v _) (.cons (.v _) (.cons (.v _) .nil)))) (.of rfl) (fun c133 _ => ?_)); exact wpS_to hW (s8 c133) (Cov.asg ⟨rfl, rfl, rfl, rfl, rfl, rfl, rfl, trivial⟩) (.refl _))
 have s13 : W 5 (lv 14 959) (asg [(1, .own c_before 3 pre_before.length before.length), (4, .ptr c1 3 0 0), (5, D.i 0), (16, D.s (gi (splitF line (⟨#[32]⟩ : ByteArray)) 0)), (19, D.s (gi (splitF line (⟨#[32]⟩ : ByteArray)) 1)), (23, D.s (gi (splitF line (⟨#[32]⟩ : ByteArray)) 2))]) [(c1, .cells 3 [encSpan (Span.mk ByteArray.empty 0 0)]), (c_before, .cells 3 (winL encSpan pre_before before post_before))] := wpS_of hW (by refine wpS_step (rs := [6, 12]) (by kernel_rfl) rfl ⟨?_, ?_, trivial⟩; refine wpS_op (i := 6) (li' := (lv 14 1023)) rfl rfl rfl rfl (by kernel_rfl) (OpA.call rfl rfl rfl en43 (num_c (gi (splitF line (⟨#[32]⟩ : ByteArray)) 1) q6_0) ?_); rintro _ rfl; exact wpS_to hW (s7) (Cov.asg ⟨rfl, rfl, rfl, rfl, rfl, rfl, trivial⟩) (.refl _); refine wpS_op (i := 12) (li' := (lv 14 5055)) rfl rfl rfl rfl (by kernel_rfl) (OpA.alloc (sz := 3) (d := encSpan (Span.mk ByteArray.empty 0 0)) rfl tz33 (fun _ _ => .agg (.cons (.v _) (.cons (.v _) (.cons (.v _) .nil)))) (.of rfl) (fun c133 _ => ?_)); exact wpS_to hW (s9 c133) (Cov.asg ⟨rfl, rfl, rfl, rfl, rfl, rfl, rfl, trivial⟩) (.refl _))
 have s14 : ∀ (c133 : Nat), W 5 (lv 14 4543) (asg [(1, .own c_before 3 pre_before.length before.length), (4, .ptr c1 3 0 0), (5, D.i 0), (7, .ptr c133 3 0 0), (16, D.s (gi (splitF line (⟨#[32]⟩ : ByteArray)) 0)), (19, D.s (gi (splitF line (⟨#[32]⟩ : ByteArray)) 1)), (22, .iptr (D.s (gi (splitF line (⟨#[32]⟩ : ByteArray)) 2)) 0)]) [(c133, .cells 3 [encSpan (Span.mk ByteArray.empty 0 0)]), (c1, .cells 3 [encSpan (Span.mk ByteArray.empty 0 0)]), (c_before, .cells 3 (winL encSpan pre_before before post_before))] := fun c133 => wpS_of hW (by refine wpS_step (rs := [6, 9]) (by kernel_rfl) rfl ⟨?_, ?_, trivial⟩; refine wpS_op (i := 6) (li' := (lv 14 4607)) rfl rfl rfl rfl (by kernel_rfl) (OpA.call rfl rfl rfl en43 (num_c (gi (splitF line (⟨#[32]⟩ : ByteArray)) 1) q6_0) ?_); rintro _ rfl; exact wpS_to hW (s8 c133) (Cov.asg ⟨rfl, rfl, rfl, rfl, rfl, rfl, rfl, trivial⟩) (.refl _); refine wpS_op (i := 9) (li' := (lv 14 5055)) rfl rfl rfl rfl (by kernel_rfl) (OpA.iload rfl ti9 rfl rfl ?_); exact wpS_to hW (s9 c133) (Cov.asg ⟨rfl, rfl, rfl, rfl, rfl, rfl, rfl, trivial⟩) (.refl _))
 have s15 : ∀ (c133 : Nat), W 5 (lv 14 5023) (asg [(1, .own c_before 3 pre_before.length before.length), (4, .ptr c1 3 0 0), (5, D.i 0), (7, .ptr c133 3 0 0), (16, D.s (gi (splitF line (⟨#[32]⟩ : ByteArray)) 0)), (18, .iptr (D.s (gi (splitF line (⟨#[32]⟩ : ByteArray)) 1)) 0), (23, D.s (gi (splitF line (⟨#[32]⟩ : ByteArray)) 2))]) [(c133, .cells 3 [encSpan (Span.mk ByteArray.empty 0 0)]), (c1, .cells 3 [encSpan (Span.mk ByteArray.empty 0 0)]), (c_before, .cells 3 (winL encSpan pre_before before post_before))] := fun c133 => wpS_of hW (by refine wpS_step (rs := [5]) (by kernel_rfl) rfl ⟨?_, trivial⟩; refine wpS_op (i := 5) (li' := (lv 14 5055)) rfl rfl rfl rfl (by kernel_rfl) (OpA.iload rfl ti9 rfl rfl ?_); exact wpS_to hW (s9 c133) (Cov.asg ⟨rfl, rfl, rfl, rfl, rfl, rfl, rfl, trivial⟩) (.refl _))
 have s16 : W 5 (lv 14 1019) (asg [(1, .own c_before 3 pre_before.length before.length), (4, .ptr c1 3 0 0), (5, D.i 0), (15, .iptr (D.s (gi (splitF line (⟨#[32]⟩ : ByteArray)) 0)) 0), (20, D.i (numF (gi (splitF line (⟨#[32]⟩ : ByteArray)) 1))), (23, D.s (gi (splitF line (⟨#[32]⟩ : ByteArray)) 2))]) [(c1, .cells 3 [encSpan (Span.mk ByteArray.empty 0 0)]), (c_before, .cells 3 (winL encSpan pre_before before post_before))] := wpS_of hW (by refine wpS_step (rs := [2, 10, 12]) (by kernel_rfl) rfl ⟨?_, ?_, ?_, trivial⟩; refine wpS_op (i := 2) (li' := (lv 14 1023)) rfl rfl rfl rfl (by kernel_rfl) (OpA.iload rfl ti9 rfl rfl ?_); exact wpS_to hW (s7) (Cov.asg ⟨rfl, rfl, rfl, rfl, rfl, rfl, trivial⟩) (.refl _); refine wpS_op (i := 10) (li' := (lv 14 2043)) rfl rfl rfl rfl (by kernel_rfl) (OpA.call rfl rfl rfl en43 (num_c (gi (splitF line (⟨#[32]⟩ : ByteArray)) 2) q10_0) ?_); rintro _ rfl; exact wpS_to hW (s10) (Cov.asg ⟨rfl, rfl, rfl, rfl, rfl, rfl, trivial⟩) (.refl _); refine wpS_op (i := 12) (li' := (lv 14 5115)) rfl rfl rfl rfl (by kernel_rfl) (OpA.alloc (sz := 3) (d := encSpan (Span.mk ByteArray.empty 0 0)) rfl tz33 (fun _ _ => .agg (.cons (.v _) (.cons (.v _) (.cons (.v _) .nil)))) (.of rfl) (fun c133 _ => ?_)); exact wpS_to hW (s11 c133) (Cov.asg ⟨rfl, rfl, rfl, rfl, rfl, rfl, rfl, trivial⟩) (.refl _))
 have s17 : ∀ (c133 : Nat), W 5 (lv 14 4603) (asg [(1, .own c_before 3 pre_before.length before.length), (4, .ptr c1 3 0 0), (5, D.i 0), (7, .ptr c133 3 0 0), (15, .iptr (D.s (gi (splitF line (⟨#[32]⟩ : ByteArray)) 0)) 0), (20, D.i (numF (gi (splitF line (⟨#[32]⟩ : ByteArray)) 1))), (22, .iptr (D.s (gi (splitF line (⟨#[32]⟩ : ByteArray)) 2)) 0)]) [(c133, .cells 3 [encSpan (Span.mk ByteArray.empty 0 0)]), (c1, .cells 3 [encSpan (Span.mk ByteArray.empty 0 0)]), (c_before, .cells 3 (winL encSpan pre_before before post_before))] := fun c133 => wpS_of hW (by refine wpS_step (rs := [2, 9]) (by kernel_rfl) rfl ⟨?_, ?_, trivial⟩; refine wpS_op (i := 2) (li' := (lv 14 4607)) rfl rfl rfl rfl (by kernel_rfl) (OpA.iload rfl ti9 rfl rfl ?_); exact wpS_to hW (s8 c133) (Cov.asg ⟨rfl, rfl, rfl, rfl, rfl, rfl, rfl, trivial⟩) (.refl _); refine wpS_op (i := 9) (li' := (lv 14 5115)) rfl rfl rfl rfl (by kernel_rfl) (OpA.iload rfl ti9 rfl rfl ?_); exact wpS_to hW (s11 c133) (Cov.asg ⟨rfl, rfl, rfl, rfl, rfl, rfl, rfl, trivial⟩) (.refl _))
 have s18 : ∀ (c133 : Nat), W 5 (lv 14 5051) (asg [(1, .own c_before 3 pre_before.length before.length), (4, .ptr c1 3 0 0), (5, D.i 0), (7, .ptr c133 3 0 0), (15, .iptr (D.s (gi (splitF line (⟨#[32]⟩ : ByteArray)) 0)) 0), (19, D.s (gi (splitF line (⟨#[32]⟩ : ByteArray)) 1)), (23, D.s (gi (splitF line (⟨#[32]⟩ : ByteArray)) 2))]) [(c133, .cells 3 [encSpan (Span.mk ByteArray.empty 0 0)]), (c1, .cells 3 [encSpan (Span.mk ByteArray.empty 0 0)]), (c_before, .cells 3 (winL encSpan pre_before before post_before))] := fun c133 => wpS_of hW (by refine wpS_step (rs := [2, 6]) (by kernel_rfl) rfl ⟨?_, ?_, trivial⟩; refine wpS_op (i := 2) (li' := (lv 14 5055)) rfl rfl rfl rfl (by kernel_rfl) (OpA.iload rfl ti9 rfl rfl ?_); exact wpS_to hW (s9 c133) (Cov.asg ⟨rfl, rfl, rfl, rfl, rfl, rfl, rfl, trivial⟩) (.refl _); refine wpS_op (i := 6) (li' := (lv 14 5115)) rfl rfl rfl rfl (by kernel_rfl) (OpA.call rfl rfl rfl en43 (num_c (gi (splitF line (⟨#[32]⟩ : ByteArray)) 1) q6_0) ?_); rintro _ rfl; exact wpS_to hW (s11 c133) (Cov.asg ⟨rfl, rfl, rfl, rfl, rfl, rfl, rfl, trivial⟩) (.refl _))
 have s19 : W 6 (lv 14 447) (asg [(1, .own c_before 3 pre_before.length before.length), (4, .ptr c1 3 0 0), (5, D.i 0), (16, D.s (gi (splitF line (⟨#[32]⟩ : ByteArray)) 0)), (19, D.s (gi (splitF line (⟨#[32]⟩ : ByteArray)) 1)), (22, .iptr (D.s (gi (splitF line (⟨#[32]⟩ : ByteArray)) 2)) 0)]) [(c1, .cells 3 [encSpan (Span.mk ByteArray.empty 0 0)]), (c_before, .cells 3 (winL encSpan pre_before before post_before))] := wpS_of hW (by refine wpS_step (rs := [6, 9, 12]) (by kernel_rfl) rfl ⟨?_, ?_, ?_, trivial⟩; refine wpS_op (i := 6) (li' := (lv 14 511)) rfl rfl rfl rfl (by kernel_rfl) (OpA.call rfl rfl rfl en43 (num_c (gi (splitF line (⟨#[32]⟩ : ByteArray)) 1) q6_0) ?_); rintro _ rfl; exact wpS_to hW (s12) (Cov.asg ⟨rfl, rfl, rfl, rfl, rfl, rfl, trivial⟩) (.refl _); refine wpS_op (i := 9) (li' := (lv 14 959)) rfl rfl rfl rfl (by kernel_rfl) (OpA.iload rfl ti9 rfl rfl ?_); exact wpS_to hW (s13) (Cov.asg ⟨rfl, rfl, rfl, rfl, rfl, rfl, trivial⟩) (.refl _); refine wpS_op (i := 12) (li' := (lv 14 4543)) rfl rfl rfl rfl (by kernel_rfl) (OpA.alloc (sz := 3) (d := encSpan (Span.mk ByteArray.empty 0 0)) rfl tz33 (fun _ _ => .agg (.cons (.v _) (.cons (.v _) (.cons (.v _) .nil)))) (.of rfl) (fun c133 _ => ?_)); exact wpS_to hW (s14 c133) (Cov.asg ⟨rfl, rfl, rfl, rfl, rfl, rfl, rfl, trivial⟩) (.refl _))
 have s20 : W 6 (lv 14 927) (asg [(1, .own c_before 3 pre_before.length before.length), (4, .ptr c1 3 0 0), (5, D.i 0), (16, D.s (gi (splitF line (⟨#[32]⟩ : ByteArray)) 0)), (18, .iptr (D.s (gi (splitF line (⟨#[32]⟩ : ByteArray)) 1)) 0), (23, D.s (gi (splitF line (⟨#[32]⟩ : ByteArray)) 2))]) [(c1, .cells 3 [encSpan (Span.mk ByteArray.empty 0 0)]), (c_before, .cells 3 (winL encSpan pre_before before post_before))] := wpS_of hW (by refine wpS_step (rs := [5, 12]) (by kernel_rfl) rfl ⟨?_, ?_, trivial⟩; refine wpS_op (i := 5) (li' := (lv 14 959)) rfl rfl rfl rfl (by kernel_rfl) (OpA.iload rfl ti9 rfl rfl ?_); exact wpS_to hW (s13) (Cov.asg ⟨rfl, rfl, rfl, rfl, rfl, rfl, trivial⟩) (.refl _); refine wpS_op (i := 12) (li' := (lv 14 5023)) rfl rfl rfl rfl (by kernel_rfl) (OpA.alloc (sz := 3) (d := encSpan (Span.mk ByteArray.empty 0 0)) rfl tz33 (fun _ _ => .agg (.cons (.v _) (.cons (.v _) (.cons (.v _) .nil)))) (.of rfl) (fun c133 _ => ?_)); exact wpS_to hW (s15 c133) (Cov.asg ⟨rfl, rfl, rfl, rfl, rfl, rfl, rfl, trivial⟩) (.refl _))
 have s21 : ∀ (c133 : Nat), W 6 (lv 14 4511) (asg [(1, .own c_before 3 pre_before.length before.length), (4, .ptr c1 3 0 0), (5, D.i 0), (7, .ptr c133 3 0 0), (16, D.s (gi (splitF line (⟨#[32]⟩ : ByteArray)) 0)), (18, .iptr (D.s (gi (splitF line (⟨#[32]⟩ : ByteArray)) 1)) 0), (22, .iptr (D.s (gi (splitF line (⟨#[32]⟩ : ByteArray)) 2)) 0)]) [(c133, .cells 3 [encSpan (Span.mk ByteArray.empty 0 0)]), (c1, .cells 3 [encSpan (Span.mk ByteArray.empty 0 0)]), (c_before, .cells 3 (winL encSpan pre_before before post_before))] := fun c133 => wpS_of hW (by refine wpS_step (rs := [5, 9]) (by kernel_rfl) rfl ⟨?_, ?_, trivial⟩; refine wpS_op (i := 5) (li' := (lv 14 4543)) rfl rfl rfl rfl (by kernel_rfl) (OpA.iload rfl ti9 rfl rfl ?_); exact wpS_to hW (s14 c133) (Cov.asg ⟨rfl, rfl, rfl, rfl, rfl, rfl, rfl, trivial⟩) (.refl _); refine wpS_op (i := 9) (li' := (lv 14 5023)) rfl rfl rfl rfl (by kernel_rfl) (OpA.iload rfl ti9 rfl rfl ?_); exact wpS_to hW (s15 c133) (Cov.asg ⟨rfl, rfl, rfl, rfl, rfl, rfl, rfl, trivial⟩) (.refl _))
 have s22 : W 6 (lv 14 507) (asg [(1, .own c_before 3 pre_before.length before.length), (4, .ptr c1 3 0 0), (5, D.i 0), (15, .iptr (D.s (gi (splitF line (⟨#[32]⟩ : ByteArray)) 0)) 0), (20, D.i (numF (gi (splitF line (⟨#[32]⟩ : ByteArray)) 1))), (22, .iptr (D.s (gi (splitF line (⟨#[32]⟩ : ByteArray)) 2)) 0)]) [(c1, .cells 3 [encSpan (Span.mk ByteArray.empty 0 0)]), (c_before, .cells 3 (winL encSpan pre_before before post_before))] := wpS_of hW (by refine wpS_step (rs := [2, 9, 12]) (by kernel_rfl) rfl ⟨?_, ?_, ?_, trivial⟩; refine wpS_op (i := 2) (li' := (lv 14 511)) rfl rfl rfl rfl (by kernel_rfl) (OpA.iload rfl ti9 rfl rfl ?_); exact wpS_to hW (s12) (Cov.asg ⟨rfl, rfl, rfl, rfl, rfl, rfl, trivial⟩) (.refl _); refine wpS_op (i := 9) (li' := (lv 14 1019)) rfl rfl rfl rfl (by kernel_rfl) (OpA.iload rfl ti9 rfl rfl ?_); exact wpS_to hW (s16) (Cov.asg ⟨rfl, rfl, rfl, rfl, rfl, rfl, trivial⟩) (.refl _); refine wpS_op (i := 12) (li' := (lv 14 4603)) rfl rfl rfl rfl (by kernel_rfl) (OpA.alloc (sz := 3) (d := encSpan (Span.mk ByteArray.empty 0 0)) rfl tz33 (fun _ _ => .agg (.cons (.v _) (.cons (.v _) (.cons (.v _) .nil)))) (.of rfl) (fun c133 _ => ?_)); exact wpS_to hW (s17 c133) (Cov.asg ⟨rfl, rfl, rfl, rfl, rfl, rfl, rfl, trivial⟩) (.refl _))
 have s23 : W 6 (lv 14 955) (asg [(1, .own c_before 3 pre_before.length before.length), (4, .ptr c1 3 0 0), (5, D.i 0), (15, .iptr (D.s (gi (splitF line (⟨#[32]⟩ : ByteArray)) 0)) 0), (19, D.s (gi (splitF line (⟨#[32]⟩ : ByteArray)) 1)), (23, D.s (gi (splitF line (⟨#[32]⟩ : ByteArray)) 2))]) [(c1, .cells 3 [encSpan (Span.mk ByteArray.empty 0 0)]), (c_before, .cells 3 (winL encSpan pre_before before post_before))] := wpS_of hW (by refine wpS_step (rs := [2, 6, 12]) (by kernel_rfl) rfl ⟨?_, ?_, ?_, trivial⟩; refine wpS_op (i := 2) (li' := (lv 14 959)) rfl rfl rfl rfl (by kernel_rfl) (OpA.iload rfl ti9 rfl rfl ?_); exact wpS_to hW (s13) (Cov.asg ⟨rfl, rfl, rfl, rfl, rfl, rfl, trivial⟩) (.refl _); refine wpS_op (i := 6) (li' := (lv 14 1019)) rfl rfl rfl rfl (by kernel_rfl) (OpA.call rfl rfl rfl en43 (num_c (gi (splitF line (⟨#[32]⟩ : ByteArray)) 1) q6_0) ?_); rintro _ rfl; exact wpS_to hW (s16) (Cov.asg ⟨rfl, rfl, rfl, rfl, rfl, rfl, trivial⟩) (.refl _); refine wpS_op (i := 12) (li' := (lv 14 5051)) rfl rfl rfl rfl (by kernel_rfl) (OpA.alloc (sz := 3) (d := encSpan (Span.mk ByteArray.empty 0 0)) rfl tz33 (fun _ _ => .agg (.cons (.v _) (.cons (.v _) (.cons (.v _) .nil)))) (.of rfl) (fun c133 _ => ?_)); exact wpS_to hW (s18 c133) (Cov.asg ⟨rfl, rfl, rfl, rfl, rfl, rfl, rfl, trivial⟩) (.refl _))
 have s24 : ∀ (c133 : Nat), W 6 (lv 14 4539) (asg [(1, .own c_before 3 pre_before.length before.length), (4, .ptr c1 3 0 0), (5, D.i 0), (7, .ptr c133 3 0 0), (15, .iptr (D.s (gi (splitF line (⟨#[32]⟩ : ByteArray)) 0)) 0), (19, D.s (gi (splitF line (⟨#[32]⟩ : ByteArray)) 1)), (22, .iptr (D.s (gi (splitF line (⟨#[32]⟩ : ByteArray)) 2)) 0)]) [(c133, .cells 3 [encSpan (Span.mk ByteArray.empty 0 0)]), (c1, .cells 3 [encSpan (Span.mk ByteArray.empty 0 0)]), (c_before, .cells 3 (winL encSpan pre_before before post_before))] := fun c133 => wpS_of hW (by refine wpS_step (rs := [2, 6, 9]) (by kernel_rfl) rfl ⟨?_, ?_, ?_, trivial⟩; refine wpS_op (i := 2) (li' := (lv 14 4543)) rfl rfl rfl rfl (by kernel_rfl) (OpA.iload rfl ti9 rfl rfl ?_); exact wpS_to hW (s14 c133) (Cov.asg ⟨rfl, rfl, rfl, rfl, rfl, rfl, rfl, trivial⟩) (.refl _); refine wpS_op (i := 6) (li' := (lv 14 4603)) rfl rfl rfl rfl (by kernel_rfl) (OpA.call rfl rfl rfl en43 (num_c (gi (splitF line (⟨#[32]⟩ : ByteArray)) 1) q6_0) ?_); rintro _ rfl; exact wpS_to hW (s17 c133) (Cov.asg ⟨rfl, rfl, rfl, rfl, rfl, rfl, rfl, trivial⟩) (.refl _); refine wpS_op (i := 9) (li' := (lv 14 5051)) rfl rfl rfl rfl (by kernel_rfl) (OpA.iload rfl ti9 rfl rfl ?_); exact wpS_to hW (s18 c133) (Cov.asg ⟨rfl, rfl, rfl, rfl, rfl, rfl, rfl, trivial⟩) (.refl _))
 have s25 : ∀ (c133 : Nat), W 6 (lv 14 5019) (asg [(1, .own c_before 3 pre_before.length before.length), (4, .ptr c1 3 0 0), (5, D.i 0), (7, .ptr c133 3 0 0), (15, .iptr (D.s (gi (splitF line (⟨#[32]⟩ : ByteArray)) 0)) 0), (18, .iptr (D.s (gi (splitF line (⟨#[32]⟩ : ByteArray)) 1)) 0), (23, D.s (gi (splitF line (⟨#[32]⟩ : ByteArray)) 2))]) [(c133, .cells 3 [encSpan (Span.mk ByteArray.empty 0 0)]), (c1, .cells 3 [encSpan (Span.mk ByteArray.empty 0 0)]), (c_before, .cells 3 (winL encSpan pre_before before post_before))] := fun c133 => wpS_of hW (by refine wpS_step (rs := [2, 5]) (by kernel_rfl) rfl ⟨?_, ?_, trivial⟩; refine wpS_op (i := 2) (li' := (lv 14 5023)) rfl rfl rfl rfl (by kernel_rfl) (OpA.iload rfl ti9 rfl rfl ?_); exact wpS_to hW (s15 c133) (Cov.asg ⟨rfl, rfl, rfl, rfl, rfl, rfl, rfl, trivial⟩) (.refl _); refine wpS_op (i := 5) (li' := (lv 14 5051)) rfl rfl rfl rfl (by kernel_rfl) (OpA.iload rfl ti9 rfl rfl ?_); exact wpS_to hW (s18 c133) (Cov.asg ⟨rfl, rfl, rfl, rfl, rfl, rfl, rfl, trivial⟩) (.refl _))
 have s26 : W 7 (lv 14 415) (asg [(1, .own c_before 3 pre_before.length before.length), (4, .ptr c1 3 0 0), (5, D.i 0), (16, D.s (gi (splitF line (⟨#[32]⟩ : ByteArray)) 0)), (18, .iptr (D.s (gi (splitF line (⟨#[32]⟩ : ByteArray)) 1)) 0), (22, .iptr (D.s (gi (splitF line (⟨#[32]⟩ : ByteArray)) 2)) 0)]) [(c1, .cells 3 [encSpan (Span.mk ByteArray.empty 0 0)]), (c_before, .cells 3 (winL encSpan pre_before before post_before))] := wpS_of hW (by refine wpS_step (rs := [5, 9, 12]) (by kernel_rfl) rfl ⟨?_, ?_, ?_, trivial⟩; refine wpS_op (i := 5) (li' := (lv 14 447)) rfl rfl rfl rfl (by kernel_rfl) (OpA.iload rfl ti9 rfl rfl ?_); exact wpS_to hW (s19) (Cov.asg ⟨rfl, rfl, rfl, rfl, rfl, rfl, trivial⟩) (.refl _); refine wpS_op (i := 9) (li' := (lv 14 927)) rfl rfl rfl rfl (by kernel_rfl) (OpA.iload rfl ti9 rfl rfl ?_); exact wpS_to hW (s20) (Cov.asg ⟨rfl, rfl, rfl, rfl, rfl, rfl, trivial⟩) (.refl _); refine wpS_op (i := 12) (li' := (lv 14 4511)) rfl rfl rfl rfl (by kernel_rfl) (OpA.alloc (sz := 3) (d := encSpan (Span.mk ByteArray.empty 0 0)) rfl tz33 (fun _ _ => .agg (.cons (.v _) (.cons (.v _) (.cons (.v _) .nil)))) (.of rfl) (fun c133 _ => ?_)); exact wpS_to hW (s21 c133) (Cov.asg ⟨rfl, rfl, rfl, rfl, rfl, rfl, rfl, trivial⟩) (.refl _))
 have s27 : W 7 (lv 14 443) (asg [(1, .own c_before 3 pre_before.length before.length), (4, .ptr c1 3 0 0), (5, D.i 0), (15, .iptr (D.s (gi (splitF line (⟨#[32]⟩ : ByteArray)) 0)) 0), (19, D.s (gi (splitF line (⟨#[32]⟩ : ByteArray)) 1)), (22, .iptr (D.s (gi (splitF line (⟨#[32]⟩ : ByteArray)) 2)) 0)]) [(c1, .cells 3 [encSpan (Span.mk ByteArray.empty 0 0)]), (c_before, .cells 3 (winL encSpan pre_before before post_before))] := wpS_of hW (by refine wpS_step (rs := [2, 6, 9, 12]) (by kernel_rfl) rfl ⟨?_, ?_, ?_, ?_, trivial⟩; refine wpS_op (i := 2) (li' := (lv 14 447)) rfl rfl rfl rfl (by kernel_rfl) (OpA.iload rfl ti9 rfl rfl ?_); exact wpS_to hW (s19) (Cov.asg ⟨rfl, rfl, rfl, rfl, rfl, rfl, trivial⟩) (.refl _); refine wpS_op (i := 6) (li' := (lv 14 507)) rfl rfl rfl rfl (by kernel_rfl) (OpA.call rfl rfl rfl en43 (num_c (gi (splitF line (⟨#[32]⟩ : ByteArray)) 1) q6_0) ?_); rintro _ rfl; exact wpS_to hW (s22) (Cov.asg ⟨rfl, rfl, rfl, rfl, rfl, rfl, trivial⟩) (.refl _); refine wpS_op (i := 9) (li' := (lv 14 955)) rfl rfl rfl rfl (by kernel_rfl) (OpA.iload rfl ti9 rfl rfl ?_); exact wpS_to hW (s23) (Cov.asg ⟨rfl, rfl, rfl, rfl, rfl, rfl, trivial⟩) (.refl _); refine wpS_op (i := 12) (li' := (lv 14 4539)) rfl rfl rfl rfl (by kernel_rfl) (OpA.alloc (sz := 3) (d := encSpan (Span.mk ByteArray.empty 0 0)) rfl tz33 (fun _ _ => .agg (.cons (.v _) (.cons (.v _) (.cons (.v _) .nil)))) (.of rfl) (fun c133 _ => ?_)); exact wpS_to hW (s24 c133) (Cov.asg ⟨rfl, rfl, rfl, rfl, rfl, rfl, rfl, trivial⟩) (.refl _))
 have s28 : W 7 (lv 14 923) (asg [(1, .own c_before 3 pre_before.length before.length), (4, .ptr c1 3 0 0), (5, D.i 0), (15, .iptr (D.s (gi (splitF line (⟨#[32]⟩ : ByteArray)) 0)) 0), (18, .iptr (D.s (gi (splitF line (⟨#[32]⟩ : ByteArray)) 1)) 0), (23, D.s (gi (splitF line (⟨#[32]⟩ : ByteArray)) 2))]) [(c1, .cells 3 [encSpan (Span.mk ByteArray.empty 0 0)]), (c_before, .cells 3 (winL encSpan pre_before before post_before))] := wpS_of hW (by refine wpS_step (rs := [2, 5, 12]) (by kernel_rfl) rfl ⟨?_, ?_, ?_, trivial⟩; refine wpS_op (i := 2) (li' := (lv 14 927)) rfl rfl rfl rfl (by kernel_rfl) (OpA.iload rfl ti9 rfl rfl ?_); exact wpS_to hW (s20) (Cov.asg ⟨rfl, rfl, rfl, rfl, rfl, rfl, trivial⟩) (.refl _); refine wpS_op (i := 5) (li' := (lv 14 955)) rfl rfl rfl rfl (by kernel_rfl) (OpA.iload rfl ti9 rfl rfl ?_); exact wpS_to hW (s23) (Cov.asg ⟨rfl, rfl, rfl, rfl, rfl, rfl, trivial⟩) (.refl _); refine wpS_op (i := 12) (li' := (lv 14 5019)) rfl rfl rfl rfl (by kernel_rfl) (OpA.alloc (sz := 3) (d := encSpan (Span.mk ByteArray.empty 0 0)) rfl tz33 (fun _ _ => .agg (.cons (.v _) (.cons (.v _) (.cons (.v _) .nil)))) (.of rfl) (fun c133 _ => ?_)); exact wpS_to hW (s25 c133) (Cov.asg ⟨rfl, rfl, rfl, rfl, rfl, rfl, rfl, trivial⟩) (.refl _))
 have s29 : ∀ (c133 : Nat), W 7 (lv 14 4507) (asg [(1, .own c_before 3 pre_before.length before.length), (4, .ptr c1 3 0 0), (5, D.i 0), (7, .ptr c133 3 0 0), (15, .iptr (D.s (gi (splitF line (⟨#[32]⟩ : ByteArray)) 0)) 0), (18, .iptr (D.s (gi (splitF line (⟨#[32]⟩ : ByteArray)) 1)) 0), (22, .iptr (D.s (gi (splitF line (⟨#[32]⟩ : ByteArray)) 2)) 0)]) [(c133, .cells 3 [encSpan (Span.mk ByteArray.empty 0 0)]), (c1, .cells 3 [encSpan (Span.mk ByteArray.empty 0 0)]), (c_before, .cells 3 (winL encSpan pre_before before post_before))] := fun c133 => wpS_of hW (by refine wpS_step (rs := [2, 5, 9]) (by kernel_rfl) rfl ⟨?_, ?_, ?_, trivial⟩; refine wpS_op (i := 2) (li' := (lv 14 4511)) rfl rfl rfl rfl (by kernel_rfl) (OpA.iload rfl ti9 rfl rfl ?_); exact wpS_to hW (s21 c133) (Cov.asg ⟨rfl, rfl, rfl, rfl, rfl, rfl, rfl, trivial⟩) (.refl _); refine wpS_op (i := 5) (li' := (lv 14 4539)) rfl rfl rfl rfl (by kernel_rfl) (OpA.iload rfl ti9 rfl rfl ?_); exact wpS_to hW (s24 c133) (Cov.asg ⟨rfl, rfl, rfl, rfl, rfl, rfl, rfl, trivial⟩) (.refl _); refine wpS_op (i := 9) (li' := (lv 14 5019)) rfl rfl rfl rfl (by kernel_rfl) (OpA.iload rfl ti9 rfl rfl ?_); exact wpS_to hW (s25 c133) (Cov.asg ⟨rfl, rfl, rfl, rfl, rfl, rfl, rfl, trivial⟩) (.refl _))
 have s30 : W 8 (lv 14 411) (asg [(1, .own c_before 3 pre_before.length before.length), (4, .ptr c1 3 0 0), (5, D.i 0), (15, .iptr (D.s (gi (splitF line (⟨#[32]⟩ : ByteArray)) 0)) 0), (18, .iptr (D.s (gi (splitF line (⟨#[32]⟩ : ByteArray)) 1)) 0), (22, .iptr (D.s (gi (splitF line (⟨#[32]⟩ : ByteArray)) 2)) 0)]) [(c1, .cells 3 [encSpan (Span.mk ByteArray.empty 0 0)]), (c_before, .cells 3 (winL encSpan pre_before before post_before))] := wpS_of hW (by refine wpS_step (rs := [2, 5, 9, 12]) (by kernel_rfl) rfl ⟨?_, ?_, ?_, ?_, trivial⟩; refine wpS_op (i := 2) (li' := (lv 14 415)) rfl rfl rfl rfl (by kernel_rfl) (OpA.iload rfl ti9 rfl rfl ?_); exact wpS_to hW (s26) (Cov.asg ⟨rfl, rfl, rfl, rfl, rfl, rfl, trivial⟩) (.refl _); refine wpS_op (i := 5) (li' := (lv 14 443)) rfl rfl rfl rfl (by kernel_rfl) (OpA.iload rfl ti9 rfl rfl ?_); exact wpS_to hW (s27) (Cov.asg ⟨rfl, rfl, rfl, rfl, rfl, rfl, trivial⟩) (.refl _); refine wpS_op (i := 9) (li' := (lv 14 923)) rfl rfl rfl rfl (by kernel_rfl) (OpA.iload rfl ti9 rfl rfl ?_); exact wpS_to hW (s28) (Cov.asg ⟨rfl, rfl, rfl, rfl, rfl, rfl, trivial⟩) (.refl _); refine wpS_op (i := 12) (li' := (lv 14 4507)) rfl rfl rfl rfl (by kernel_rfl) (OpA.alloc (sz := 3) (d := encSpan (Span.mk ByteArray.empty 0 0)) rfl tz33 (fun _ _ => .agg (.cons (.v _) (.cons (.v _) (.cons (.v _) .nil)))) (.of rfl) (fun c133 _ => ?_)); exact wpS_to hW (s29 c133) (Cov.asg ⟨rfl, rfl, rfl, rfl, rfl, rfl, rfl, trivial⟩) (.refl _))
 refine wpS_of hW ?_
 refine wpS_firstY (fuel := 13) (i := 0) (li' := (lv 14 1)) rfl rfl (.move rfl) rfl rfl (by kernel_rfl) (by kernel_rfl) (by kernel_rfl) (fun _ _ _ hx => hx) rfl rfl (by kernel_rfl) ?_
 refine wpS_firstY (fuel := 12) (i := 1) (li' := (lv 14 3)) rfl rfl (.iix (enc := D.s) rfl ts60 rfl rfl rfl q1_0) rfl rfl (by kernel_rfl) (by kernel_rfl) (by kernel_rfl) (fun _ _ _ hx => hx) rfl rfl (by kernel_rfl) ?_
 refine wpS_firstY (fuel := 11) (i := 3) (li' := (lv 14 11)) rfl rfl (.move rfl) rfl rfl (by kernel_rfl) (by kernel_rfl) (by kernel_rfl) (fun _ _ _ hx => hx) rfl rfl (by kernel_rfl) ?_
 refine wpS_firstY (fuel := 10) (i := 4) (li' := (lv 14 27)) rfl rfl (.iix (enc := D.s) rfl ts60 rfl rfl rfl q4_0) rfl rfl (by kernel_rfl) (by kernel_rfl) (by kernel_rfl) (fun _ _ _ hx => hx) rfl rfl (by kernel_rfl) ?_
 refine wpS_firstY (fuel := 9) (i := 7) (li' := (lv 14 155)) rfl rfl (.move rfl) rfl rfl (by kernel_rfl) (by kernel_rfl) (by kernel_rfl) (fun _ _ _ hx => hx) rfl rfl (by kernel_rfl) ?_
 refine wpS_firstY (fuel := 8) (i := 8) (li' := (lv 14 411)) rfl rfl (.iix (enc := D.s) rfl ts60 rfl rfl rfl q8_0) rfl rfl (by kernel_rfl) (by kernel_rfl) (by kernel_rfl) (fun _ _ _ hx => hx) rfl rfl (by kernel_rfl) ?_
 exact wpS_to hW s30 (Cov.asg ⟨rfl, rfl, rfl, rfl, rfl, rfl, trivial⟩) (.refl _)
 intro c133
 refine wpS_of hW (wpS_done (by kernel_rfl) ?_)
 refine wpA_seq ?_
 refine wpA_block ?_
 refine wpA_seq ?_
 refine wpA_mid (asg [(1, .own c_before 3 pre_before.length before.length), (4, .ptr c1 3 0 0), (5, D.i 0), (7, .ptr c133 3 0 0), (26, D.b ((decide ((numF (gi (splitF line (⟨#[32]⟩ : ByteArray)) 1)) < 0)) || (decide ((numF (gi (splitF line (⟨#[32]⟩ : ByteArray)) 2)) < 0))))]) [(c133, .cells 3 [encSpan (lspan_e0 line)]), (c1, .cells 3 [encSpan (Span.mk ByteArray.empty 0 0)]), (c_before, .cells 3 (winL encSpan pre_before before post_before))] ?_ ?_
 refine wpA_region ?_
 refine wL (OpA.fieldAddr rfl tf33_1 rfl ?_)
 refine wL (OpA.load rfl ti3 rfl .head rfl rfl ?_)
 refine wL (OpA.lss rfl rfl rfl ?_)
 refine wL (OpA.m ?_)
 refine wpL_split (s := 30) rfl (fun b168 => ?_) (fun b168 => ?_)
 iterate 3 refine wS ?_
 refine wL (OpA.p ?_)
 refine wL (OpA.a ?_)
 refine wpL_nil ?_
 exact ⟨(Cov.asg ⟨rfl, rfl, rfl, rfl, (congrArg D.b (Eq.symm (orS b168))), trivial⟩), (.refl _)⟩
 refine wG (OpA.fieldAddr rfl tf33_2 rfl ?_)
 refine wG (OpA.load rfl ti3 rfl .head rfl rfl ?_)
 refine wG (OpA.lss rfl rfl rfl ?_)
 refine wL (OpA.p ?_)
 refine wL (OpA.a ?_)
 refine wpL_nil ?_
 exact ⟨(Cov.asg ⟨rfl, rfl, rfl, rfl, (congrArg D.b (Eq.symm (orN b168 rfl))), trivial⟩), (.refl _)⟩
 show wpA _ _ _ _ (asg [(1, .own c_before 3 pre_before.length before.length), (4, .ptr c1 3 0 0), (5, D.i 0), (7, .ptr c133 3 0 0), (26, D.b ((decide ((numF (gi (splitF line (⟨#[32]⟩ : ByteArray)) 1)) < 0)) || (decide ((numF (gi (splitF line (⟨#[32]⟩ : ByteArray)) 2)) < 0))))]) [(c133, .cells 3 [encSpan (lspan_e0 line)]), (c1, .cells 3 [encSpan (Span.mk ByteArray.empty 0 0)]), (c_before, .cells 3 (winL encSpan pre_before before post_before))]
 refine wpA_cond rfl (fun b163 => ?_) (fun b163 => ?_)
 have h := h.1 ((or0 b163).imp (fun hh => (decT hh)) (fun hh => (decT hh)))
 refine wpA_seq ?_
 refine wpA_region ?_
 refine wL (OpA.load_whole rfl ti33 rfl rfl .head rfl ⟨_, rfl⟩ ?_)
 refine wE (OpA.storeW rfl ti33 rfl (by with_reducible conv => lhs; whnf) (.of rfl) rfl rfl (.tail .head) ?_)
 refine wL (OpA.a ?_)
 refine wpL_nil ?_
 refine wpA_ret ?_
 exact ⟨_, (.cell (.whole ti33 rfl rfl (.tail .head) rfl ⟨_, rfl⟩) (.tmp (d := D.i 4) rfl .nil)), [(c_before, .cells 3 (winL encSpan pre_before before post_before)), (c133, .cells 3 [encSpan (lspan_e0 line)]), (c1, .cells 3 [encSpan (lspan_e0 line)])], [(c_before, .cells 3 (winL encSpan pre_before before post_before))], pull2, (.cons₂ _ (.cons _ (.cons _ (.refl _)))), ((lspan_e0 line), 4), (), rfl, rfl, h⟩
 have h := h.2 ⟨(decF (or1 b163)), (decF (or2 b163))⟩
 refine wpA_seq ?_
 obtain ⟨q1, h⟩ := h
 refine wpA_region ?_
 refine wL (OpA.fieldAddr rfl tf33_0 rfl ?_)
 refine wL (OpA.load rfl ti9 rfl .head rfl rfl ?_)
 refine wL (OpA.call rfl rfl rfl en32 (path_c (gi (splitF line (⟨#[32]⟩ : ByteArray)) 0) q1) ?_)
 rintro _ rfl
 refine wL (OpA.neq rfl rfl rfl ?_)
 refine wL (OpA.a ?_)
 refine wpL_nil ?_
 refine wpA_cond rfl (fun b164 => ?_) (fun b164 => ?_)
 have h := h.1 (bneT b164)
 refine wpA_seq ?_
 refine wpA_region ?_
 refine wL (OpA.load_whole rfl ti33 rfl rfl .head rfl ⟨_, rfl⟩ ?_)
 refine wE (OpA.storeW rfl ti33 rfl (by with_reducible conv => lhs; whnf) (.of rfl) rfl rfl (.tail .head) ?_)
 refine wL (OpA.a ?_)
 refine wpL_nil ?_
 refine wpA_ret ?_
 exact ⟨_, (.cell (.whole ti33 rfl rfl (.tail .head) rfl ⟨_, rfl⟩) (.tmp (d := D.i 2) rfl .nil)), [(c_before, .cells 3 (winL encSpan pre_before before post_before)), (c133, .cells 3 [encSpan (lspan_e0 line)]), (c1, .cells 3 [encSpan (lspan_e0 line)])], [(c_before, .cells 3 (winL encSpan pre_before before post_before))], pull2, (.cons₂ _ (.cons _ (.cons _ (.refl _)))), ((lspan_e0 line), 2), (), rfl, rfl, h⟩
 have h := h.2 (bneF b164)
 refine wpA_seq ?_
 refine wpA_region ?_
 refine wL (OpA.load_whole rfl ti33 rfl rfl .head rfl ⟨_, rfl⟩ ?_)
 refine wL (OpA.call rfl rfl rfl en30 (inside_c (lspan_e0 line) ) ?_)
 rintro _ rfl
 refine wL (OpA.not rfl rfl ?_)
 refine wL (OpA.a ?_)
 refine wpL_nil ?_
 refine wpA_cond rfl (fun b165 => ?_) (fun b165 => ?_)
 have h := h.1 (notT b165)
 refine wpA_seq ?_
 refine wpA_region ?_
 refine wL (OpA.load_whole rfl ti33 rfl rfl .head rfl ⟨_, rfl⟩ ?_)
 refine wE (OpA.storeW rfl ti33 rfl (by with_reducible conv => lhs; whnf) (.of rfl) rfl rfl (.tail .head) ?_)
 refine wL (OpA.a ?_)
 refine wpL_nil ?_
 refine wpA_ret ?_
 exact ⟨_, (.cell (.whole ti33 rfl rfl (.tail .head) rfl ⟨_, rfl⟩) (.tmp (d := D.i 3) rfl .nil)), [(c_before, .cells 3 (winL encSpan pre_before before post_before)), (c133, .cells 3 [encSpan (lspan_e0 line)]), (c1, .cells 3 [encSpan (lspan_e0 line)])], [(c_before, .cells 3 (winL encSpan pre_before before post_before))], pull2, (.cons₂ _ (.cons _ (.cons _ (.refl _)))), ((lspan_e0 line), 3), (), rfl, rfl, h⟩
 have h := h.2 (notF b165)
 refine wpA_seq ?_
 obtain ⟨q1, h⟩ := h
 refine wpA_mid (asg [(4, .ptr c1 3 0 0), (5, D.i 0), (7, .ptr c133 3 0 0), (47, D.b ((decide ((before.length : Int) > 0)) && (!(behindF (gi before ((before.length : Int) - 1)) (lspan_e0 line)))))]) [(c133, .cells 3 [encSpan (lspan_e0 line)]), (c1, .cells 3 [encSpan (Span.mk ByteArray.empty 0 0)]), (c_before, .cells 3 (winL encSpan pre_before before post_before))] ?_ ?_
 refine wpA_draw (m := 15) mo (by kernel_rfl) rfl ?_
 refine dL (OpA.m ⟨rfl, rfl⟩) ?_
 refine dL (OpA.len rfl rfl rfl rfl ts23.desc (.inr (.inl ⟨_, _, _, rfl⟩)) ⟨rfl, rfl⟩) ?_
 refine dL (OpA.gtr rfl rfl rfl ⟨rfl, rfl⟩) ?_
 refine dL (OpA.m ⟨rfl, rfl⟩) ?_
 refine DetK_split (s := 51) rfl (fun b167 => ?_) (fun b167 => ?_)
 iterate 2 refine dG (OpA.m ⟨rfl, rfl⟩) ?_
 refine dG (OpA.len rfl rfl rfl rfl ts23.desc (.inr (.inl ⟨_, _, _, rfl⟩)) ⟨rfl, rfl⟩) ?_
 refine dG (OpA.subi rfl rfl rfl (q1 (decT b167)).1 ⟨rfl, rfl⟩) ?_
 refine dG (OpA.ixV rfl ts23 rfl rfl (q1 (decT b167)).2 ⟨rfl, rfl⟩) ?_
 refine dG (OpA.load_whole rfl ti33 rfl rfl (.tail (.tail .head)) (getV (enc := encSpan) (q1 (decT b167)).2) ⟨_, rfl⟩ ⟨rfl, rfl⟩) ?_
 refine dG (OpA.load_whole rfl ti33 rfl rfl .head rfl ⟨_, rfl⟩ ⟨rfl, rfl⟩) ?_
 refine dG (OpA.call rfl rfl rfl en31 (behind_c (gi before ((before.length : Int) - 1)) (lspan_e0 line) ) (by rintro _ rfl; exact ⟨rfl, rfl⟩)) ?_
 refine dG (OpA.not rfl rfl ⟨rfl, rfl⟩) ?_
 refine dL (OpA.p ⟨rfl, rfl⟩) ?_
 refine dL (OpA.a ⟨rfl, rfl⟩) ?_
 refine DetK.nil ?_
 refine wpL_nil ?_
 exact ⟨(Cov.asg ⟨rfl, rfl, rfl, (congrArg D.b (Eq.symm (andN b167 rfl))), trivial⟩), (.refl _)⟩
 iterate 9 refine dS ?_
 refine dL (OpA.p ⟨rfl, rfl⟩) ?_
 refine dL (OpA.a ⟨rfl, rfl⟩) ?_
 refine DetK.nil ?_
 refine wpL_nil ?_
 exact ⟨(Cov.asg ⟨rfl, rfl, rfl, (congrArg D.b (Eq.symm (andS b167))), trivial⟩), (.refl _)⟩
 show wpA _ _ _ _ (asg [(4, .ptr c1 3 0 0), (5, D.i 0), (7, .ptr c133 3 0 0), (47, D.b ((decide ((before.length : Int) > 0)) && (!(behindF (gi before ((before.length : Int) - 1)) (lspan_e0 line)))))]) [(c133, .cells 3 [encSpan (lspan_e0 line)]), (c1, .cells 3 [encSpan (Span.mk ByteArray.empty 0 0)]), (c_before, .cells 3 (winL encSpan pre_before before post_before))]
 refine wpA_cond rfl (fun b166 => ?_) (fun b166 => ?_)
 have h := h.1 ⟨(decT (and1 b166)), (notT (and2 b166))⟩
 refine wpA_seq ?_
 refine wpA_region ?_
 refine wL (OpA.load_whole rfl ti33 rfl rfl .head rfl ⟨_, rfl⟩ ?_)
 refine wE (OpA.storeW rfl ti33 rfl (by with_reducible conv => lhs; whnf) (.of rfl) rfl rfl (.tail .head) ?_)
 refine wL (OpA.a ?_)
 refine wpL_nil ?_
 refine wpA_ret ?_
 exact ⟨_, (.cell (.whole ti33 rfl rfl (.tail .head) rfl ⟨_, rfl⟩) (.tmp (d := D.i 5) rfl .nil)), [(c_before, .cells 3 (winL encSpan pre_before before post_before)), (c133, .cells 3 [encSpan (lspan_e0 line)]), (c1, .cells 3 [encSpan (lspan_e0 line)])], [(c_before, .cells 3 (winL encSpan pre_before before post_before))], pull2, (.cons₂ _ (.cons _ (.cons _ (.refl _)))), ((lspan_e0 line), 5), (), rfl, rfl, h⟩
 have h := h.2 ((and0 b166).imp (fun hh => (decF hh)) (fun hh => (notF hh)))
 refine wpA_skip ?_
 refine wpA_seq ?_
 refine wpA_region ?_
 refine wL (OpA.load_whole rfl ti33 rfl rfl .head rfl ⟨_, rfl⟩ ?_)
 refine wE (OpA.storeW rfl ti33 rfl (by with_reducible conv => lhs; whnf) (.of rfl) rfl rfl (.tail .head) ?_)
 refine wL (OpA.a ?_)
 refine wpL_nil ?_
 refine wpA_ret ?_
 exact ⟨_, (.cell (.whole ti33 rfl rfl (.tail .head) rfl ⟨_, rfl⟩) (.tmp (d := D.i 0) rfl .nil)), [(c_before, .cells 3 (winL encSpan pre_before before post_before)), (c133, .cells 3 [encSpan (lspan_e0 line)]), (c1, .cells 3 [encSpan (lspan_e0 line)])], [(c_before, .cells 3 (winL encSpan pre_before before post_before))], pull2, (.cons₂ _ (.cons _ (.cons _ (.refl _)))), ((lspan_e0 line), 0), (), rfl, rfl, h⟩
theorem lspan_c (line : ByteArray) (before : (List Span)) (c_before : Nat) (pre_before post_before : List D) (hp0 : line.size ≤ 1000000) (hp1 : before.length ≤ 1000000) : CallH Tryz.prog 26 [D.s line, .own c_before 3 pre_before.length before.length] [(c_before, .cells 3 (winL encSpan pre_before before post_before))] (fun d h' => ∃ (g : Unit), d = .tup [encSpan ((spanF line before).1), D.i ((spanF line before).2)] ∧ h' = [(c_before, .cells 3 (winL encSpan pre_before before post_before))]) :=
 (lspan_w line before c_before pre_before post_before  (fun r => r = spanF line before) (lspan_ok line before _ hp0 hp1 rfl)).mono (by rintro d h' ⟨r, g, hd, hh, rfl⟩; exact ⟨g, hd, hh⟩)
theorem lparse_w (s_ : ByteArray) (Q : (List Span) × Int × Int → Prop) (h : lparse_vc s_ Q) : Fun false Tryz.prog 9 [D.s s_] (fun d => ∃ r, d = .tup [(encL 3 encSpan) (r.1), D.i (r.2.1), D.i (r.2.2)] ∧ Q r) := by
 unfold lparse_vc at h
 refine Fun.of_body Tryz.func9 rfl Tryz.ntmps9 rfl ?_
 refine wpA_seq ?_
 refine wpA_region ?_
 iterate 3 refine wL (OpA.a ?_)
 refine wpL_nil ?_
 refine wpA_seq ?_
 refine wpA_region ?_
 refine wL (OpA.asnG (T := Span) (enc := encSpan) (sz := 3) rfl rfl (fun c5_g1 => ?_))
 refine wpL_nil ?_
 iterate 2 refine wpA_seq ?_
 refine wpA_region ?_
 refine wL (OpA.a ?_)
 refine wpL_nil ?_
 refine wpA_block ?_
 refine wpA_lfp (S := (List Span) × ByteArray × Int) (G := Nat × List D × List D) (c5_g1, ([] : List D), ([] : List D)) (fun gg ss => asg [(0, D.s ss.2.1), (2, .v (.slice none 0 0)), (3, D.i 0), (4, D.i 0), (5, .own gg.1 3 gg.2.1.length ss.1.length), (6, D.i ss.2.2)]) (fun gg ss => [(gg.1, .cells 3 (winL encSpan gg.2.1 ss.1 gg.2.2))]) h (Cov.asg ⟨rfl, rfl, rfl, rfl, rfl, rfl, trivial⟩) (.refl _) ?_
 rintro again2 ⟨cb5, pre5, post5⟩ ⟨out, s_1, i⟩ h
 have h : lparse_L1 Q again2 out s_1 i := h
 unfold lparse_L1 at h
 show wpA _ _ _ _ (asg [(0, D.s s_1), (2, .v (.slice none 0 0)), (3, D.i 0), (4, D.i 0), (5, .own cb5 3 pre5.length out.length), (6, D.i i)]) [(cb5, .cells 3 (winL encSpan pre5 out post5))]
 iterate 2 refine wpA_seq ?_
 refine wpA_region ?_
 refine wL (OpA.m ?_)
 refine wL (OpA.sneq rfl rfl rfl ?_)
 refine wpL_nil ?_
 refine wpA_cond rfl (fun b3 => ?_) (fun b3 => ?_)
 have h := h.1 (ndecT b3)
 refine wpA_skip ?_
 refine wpA_seq ?_
 refine wpA_block ?_
 refine wpA_seq ?_
 obtain ⟨q1, q2, h⟩ := h
 refine wpA_region ?_
 refine wL (OpA.m ?_)
 refine wL (OpA.call rfl rfl rfl en25 (scut_c s_1 (⟨#[10]⟩ : ByteArray) q1 q2) ?_)
 rintro _ rfl
 refine wL (OpA.m ?_)
 iterate 3 refine wL (OpA.extract rfl rfl rfl ?_)
 iterate 3 refine wL (OpA.a ?_)
 refine wpL_nil ?_
 iterate 2 refine wpA_seq ?_
 refine wpA_region ?_
 refine wL (OpA.m ?_)
 refine wL (OpA.not rfl rfl ?_)
 refine wpL_nil ?_
 refine wpA_cond rfl (fun b4 => ?_) (fun b4 => ?_)
 have h := h.1 (notT b4)
 refine wpA_seq ?_
 refine wpA_region ?_
 refine wL (OpA.m ?_)
 iterate 3 refine wL (OpA.a ?_)
 refine wpL_nil ?_
 refine wpA_ret ?_
 exact ⟨_, (.tmp (d := .v (.slice none 0 0)) rfl (.tmp (d := D.i i) rfl (.tmp (d := D.i 4) rfl .nil))), _, (.tup (.nilv (sz := 3) (.same rfl (.same rfl .nil))) .nil), ⟨([], i, 4), rfl, h⟩⟩
 have h := h.2 (notF b4)
 refine wpA_skip ?_
 refine wpA_seq ?_
 obtain ⟨q1, q2, h⟩ := h
 refine wpA_region ?_
 iterate 2 refine wL (OpA.m ?_)
 refine wL (OpA.callH rfl rfl rfl en26 (h1 := [(cb5, .cells 3 (winL encSpan pre5 out post5))]) (h2 := []) (.refl _) (lspan_c ((scutF s_1 (⟨#[10]⟩ : ByteArray)).1) out cb5 pre5 post5 q1 q2) ?_)
 rintro _ _ ⟨_, rfl, rfl⟩
 refine wL (OpA.m ?_)
 iterate 2 refine wL (OpA.extract rfl rfl rfl ?_)
 refine wL (OpA.alloc (sz := 3) (d := encSpan (Span.mk ByteArray.empty 0 0)) rfl tz33 (fun _ _ => .agg (.cons (.v _) (.cons (.v _) (.cons (.v _) .nil)))) (.of rfl) (fun c5 _ => ?_))
 refine wE (OpA.storeW rfl ti33 rfl (by with_reducible conv => lhs; whnf) (.of rfl) rfl rfl .head ?_)
 refine wL (OpA.a ?_)
 refine wpL_nil ?_
 iterate 2 refine wpA_seq ?_
 refine wpA_region ?_
 refine wL (OpA.m ?_)
 refine wL (OpA.neq rfl rfl rfl ?_)
 refine wpL_nil ?_
 refine wpA_cond rfl (fun b6 => ?_) (fun b6 => ?_)
 have h := h.1 (bneT b6)
 refine wpA_seq ?_
 refine wpA_region ?_
 iterate 2 refine wL (OpA.m ?_)
 iterate 3 refine wL (OpA.a ?_)
 refine wpL_nil ?_
 refine wpA_ret ?_
 exact ⟨_, (.tmp (d := .v (.slice none 0 0)) rfl (.tmp (d := D.i i) rfl (.tmp (d := D.i ((spanF ((scutF s_1 (⟨#[10]⟩ : ByteArray)).1) out).2)) rfl .nil))), _, (.tup (.nilv (sz := 3) (.same rfl (.same rfl .nil))) .nil), ⟨([], i, ((spanF ((scutF s_1 (⟨#[10]⟩ : ByteArray)).1) out).2)), rfl, h⟩⟩
 have h := h.2 (bneF b6)
 refine wpA_skip ?_
 obtain ⟨q1, h⟩ := h
 refine wpA_region ?_
 refine wL (OpA.m ?_)
 refine wL (OpA.load_whole rfl ti33 rfl rfl .head rfl ⟨_, rfl⟩ ?_)
 refine wL (OpA.ibuildSliceO rfl ts23 rfl (.cons (.of (sz := 3) rfl) .nil) (by decide) ?_)
 refine wL (OpA.appendW (enc := encSpan) rfl rfl rfl rfl ts23 rfl (fun _ _ => (.tail .head)) (.list (ys := ([((spanF ((scutF s_1 (⟨#[10]⟩ : ByteArray)).1) out).1)] : List Span))) q1 (fun c7 pre8 => ?_))
 refine wL (OpA.m ?_)
 iterate 2 refine wL (OpA.a ?_)
 refine wpL_nil ?_
 obtain ⟨q1, h⟩ := h
 refine wpA_region ?_
 refine wL (OpA.m ?_)
 refine wL (OpA.addi rfl rfl rfl q1 ?_)
 refine wL (OpA.a ?_)
 refine wpL_nil ?_
 exact ⟨(c7, pre8, ([] : List D)), ((out ++ ([((spanF ((scutF s_1 (⟨#[10]⟩ : ByteArray)).1) out).1)] : List Span)), (scutF s_1 (⟨#[10]⟩ : ByteArray)).2.1, (i + 1)), h, (Cov.asg ⟨rfl, rfl, rfl, rfl, rfl, rfl, trivial⟩), (.cons _ (.refl _))⟩
 have h := h.2 (ndecF b3)
 refine wpA_exit ?_
 refine wpA_seq ?_
 refine wpA_region ?_
 refine wL (OpA.m ?_)
 iterate 3 refine wL (OpA.a ?_)
 refine wpL_nil ?_
 refine wpA_ret ?_
 exact ⟨_, (.tmp (d := .own cb5 3 pre5.length out.length) rfl (.tmp (d := D.i (-1)) rfl (.tmp (d := D.i 0) rfl .nil))), _, (.tup (.win .head (by intro hf; cases hf) (.same rfl (.same rfl .nil))) .nil), ⟨(out, (-1), 0), rfl, h⟩⟩
theorem lparse_c (s_ : ByteArray) (hp0 : s_.size ≤ 1000000) : Fun false Tryz.prog 9 [D.s s_] (fun d => d = .tup [(encL 3 encSpan) ((parseF s_).1), D.i ((parseF s_).2.1), D.i ((parseF s_).2.2)]) :=
 Fun.at (enc := fun r => .tup [(encL 3 encSpan) (r.1), D.i (r.2.1), D.i (r.2.2)]) (v := parseF s_) (lparse_w s_  (fun r => r = parseF s_) (lparse_ok s_ _ hp0 rfl))
theorem revL_w (s_ : (List Line)) (c_s_ : Nat) (pre_s_ post_s_ : List D) (Q : (List Line) → Prop) (h : revL_vc s_ Q) : CallH Tryz.prog 15 [.own c_s_ 2 pre_s_.length s_.length] [(c_s_, .cells 2 (winL encLine pre_s_ s_ post_s_))] (fun d h' => ∃ (r : (List Line)) (g : Unit), d = .tup [] ∧ h' = [(c_s_, .cells 2 (winL encLine pre_s_ r post_s_))] ∧ Q r) := by
 unfold revL_vc at h
 refine CallH.of_bodyP Tryz.func15 rfl Tryz.ntmps15 rfl ?_
 refine wpA_seq ?_
 obtain ⟨q1, h⟩ := h
 refine wpA_region ?_
 refine wL (OpA.m ?_)
 refine wL (OpA.len rfl rfl rfl rfl ts36.desc (.inr (.inl ⟨_, _, _, rfl⟩)) ?_)
 refine wL (OpA.subi rfl rfl rfl q1 ?_)
 iterate 2 refine wL (OpA.a ?_)
 refine wpL_nil ?_
 refine wpA_block ?_
 refine wpA_lfp (S := (List Line) × Int × Int) (G := Unit) () (fun gg ss => asg [(0, .own c_s_ 2 pre_s_.length ss.1.length), (2, D.i ss.2.1), (3, D.i ss.2.2)]) (fun gg ss => [(c_s_, .cells 2 (winL encLine pre_s_ ss.1 post_s_))]) h (Cov.asg ⟨rfl, rfl, rfl, trivial⟩) (.refl _) ?_
 rintro again1 _ ⟨s_1, i, j⟩ h
 have h : revL_L1 Q again1 s_1 i j := h
 unfold revL_L1 at h
 show wpA _ _ _ _ (asg [(0, .own c_s_ 2 pre_s_.length s_1.length), (2, D.i i), (3, D.i j)]) [(c_s_, .cells 2 (winL encLine pre_s_ s_1 post_s_))]
 iterate 2 refine wpA_seq ?_
 refine wpA_region ?_
 iterate 2 refine wL (OpA.m ?_)
 refine wL (OpA.lss rfl rfl rfl ?_)
 refine wpL_nil ?_
 refine wpA_cond rfl (fun b2 => ?_) (fun b2 => ?_)
 have h := h.1 (decT b2)
 refine wpA_skip ?_
 refine wpA_seq ?_
 refine wpA_block ?_
 obtain ⟨q1, q2, q3, h⟩ := h
 refine wpA_drawF [2, 3] (m := 13) mo (by kernel_rfl) (fun _ _ _ hx => hx) rfl ?_
 iterate 6 refine dL (OpA.m ⟨rfl, rfl⟩) ?_
 refine dL (OpA.ixV rfl ts36 rfl rfl q1 ⟨rfl, rfl⟩) ?_
 refine dL (OpA.load_whole rfl ti40 rfl rfl .head (getV (enc := encLine) q1) ⟨_, rfl⟩ ⟨rfl, rfl⟩) ?_
 iterate 2 refine dL (OpA.m ⟨rfl, rfl⟩) ?_
 refine dL (OpA.ixV rfl ts36 rfl rfl q2 ⟨rfl, rfl⟩) ?_
 refine dL (OpA.load_whole rfl ti40 rfl rfl .head (getV (enc := encLine) q2) ⟨_, rfl⟩ ⟨rfl, rfl⟩) ?_
 refine dL (OpA.ixV rfl ts36 rfl rfl q2 ⟨rfl, rfl⟩) ?_
 refine DetK.nil ?_
 refine wE (OpA.storeV (enc := encLine) (v := (gi s_1 j)) rfl ti40 rfl rfl (.of rfl) rfl q2 .head ?_)
 refine wL (OpA.ixV rfl ts36 rfl rfl q1 ?_)
 refine wE (OpA.storeV (enc := encLine) (v := (gi s_1 i)) rfl ti40 rfl rfl (.of rfl) rfl q3 .head ?_)
 refine wpL_nil ?_
 obtain ⟨q1, q2, h⟩ := h
 refine wpA_region ?_
 refine wL (OpA.m ?_)
 refine wL (OpA.addi rfl rfl rfl q1 ?_)
 refine wL (OpA.m ?_)
 refine wL (OpA.subi rfl rfl rfl q2 ?_)
 iterate 2 refine wL (OpA.a ?_)
 refine wpL_nil ?_
 exact ⟨(), ((si (si s_1 i (gi s_1 j)) j (gi s_1 i)), (i + 1), (j - 1)), h, (Cov.asg ⟨(congrArg (D.own c_s_ 2 pre_s_.length) (by simp only [si_length, gcopy_length, sortF_len spanCmp_swo, List.length_reverse] <;> rfl)), rfl, rfl, trivial⟩), (.refl _)⟩
 have h := h.2 (decF b2)
 refine wpA_exit ?_
 exact ⟨_, .nil, [(c_s_, .cells 2 (winL encLine pre_s_ s_1 post_s_))], [(c_s_, .cells 2 (winL encLine pre_s_ s_1 post_s_))], (.refl _), (.refl _), s_1, (), rfl, rfl, h⟩
theorem revL_c (s_ : (List Line)) (c_s_ : Nat) (pre_s_ post_s_ : List D) (hp0 : s_.length ≤ 1000000) : CallH Tryz.prog 15 [.own c_s_ 2 pre_s_.length s_.length] [(c_s_, .cells 2 (winL encLine pre_s_ s_ post_s_))] (fun d h' => ∃ (g : Unit), d = .tup [] ∧ h' = [(c_s_, .cells 2 (winL encLine pre_s_ (List.reverse s_) post_s_))]) :=
 (revL_w s_ c_s_ pre_s_ post_s_  (fun r => r = (List.reverse s_)) (revL_ok s_ _ hp0 rfl)).mono (by rintro d h' ⟨r, g, hd, hh, rfl⟩; exact ⟨g, hd, hh⟩)
end Go.Proofs.YtjncggaheahjiaaGreatDoor
