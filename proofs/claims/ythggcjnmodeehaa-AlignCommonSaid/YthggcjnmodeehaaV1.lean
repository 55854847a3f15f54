/-
  walks and contracts
-/
import Derived.Test.YthggcjnmodeehaaAo
import Derived.Test.YthggcjnmodeehaaW11
import Derived.Test.YthggcjnmodeehaaVr
set_option linter.all false
namespace Go.Proofs.Ythggcjnmodeehaa
open Go Go.Lic

theorem en42 : entersB Try.prog 42 = true := by kernel_rfl
theorem en18 : entersB Try.prog 18 = true := by kernel_rfl
theorem en19 : entersB Try.prog 19 = true := by kernel_rfl
theorem en22 : entersB Try.prog 22 = true := by kernel_rfl
theorem en21 : entersB Try.prog 21 = true := by kernel_rfl
theorem en23 : entersB Try.prog 23 = true := by kernel_rfl
theorem en25 : entersB Try.prog 25 = true := by kernel_rfl
theorem en26 : entersB Try.prog 26 = true := by kernel_rfl
theorem en27 : entersB Try.prog 27 = true := by kernel_rfl
theorem en28 : entersB Try.prog 28 = true := by kernel_rfl
theorem en29 : entersB Try.prog 29 = true := by kernel_rfl
theorem td3 : Try.prog.underlying 3 = some (.int .i64) := by kernel_rfl
theorem en44 : entersB Try.prog 44 = true := by kernel_rfl
theorem en31 : entersB Try.prog 31 = true := by kernel_rfl

set_option maxHeartbeats 2000000 in
set_option maxRecDepth 10000 in
theorem dist_w (a : (List Lexeme)) (b : (List Lexeme)) (c : Costs)  (Q : Int × Int → Prop) (h : dist_vc a b c Q) : Fun false Try.prog 19 [(encL 2 encLex) a, (encL 2 encLex) b, encCosts c] (fun d => ∃ r, d = .tup [D.i (r.1), D.i (r.2)] ∧ Q r) := by
  unfold dist_vc at h
  refine Fun.of_body Try.func19 rfl Try.ntmps19 rfl ?_
  refine wpA_seq ?_
  refine wpA_region ?_
  refine wpL_op rfl rfl rfl (OpA.bx (sz := 3) rfl (by with_reducible conv => lhs; whnf) (.of rfl) (fun c1 _ => ?_))
  refine wpL_op rfl rfl rfl (OpA.asn rfl (by with_reducible conv => lhs; whnf) ?_)
  refine wpL_op rfl rfl rfl (OpA.asn rfl (by with_reducible conv => lhs; whnf) ?_)
  refine wpL_nil ?_
  iterate 2 refine wpA_seq ?_
  refine wpA_region ?_
  refine wpL_op rfl rfl rfl (OpA.mv rfl (by with_reducible conv => lhs; whnf) ?_)
  refine wpL_op rfl rfl rfl (OpA.mv rfl (by with_reducible conv => lhs; whnf) ?_)
  refine wpL_op rfl rfl rfl (OpA.load_whole rfl ti24 rfl rfl .head rfl ⟨_, rfl⟩ ?_)
  refine wpL_op rfl rfl rfl (OpA.call rfl rfl rfl en36 (check_fun a b c ) ?_)
  rintro _ rfl
  refine wpL_op rfl rfl rfl (OpA.asn rfl (by with_reducible conv => lhs; whnf) ?_)
  refine wpL_nil ?_
  refine wpA_seq ?_
  refine wpA_region ?_
  refine wpL_op rfl rfl rfl (OpA.mv rfl (by with_reducible conv => lhs; whnf) ?_)
  refine wpL_op rfl rfl rfl (OpA.neq rfl rfl rfl ?_)
  refine wpL_nil ?_
  refine wpA_cond rfl (fun b2 => ?_) (fun b2 => ?_)
  have h := h.1 (bneT b2)
  refine wpA_seq ?_
  refine wpA_region ?_
  refine wpL_op rfl rfl rfl (OpA.mv rfl (by with_reducible conv => lhs; whnf) ?_)
  refine wpL_op rfl rfl rfl (OpA.asn rfl (by with_reducible conv => lhs; whnf) ?_)
  refine wpL_op rfl rfl rfl (OpA.asn rfl (by with_reducible conv => lhs; whnf) ?_)
  refine wpL_nil ?_
  refine wpA_ret ?_
  exact ⟨_, (.tmp (d := D.i 0) rfl (.tmp (d := D.i (checkF a b c)) rfl .nil)), _, (.tup (.same rfl (.same rfl .nil)) .nil), ⟨(0, (checkF a b c)), rfl, h⟩⟩
  have h := h.2 (bneF b2)
  refine wpA_skip ?_
  refine wpA_seq ?_
  obtain ⟨q1, q2, q3, h⟩ := h
  refine wpA_region ?_
  refine wpL_op rfl rfl rfl (OpA.mv rfl (by with_reducible conv => lhs; whnf) ?_)
  refine wpL_op rfl rfl rfl (OpA.mv rfl (by with_reducible conv => lhs; whnf) ?_)
  refine wpL_op rfl rfl rfl (OpA.load_whole rfl ti24 rfl rfl .head rfl ⟨_, rfl⟩ ?_)
  refine wpL_op rfl rfl rfl (OpA.call rfl rfl rfl en42 (fronts_fun a b c q1) ?_)
  rintro _ rfl
  refine wpL_op rfl rfl rfl (OpA.mv rfl (by with_reducible conv => lhs; whnf) ?_)
  refine wpL_op rfl rfl rfl (OpA.len rfl rfl rfl rfl ts22.desc (.inl ⟨_, _, rfl, (List.length_map _).symm⟩) ?_)
  refine wpL_op rfl rfl rfl (OpA.iixV (enc := (encL 1 D.i)) rfl ts48 rfl rfl rfl q2 ?_)
  refine wpL_op rfl rfl rfl (OpA.iload rfl ti25 rfl rfl ?_)
  refine wpL_op rfl rfl rfl (OpA.mv rfl (by with_reducible conv => lhs; whnf) ?_)
  refine wpL_op rfl rfl rfl (OpA.len rfl rfl rfl rfl ts22.desc (.inl ⟨_, _, rfl, (List.length_map _).symm⟩) ?_)
  refine wpL_op rfl rfl rfl (OpA.iixV (enc := D.i) rfl ts25 rfl rfl rfl q3 ?_)
  refine wpL_op rfl rfl rfl (OpA.iload rfl ti3 rfl rfl ?_)
  refine wpL_op rfl rfl rfl (OpA.asn rfl (by with_reducible conv => lhs; whnf) ?_)
  refine wpL_op rfl rfl rfl (OpA.asn rfl (by with_reducible conv => lhs; whnf) ?_)
  refine wpL_nil ?_
  refine wpA_ret ?_
  exact ⟨_, (.tmp (d := D.i (gi (gi (frontF a b c) (a.length : Int)) (b.length : Int))) rfl (.tmp (d := D.i 0) rfl .nil)), _, (.tup (.same rfl (.same rfl .nil)) .nil), ⟨((gi (gi (frontF a b c) (a.length : Int)) (b.length : Int)), 0), rfl, h⟩⟩
theorem dist_c (a : (List Lexeme)) (b : (List Lexeme)) (c : Costs)   : Fun false Try.prog 19 [(encL 2 encLex) a, (encL 2 encLex) b, encCosts c] (fun d => d = .tup [D.i ((distF a b c).1), D.i ((distF a b c).2)]) :=
  Fun.at (enc := fun r => .tup [D.i (r.1), D.i (r.2)]) (v := distF a b c) (dist_w a b c  (fun r => r = distF a b c) (dist_ok a b c _  rfl))

set_option maxHeartbeats 2000000 in
set_option maxRecDepth 10000 in
theorem pot_w (a : (List Lexeme)) (b : (List Lexeme)) (c : Costs)  (Q : (List (List Int)) × Int → Prop) (h : pot_vc a b c Q) : Fun false Try.prog 25 [(encL 2 encLex) a, (encL 2 encLex) b, encCosts c] (fun d => ∃ r, d = .tup [(encL 1 (encL 1 D.i)) (r.1), D.i (r.2)] ∧ Q r) := by
  unfold pot_vc at h
  refine Fun.of_body Try.func25 rfl Try.ntmps25 rfl ?_
  refine wpA_seq ?_
  refine wpA_region ?_
  refine wpL_op rfl rfl rfl (OpA.bx (sz := 3) rfl (by with_reducible conv => lhs; whnf) (.of rfl) (fun c1 _ => ?_))
  refine wpL_op rfl rfl rfl (OpA.asnN (T := (List Int)) (enc := (encL 1 D.i)) (sz := 1) rfl rfl ?_)
  refine wpL_op rfl rfl rfl (OpA.asn rfl (by with_reducible conv => lhs; whnf) ?_)
  refine wpL_nil ?_
  iterate 2 refine wpA_seq ?_
  refine wpA_region ?_
  refine wpL_op rfl rfl rfl (OpA.mv rfl (by with_reducible conv => lhs; whnf) ?_)
  refine wpL_op rfl rfl rfl (OpA.mv rfl (by with_reducible conv => lhs; whnf) ?_)
  refine wpL_op rfl rfl rfl (OpA.load_whole rfl ti24 rfl rfl .head rfl ⟨_, rfl⟩ ?_)
  refine wpL_op rfl rfl rfl (OpA.call rfl rfl rfl en36 (check_fun a b c ) ?_)
  rintro _ rfl
  refine wpL_op rfl rfl rfl (OpA.asn rfl (by with_reducible conv => lhs; whnf) ?_)
  refine wpL_nil ?_
  refine wpA_seq ?_
  refine wpA_region ?_
  refine wpL_op rfl rfl rfl (OpA.mv rfl (by with_reducible conv => lhs; whnf) ?_)
  refine wpL_op rfl rfl rfl (OpA.neq rfl rfl rfl ?_)
  refine wpL_nil ?_
  refine wpA_cond rfl (fun b2 => ?_) (fun b2 => ?_)
  have h := h.1 (bneT b2)
  refine wpA_seq ?_
  refine wpA_region ?_
  refine wpL_op rfl rfl rfl (OpA.mv rfl (by with_reducible conv => lhs; whnf) ?_)
  refine wpL_op rfl rfl rfl (OpA.asnN (T := (List Int)) (enc := (encL 1 D.i)) (sz := 1) rfl rfl ?_)
  refine wpL_op rfl rfl rfl (OpA.asn rfl (by with_reducible conv => lhs; whnf) ?_)
  refine wpL_nil ?_
  refine wpA_ret ?_
  exact ⟨_, (.tmp (d := (encL 1 (encL 1 D.i)) ([] : List (List Int))) rfl (.tmp (d := D.i (checkF a b c)) rfl .nil)), _, (.tup (.same rfl (.same rfl .nil)) .nil), ⟨(([] : List (List Int)), (checkF a b c)), rfl, h⟩⟩
  have h := h.2 (bneF b2)
  refine wpA_skip ?_
  refine wpA_seq ?_
  obtain ⟨q1, h⟩ := h
  refine wpA_region ?_
  refine wpL_op rfl rfl rfl (OpA.mv rfl (by with_reducible conv => lhs; whnf) ?_)
  refine wpL_op rfl rfl rfl (OpA.mv rfl (by with_reducible conv => lhs; whnf) ?_)
  refine wpL_op rfl rfl rfl (OpA.load_whole rfl ti24 rfl rfl .head rfl ⟨_, rfl⟩ ?_)
  refine wpL_op rfl rfl rfl (OpA.call rfl rfl rfl en42 (fronts_fun a b c q1) ?_)
  rintro _ rfl
  refine wpL_op rfl rfl rfl (OpA.asn rfl (by with_reducible conv => lhs; whnf) ?_)
  refine wpL_op rfl rfl rfl (OpA.asn rfl (by with_reducible conv => lhs; whnf) ?_)
  refine wpL_nil ?_
  refine wpA_ret ?_
  exact ⟨_, (.tmp (d := (encL 1 (encL 1 D.i)) (frontF a b c)) rfl (.tmp (d := D.i 0) rfl .nil)), _, (.tup (.same rfl (.same rfl .nil)) .nil), ⟨((frontF a b c), 0), rfl, h⟩⟩
theorem pot_c (a : (List Lexeme)) (b : (List Lexeme)) (c : Costs)   : Fun false Try.prog 25 [(encL 2 encLex) a, (encL 2 encLex) b, encCosts c] (fun d => d = .tup [(encL 1 (encL 1 D.i)) ((potF a b c).1), D.i ((potF a b c).2)]) :=
  Fun.at (enc := fun r => .tup [(encL 1 (encL 1 D.i)) (r.1), D.i (r.2)]) (v := potF a b c) (pot_w a b c  (fun r => r = potF a b c) (pot_ok a b c _  rfl))

set_option maxHeartbeats 2000000 in
set_option maxRecDepth 10000 in
theorem rpot_w (a : (List Lexeme)) (b : (List Lexeme)) (c : Costs)  (Q : (List (List Int)) × Int → Prop) (h : rpot_vc a b c Q) : Fun false Try.prog 26 [(encL 2 encLex) a, (encL 2 encLex) b, encCosts c] (fun d => ∃ r, d = .tup [(encL 1 (encL 1 D.i)) (r.1), D.i (r.2)] ∧ Q r) := by
  unfold rpot_vc at h
  refine Fun.of_body Try.func26 rfl Try.ntmps26 rfl ?_
  refine wpA_seq ?_
  refine wpA_region ?_
  refine wpL_op rfl rfl rfl (OpA.bx (sz := 3) rfl (by with_reducible conv => lhs; whnf) (.of rfl) (fun c1 _ => ?_))
  refine wpL_op rfl rfl rfl (OpA.asn rfl (by with_reducible conv => lhs; whnf) ?_)
  refine wpL_op rfl rfl rfl (OpA.asn rfl (by with_reducible conv => lhs; whnf) ?_)
  refine wpL_nil ?_
  refine wpA_seq ?_
  refine wpA_region ?_
  refine wpL_op rfl rfl rfl (OpA.mv rfl (by with_reducible conv => lhs; whnf) ?_)
  refine wpL_op rfl rfl rfl (OpA.mv rfl (by with_reducible conv => lhs; whnf) ?_)
  refine wpL_op rfl rfl rfl (OpA.load_whole rfl ti24 rfl rfl .head rfl ⟨_, rfl⟩ ?_)
  refine wpL_op rfl rfl rfl (OpA.call rfl rfl rfl en37 (right_fun a b c ) ?_)
  rintro _ rfl
  refine wpL_op rfl rfl rfl (OpA.asn rfl (by with_reducible conv => lhs; whnf) ?_)
  refine wpL_nil ?_
  iterate 2 refine wpA_seq ?_
  refine wpA_region ?_
  refine wpL_op rfl rfl rfl (OpA.mv rfl (by with_reducible conv => lhs; whnf) ?_)
  refine wpL_op rfl rfl rfl (OpA.neq rfl rfl rfl ?_)
  refine wpL_nil ?_
  refine wpA_cond rfl (fun b2 => ?_) (fun b2 => ?_)
  have h := h.1 (bneT b2)
  refine wpA_seq ?_
  refine wpA_region ?_
  refine wpL_op rfl rfl rfl (OpA.mv rfl (by with_reducible conv => lhs; whnf) ?_)
  refine wpL_op rfl rfl rfl (OpA.asn rfl (by with_reducible conv => lhs; whnf) ?_)
  refine wpL_op rfl rfl rfl (OpA.asn rfl (by with_reducible conv => lhs; whnf) ?_)
  refine wpL_nil ?_
  refine wpA_ret ?_
  exact ⟨_, (.tmp (d := .v (.slice none 0 0)) rfl (.tmp (d := D.i (checkF a b c)) rfl .nil)), _, (.tup (.nilv (sz := 1) (.same rfl .nil)) .nil), ⟨([], (checkF a b c)), rfl, h⟩⟩
  have h := h.2 (bneF b2)
  refine wpA_skip ?_
  refine wpA_seq ?_
  refine wpA_region ?_
  refine wpL_op rfl rfl rfl (OpA.buildSliceV (enc := (encL 1 D.i)) (xs := ([] : List (List Int))) rfl ts48 rfl .nil (by decide) rfl (fun c3 => ?_))
  refine wpL_op rfl rfl rfl (OpA.asn rfl (by with_reducible conv => lhs; whnf) ?_)
  refine wpL_nil ?_
  iterate 2 refine wpA_seq ?_
  refine wpA_region ?_
  refine wpL_op rfl rfl rfl (OpA.asn rfl (by with_reducible conv => lhs; whnf) ?_)
  refine wpL_nil ?_
  refine wpA_block ?_
  refine wpA_lfp (S := (List (List Int)) × Int) (G := Nat × List D × List D) (c3, ([] : List D), ([] : List D)) (fun gg ss => asg [(0, (encL 2 encLex) a), (1, (encL 2 encLex) b), (5, .ptr c1 3 0 0), (6, .v (.slice none 0 0)), (7, D.i 0), (9, .own gg.1 1 gg.2.1.length ss.1.length), (10, D.i ss.2)]) (fun gg ss => [(gg.1, .cells 1 (winL (encL 1 D.i) gg.2.1 ss.1 gg.2.2)), (c1, .cells 3 [encCosts c])]) h (Cov.asg ⟨rfl, rfl, rfl, rfl, rfl, rfl, rfl, trivial⟩) (.refl _) ?_
  rintro again4 ⟨c21, pre21, post21⟩ ⟨out, i⟩ h
  have h : rpot_L1 a b c Q again4 out i := h
  unfold rpot_L1 at h
  show wpA _ _ _ _ (asg [(0, (encL 2 encLex) a), (1, (encL 2 encLex) b), (5, .ptr c1 3 0 0), (6, .v (.slice none 0 0)), (7, D.i 0), (9, .own c21 1 pre21.length out.length), (10, D.i i)]) [(c21, .cells 1 (winL (encL 1 D.i) pre21 out post21)), (c1, .cells 3 [encCosts c])]
  iterate 2 refine wpA_seq ?_
  refine wpA_region ?_
  refine wpL_op rfl rfl rfl (OpA.mv rfl (by with_reducible conv => lhs; whnf) ?_)
  refine wpL_op rfl rfl rfl (OpA.mv rfl (by with_reducible conv => lhs; whnf) ?_)
  refine wpL_op rfl rfl rfl (OpA.len rfl rfl rfl rfl ts22.desc (.inl ⟨_, _, rfl, (List.length_map _).symm⟩) ?_)
  refine wpL_op rfl rfl rfl (OpA.leq rfl rfl rfl ?_)
  refine wpL_nil ?_
  refine wpA_cond rfl (fun b5 => ?_) (fun b5 => ?_)
  have h := h.1 (decT b5)
  refine wpA_skip ?_
  refine wpA_seq ?_
  refine wpA_block ?_
  refine wpA_seq ?_
  refine wpA_region ?_
  refine wpL_op rfl rfl rfl (OpA.buildSliceV (enc := D.i) (xs := ([] : List Int)) rfl ts25 rfl .nil (by decide) rfl (fun c6 => ?_))
  refine wpL_op rfl rfl rfl (OpA.asn rfl (by with_reducible conv => lhs; whnf) ?_)
  refine wpL_nil ?_
  iterate 2 refine wpA_seq ?_
  refine wpA_region ?_
  refine wpL_op rfl rfl rfl (OpA.asn rfl (by with_reducible conv => lhs; whnf) ?_)
  refine wpL_nil ?_
  refine wpA_block ?_
  refine wpA_lfp (S := (List Int) × Int) (G := Nat × List D × List D) (c6, ([] : List D), ([] : List D)) (fun gg ss => asg [(0, (encL 2 encLex) a), (1, (encL 2 encLex) b), (5, .ptr c1 3 0 0), (6, .v (.slice none 0 0)), (7, D.i 0), (9, .own c21 1 pre21.length out.length), (10, D.i i), (11, .own gg.1 1 gg.2.1.length ss.1.length), (12, D.i ss.2)]) (fun gg ss => [(gg.1, .cells 1 (winL D.i gg.2.1 ss.1 gg.2.2)), (c21, .cells 1 (winL (encL 1 D.i) pre21 out post21)), (c1, .cells 3 [encCosts c])]) h (Cov.asg ⟨rfl, rfl, rfl, rfl, rfl, rfl, rfl, rfl, rfl, trivial⟩) (.refl _) ?_
  rintro again7 ⟨c28, pre28, post28⟩ ⟨row, j⟩ h
  have h : rpot_L2 a b c out i again4 again7 row j := h
  unfold rpot_L2 at h
  show wpA _ _ _ _ (asg [(0, (encL 2 encLex) a), (1, (encL 2 encLex) b), (5, .ptr c1 3 0 0), (6, .v (.slice none 0 0)), (7, D.i 0), (9, .own c21 1 pre21.length out.length), (10, D.i i), (11, .own c28 1 pre28.length row.length), (12, D.i j)]) [(c28, .cells 1 (winL D.i pre28 row post28)), (c21, .cells 1 (winL (encL 1 D.i) pre21 out post21)), (c1, .cells 3 [encCosts c])]
  iterate 2 refine wpA_seq ?_
  refine wpA_region ?_
  refine wpL_op rfl rfl rfl (OpA.mv rfl (by with_reducible conv => lhs; whnf) ?_)
  refine wpL_op rfl rfl rfl (OpA.mv rfl (by with_reducible conv => lhs; whnf) ?_)
  refine wpL_op rfl rfl rfl (OpA.len rfl rfl rfl rfl ts22.desc (.inl ⟨_, _, rfl, (List.length_map _).symm⟩) ?_)
  refine wpL_op rfl rfl rfl (OpA.leq rfl rfl rfl ?_)
  refine wpL_nil ?_
  refine wpA_cond rfl (fun b8 => ?_) (fun b8 => ?_)
  have h := h.1 (decT b8)
  refine wpA_skip ?_
  refine wpA_seq ?_
  refine wpA_block ?_
  refine wpA_seq ?_
  refine wpA_region ?_
  refine wpL_op rfl rfl rfl (OpA.asn rfl (by with_reducible conv => lhs; whnf) ?_)
  refine wpL_nil ?_
  iterate 2 refine wpA_seq ?_
  refine wpA_region ?_
  refine wpL_op rfl rfl rfl (OpA.mv rfl (by with_reducible conv => lhs; whnf) ?_)
  refine wpL_op rfl rfl rfl (OpA.gtr rfl rfl rfl ?_)
  refine wpL_nil ?_
  refine wpA_join (S := Int) (G := Unit) (fun gg ss => asg [(0, (encL 2 encLex) a), (1, (encL 2 encLex) b), (5, .ptr c1 3 0 0), (6, .v (.slice none 0 0)), (7, D.i 0), (9, .own c21 1 pre21.length out.length), (10, D.i i), (11, .own c28 1 pre28.length row.length), (12, D.i j), (13, D.i ss)]) (fun gg ss => [(c28, .cells 1 (winL D.i pre28 row post28)), (c21, .cells 1 (winL (encL 1 D.i) pre21 out post21)), (c1, .cells 3 [encCosts c])]) (fun ss => rpot_J2 a b c out i row j again7 ss) ?_ ?_
  refine wpA_cond rfl (fun b19 => ?_) (fun b19 => ?_)
  have h := h.1 (decT b19)
  obtain ⟨q1, q2, q3, q4, h⟩ := h
  refine wpA_draw (m := 12) mo (by kernel_rfl) rfl ?_
  iterate 2 refine DetK.op rfl (OpA.mv rfl (by with_reducible conv => lhs; whnf) ⟨rfl, rfl⟩) ?_
  refine DetK.op rfl (OpA.subi rfl rfl rfl q1 ⟨rfl, rfl⟩) ?_
  refine DetK.op rfl (OpA.ixV rfl ts48 rfl rfl q2 ⟨rfl, rfl⟩) ?_
  refine DetK.op rfl (OpA.load rfl ti25 rfl (.tail .head) (getV (enc := (encL 1 D.i)) q2) rfl ⟨rfl, rfl⟩) ?_
  refine DetK.op rfl (OpA.mv rfl (by with_reducible conv => lhs; whnf) ⟨rfl, rfl⟩) ?_
  refine DetK.op rfl (OpA.iixV (enc := D.i) rfl ts25 rfl rfl rfl q3 ⟨rfl, rfl⟩) ?_
  refine DetK.op rfl (OpA.iload rfl ti3 rfl rfl ⟨rfl, rfl⟩) ?_
  refine DetK.op rfl (OpA.fieldAddr rfl tf24_1 rfl ⟨rfl, rfl⟩) ?_
  refine DetK.op rfl (OpA.load rfl ti3 rfl (.tail (.tail .head)) rfl rfl ⟨rfl, rfl⟩) ?_
  refine DetK.op rfl (OpA.addi rfl rfl rfl q4 ⟨rfl, rfl⟩) ?_
  refine DetK.op rfl (OpA.asn rfl (by with_reducible conv => lhs; whnf) ⟨rfl, rfl⟩) ?_
  refine DetK.nil ?_
  refine wpL_nil ?_
  exact ⟨(), ((gi (gi out (i - 1)) j) + c.drop), h, (Cov.asg ⟨rfl, rfl, rfl, rfl, rfl, rfl, rfl, rfl, rfl, rfl, trivial⟩), (.refl _)⟩
  have h := h.2 (decF b19)
  refine wpA_skip ?_
  exact ⟨(), 0, h, (Cov.asg ⟨rfl, rfl, rfl, rfl, rfl, rfl, rfl, rfl, rfl, rfl, trivial⟩), (.refl _)⟩
  rintro _ best h
  have h : rpot_J2 a b c out i row j again7 best := h
  unfold rpot_J2 at h
  show wpA _ _ _ _ (asg [(0, (encL 2 encLex) a), (1, (encL 2 encLex) b), (5, .ptr c1 3 0 0), (6, .v (.slice none 0 0)), (7, D.i 0), (9, .own c21 1 pre21.length out.length), (10, D.i i), (11, .own c28 1 pre28.length row.length), (12, D.i j), (13, D.i best)]) [(c28, .cells 1 (winL D.i pre28 row post28)), (c21, .cells 1 (winL (encL 1 D.i) pre21 out post21)), (c1, .cells 3 [encCosts c])]
  iterate 2 refine wpA_seq ?_
  obtain ⟨q1, h⟩ := h
  refine wpA_mid (asg [(0, (encL 2 encLex) a), (1, (encL 2 encLex) b), (5, .ptr c1 3 0 0), (6, .v (.slice none 0 0)), (7, D.i 0), (9, .own c21 1 pre21.length out.length), (10, D.i i), (11, .own c28 1 pre28.length row.length), (12, D.i j), (13, D.i best), (65, D.b ((decide (j > 0)) && ((i == 0) || (decide (((gi row (j - 1)) + c.add) < best)))))]) [(c28, .cells 1 (winL D.i pre28 row post28)), (c21, .cells 1 (winL (encL 1 D.i) pre21 out post21)), (c1, .cells 3 [encCosts c])] ?_ ?_
  refine wpA_draw (m := 18) mo (by kernel_rfl) rfl ?_
  refine DetK.op rfl (OpA.mv rfl (by with_reducible conv => lhs; whnf) ⟨rfl, rfl⟩) ?_
  refine DetK.op rfl (OpA.gtr rfl rfl rfl ⟨rfl, rfl⟩) ?_
  refine DetK.op rfl (OpA.mv rfl (by with_reducible conv => lhs; whnf) ⟨rfl, rfl⟩) ?_
  refine DetK_split (s := 50) rfl (fun b17 => ?_) (fun b17 => ?_)
  refine DetK.opg rfl rfl rfl rfl (OpA.mv rfl (by with_reducible conv => lhs; whnf) ⟨rfl, rfl⟩) ?_
  refine DetK.opg rfl rfl rfl rfl (OpA.eql rfl rfl rfl ⟨rfl, rfl⟩) ?_
  refine DetK.opg rfl rfl rfl rfl (OpA.mv rfl (by with_reducible conv => lhs; whnf) ⟨rfl, rfl⟩) ?_
  refine DetK_split (s := 53) rfl (fun b18 => ?_) (fun b18 => ?_)
  iterate 10 refine DetK.skip rfl rfl rfl rfl ?_
  refine DetK.opg rfl rfl rfl rfl (OpA.pck rfl rfl (by with_reducible conv => lhs; whnf) ⟨rfl, rfl⟩) ?_
  refine DetK.op rfl (OpA.pck rfl rfl (by with_reducible conv => lhs; whnf) ⟨rfl, rfl⟩) ?_
  refine DetK.nil ?_
  refine wpL_nil ?_
  exact ⟨(Cov.asg ⟨rfl, rfl, rfl, rfl, rfl, rfl, rfl, rfl, rfl, rfl, (congrArg D.b (Eq.symm (andN b17 (orS b18)))), trivial⟩), (.refl _)⟩
  iterate 2 refine DetK.opg rfl rfl rfl rfl (OpA.mv rfl (by with_reducible conv => lhs; whnf) ⟨rfl, rfl⟩) ?_
  refine DetK.opg rfl rfl rfl rfl (OpA.subi rfl rfl rfl ((q1 (decT b17)) (beqF b18)).1 ⟨rfl, rfl⟩) ?_
  refine DetK.opg rfl rfl rfl rfl (OpA.ixV rfl ts25 rfl rfl ((q1 (decT b17)) (beqF b18)).2.1 ⟨rfl, rfl⟩) ?_
  refine DetK.opg rfl rfl rfl rfl (OpA.load rfl ti3 rfl .head (getV (enc := D.i) ((q1 (decT b17)) (beqF b18)).2.1) rfl ⟨rfl, rfl⟩) ?_
  refine DetK.opg rfl rfl rfl rfl (OpA.fieldAddr rfl tf24_2 rfl ⟨rfl, rfl⟩) ?_
  refine DetK.opg rfl rfl rfl rfl (OpA.load rfl ti3 rfl (.tail (.tail .head)) rfl rfl ⟨rfl, rfl⟩) ?_
  refine DetK.opg rfl rfl rfl rfl (OpA.addi rfl rfl rfl ((q1 (decT b17)) (beqF b18)).2.2 ⟨rfl, rfl⟩) ?_
  refine DetK.opg rfl rfl rfl rfl (OpA.mv rfl (by with_reducible conv => lhs; whnf) ⟨rfl, rfl⟩) ?_
  refine DetK.opg rfl rfl rfl rfl (OpA.lss rfl rfl rfl ⟨rfl, rfl⟩) ?_
  refine DetK.opg rfl rfl rfl rfl (OpA.pck rfl rfl (by with_reducible conv => lhs; whnf) ⟨rfl, rfl⟩) ?_
  refine DetK.op rfl (OpA.pck rfl rfl (by with_reducible conv => lhs; whnf) ⟨rfl, rfl⟩) ?_
  refine DetK.nil ?_
  refine wpL_nil ?_
  exact ⟨(Cov.asg ⟨rfl, rfl, rfl, rfl, rfl, rfl, rfl, rfl, rfl, rfl, (congrArg D.b (Eq.symm (andN b17 (orN b18 rfl)))), trivial⟩), (.refl _)⟩
  iterate 3 refine DetK.skip rfl rfl rfl rfl ?_
  iterate 10 refine DetK.skipU rfl rfl rfl ?_
  refine DetK.skip rfl rfl rfl rfl ?_
  refine DetK.op rfl (OpA.pck rfl rfl (by with_reducible conv => lhs; whnf) ⟨rfl, rfl⟩) ?_
  refine DetK.nil ?_
  refine wpL_nil ?_
  exact ⟨(Cov.asg ⟨rfl, rfl, rfl, rfl, rfl, rfl, rfl, rfl, rfl, rfl, (congrArg D.b (Eq.symm (andS b17))), trivial⟩), (.refl _)⟩
  show wpA _ _ _ _ (asg [(0, (encL 2 encLex) a), (1, (encL 2 encLex) b), (5, .ptr c1 3 0 0), (6, .v (.slice none 0 0)), (7, D.i 0), (9, .own c21 1 pre21.length out.length), (10, D.i i), (11, .own c28 1 pre28.length row.length), (12, D.i j), (13, D.i best), (65, D.b ((decide (j > 0)) && ((i == 0) || (decide (((gi row (j - 1)) + c.add) < best)))))]) [(c28, .cells 1 (winL D.i pre28 row post28)), (c21, .cells 1 (winL (encL 1 D.i) pre21 out post21)), (c1, .cells 3 [encCosts c])]
  refine wpA_join (S := Int) (G := Unit) (fun gg ss => asg [(0, (encL 2 encLex) a), (1, (encL 2 encLex) b), (5, .ptr c1 3 0 0), (6, .v (.slice none 0 0)), (7, D.i 0), (9, .own c21 1 pre21.length out.length), (10, D.i i), (11, .own c28 1 pre28.length row.length), (12, D.i j), (13, D.i ss)]) (fun gg ss => [(c28, .cells 1 (winL D.i pre28 row post28)), (c21, .cells 1 (winL (encL 1 D.i) pre21 out post21)), (c1, .cells 3 [encCosts c])]) (fun ss => rpot_J1 a b c out i row j again7 ss) ?_ ?_
  refine wpA_cond rfl (fun b16 => ?_) (fun b16 => ?_)
  have h := h.1 ⟨(decT (and1 b16)), ((or0 (and2 b16)).imp (fun hh => (beqT hh)) (fun hh => (decT hh)))⟩
  obtain ⟨q1, q2, q3, h⟩ := h
  refine wpA_draw (m := 9) mo (by kernel_rfl) rfl ?_
  iterate 2 refine DetK.op rfl (OpA.mv rfl (by with_reducible conv => lhs; whnf) ⟨rfl, rfl⟩) ?_
  refine DetK.op rfl (OpA.subi rfl rfl rfl q1 ⟨rfl, rfl⟩) ?_
  refine DetK.op rfl (OpA.ixV rfl ts25 rfl rfl q2 ⟨rfl, rfl⟩) ?_
  refine DetK.op rfl (OpA.load rfl ti3 rfl .head (getV (enc := D.i) q2) rfl ⟨rfl, rfl⟩) ?_
  refine DetK.op rfl (OpA.fieldAddr rfl tf24_2 rfl ⟨rfl, rfl⟩) ?_
  refine DetK.op rfl (OpA.load rfl ti3 rfl (.tail (.tail .head)) rfl rfl ⟨rfl, rfl⟩) ?_
  refine DetK.op rfl (OpA.addi rfl rfl rfl q3 ⟨rfl, rfl⟩) ?_
  refine DetK.op rfl (OpA.asn rfl (by with_reducible conv => lhs; whnf) ⟨rfl, rfl⟩) ?_
  refine DetK.nil ?_
  refine wpL_nil ?_
  exact ⟨(), ((gi row (j - 1)) + c.add), h, (Cov.asg ⟨rfl, rfl, rfl, rfl, rfl, rfl, rfl, rfl, rfl, rfl, trivial⟩), (.refl _)⟩
  have h := h.2 ((and0 b16).imp (fun hh => (decF hh)) (fun hh => ⟨(beqF (or1 hh)), (decF (or2 hh))⟩))
  refine wpA_skip ?_
  exact ⟨(), best, h, (Cov.asg ⟨rfl, rfl, rfl, rfl, rfl, rfl, rfl, rfl, rfl, rfl, trivial⟩), (.refl _)⟩
  rintro _ best1 h
  have h : rpot_J1 a b c out i row j again7 best1 := h
  unfold rpot_J1 at h
  show wpA _ _ _ _ (asg [(0, (encL 2 encLex) a), (1, (encL 2 encLex) b), (5, .ptr c1 3 0 0), (6, .v (.slice none 0 0)), (7, D.i 0), (9, .own c21 1 pre21.length out.length), (10, D.i i), (11, .own c28 1 pre28.length row.length), (12, D.i j), (13, D.i best1)]) [(c28, .cells 1 (winL D.i pre28 row post28)), (c21, .cells 1 (winL (encL 1 D.i) pre21 out post21)), (c1, .cells 3 [encCosts c])]
  iterate 2 refine wpA_seq ?_
  obtain ⟨q1, h⟩ := h
  refine wpA_mid (asg [(0, (encL 2 encLex) a), (1, (encL 2 encLex) b), (5, .ptr c1 3 0 0), (6, .v (.slice none 0 0)), (7, D.i 0), (9, .own c21 1 pre21.length out.length), (10, D.i i), (11, .own c28 1 pre28.length row.length), (12, D.i j), (13, D.i best1), (105, D.b (((decide (i > 0)) && (decide (j > 0))) && (decide (((gi (gi out (i - 1)) (j - 1)) + (pairF (gi a (i - 1)) (gi b (j - 1)) c)) < best1))))]) [(c28, .cells 1 (winL D.i pre28 row post28)), (c21, .cells 1 (winL (encL 1 D.i) pre21 out post21)), (c1, .cells 3 [encCosts c])] ?_ ?_
  refine wpA_draw (m := 32) mo (by kernel_rfl) rfl ?_
  refine DetK.op rfl (OpA.mv rfl (by with_reducible conv => lhs; whnf) ⟨rfl, rfl⟩) ?_
  refine DetK.op rfl (OpA.gtr rfl rfl rfl ⟨rfl, rfl⟩) ?_
  refine DetK.op rfl (OpA.mv rfl (by with_reducible conv => lhs; whnf) ⟨rfl, rfl⟩) ?_
  refine DetK_split (s := 76) rfl (fun b14 => ?_) (fun b14 => ?_)
  refine DetK.opg rfl rfl rfl rfl (OpA.mv rfl (by with_reducible conv => lhs; whnf) ⟨rfl, rfl⟩) ?_
  refine DetK.opg rfl rfl rfl rfl (OpA.gtr rfl rfl rfl ⟨rfl, rfl⟩) ?_
  refine DetK.op rfl (OpA.pck rfl rfl (by with_reducible conv => lhs; whnf) ⟨rfl, rfl⟩) ?_
  refine DetK.op rfl (OpA.mv rfl (by with_reducible conv => lhs; whnf) ⟨rfl, rfl⟩) ?_
  refine DetK_split (s := 80) rfl (fun b15 => ?_) (fun b15 => ?_)
  iterate 2 refine DetK.opg rfl rfl rfl rfl (OpA.mv rfl (by with_reducible conv => lhs; whnf) ⟨rfl, rfl⟩) ?_
  refine DetK.opg rfl rfl rfl rfl (OpA.subi rfl rfl rfl (q1 ⟨(decT b14), (decT b15)⟩).1 ⟨rfl, rfl⟩) ?_
  refine DetK.opg rfl rfl rfl rfl (OpA.ixV rfl ts48 rfl rfl (q1 ⟨(decT b14), (decT b15)⟩).2.1 ⟨rfl, rfl⟩) ?_
  refine DetK.opg rfl rfl rfl rfl (OpA.load rfl ti25 rfl (.tail .head) (getV (enc := (encL 1 D.i)) (q1 ⟨(decT b14), (decT b15)⟩).2.1) rfl ⟨rfl, rfl⟩) ?_
  refine DetK.opg rfl rfl rfl rfl (OpA.mv rfl (by with_reducible conv => lhs; whnf) ⟨rfl, rfl⟩) ?_
  refine DetK.opg rfl rfl rfl rfl (OpA.subi rfl rfl rfl (q1 ⟨(decT b14), (decT b15)⟩).2.2.1 ⟨rfl, rfl⟩) ?_
  refine DetK.opg rfl rfl rfl rfl (OpA.iixV (enc := D.i) rfl ts25 rfl rfl rfl (q1 ⟨(decT b14), (decT b15)⟩).2.2.2.1 ⟨rfl, rfl⟩) ?_
  refine DetK.opg rfl rfl rfl rfl (OpA.iload rfl ti3 rfl rfl ⟨rfl, rfl⟩) ?_
  iterate 2 refine DetK.opg rfl rfl rfl rfl (OpA.mv rfl (by with_reducible conv => lhs; whnf) ⟨rfl, rfl⟩) ?_
  refine DetK.opg rfl rfl rfl rfl (OpA.subi rfl rfl rfl (q1 ⟨(decT b14), (decT b15)⟩).1 ⟨rfl, rfl⟩) ?_
  refine DetK.opg rfl rfl rfl rfl (OpA.iixV (enc := encLex) rfl ts22 rfl rfl rfl (q1 ⟨(decT b14), (decT b15)⟩).2.2.2.2.1 ⟨rfl, rfl⟩) ?_
  refine DetK.opg rfl rfl rfl rfl (OpA.iload_whole rfl ti40 rfl ⟨_, rfl, rfl⟩ ⟨rfl, rfl⟩) ?_
  iterate 2 refine DetK.opg rfl rfl rfl rfl (OpA.mv rfl (by with_reducible conv => lhs; whnf) ⟨rfl, rfl⟩) ?_
  refine DetK.opg rfl rfl rfl rfl (OpA.subi rfl rfl rfl (q1 ⟨(decT b14), (decT b15)⟩).2.2.1 ⟨rfl, rfl⟩) ?_
  refine DetK.opg rfl rfl rfl rfl (OpA.iixV (enc := encLex) rfl ts22 rfl rfl rfl (q1 ⟨(decT b14), (decT b15)⟩).2.2.2.2.2.1 ⟨rfl, rfl⟩) ?_
  refine DetK.opg rfl rfl rfl rfl (OpA.iload_whole rfl ti40 rfl ⟨_, rfl, rfl⟩ ⟨rfl, rfl⟩) ?_
  refine DetK.opg rfl rfl rfl rfl (OpA.load_whole rfl ti24 rfl rfl (.tail (.tail .head)) rfl ⟨_, rfl⟩ ⟨rfl, rfl⟩) ?_
  refine DetK.opg rfl rfl rfl rfl (OpA.call rfl rfl rfl en38 (price_fun (gi a (i - 1)) (gi b (j - 1)) c ) (by rintro _ rfl; exact ⟨rfl, rfl⟩)) ?_
  refine DetK.opg rfl rfl rfl rfl (OpA.addi rfl rfl rfl (q1 ⟨(decT b14), (decT b15)⟩).2.2.2.2.2.2 ⟨rfl, rfl⟩) ?_
  refine DetK.opg rfl rfl rfl rfl (OpA.mv rfl (by with_reducible conv => lhs; whnf) ⟨rfl, rfl⟩) ?_
  refine DetK.opg rfl rfl rfl rfl (OpA.lss rfl rfl rfl ⟨rfl, rfl⟩) ?_
  refine DetK.op rfl (OpA.pck rfl rfl (by with_reducible conv => lhs; whnf) ⟨rfl, rfl⟩) ?_
  refine DetK.nil ?_
  refine wpL_nil ?_
  exact ⟨(Cov.asg ⟨rfl, rfl, rfl, rfl, rfl, rfl, rfl, rfl, rfl, rfl, (congrArg D.b (Eq.symm (andN (andN b14 b15) rfl))), trivial⟩), (.refl _)⟩
  iterate 24 refine DetK.skip rfl rfl rfl rfl ?_
  refine DetK.op rfl (OpA.pck rfl rfl (by with_reducible conv => lhs; whnf) ⟨rfl, rfl⟩) ?_
  refine DetK.nil ?_
  refine wpL_nil ?_
  exact ⟨(Cov.asg ⟨rfl, rfl, rfl, rfl, rfl, rfl, rfl, rfl, rfl, rfl, (congrArg D.b (Eq.symm (andS (andN b14 b15)))), trivial⟩), (.refl _)⟩
  iterate 2 refine DetK.skip rfl rfl rfl rfl ?_
  refine DetK.op rfl (OpA.pck rfl rfl (by with_reducible conv => lhs; whnf) ⟨rfl, rfl⟩) ?_
  refine DetK.op rfl (OpA.mv rfl (by with_reducible conv => lhs; whnf) ⟨rfl, rfl⟩) ?_
  iterate 24 refine DetK.skip rfl rfl rfl rfl ?_
  refine DetK.op rfl (OpA.pck rfl rfl (by with_reducible conv => lhs; whnf) ⟨rfl, rfl⟩) ?_
  refine DetK.nil ?_
  refine wpL_nil ?_
  exact ⟨(Cov.asg ⟨rfl, rfl, rfl, rfl, rfl, rfl, rfl, rfl, rfl, rfl, (congrArg D.b (Eq.symm (andS (andS b14)))), trivial⟩), (.refl _)⟩
  show wpA _ _ _ _ (asg [(0, (encL 2 encLex) a), (1, (encL 2 encLex) b), (5, .ptr c1 3 0 0), (6, .v (.slice none 0 0)), (7, D.i 0), (9, .own c21 1 pre21.length out.length), (10, D.i i), (11, .own c28 1 pre28.length row.length), (12, D.i j), (13, D.i best1), (105, D.b (((decide (i > 0)) && (decide (j > 0))) && (decide (((gi (gi out (i - 1)) (j - 1)) + (pairF (gi a (i - 1)) (gi b (j - 1)) c)) < best1))))]) [(c28, .cells 1 (winL D.i pre28 row post28)), (c21, .cells 1 (winL (encL 1 D.i) pre21 out post21)), (c1, .cells 3 [encCosts c])]
  refine wpA_cond rfl (fun b9 => ?_) (fun b9 => ?_)
  have h := h.1 ⟨⟨(decT (and1 (and1 b9))), (decT (and2 (and1 b9)))⟩, (decT (and2 b9))⟩
  obtain ⟨q1, q2, q3, q4, q5, q6, q7, h⟩ := h
  refine wpA_draw (m := 23) mo (by kernel_rfl) rfl ?_
  iterate 2 refine DetK.op rfl (OpA.mv rfl (by with_reducible conv => lhs; whnf) ⟨rfl, rfl⟩) ?_
  refine DetK.op rfl (OpA.subi rfl rfl rfl q1 ⟨rfl, rfl⟩) ?_
  refine DetK.op rfl (OpA.ixV rfl ts48 rfl rfl q2 ⟨rfl, rfl⟩) ?_
  refine DetK.op rfl (OpA.load rfl ti25 rfl (.tail .head) (getV (enc := (encL 1 D.i)) q2) rfl ⟨rfl, rfl⟩) ?_
  refine DetK.op rfl (OpA.mv rfl (by with_reducible conv => lhs; whnf) ⟨rfl, rfl⟩) ?_
  refine DetK.op rfl (OpA.subi rfl rfl rfl q3 ⟨rfl, rfl⟩) ?_
  refine DetK.op rfl (OpA.iixV (enc := D.i) rfl ts25 rfl rfl rfl q4 ⟨rfl, rfl⟩) ?_
  refine DetK.op rfl (OpA.iload rfl ti3 rfl rfl ⟨rfl, rfl⟩) ?_
  iterate 2 refine DetK.op rfl (OpA.mv rfl (by with_reducible conv => lhs; whnf) ⟨rfl, rfl⟩) ?_
  refine DetK.op rfl (OpA.subi rfl rfl rfl q1 ⟨rfl, rfl⟩) ?_
  refine DetK.op rfl (OpA.iixV (enc := encLex) rfl ts22 rfl rfl rfl q5 ⟨rfl, rfl⟩) ?_
  refine DetK.op rfl (OpA.iload_whole rfl ti40 rfl ⟨_, rfl, rfl⟩ ⟨rfl, rfl⟩) ?_
  iterate 2 refine DetK.op rfl (OpA.mv rfl (by with_reducible conv => lhs; whnf) ⟨rfl, rfl⟩) ?_
  refine DetK.op rfl (OpA.subi rfl rfl rfl q3 ⟨rfl, rfl⟩) ?_
  refine DetK.op rfl (OpA.iixV (enc := encLex) rfl ts22 rfl rfl rfl q6 ⟨rfl, rfl⟩) ?_
  refine DetK.op rfl (OpA.iload_whole rfl ti40 rfl ⟨_, rfl, rfl⟩ ⟨rfl, rfl⟩) ?_
  refine DetK.op rfl (OpA.load_whole rfl ti24 rfl rfl (.tail (.tail .head)) rfl ⟨_, rfl⟩ ⟨rfl, rfl⟩) ?_
  refine DetK.op rfl (OpA.call rfl rfl rfl en38 (price_fun (gi a (i - 1)) (gi b (j - 1)) c ) (by rintro _ rfl; exact ⟨rfl, rfl⟩)) ?_
  refine DetK.op rfl (OpA.addi rfl rfl rfl q7 ⟨rfl, rfl⟩) ?_
  refine DetK.op rfl (OpA.asn rfl (by with_reducible conv => lhs; whnf) ⟨rfl, rfl⟩) ?_
  refine DetK.nil ?_
  refine wpL_nil ?_
  obtain ⟨q1, h⟩ := h
  refine wpA_region ?_
  refine wpL_op rfl rfl rfl (OpA.mv rfl (by with_reducible conv => lhs; whnf) ?_)
  refine wpL_op rfl rfl rfl (OpA.mv rfl (by with_reducible conv => lhs; whnf) ?_)
  refine wpL_op rfl rfl rfl (OpA.ibuildSliceO rfl ts25 rfl (.cons (.of (sz := 1) rfl) .nil) (by decide) ?_)
  refine wpL_op rfl rfl rfl (OpA.appendW (enc := D.i) rfl rfl rfl rfl ts25 rfl (fun _ _ => .head) (.list (ys := ([((gi (gi out (i - 1)) (j - 1)) + (pairF (gi a (i - 1)) (gi b (j - 1)) c))] : List Int))) q1 (fun c10 pre11 => ?_))
  refine wpL_op rfl rfl rfl (OpA.asn rfl (by with_reducible conv => lhs; whnf) ?_)
  refine wpL_nil ?_
  obtain ⟨q1, h⟩ := h
  refine wpA_region ?_
  refine wpL_op rfl rfl rfl (OpA.mv rfl (by with_reducible conv => lhs; whnf) ?_)
  refine wpL_op rfl rfl rfl (OpA.addi rfl rfl rfl q1 ?_)
  refine wpL_op rfl rfl rfl (OpA.asn rfl (by with_reducible conv => lhs; whnf) ?_)
  refine wpL_nil ?_
  exact ⟨(c10, pre11, ([] : List D)), ((row ++ ([((gi (gi out (i - 1)) (j - 1)) + (pairF (gi a (i - 1)) (gi b (j - 1)) c))] : List Int)), (j + 1)), h, (Cov.asg ⟨rfl, rfl, rfl, rfl, rfl, rfl, rfl, rfl, rfl, trivial⟩), (.refl _)⟩
  have h := h.2 ((and0 b9).imp (fun hh => ((and0 hh).imp (fun hh => (decF hh)) (fun hh => (decF hh)))) (fun hh => (decF hh)))
  refine wpA_skip ?_
  obtain ⟨q1, h⟩ := h
  refine wpA_region ?_
  refine wpL_op rfl rfl rfl (OpA.mv rfl (by with_reducible conv => lhs; whnf) ?_)
  refine wpL_op rfl rfl rfl (OpA.mv rfl (by with_reducible conv => lhs; whnf) ?_)
  refine wpL_op rfl rfl rfl (OpA.ibuildSliceO rfl ts25 rfl (.cons (.of (sz := 1) rfl) .nil) (by decide) ?_)
  refine wpL_op rfl rfl rfl (OpA.appendW (enc := D.i) rfl rfl rfl rfl ts25 rfl (fun _ _ => .head) (.list (ys := ([best1] : List Int))) q1 (fun c12 pre13 => ?_))
  refine wpL_op rfl rfl rfl (OpA.asn rfl (by with_reducible conv => lhs; whnf) ?_)
  refine wpL_nil ?_
  obtain ⟨q1, h⟩ := h
  refine wpA_region ?_
  refine wpL_op rfl rfl rfl (OpA.mv rfl (by with_reducible conv => lhs; whnf) ?_)
  refine wpL_op rfl rfl rfl (OpA.addi rfl rfl rfl q1 ?_)
  refine wpL_op rfl rfl rfl (OpA.asn rfl (by with_reducible conv => lhs; whnf) ?_)
  refine wpL_nil ?_
  exact ⟨(c12, pre13, ([] : List D)), ((row ++ ([best1] : List Int)), (j + 1)), h, (Cov.asg ⟨rfl, rfl, rfl, rfl, rfl, rfl, rfl, rfl, rfl, trivial⟩), (.refl _)⟩
  have h := h.2 (decF b8)
  refine wpA_exit ?_
  obtain ⟨q1, h⟩ := h
  refine wpA_region ?_
  refine wpL_op rfl rfl rfl (OpA.mv rfl (by with_reducible conv => lhs; whnf) ?_)
  refine wpL_op rfl rfl rfl (OpA.freeze (.inl rfl) rfl (.refl _) (.win (enc := D.i) .head (by intro hf; cases hf) .nil) ?_)
  refine wpL_op rfl rfl rfl (OpA.ibuildSliceO rfl ts48 rfl (.cons (.of (sz := 1) rfl) .nil) (by decide) ?_)
  refine wpL_op rfl rfl rfl (OpA.appendW (enc := (encL 1 D.i)) rfl rfl rfl rfl ts48 rfl (fun _ _ => .head) (.list (ys := ([row] : List (List Int)))) q1 (fun c20 pre21 => ?_))
  refine wpL_op rfl rfl rfl (OpA.asn rfl (by with_reducible conv => lhs; whnf) ?_)
  refine wpL_nil ?_
  obtain ⟨q1, h⟩ := h
  refine wpA_region ?_
  refine wpL_op rfl rfl rfl (OpA.mv rfl (by with_reducible conv => lhs; whnf) ?_)
  refine wpL_op rfl rfl rfl (OpA.addi rfl rfl rfl q1 ?_)
  refine wpL_op rfl rfl rfl (OpA.asn rfl (by with_reducible conv => lhs; whnf) ?_)
  refine wpL_nil ?_
  exact ⟨(c20, pre21, ([] : List D)), ((out ++ ([row] : List (List Int))), (i + 1)), h, (Cov.asg ⟨rfl, rfl, rfl, rfl, rfl, rfl, rfl, trivial⟩), (.refl _)⟩
  have h := h.2 (decF b5)
  refine wpA_exit ?_
  refine wpA_seq ?_
  refine wpA_region ?_
  refine wpL_op rfl rfl rfl (OpA.mv rfl (by with_reducible conv => lhs; whnf) ?_)
  refine wpL_op rfl rfl rfl (OpA.asn rfl (by with_reducible conv => lhs; whnf) ?_)
  refine wpL_op rfl rfl rfl (OpA.asn rfl (by with_reducible conv => lhs; whnf) ?_)
  refine wpL_nil ?_
  refine wpA_ret ?_
  exact ⟨_, (.tmp (d := .own c21 1 pre21.length out.length) rfl (.tmp (d := D.i 0) rfl .nil)), _, (.tup (.win .head (by intro hf; cases hf) (.same rfl .nil)) .nil), ⟨(out, 0), rfl, h⟩⟩
theorem rpot_c (a : (List Lexeme)) (b : (List Lexeme)) (c : Costs)   : Fun false Try.prog 26 [(encL 2 encLex) a, (encL 2 encLex) b, encCosts c] (fun d => d = .tup [(encL 1 (encL 1 D.i)) ((potF a b c).1), D.i ((potF a b c).2)]) :=
  Fun.at (enc := fun r => .tup [(encL 1 (encL 1 D.i)) (r.1), D.i (r.2)]) (v := potF a b c) (rpot_w a b c  (fun r => r = potF a b c) (rpot_ok a b c _  rfl))

set_option maxHeartbeats 2000000 in
set_option maxRecDepth 10000 in
theorem same_w (a : (List (List Int))) (b : (List (List Int)))  (Q : Bool → Prop) (h : same_vc a b Q) : Fun false Try.prog 29 [(encL 1 (encL 1 D.i)) a, (encL 1 (encL 1 D.i)) b] (fun d => ∃ r, d = D.b r ∧ Q r) := by
  unfold same_vc at h
  refine Fun.of_body Try.func29 rfl Try.ntmps29 rfl ?_
  refine wpA_seq ?_
  refine wpA_region ?_
  refine wpL_op rfl rfl rfl (OpA.asn rfl (by with_reducible conv => lhs; whnf) ?_)
  refine wpL_nil ?_
  iterate 2 refine wpA_seq ?_
  refine wpA_region ?_
  refine wpL_op rfl rfl rfl (OpA.mv rfl (by with_reducible conv => lhs; whnf) ?_)
  refine wpL_op rfl rfl rfl (OpA.len rfl rfl rfl rfl ts48.desc (.inl ⟨_, _, rfl, (List.length_map _).symm⟩) ?_)
  refine wpL_op rfl rfl rfl (OpA.mv rfl (by with_reducible conv => lhs; whnf) ?_)
  refine wpL_op rfl rfl rfl (OpA.len rfl rfl rfl rfl ts48.desc (.inl ⟨_, _, rfl, (List.length_map _).symm⟩) ?_)
  refine wpL_op rfl rfl rfl (OpA.neq rfl rfl rfl ?_)
  refine wpL_nil ?_
  refine wpA_cond rfl (fun b1 => ?_) (fun b1 => ?_)
  have h := h.1 (bneT b1)
  refine wpA_seq ?_
  refine wpA_region ?_
  refine wpL_op rfl rfl rfl (OpA.asn rfl (by with_reducible conv => lhs; whnf) ?_)
  refine wpL_nil ?_
  refine wpA_ret ?_
  exact ⟨_, (.tmp (d := D.b false) rfl .nil), _, (.same rfl .nil), ⟨false, rfl, h⟩⟩
  have h := h.2 (bneF b1)
  refine wpA_skip ?_
  iterate 2 refine wpA_seq ?_
  refine wpA_region ?_
  refine wpL_op rfl rfl rfl (OpA.asn rfl (by with_reducible conv => lhs; whnf) ?_)
  refine wpL_nil ?_
  refine wpA_block ?_
  refine wpA_lfp (S := Int) (G := Unit) () (fun gg ss => asg [(0, (encL 1 (encL 1 D.i)) a), (1, (encL 1 (encL 1 D.i)) b), (4, D.b false), (5, D.i ss)]) (fun gg ss => []) h (Cov.asg ⟨rfl, rfl, rfl, rfl, trivial⟩) (.refl _) ?_
  rintro again2 _ i h
  have h : same_L1 a b Q again2 i := h
  unfold same_L1 at h
  show wpA _ _ _ _ (asg [(0, (encL 1 (encL 1 D.i)) a), (1, (encL 1 (encL 1 D.i)) b), (4, D.b false), (5, D.i i)]) []
  iterate 2 refine wpA_seq ?_
  refine wpA_region ?_
  refine wpL_op rfl rfl rfl (OpA.mv rfl (by with_reducible conv => lhs; whnf) ?_)
  refine wpL_op rfl rfl rfl (OpA.mv rfl (by with_reducible conv => lhs; whnf) ?_)
  refine wpL_op rfl rfl rfl (OpA.len rfl rfl rfl rfl ts48.desc (.inl ⟨_, _, rfl, (List.length_map _).symm⟩) ?_)
  refine wpL_op rfl rfl rfl (OpA.lss rfl rfl rfl ?_)
  refine wpL_nil ?_
  refine wpA_cond rfl (fun b3 => ?_) (fun b3 => ?_)
  have h := h.1 (decT b3)
  refine wpA_skip ?_
  refine wpA_seq ?_
  refine wpA_block ?_
  iterate 2 refine wpA_seq ?_
  obtain ⟨q1, q2, h⟩ := h
  refine wpA_draw (m := 11) mo (by kernel_rfl) rfl ?_
  iterate 2 refine DetK.op rfl (OpA.mv rfl (by with_reducible conv => lhs; whnf) ⟨rfl, rfl⟩) ?_
  refine DetK.op rfl (OpA.iixV (enc := (encL 1 D.i)) rfl ts48 rfl rfl rfl q1 ⟨rfl, rfl⟩) ?_
  refine DetK.op rfl (OpA.iload rfl ti25 rfl rfl ⟨rfl, rfl⟩) ?_
  refine DetK.op rfl (OpA.len rfl rfl rfl rfl ts25.desc (.inl ⟨_, _, rfl, (List.length_map _).symm⟩) ⟨rfl, rfl⟩) ?_
  iterate 2 refine DetK.op rfl (OpA.mv rfl (by with_reducible conv => lhs; whnf) ⟨rfl, rfl⟩) ?_
  refine DetK.op rfl (OpA.iixV (enc := (encL 1 D.i)) rfl ts48 rfl rfl rfl q2 ⟨rfl, rfl⟩) ?_
  refine DetK.op rfl (OpA.iload rfl ti25 rfl rfl ⟨rfl, rfl⟩) ?_
  refine DetK.op rfl (OpA.len rfl rfl rfl rfl ts25.desc (.inl ⟨_, _, rfl, (List.length_map _).symm⟩) ⟨rfl, rfl⟩) ?_
  refine DetK.op rfl (OpA.neq rfl rfl rfl ⟨rfl, rfl⟩) ?_
  refine DetK.nil ?_
  refine wpL_nil ?_
  refine wpA_cond rfl (fun b4 => ?_) (fun b4 => ?_)
  have h := h.1 (bneT b4)
  refine wpA_seq ?_
  refine wpA_region ?_
  refine wpL_op rfl rfl rfl (OpA.asn rfl (by with_reducible conv => lhs; whnf) ?_)
  refine wpL_nil ?_
  refine wpA_ret ?_
  exact ⟨_, (.tmp (d := D.b false) rfl .nil), _, (.same rfl .nil), ⟨false, rfl, h⟩⟩
  have h := h.2 (bneF b4)
  refine wpA_skip ?_
  refine wpA_seq ?_
  refine wpA_region ?_
  refine wpL_op rfl rfl rfl (OpA.asn rfl (by with_reducible conv => lhs; whnf) ?_)
  refine wpL_nil ?_
  refine wpA_block ?_
  refine wpA_lfp (S := Int) (G := Unit) () (fun gg ss => asg [(0, (encL 1 (encL 1 D.i)) a), (1, (encL 1 (encL 1 D.i)) b), (4, D.b false), (5, D.i i), (6, D.i ss)]) (fun gg ss => []) h (Cov.asg ⟨rfl, rfl, rfl, rfl, rfl, trivial⟩) (.refl _) ?_
  rintro again5 _ j h
  have h : same_L2 a b i Q again2 again5 j := h
  unfold same_L2 at h
  show wpA _ _ _ _ (asg [(0, (encL 1 (encL 1 D.i)) a), (1, (encL 1 (encL 1 D.i)) b), (4, D.b false), (5, D.i i), (6, D.i j)]) []
  iterate 2 refine wpA_seq ?_
  obtain ⟨q1, h⟩ := h
  refine wpA_region ?_
  refine wpL_op rfl rfl rfl (OpA.mv rfl (by with_reducible conv => lhs; whnf) ?_)
  refine wpL_op rfl rfl rfl (OpA.mv rfl (by with_reducible conv => lhs; whnf) ?_)
  refine wpL_op rfl rfl rfl (OpA.mv rfl (by with_reducible conv => lhs; whnf) ?_)
  refine wpL_op rfl rfl rfl (OpA.iixV (enc := (encL 1 D.i)) rfl ts48 rfl rfl rfl q1 ?_)
  refine wpL_op rfl rfl rfl (OpA.iload rfl ti25 rfl rfl ?_)
  refine wpL_op rfl rfl rfl (OpA.len rfl rfl rfl rfl ts25.desc (.inl ⟨_, _, rfl, (List.length_map _).symm⟩) ?_)
  refine wpL_op rfl rfl rfl (OpA.lss rfl rfl rfl ?_)
  refine wpL_nil ?_
  refine wpA_cond rfl (fun b6 => ?_) (fun b6 => ?_)
  have h := h.1 (decT b6)
  refine wpA_skip ?_
  refine wpA_seq ?_
  refine wpA_block ?_
  refine wpA_seq ?_
  obtain ⟨q1, q2, q3, q4, h⟩ := h
  refine wpA_draw (m := 15) mo (by kernel_rfl) rfl ?_
  iterate 2 refine DetK.op rfl (OpA.mv rfl (by with_reducible conv => lhs; whnf) ⟨rfl, rfl⟩) ?_
  refine DetK.op rfl (OpA.iixV (enc := (encL 1 D.i)) rfl ts48 rfl rfl rfl q1 ⟨rfl, rfl⟩) ?_
  refine DetK.op rfl (OpA.iload rfl ti25 rfl rfl ⟨rfl, rfl⟩) ?_
  refine DetK.op rfl (OpA.mv rfl (by with_reducible conv => lhs; whnf) ⟨rfl, rfl⟩) ?_
  refine DetK.op rfl (OpA.iixV (enc := D.i) rfl ts25 rfl rfl rfl q2 ⟨rfl, rfl⟩) ?_
  refine DetK.op rfl (OpA.iload rfl ti3 rfl rfl ⟨rfl, rfl⟩) ?_
  iterate 2 refine DetK.op rfl (OpA.mv rfl (by with_reducible conv => lhs; whnf) ⟨rfl, rfl⟩) ?_
  refine DetK.op rfl (OpA.iixV (enc := (encL 1 D.i)) rfl ts48 rfl rfl rfl q3 ⟨rfl, rfl⟩) ?_
  refine DetK.op rfl (OpA.iload rfl ti25 rfl rfl ⟨rfl, rfl⟩) ?_
  refine DetK.op rfl (OpA.mv rfl (by with_reducible conv => lhs; whnf) ⟨rfl, rfl⟩) ?_
  refine DetK.op rfl (OpA.iixV (enc := D.i) rfl ts25 rfl rfl rfl q4 ⟨rfl, rfl⟩) ?_
  refine DetK.op rfl (OpA.iload rfl ti3 rfl rfl ⟨rfl, rfl⟩) ?_
  refine DetK.op rfl (OpA.neq rfl rfl rfl ⟨rfl, rfl⟩) ?_
  refine DetK.nil ?_
  refine wpL_nil ?_
  refine wpA_cond rfl (fun b7 => ?_) (fun b7 => ?_)
  have h := h.1 (bneT b7)
  refine wpA_seq ?_
  refine wpA_region ?_
  refine wpL_op rfl rfl rfl (OpA.asn rfl (by with_reducible conv => lhs; whnf) ?_)
  refine wpL_nil ?_
  refine wpA_ret ?_
  exact ⟨_, (.tmp (d := D.b false) rfl .nil), _, (.same rfl .nil), ⟨false, rfl, h⟩⟩
  have h := h.2 (bneF b7)
  refine wpA_skip ?_
  obtain ⟨q1, h⟩ := h
  refine wpA_region ?_
  refine wpL_op rfl rfl rfl (OpA.mv rfl (by with_reducible conv => lhs; whnf) ?_)
  refine wpL_op rfl rfl rfl (OpA.addi rfl rfl rfl q1 ?_)
  refine wpL_op rfl rfl rfl (OpA.asn rfl (by with_reducible conv => lhs; whnf) ?_)
  refine wpL_nil ?_
  exact ⟨(), (j + 1), h, (Cov.asg ⟨rfl, rfl, rfl, rfl, rfl, trivial⟩), (.refl _)⟩
  have h := h.2 (decF b6)
  refine wpA_exit ?_
  obtain ⟨q1, h⟩ := h
  refine wpA_region ?_
  refine wpL_op rfl rfl rfl (OpA.mv rfl (by with_reducible conv => lhs; whnf) ?_)
  refine wpL_op rfl rfl rfl (OpA.addi rfl rfl rfl q1 ?_)
  refine wpL_op rfl rfl rfl (OpA.asn rfl (by with_reducible conv => lhs; whnf) ?_)
  refine wpL_nil ?_
  exact ⟨(), (i + 1), h, (Cov.asg ⟨rfl, rfl, rfl, rfl, trivial⟩), (.refl _)⟩
  have h := h.2 (decF b3)
  refine wpA_exit ?_
  refine wpA_seq ?_
  refine wpA_region ?_
  refine wpL_op rfl rfl rfl (OpA.asn rfl (by with_reducible conv => lhs; whnf) ?_)
  refine wpL_nil ?_
  refine wpA_ret ?_
  exact ⟨_, (.tmp (d := D.b true) rfl .nil), _, (.same rfl .nil), ⟨true, rfl, h⟩⟩
theorem same_c (a : (List (List Int))) (b : (List (List Int)))  (hp0 : (a).length ≤ 1025) (hp1 : ∀ r ∈ a, r.length ≤ 1025) : Fun false Try.prog 29 [(encL 1 (encL 1 D.i)) a, (encL 1 (encL 1 D.i)) b] (fun d => d = D.b ((decide (a = b)))) :=
  Fun.at (enc := fun r => D.b r) (v := (decide (a = b))) (same_w a b  (fun r => r = (decide (a = b))) (same_ok a b _ hp0 hp1 rfl))

set_option maxHeartbeats 2000000 in
set_option maxRecDepth 10000 in
theorem metric1_w (p : Lexeme) (q : Lexeme)  (Q : Bool → Prop) (h : metric1_vc p q Q) : Fun false Try.prog 22 [encLex p, encLex q] (fun d => ∃ r, d = D.b r ∧ Q r) := by
  unfold metric1_vc at h
  refine Fun.of_body Try.func22 rfl Try.ntmps22 rfl ?_
  refine wpA_seq ?_
  refine wpA_region ?_
  refine wpL_op rfl rfl rfl (OpA.bx (sz := 2) rfl (by with_reducible conv => lhs; whnf) (.of rfl) (fun c1 _ => ?_))
  refine wpL_op rfl rfl rfl (OpA.bx (sz := 2) rfl (by with_reducible conv => lhs; whnf) (.of rfl) (fun c2 _ => ?_))
  refine wpL_op rfl rfl rfl (OpA.asn rfl (by with_reducible conv => lhs; whnf) ?_)
  refine wpL_nil ?_
  refine wpA_seq ?_
  refine wpA_region ?_
  refine wpL_op rfl rfl rfl (OpA.fieldAddr rfl tf40_0 rfl ?_)
  refine wpL_op rfl rfl rfl (OpA.load rfl ti9 rfl (.tail .head) rfl rfl ?_)
  refine wpL_op rfl rfl rfl (OpA.fieldAddr rfl tf40_0 rfl ?_)
  refine wpL_op rfl rfl rfl (OpA.load rfl ti9 rfl .head rfl rfl ?_)
  refine wpL_op rfl rfl rfl (OpA.seql rfl rfl rfl ?_)
  refine wpL_op rfl rfl rfl (OpA.asn rfl (by with_reducible conv => lhs; whnf) ?_)
  refine wpL_nil ?_
  refine wpA_ret ?_
  exact ⟨_, (.tmp (d := D.b (decide (p.text = q.text))) rfl .nil), _, (.same rfl .nil), ⟨(decide (p.text = q.text)), rfl, h⟩⟩
theorem metric1_c (p : Lexeme) (q : Lexeme)   : Fun false Try.prog 22 [encLex p, encLex q] (fun d => d = D.b (metric1F p q)) :=
  Fun.at (enc := fun r => D.b r) (v := metric1F p q) (metric1_w p q  (fun r => r = metric1F p q) (metric1_ok p q _  rfl))

set_option maxHeartbeats 2000000 in
set_option maxRecDepth 10000 in
theorem bounds1_w (l : (List Int))  (Q : Bool → Prop) (h : bounds1_vc l Q) : Fun false Try.prog 24 [(encL 1 D.i) l] (fun d => ∃ r, d = D.b r ∧ Q r) := by
  unfold bounds1_vc at h
  refine Fun.of_body Try.func24 rfl Try.ntmps24 rfl ?_
  refine wpA_seq ?_
  refine wpA_region ?_
  refine wpL_op rfl rfl rfl (OpA.asn rfl (by with_reducible conv => lhs; whnf) ?_)
  refine wpL_nil ?_
  refine wpA_seq ?_
  refine wpA_region ?_
  refine wpL_op rfl rfl rfl (OpA.mv rfl (by with_reducible conv => lhs; whnf) ?_)
  refine wpL_op rfl rfl rfl (OpA.len rfl rfl rfl rfl ts25.desc (.inl ⟨_, _, rfl, (List.length_map _).symm⟩) ?_)
  refine wpL_op rfl rfl rfl (OpA.gtr rfl rfl rfl ?_)
  refine wpL_op rfl rfl rfl (OpA.asn rfl (by with_reducible conv => lhs; whnf) ?_)
  refine wpL_nil ?_
  refine wpA_ret ?_
  exact ⟨_, (.tmp (d := D.b (decide ((l.length : Int) > 42))) rfl .nil), _, (.same rfl .nil), ⟨(decide ((l.length : Int) > 42)), rfl, h⟩⟩
theorem bounds1_c (l : (List Int))   : Fun false Try.prog 24 [(encL 1 D.i) l] (fun d => d = D.b (bounds1F l)) :=
  Fun.at (enc := fun r => D.b r) (v := bounds1F l) (bounds1_w l  (fun r => r = bounds1F l) (bounds1_ok l _  rfl))

set_option maxHeartbeats 2000000 in
set_option maxRecDepth 10000 in
theorem opt1_w (l : (List Int))  (Q : Bool → Prop) (h : opt1_vc l Q) : Fun false Try.prog 30 [(encL 1 D.i) l] (fun d => ∃ r, d = D.b r ∧ Q r) := by
  unfold opt1_vc at h
  refine Fun.of_body Try.func30 rfl Try.ntmps30 rfl ?_
  refine wpA_seq ?_
  refine wpA_region ?_
  refine wpL_op rfl rfl rfl (OpA.asn rfl (by with_reducible conv => lhs; whnf) ?_)
  refine wpL_nil ?_
  refine wpA_seq ?_
  refine wpA_region ?_
  refine wpL_op rfl rfl rfl (OpA.mv rfl (by with_reducible conv => lhs; whnf) ?_)
  refine wpL_op rfl rfl rfl (OpA.len rfl rfl rfl rfl ts25.desc (.inl ⟨_, _, rfl, (List.length_map _).symm⟩) ?_)
  refine wpL_op rfl rfl rfl (OpA.gtr rfl rfl rfl ?_)
  refine wpL_op rfl rfl rfl (OpA.asn rfl (by with_reducible conv => lhs; whnf) ?_)
  refine wpL_nil ?_
  refine wpA_ret ?_
  exact ⟨_, (.tmp (d := D.b (decide ((l.length : Int) > 42))) rfl .nil), _, (.same rfl .nil), ⟨(decide ((l.length : Int) > 42)), rfl, h⟩⟩
theorem opt1_c (l : (List Int))   : Fun false Try.prog 30 [(encL 1 D.i) l] (fun d => d = D.b (bounds1F l)) :=
  Fun.at (enc := fun r => D.b r) (v := bounds1F l) (opt1_w l  (fun r => r = bounds1F l) (opt1_ok l _  rfl))

set_option maxHeartbeats 2000000 in
set_option maxRecDepth 10000 in
theorem eqf_w (s1 : (List Lexeme)) (s2 : (List Lexeme)) (g_p : Nat) (fs_p cs_p : List D) (p : Lexeme → Lexeme → Bool) (pD : Lexeme → Lexeme → Prop) (hen_p : entersB Try.prog g_p = true) (hg_p : ∀ x0_ x1_, pD x0_ x1_ → Fun false Try.prog g_p (fs_p ++ [encLex x0_, encLex x1_] ++ cs_p) (fun d => d = D.b (p x0_ x1_))) (Q : Bool → Prop) (h : eqf_vc s1 s2 p pD Q) : Fun false Try.prog 21 [(encL 2 encLex) s1, (encL 2 encLex) s2, .fn (.func g_p) fs_p cs_p] (fun d => ∃ r, d = D.b r ∧ Q r) := by
  unfold eqf_vc at h
  refine Fun.of_body Try.func21 rfl Try.ntmps21 rfl ?_
  refine wpA_seq ?_
  refine wpA_region ?_
  refine wpL_op rfl rfl rfl (OpA.asn rfl (by with_reducible conv => lhs; whnf) ?_)
  refine wpL_nil ?_
  iterate 2 refine wpA_seq ?_
  refine wpA_region ?_
  refine wpL_op rfl rfl rfl (OpA.mv rfl (by with_reducible conv => lhs; whnf) ?_)
  refine wpL_op rfl rfl rfl (OpA.len rfl rfl rfl rfl ts22.desc (.inl ⟨_, _, rfl, (List.length_map _).symm⟩) ?_)
  refine wpL_op rfl rfl rfl (OpA.mv rfl (by with_reducible conv => lhs; whnf) ?_)
  refine wpL_op rfl rfl rfl (OpA.len rfl rfl rfl rfl ts22.desc (.inl ⟨_, _, rfl, (List.length_map _).symm⟩) ?_)
  refine wpL_op rfl rfl rfl (OpA.neq rfl rfl rfl ?_)
  refine wpL_nil ?_
  refine wpA_cond rfl (fun b1 => ?_) (fun b1 => ?_)
  have h := h.1 (bneT b1)
  refine wpA_seq ?_
  refine wpA_region ?_
  refine wpL_op rfl rfl rfl (OpA.asn rfl (by with_reducible conv => lhs; whnf) ?_)
  refine wpL_nil ?_
  refine wpA_ret ?_
  exact ⟨_, (.tmp (d := D.b false) rfl .nil), _, (.same rfl .nil), ⟨false, rfl, h⟩⟩
  have h := h.2 (bneF b1)
  refine wpA_skip ?_
  iterate 2 refine wpA_seq ?_
  refine wpA_region ?_
  refine wpL_op rfl rfl rfl (OpA.mv rfl (by with_reducible conv => lhs; whnf) ?_)
  refine wpL_op rfl rfl rfl (OpA.len rfl rfl rfl rfl ts22.desc (.inl ⟨_, _, rfl, (List.length_map _).symm⟩) ?_)
  refine wpL_op rfl rfl rfl (OpA.mv rfl (by with_reducible conv => lhs; whnf) ?_)
  refine wpL_nil ?_
  refine wpA_block ?_
  refine wpA_lfp (S := Int) (G := Unit) () (fun gg ss => asg [(1, (encL 2 encLex) s2), (2, .fn (.func g_p) fs_p cs_p), (6, D.b false), (15, (encL 2 encLex) s1), (16, D.i (s1.length : Int)), (17, D.i ss)]) (fun gg ss => []) h (Cov.asg ⟨rfl, rfl, rfl, rfl, rfl, rfl, trivial⟩) (.refl _) ?_
  rintro again2 _ x h
  have h : eqf_L1 s1 s2 p pD Q again2 x := h
  unfold eqf_L1 at h
  show wpA _ _ _ _ (asg [(1, (encL 2 encLex) s2), (2, .fn (.func g_p) fs_p cs_p), (6, D.b false), (15, (encL 2 encLex) s1), (16, D.i (s1.length : Int)), (17, D.i x)]) []
  refine wpA_seq ?_
  refine wpA_region ?_
  refine wpL_op rfl rfl rfl (OpA.lss rfl rfl rfl ?_)
  refine wpL_nil ?_
  refine wpA_seq ?_
  refine wpA_cond rfl (fun b3 => ?_) (fun b3 => ?_)
  have h := h.1 (decT b3)
  refine wpA_skip ?_
  refine wpA_seq ?_
  refine wpA_block ?_
  refine wpA_seq ?_
  obtain ⟨q1, h⟩ := h
  refine wpA_region ?_
  refine wpL_op rfl rfl rfl (OpA.mv rfl (by with_reducible conv => lhs; whnf) ?_)
  refine wpL_op rfl rfl rfl (OpA.iixV (enc := encLex) rfl ts22 rfl rfl rfl q1 ?_)
  refine wpL_op rfl rfl rfl (OpA.iload_whole rfl ti40 rfl ⟨_, rfl, rfl⟩ ?_)
  refine wpL_op rfl rfl rfl (OpA.alloc (sz := 2) (d := encLex (Lexeme.mk ByteArray.empty 0)) rfl tz40 (fun _ _ => .agg (.cons (.v _) (.cons (.v _) .nil))) (.of rfl) (fun c4 _ => ?_))
  refine wpL_op rfl rfl rfl (OpA.asn rfl (by with_reducible conv => lhs; whnf) ?_)
  refine wpL_eff rfl rfl (OpA.storeW rfl ti40 rfl (by with_reducible conv => lhs; whnf) (.of rfl) rfl rfl .head ?_)
  refine wpL_nil ?_
  refine wpA_seq ?_
  obtain ⟨q1, h⟩ := h
  refine wpA_region ?_
  refine wpL_op rfl rfl rfl (OpA.mv rfl (by with_reducible conv => lhs; whnf) ?_)
  refine wpL_op rfl rfl rfl (OpA.mv rfl (by with_reducible conv => lhs; whnf) ?_)
  refine wpL_op rfl rfl rfl (OpA.iixV (enc := encLex) rfl ts22 rfl rfl rfl q1 ?_)
  refine wpL_op rfl rfl rfl (OpA.iload_whole rfl ti40 rfl ⟨_, rfl, rfl⟩ ?_)
  refine wpL_op rfl rfl rfl (OpA.alloc (sz := 2) (d := encLex (Lexeme.mk ByteArray.empty 0)) rfl tz40 (fun _ _ => .agg (.cons (.v _) (.cons (.v _) .nil))) (.of rfl) (fun c5 _ => ?_))
  refine wpL_eff rfl rfl (OpA.storeW rfl ti40 rfl (by with_reducible conv => lhs; whnf) (.of rfl) rfl rfl .head ?_)
  refine wpL_nil ?_
  refine wpA_seq ?_
  obtain ⟨q1, h⟩ := h
  refine wpA_region ?_
  refine wpL_op rfl rfl rfl (OpA.mv rfl (by with_reducible conv => lhs; whnf) ?_)
  refine wpL_op rfl rfl rfl (OpA.load_whole rfl ti40 rfl rfl (.tail .head) rfl ⟨_, rfl⟩ ?_)
  refine wpL_op rfl rfl rfl (OpA.load_whole rfl ti40 rfl rfl .head rfl ⟨_, rfl⟩ ?_)
  refine wpL_op rfl rfl rfl (OpA.call rfl rfl rfl hen_p (hg_p (gi s1 x) (gi s2 x) q1) ?_)
  rintro _ rfl
  refine wpL_op rfl rfl rfl (OpA.not rfl rfl ?_)
  refine wpL_nil ?_
  refine wpA_cond rfl (fun b6 => ?_) (fun b6 => ?_)
  have h := h.1 (notT b6)
  refine wpA_seq ?_
  refine wpA_region ?_
  refine wpL_op rfl rfl rfl (OpA.asn rfl (by with_reducible conv => lhs; whnf) ?_)
  refine wpL_nil ?_
  refine wpA_ret ?_
  exact ⟨_, (.tmp (d := D.b false) rfl .nil), _, (.same rfl .nil), ⟨false, rfl, h⟩⟩
  have h := h.2 (notF b6)
  refine wpA_skip ?_
  obtain ⟨q1, h⟩ := h
  refine wpA_region ?_
  refine wpL_op rfl rfl rfl (OpA.addi rfl rfl rfl q1 ?_)
  refine wpL_op rfl rfl rfl (OpA.mv rfl (by with_reducible conv => lhs; whnf) ?_)
  refine wpL_nil ?_
  exact ⟨(), (x + 1), h, (Cov.asg ⟨rfl, rfl, rfl, rfl, rfl, rfl, trivial⟩), (.cons _ (.cons _ (.refl _)))⟩
  have h := h.2 (decF b3)
  refine wpA_exit ?_
  refine wpA_seq ?_
  refine wpA_region ?_
  refine wpL_op rfl rfl rfl (OpA.asn rfl (by with_reducible conv => lhs; whnf) ?_)
  refine wpL_nil ?_
  refine wpA_ret ?_
  exact ⟨_, (.tmp (d := D.b true) rfl .nil), _, (.same rfl .nil), ⟨true, rfl, h⟩⟩
theorem eqf_c (s1 : (List Lexeme)) (s2 : (List Lexeme)) (g_p : Nat) (fs_p cs_p : List D) (p : Lexeme → Lexeme → Bool) (pD : Lexeme → Lexeme → Prop) (hen_p : entersB Try.prog g_p = true) (hg_p : ∀ x0_ x1_, pD x0_ x1_ → Fun false Try.prog g_p (fs_p ++ [encLex x0_, encLex x1_] ++ cs_p) (fun d => d = D.b (p x0_ x1_))) (hp0 : (s1).length ≤ 9223372036854775807) (hp1 : ∀ x y, pD x y) : Fun false Try.prog 21 [(encL 2 encLex) s1, (encL 2 encLex) s2, .fn (.func g_p) fs_p cs_p] (fun d => d = D.b (eqFunc p s1 s2)) :=
  Fun.at (enc := fun r => D.b r) (v := eqFunc p s1 s2) (eqf_w s1 s2 g_p fs_p cs_p p pD hen_p hg_p (fun r => r = eqFunc p s1 s2) (eqf_ok s1 s2 p pD _ hp0 hp1 rfl))
end Go.Proofs.Ythggcjnmodeehaa
