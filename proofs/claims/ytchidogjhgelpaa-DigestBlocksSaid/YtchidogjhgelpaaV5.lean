/-
  walks and contracts
-/
import Derived.Test.YtchidogjhgelpaaV4
set_option linter.all false
namespace Go.Proofs.Ytchidogjhgelpaa
open Go Go.Lic
attribute [local irreducible] rotF offF conF offsF consF roundF roundR permF sumF hexF digF parseF idxB hex1 newF absF clF wrF ssF



set_option maxHeartbeats 2000000 in
set_option maxRecDepth 10000 in
theorem lawSums_w (data : ByteArray)  (Q : Bool → Prop) (h : lawSums_vc data Q) : Fun false Try.prog 3 [D.s data] (fun d => ∃ r, d = D.b r ∧ Q r) := by
  unfold lawSums_vc at h
  refine Fun.of_body Try.func3 rfl Try.ntmps3 rfl ?_
  refine wpA_seq ?_
  refine wpA_region ?_
  refine wpL_op rfl rfl rfl (OpA.asn rfl (by with_reducible conv => lhs; whnf) ?_)
  refine wpL_nil ?_
  iterate 2 refine wpA_seq ?_
  refine wpA_region ?_
  refine wpL_op rfl rfl rfl (OpA.call rfl rfl rfl en10 (awake_c  ) ?_)
  rintro _ rfl
  refine wpL_op rfl rfl rfl (OpA.not rfl rfl ?_)
  refine wpL_nil ?_
  refine wpA_cond rfl (fun b1 => ?_) (fun b1 => ?_)
  have h := h.1 (notT b1)
  refine wpA_seq ?_
  refine wpA_region ?_
  refine wpL_op rfl rfl rfl (OpA.asn rfl (by with_reducible conv => lhs; whnf) ?_)
  refine wpL_nil ?_
  refine wpA_ret ?_
  exact ⟨_, (.tmp (d := D.b false) rfl .nil), _, (.same rfl .nil), ⟨false, rfl, h⟩⟩
  have h := h.2 (notF b1)
  refine wpA_skip ?_
  refine wpA_seq ?_
  obtain ⟨q1, h⟩ := h
  refine wpA_mid (asg [(2, D.b ((decide ((data.size : Int) > 1000)) || (decide ((sumF data) = (sumF data)))))]) [] ?_ ?_
  refine wpA_region ?_
  refine wpL_op rfl rfl rfl (OpA.mv rfl (by with_reducible conv => lhs; whnf) ?_)
  refine wpL_op rfl rfl rfl (OpA.slen rfl rfl rfl rfl td9 rfl ?_)
  refine wpL_op rfl rfl rfl (OpA.gtr rfl rfl rfl ?_)
  refine wpL_op rfl rfl rfl (OpA.mv rfl (by with_reducible conv => lhs; whnf) ?_)
  refine wpL_split (s := 8) rfl (fun b2 => ?_) (fun b2 => ?_)
  iterate 5 refine wpL_skip rfl rfl rfl rfl rfl rfl ?_
  refine wpL_op rfl rfl rfl (OpA.pck rfl rfl (by with_reducible conv => lhs; whnf) ?_)
  refine wpL_op rfl rfl rfl (OpA.asn rfl (by with_reducible conv => lhs; whnf) ?_)
  refine wpL_nil ?_
  exact ⟨(Cov.asg ⟨(congrArg D.b (Eq.symm (orS b2))), trivial⟩), (.refl _)⟩
  refine wpL_opg rfl rfl rfl rfl rfl rfl (OpA.mv rfl (by with_reducible conv => lhs; whnf) ?_)
  refine wpL_opg rfl rfl rfl rfl rfl rfl (OpA.call rfl rfl rfl en11 (sum_c data (q1 (decF b2))) ?_)
  rintro _ rfl
  refine wpL_opg rfl rfl rfl rfl rfl rfl (OpA.mv rfl (by with_reducible conv => lhs; whnf) ?_)
  refine wpL_opg rfl rfl rfl rfl rfl rfl (OpA.call rfl rfl rfl en12 (rsum_c data (q1 (decF b2))) ?_)
  rintro _ rfl
  refine wpL_opg rfl rfl rfl rfl rfl rfl (OpA.seql rfl rfl rfl ?_)
  refine wpL_op rfl rfl rfl (OpA.pck rfl rfl (by with_reducible conv => lhs; whnf) ?_)
  refine wpL_op rfl rfl rfl (OpA.asn rfl (by with_reducible conv => lhs; whnf) ?_)
  refine wpL_nil ?_
  exact ⟨(Cov.asg ⟨(congrArg D.b (Eq.symm (orN b2 rfl))), trivial⟩), (.refl _)⟩
  show wpA _ _ _ _ (asg [(2, D.b ((decide ((data.size : Int) > 1000)) || (decide ((sumF data) = (sumF data)))))]) []
  refine wpA_ret ?_
  exact ⟨_, (.tmp (d := D.b ((decide ((data.size : Int) > 1000)) || (decide ((sumF data) = (sumF data))))) rfl .nil), _, (.same rfl .nil), ⟨((decide ((data.size : Int) > 1000)) || (decide ((sumF data) = (sumF data)))), rfl, h⟩⟩
theorem lawSums_c (data : ByteArray)   : Fun false Try.prog 3 [D.s data] (fun d => d = D.b (true)) :=
  Fun.at (enc := fun r => D.b r) (v := true) (lawSums_w data  (fun r => r = true) (lawSums_ok data _  rfl))

set_option maxHeartbeats 2000000 in
set_option maxRecDepth 10000 in
theorem lawPermutes_w (state : (List Int))  (Q : Bool → Prop) (h : lawPermutes_vc state Q) : Fun false Try.prog 4 [(encArr 25 (D.k .u64)) state] (fun d => ∃ r, d = D.b r ∧ Q r) := by
  unfold lawPermutes_vc at h
  refine Fun.of_body Try.func4 rfl Try.ntmps4 rfl ?_
  refine wpA_seq ?_
  refine wpA_region ?_
  refine wpL_op rfl rfl rfl (OpA.bx (sz := 25) rfl (by with_reducible conv => lhs; whnf) (.of rfl) (fun c1 _ => ?_))
  refine wpL_op rfl rfl rfl (OpA.asn rfl (by with_reducible conv => lhs; whnf) ?_)
  refine wpL_nil ?_
  refine wpA_seq ?_
  obtain ⟨q1, h⟩ := h
  refine wpA_mid (asg [(2, D.b (true && (aeq 25 (permF state) (permF state))))]) [(c1, .cells 25 [(encArr 25 (D.k .u64)) state])] ?_ ?_
  refine wpA_draw (m := 9) mo (by kernel_rfl) rfl ?_
  refine DetK.op rfl (OpA.call rfl rfl rfl en10 (awake_c  ) (by rintro _ rfl; exact ⟨rfl, rfl⟩)) ?_
  refine DetK.op rfl (OpA.mv rfl (by with_reducible conv => lhs; whnf) ⟨rfl, rfl⟩) ?_
  refine DetK_split (s := 4) rfl (fun b2 => ?_) (fun b2 => ?_)
  refine DetK.opg rfl rfl rfl rfl (OpA.load_whole rfl ti26 rfl rfl .head rfl ⟨_, rfl⟩ ⟨rfl, rfl⟩) ?_
  refine DetK.opg rfl rfl rfl rfl (OpA.call rfl rfl rfl en13 (perm_c state (q1 b2)) (by rintro _ rfl; exact ⟨rfl, rfl⟩)) ?_
  refine DetK.opg rfl rfl rfl rfl (OpA.load_whole rfl ti26 rfl rfl .head rfl ⟨_, rfl⟩ ⟨rfl, rfl⟩) ?_
  refine DetK.opg rfl rfl rfl rfl (OpA.call rfl rfl rfl en14 (rperm_c state (q1 b2)) (by rintro _ rfl; exact ⟨rfl, rfl⟩)) ?_
  refine DetK.opg rfl rfl rfl rfl (OpA.arrcmp rfl eg26 td26 ti25 td25 rfl rfl (.inl ⟨rfl, rfl⟩) ⟨rfl, rfl⟩) ?_
  refine DetK.op rfl (OpA.pck rfl rfl (by with_reducible conv => lhs; whnf) ⟨rfl, rfl⟩) ?_
  refine DetK.op rfl (OpA.asn rfl (by with_reducible conv => lhs; whnf) ⟨rfl, rfl⟩) ?_
  refine DetK.nil ?_
  refine wpL_nil ?_
  exact ⟨(Cov.asg ⟨(congrArg D.b (Eq.symm (andN b2 rfl))), trivial⟩), (.refl _)⟩
  iterate 5 refine DetK.skip rfl rfl rfl rfl ?_
  refine DetK.op rfl (OpA.pck rfl rfl (by with_reducible conv => lhs; whnf) ⟨rfl, rfl⟩) ?_
  refine DetK.op rfl (OpA.asn rfl (by with_reducible conv => lhs; whnf) ⟨rfl, rfl⟩) ?_
  refine DetK.nil ?_
  refine wpL_nil ?_
  exact ⟨(Cov.asg ⟨(congrArg D.b (Eq.symm (andS b2))), trivial⟩), (.refl _)⟩
  show wpA _ _ _ _ (asg [(2, D.b (true && (aeq 25 (permF state) (permF state))))]) [(c1, .cells 25 [(encArr 25 (D.k .u64)) state])]
  refine wpA_ret ?_
  exact ⟨_, (.tmp (d := D.b (true && (aeq 25 (permF state) (permF state)))) rfl .nil), _, (.same rfl .nil), ⟨(true && (aeq 25 (permF state) (permF state))), rfl, h⟩⟩
theorem lawPermutes_c (state : (List Int))  (hp0 : state.length = 25) : Fun false Try.prog 4 [(encArr 25 (D.k .u64)) state] (fun d => d = D.b (true)) :=
  Fun.at (enc := fun r => D.b r) (v := true) (lawPermutes_w state  (fun r => r = true) (lawPermutes_ok state _ hp0 rfl))

set_option maxHeartbeats 2000000 in
set_option maxRecDepth 10000 in
theorem lawPermutations_w (a : (List Int)) (b : (List Int))  (Q : Bool → Prop) (h : lawPermutations_vc a b Q) : Fun false Try.prog 5 [(encArr 25 (D.k .u64)) a, (encArr 25 (D.k .u64)) b] (fun d => ∃ r, d = D.b r ∧ Q r) := by
  unfold lawPermutations_vc at h
  refine Fun.of_body Try.func5 rfl Try.ntmps5 rfl ?_
  refine wpA_seq ?_
  refine wpA_region ?_
  refine wpL_op rfl rfl rfl (OpA.bx (sz := 25) rfl (by with_reducible conv => lhs; whnf) (.of rfl) (fun c1 _ => ?_))
  refine wpL_op rfl rfl rfl (OpA.bx (sz := 25) rfl (by with_reducible conv => lhs; whnf) (.of rfl) (fun c2 _ => ?_))
  refine wpL_op rfl rfl rfl (OpA.asn rfl (by with_reducible conv => lhs; whnf) ?_)
  refine wpL_nil ?_
  refine wpA_seq ?_
  obtain ⟨q1, h⟩ := h
  refine wpA_mid (asg [(4, D.b (true && ((aeq 25 (permF a) (permF b)) == (aeq 25 a b))))]) [(c2, .cells 25 [(encArr 25 (D.k .u64)) b]), (c1, .cells 25 [(encArr 25 (D.k .u64)) a])] ?_ ?_
  refine wpA_draw (m := 13) mo (by kernel_rfl) rfl ?_
  refine DetK.op rfl (OpA.call rfl rfl rfl en10 (awake_c  ) (by rintro _ rfl; exact ⟨rfl, rfl⟩)) ?_
  refine DetK.op rfl (OpA.mv rfl (by with_reducible conv => lhs; whnf) ⟨rfl, rfl⟩) ?_
  refine DetK_split (s := 6) rfl (fun b3 => ?_) (fun b3 => ?_)
  refine DetK.opg rfl rfl rfl rfl (OpA.load_whole rfl ti26 rfl rfl (.tail .head) rfl ⟨_, rfl⟩ ⟨rfl, rfl⟩) ?_
  refine DetK.opg rfl rfl rfl rfl (OpA.call rfl rfl rfl en13 (perm_c a (q1 b3).1) (by rintro _ rfl; exact ⟨rfl, rfl⟩)) ?_
  refine DetK.opg rfl rfl rfl rfl (OpA.load_whole rfl ti26 rfl rfl .head rfl ⟨_, rfl⟩ ⟨rfl, rfl⟩) ?_
  refine DetK.opg rfl rfl rfl rfl (OpA.call rfl rfl rfl en13 (perm_c b (q1 b3).2) (by rintro _ rfl; exact ⟨rfl, rfl⟩)) ?_
  refine DetK.opg rfl rfl rfl rfl (OpA.arrcmp rfl eg26 td26 ti25 td25 rfl rfl (.inl ⟨rfl, rfl⟩) ⟨rfl, rfl⟩) ?_
  refine DetK.opg rfl rfl rfl rfl (OpA.load_whole rfl ti26 rfl rfl (.tail .head) rfl ⟨_, rfl⟩ ⟨rfl, rfl⟩) ?_
  refine DetK.opg rfl rfl rfl rfl (OpA.load_whole rfl ti26 rfl rfl .head rfl ⟨_, rfl⟩ ⟨rfl, rfl⟩) ?_
  refine DetK.opg rfl rfl rfl rfl (OpA.arrcmp rfl eg26 td26 ti25 td25 rfl rfl (.inl ⟨rfl, rfl⟩) ⟨rfl, rfl⟩) ?_
  refine DetK.opg rfl rfl rfl rfl (OpA.bcmp rfl td4 rfl rfl (.inl ⟨rfl, rfl⟩) ⟨rfl, rfl⟩) ?_
  refine DetK.op rfl (OpA.pck rfl rfl (by with_reducible conv => lhs; whnf) ⟨rfl, rfl⟩) ?_
  refine DetK.op rfl (OpA.asn rfl (by with_reducible conv => lhs; whnf) ⟨rfl, rfl⟩) ?_
  refine DetK.nil ?_
  refine wpL_nil ?_
  exact ⟨(Cov.asg ⟨(congrArg D.b (Eq.symm (andN b3 rfl))), trivial⟩), (.refl _)⟩
  iterate 9 refine DetK.skip rfl rfl rfl rfl ?_
  refine DetK.op rfl (OpA.pck rfl rfl (by with_reducible conv => lhs; whnf) ⟨rfl, rfl⟩) ?_
  refine DetK.op rfl (OpA.asn rfl (by with_reducible conv => lhs; whnf) ⟨rfl, rfl⟩) ?_
  refine DetK.nil ?_
  refine wpL_nil ?_
  exact ⟨(Cov.asg ⟨(congrArg D.b (Eq.symm (andS b3))), trivial⟩), (.refl _)⟩
  show wpA _ _ _ _ (asg [(4, D.b (true && ((aeq 25 (permF a) (permF b)) == (aeq 25 a b))))]) [(c2, .cells 25 [(encArr 25 (D.k .u64)) b]), (c1, .cells 25 [(encArr 25 (D.k .u64)) a])]
  refine wpA_ret ?_
  exact ⟨_, (.tmp (d := D.b (true && ((aeq 25 (permF a) (permF b)) == (aeq 25 a b)))) rfl .nil), _, (.same rfl .nil), ⟨(true && ((aeq 25 (permF a) (permF b)) == (aeq 25 a b))), rfl, h⟩⟩
theorem lawPermutations_c (a : (List Int)) (b : (List Int))  (hp0 : fit64 25 a) (hp1 : fit64 25 b) : Fun false Try.prog 5 [(encArr 25 (D.k .u64)) a, (encArr 25 (D.k .u64)) b] (fun d => d = D.b (true)) :=
  Fun.at (enc := fun r => D.b r) (v := true) (lawPermutations_w a b  (fun r => r = true) (lawPermutations_ok a b _ hp0 hp1 rfl))

set_option maxHeartbeats 2000000 in
set_option maxRecDepth 10000 in
theorem lawTexts_w (s_ : ByteArray) (text : ByteArray)  (Q : Bool → Prop) (h : lawTexts_vc s_ text Q) : Fun false Try.prog 8 [D.s s_, D.s text] (fun d => ∃ r, d = D.b r ∧ Q r) := by
  unfold lawTexts_vc at h
  refine Fun.of_body Try.func8 rfl Try.ntmps8 rfl ?_
  refine wpA_seq ?_
  refine wpA_region ?_
  refine wpL_op rfl rfl rfl (OpA.asn rfl (by with_reducible conv => lhs; whnf) ?_)
  refine wpL_nil ?_
  iterate 2 refine wpA_seq ?_
  refine wpA_region ?_
  refine wpL_op rfl rfl rfl (OpA.call rfl rfl rfl en10 (awake_c  ) ?_)
  rintro _ rfl
  refine wpL_op rfl rfl rfl (OpA.not rfl rfl ?_)
  refine wpL_nil ?_
  refine wpA_cond rfl (fun b1 => ?_) (fun b1 => ?_)
  have h := h.1 (notT b1)
  refine wpA_seq ?_
  refine wpA_region ?_
  refine wpL_op rfl rfl rfl (OpA.asn rfl (by with_reducible conv => lhs; whnf) ?_)
  refine wpL_nil ?_
  refine wpA_ret ?_
  exact ⟨_, (.tmp (d := D.b false) rfl .nil), _, (.same rfl .nil), ⟨false, rfl, h⟩⟩
  have h := h.2 (notF b1)
  refine wpA_skip ?_
  iterate 2 refine wpA_seq ?_
  refine wpA_mid (asg [(0, D.s s_), (1, D.s text), (4, D.b false), (26, D.b ((decide ((s_.size : Int) > 100)) || (decide ((text.size : Int) > 100))))]) [] ?_ ?_
  refine wpA_region ?_
  refine wpL_op rfl rfl rfl (OpA.mv rfl (by with_reducible conv => lhs; whnf) ?_)
  refine wpL_op rfl rfl rfl (OpA.slen rfl rfl rfl rfl td9 rfl ?_)
  refine wpL_op rfl rfl rfl (OpA.gtr rfl rfl rfl ?_)
  refine wpL_op rfl rfl rfl (OpA.mv rfl (by with_reducible conv => lhs; whnf) ?_)
  refine wpL_split (s := 22) rfl (fun b13 => ?_) (fun b13 => ?_)
  iterate 3 refine wpL_skip rfl rfl rfl rfl rfl rfl ?_
  refine wpL_op rfl rfl rfl (OpA.pck rfl rfl (by with_reducible conv => lhs; whnf) ?_)
  refine wpL_nil ?_
  exact ⟨(Cov.asg ⟨rfl, rfl, rfl, (congrArg D.b (Eq.symm (orS b13))), trivial⟩), (.refl _)⟩
  refine wpL_opg rfl rfl rfl rfl rfl rfl (OpA.mv rfl (by with_reducible conv => lhs; whnf) ?_)
  refine wpL_opg rfl rfl rfl rfl rfl rfl (OpA.slen rfl rfl rfl rfl td9 rfl ?_)
  refine wpL_opg rfl rfl rfl rfl rfl rfl (OpA.gtr rfl rfl rfl ?_)
  refine wpL_op rfl rfl rfl (OpA.pck rfl rfl (by with_reducible conv => lhs; whnf) ?_)
  refine wpL_nil ?_
  exact ⟨(Cov.asg ⟨rfl, rfl, rfl, (congrArg D.b (Eq.symm (orN b13 rfl))), trivial⟩), (.refl _)⟩
  show wpA _ _ _ _ (asg [(0, D.s s_), (1, D.s text), (4, D.b false), (26, D.b ((decide ((s_.size : Int) > 100)) || (decide ((text.size : Int) > 100))))]) []
  refine wpA_cond rfl (fun b2 => ?_) (fun b2 => ?_)
  have h := h.1 ((or0 b2).imp (fun hh => (decT hh)) (fun hh => (decT hh)))
  refine wpA_seq ?_
  refine wpA_region ?_
  refine wpL_op rfl rfl rfl (OpA.asn rfl (by with_reducible conv => lhs; whnf) ?_)
  refine wpL_nil ?_
  refine wpA_ret ?_
  exact ⟨_, (.tmp (d := D.b true) rfl .nil), _, (.same rfl .nil), ⟨true, rfl, h⟩⟩
  have h := h.2 ⟨(decF (or1 b2)), (decF (or2 b2))⟩
  refine wpA_skip ?_
  refine wpA_seq ?_
  refine wpA_region ?_
  refine wpL_op rfl rfl rfl (OpA.mv rfl (by with_reducible conv => lhs; whnf) ?_)
  refine wpL_op rfl rfl rfl (OpA.call rfl rfl rfl en19 (hex_c s_ ) ?_)
  rintro _ rfl
  refine wpL_op rfl rfl rfl (OpA.mv rfl (by with_reducible conv => lhs; whnf) ?_)
  refine wpL_op rfl rfl rfl (OpA.extract rfl rfl rfl ?_)
  refine wpL_op rfl rfl rfl (OpA.extract rfl rfl rfl ?_)
  refine wpL_op rfl rfl rfl (OpA.asn rfl (by with_reducible conv => lhs; whnf) ?_)
  refine wpL_op rfl rfl rfl (OpA.asn rfl (by with_reducible conv => lhs; whnf) ?_)
  refine wpL_nil ?_
  refine wpA_seq ?_
  refine wpA_region ?_
  refine wpL_op rfl rfl rfl (OpA.mv rfl (by with_reducible conv => lhs; whnf) ?_)
  refine wpL_op rfl rfl rfl (OpA.call rfl rfl rfl en20 (rhex_c s_ ) ?_)
  rintro _ rfl
  refine wpL_op rfl rfl rfl (OpA.mv rfl (by with_reducible conv => lhs; whnf) ?_)
  refine wpL_op rfl rfl rfl (OpA.extract rfl rfl rfl ?_)
  refine wpL_op rfl rfl rfl (OpA.extract rfl rfl rfl ?_)
  refine wpL_op rfl rfl rfl (OpA.asn rfl (by with_reducible conv => lhs; whnf) ?_)
  refine wpL_op rfl rfl rfl (OpA.asn rfl (by with_reducible conv => lhs; whnf) ?_)
  refine wpL_nil ?_
  refine wpA_seq ?_
  refine wpA_region ?_
  refine wpL_op rfl rfl rfl (OpA.mv rfl (by with_reducible conv => lhs; whnf) ?_)
  refine wpL_op rfl rfl rfl (OpA.call rfl rfl rfl en21 (parse_c text ) ?_)
  rintro _ rfl
  refine wpL_op rfl rfl rfl (OpA.mv rfl (by with_reducible conv => lhs; whnf) ?_)
  refine wpL_op rfl rfl rfl (OpA.extract rfl rfl rfl ?_)
  refine wpL_op rfl rfl rfl (OpA.extract rfl rfl rfl ?_)
  refine wpL_op rfl rfl rfl (OpA.asn rfl (by with_reducible conv => lhs; whnf) ?_)
  refine wpL_op rfl rfl rfl (OpA.asn rfl (by with_reducible conv => lhs; whnf) ?_)
  refine wpL_nil ?_
  refine wpA_seq ?_
  refine wpA_region ?_
  refine wpL_op rfl rfl rfl (OpA.mv rfl (by with_reducible conv => lhs; whnf) ?_)
  refine wpL_op rfl rfl rfl (OpA.call rfl rfl rfl en22 (rparse_c text ) ?_)
  rintro _ rfl
  refine wpL_op rfl rfl rfl (OpA.mv rfl (by with_reducible conv => lhs; whnf) ?_)
  refine wpL_op rfl rfl rfl (OpA.extract rfl rfl rfl ?_)
  refine wpL_op rfl rfl rfl (OpA.extract rfl rfl rfl ?_)
  refine wpL_op rfl rfl rfl (OpA.asn rfl (by with_reducible conv => lhs; whnf) ?_)
  refine wpL_op rfl rfl rfl (OpA.asn rfl (by with_reducible conv => lhs; whnf) ?_)
  refine wpL_nil ?_
  iterate 2 refine wpA_seq ?_
  refine wpA_mid (asg [(0, D.s s_), (1, D.s text), (4, D.b false), (5, D.s ((hexF s_).1)), (6, D.i ((hexF s_).2)), (9, D.s ((parseF text).1)), (10, D.i ((parseF text).2)), (64, D.b ((((!decide ((hexF s_).1 = (hexF s_).1)) || (((hexF s_).2) != ((hexF s_).2))) || (!decide ((parseF text).1 = (parseF text).1))) || (((parseF text).2) != ((parseF text).2))))]) [] ?_ ?_
  refine wpA_region ?_
  refine wpL_op rfl rfl rfl (OpA.mv rfl (by with_reducible conv => lhs; whnf) ?_)
  refine wpL_op rfl rfl rfl (OpA.mv rfl (by with_reducible conv => lhs; whnf) ?_)
  refine wpL_op rfl rfl rfl (OpA.sneq rfl rfl rfl ?_)
  refine wpL_op rfl rfl rfl (OpA.mv rfl (by with_reducible conv => lhs; whnf) ?_)
  refine wpL_split (s := 50) rfl (fun b10 => ?_) (fun b10 => ?_)
  iterate 3 refine wpL_skip rfl rfl rfl rfl rfl rfl ?_
  refine wpL_op rfl rfl rfl (OpA.pck rfl rfl (by with_reducible conv => lhs; whnf) ?_)
  refine wpL_op rfl rfl rfl (OpA.mv rfl (by with_reducible conv => lhs; whnf) ?_)
  iterate 3 refine wpL_skip rfl rfl rfl rfl rfl rfl ?_
  refine wpL_op rfl rfl rfl (OpA.pck rfl rfl (by with_reducible conv => lhs; whnf) ?_)
  refine wpL_op rfl rfl rfl (OpA.mv rfl (by with_reducible conv => lhs; whnf) ?_)
  iterate 3 refine wpL_skip rfl rfl rfl rfl rfl rfl ?_
  refine wpL_op rfl rfl rfl (OpA.pck rfl rfl (by with_reducible conv => lhs; whnf) ?_)
  refine wpL_nil ?_
  exact ⟨(Cov.asg ⟨rfl, rfl, rfl, rfl, rfl, rfl, rfl, (congrArg D.b (Eq.symm (orS (orS (orS b10))))), trivial⟩), (.refl _)⟩
  refine wpL_opg rfl rfl rfl rfl rfl rfl (OpA.mv rfl (by with_reducible conv => lhs; whnf) ?_)
  refine wpL_opg rfl rfl rfl rfl rfl rfl (OpA.mv rfl (by with_reducible conv => lhs; whnf) ?_)
  refine wpL_opg rfl rfl rfl rfl rfl rfl (OpA.neq rfl rfl rfl ?_)
  refine wpL_op rfl rfl rfl (OpA.pck rfl rfl (by with_reducible conv => lhs; whnf) ?_)
  refine wpL_op rfl rfl rfl (OpA.mv rfl (by with_reducible conv => lhs; whnf) ?_)
  refine wpL_split (s := 55) rfl (fun b11 => ?_) (fun b11 => ?_)
  iterate 3 refine wpL_skip rfl rfl rfl rfl rfl rfl ?_
  refine wpL_op rfl rfl rfl (OpA.pck rfl rfl (by with_reducible conv => lhs; whnf) ?_)
  refine wpL_op rfl rfl rfl (OpA.mv rfl (by with_reducible conv => lhs; whnf) ?_)
  iterate 3 refine wpL_skip rfl rfl rfl rfl rfl rfl ?_
  refine wpL_op rfl rfl rfl (OpA.pck rfl rfl (by with_reducible conv => lhs; whnf) ?_)
  refine wpL_nil ?_
  exact ⟨(Cov.asg ⟨rfl, rfl, rfl, rfl, rfl, rfl, rfl, (congrArg D.b (Eq.symm (orS (orS (orN b10 b11))))), trivial⟩), (.refl _)⟩
  refine wpL_opg rfl rfl rfl rfl rfl rfl (OpA.mv rfl (by with_reducible conv => lhs; whnf) ?_)
  refine wpL_opg rfl rfl rfl rfl rfl rfl (OpA.mv rfl (by with_reducible conv => lhs; whnf) ?_)
  refine wpL_opg rfl rfl rfl rfl rfl rfl (OpA.sneq rfl rfl rfl ?_)
  refine wpL_op rfl rfl rfl (OpA.pck rfl rfl (by with_reducible conv => lhs; whnf) ?_)
  refine wpL_op rfl rfl rfl (OpA.mv rfl (by with_reducible conv => lhs; whnf) ?_)
  refine wpL_split (s := 60) rfl (fun b12 => ?_) (fun b12 => ?_)
  iterate 3 refine wpL_skip rfl rfl rfl rfl rfl rfl ?_
  refine wpL_op rfl rfl rfl (OpA.pck rfl rfl (by with_reducible conv => lhs; whnf) ?_)
  refine wpL_nil ?_
  exact ⟨(Cov.asg ⟨rfl, rfl, rfl, rfl, rfl, rfl, rfl, (congrArg D.b (Eq.symm (orS (orN (orN b10 b11) b12)))), trivial⟩), (.refl _)⟩
  refine wpL_opg rfl rfl rfl rfl rfl rfl (OpA.mv rfl (by with_reducible conv => lhs; whnf) ?_)
  refine wpL_opg rfl rfl rfl rfl rfl rfl (OpA.mv rfl (by with_reducible conv => lhs; whnf) ?_)
  refine wpL_opg rfl rfl rfl rfl rfl rfl (OpA.neq rfl rfl rfl ?_)
  refine wpL_op rfl rfl rfl (OpA.pck rfl rfl (by with_reducible conv => lhs; whnf) ?_)
  refine wpL_nil ?_
  exact ⟨(Cov.asg ⟨rfl, rfl, rfl, rfl, rfl, rfl, rfl, (congrArg D.b (Eq.symm (orN (orN (orN b10 b11) b12) rfl))), trivial⟩), (.refl _)⟩
  show wpA _ _ _ _ (asg [(0, D.s s_), (1, D.s text), (4, D.b false), (5, D.s ((hexF s_).1)), (6, D.i ((hexF s_).2)), (9, D.s ((parseF text).1)), (10, D.i ((parseF text).2)), (64, D.b ((((!decide ((hexF s_).1 = (hexF s_).1)) || (((hexF s_).2) != ((hexF s_).2))) || (!decide ((parseF text).1 = (parseF text).1))) || (((parseF text).2) != ((parseF text).2))))]) []
  refine wpA_cond rfl (fun b3 => ?_) (fun b3 => ?_)
  have h := h.1 ((or0 b3).imp (fun hh => ((or0 hh).imp (fun hh => ((or0 hh).imp (fun hh => (ndecT hh)) (fun hh => (bneT hh)))) (fun hh => (ndecT hh)))) (fun hh => (bneT hh)))
  refine wpA_seq ?_
  refine wpA_region ?_
  refine wpL_op rfl rfl rfl (OpA.asn rfl (by with_reducible conv => lhs; whnf) ?_)
  refine wpL_nil ?_
  refine wpA_ret ?_
  exact ⟨_, (.tmp (d := D.b false) rfl .nil), _, (.same rfl .nil), ⟨false, rfl, h⟩⟩
  have h := h.2 ⟨⟨⟨(ndecF (or1 (or1 (or1 b3)))), (bneF (or2 (or1 (or1 b3))))⟩, (ndecF (or2 (or1 b3)))⟩, (bneF (or2 b3))⟩
  refine wpA_skip ?_
  iterate 2 refine wpA_seq ?_
  refine wpA_region ?_
  refine wpL_op rfl rfl rfl (OpA.mv rfl (by with_reducible conv => lhs; whnf) ?_)
  refine wpL_op rfl rfl rfl (OpA.eql rfl rfl rfl ?_)
  refine wpL_nil ?_
  refine wpA_join (S := Unit) (G := Unit) (fun gg ss => asg [(1, D.s text), (4, D.b false), (9, D.s ((parseF text).1)), (10, D.i ((parseF text).2))]) (fun gg ss => []) (fun ss => lawTexts_J1 text Q) ?_ ?_
  refine wpA_cond rfl (fun b7 => ?_) (fun b7 => ?_)
  have h := h.1 (beqT b7)
  refine wpA_seq ?_
  refine wpA_region ?_
  refine wpL_op rfl rfl rfl (OpA.mv rfl (by with_reducible conv => lhs; whnf) ?_)
  refine wpL_op rfl rfl rfl (OpA.call rfl rfl rfl en21 (parse_c ((hexF s_).1) ) ?_)
  rintro _ rfl
  refine wpL_op rfl rfl rfl (OpA.mv rfl (by with_reducible conv => lhs; whnf) ?_)
  refine wpL_op rfl rfl rfl (OpA.extract rfl rfl rfl ?_)
  refine wpL_op rfl rfl rfl (OpA.extract rfl rfl rfl ?_)
  refine wpL_op rfl rfl rfl (OpA.asn rfl (by with_reducible conv => lhs; whnf) ?_)
  refine wpL_op rfl rfl rfl (OpA.asn rfl (by with_reducible conv => lhs; whnf) ?_)
  refine wpL_nil ?_
  refine wpA_seq ?_
  refine wpA_mid (asg [(1, D.s text), (4, D.b false), (9, D.s ((parseF text).1)), (10, D.i ((parseF text).2)), (78, D.b ((((parseF ((hexF s_).1)).2) != 0) || (!decide ((parseF ((hexF s_).1)).1 = s_))))]) [] ?_ ?_
  refine wpA_region ?_
  refine wpL_op rfl rfl rfl (OpA.mv rfl (by with_reducible conv => lhs; whnf) ?_)
  refine wpL_op rfl rfl rfl (OpA.neq rfl rfl rfl ?_)
  refine wpL_op rfl rfl rfl (OpA.mv rfl (by with_reducible conv => lhs; whnf) ?_)
  refine wpL_split (s := 74) rfl (fun b9 => ?_) (fun b9 => ?_)
  iterate 3 refine wpL_skip rfl rfl rfl rfl rfl rfl ?_
  refine wpL_op rfl rfl rfl (OpA.pck rfl rfl (by with_reducible conv => lhs; whnf) ?_)
  refine wpL_nil ?_
  exact ⟨(Cov.asg ⟨rfl, rfl, rfl, rfl, (congrArg D.b (Eq.symm (orS b9))), trivial⟩), (.refl _)⟩
  refine wpL_opg rfl rfl rfl rfl rfl rfl (OpA.mv rfl (by with_reducible conv => lhs; whnf) ?_)
  refine wpL_opg rfl rfl rfl rfl rfl rfl (OpA.mv rfl (by with_reducible conv => lhs; whnf) ?_)
  refine wpL_opg rfl rfl rfl rfl rfl rfl (OpA.sneq rfl rfl rfl ?_)
  refine wpL_op rfl rfl rfl (OpA.pck rfl rfl (by with_reducible conv => lhs; whnf) ?_)
  refine wpL_nil ?_
  exact ⟨(Cov.asg ⟨rfl, rfl, rfl, rfl, (congrArg D.b (Eq.symm (orN b9 rfl))), trivial⟩), (.refl _)⟩
  show wpA _ _ _ _ (asg [(1, D.s text), (4, D.b false), (9, D.s ((parseF text).1)), (10, D.i ((parseF text).2)), (78, D.b ((((parseF ((hexF s_).1)).2) != 0) || (!decide ((parseF ((hexF s_).1)).1 = s_))))]) []
  refine wpA_cond rfl (fun b8 => ?_) (fun b8 => ?_)
  have h := h.1 ((or0 b8).imp (fun hh => (bneT hh)) (fun hh => (ndecT hh)))
  refine wpA_seq ?_
  refine wpA_region ?_
  refine wpL_op rfl rfl rfl (OpA.asn rfl (by with_reducible conv => lhs; whnf) ?_)
  refine wpL_nil ?_
  refine wpA_ret ?_
  exact ⟨_, (.tmp (d := D.b false) rfl .nil), _, (.same rfl .nil), ⟨false, rfl, h⟩⟩
  have h := h.2 ⟨(bneF (or1 b8)), (ndecF (or2 b8))⟩
  refine wpA_skip ?_
  exact ⟨(), (), h, (Cov.asg ⟨rfl, rfl, rfl, rfl, trivial⟩), (.refl _)⟩
  have h := h.2 (beqF b7)
  refine wpA_skip ?_
  exact ⟨(), (), h, (Cov.asg ⟨rfl, rfl, rfl, rfl, trivial⟩), (.refl _)⟩
  rintro _ _ h
  have h : lawTexts_J1 text Q := h
  unfold lawTexts_J1 at h
  show wpA _ _ _ _ (asg [(1, D.s text), (4, D.b false), (9, D.s ((parseF text).1)), (10, D.i ((parseF text).2))]) []
  iterate 2 refine wpA_seq ?_
  refine wpA_region ?_
  refine wpL_op rfl rfl rfl (OpA.mv rfl (by with_reducible conv => lhs; whnf) ?_)
  refine wpL_op rfl rfl rfl (OpA.eql rfl rfl rfl ?_)
  refine wpL_nil ?_
  refine wpA_cond rfl (fun b4 => ?_) (fun b4 => ?_)
  have h := h.1 (beqT b4)
  refine wpA_seq ?_
  refine wpA_region ?_
  refine wpL_op rfl rfl rfl (OpA.mv rfl (by with_reducible conv => lhs; whnf) ?_)
  refine wpL_op rfl rfl rfl (OpA.call rfl rfl rfl en19 (hex_c ((parseF text).1) ) ?_)
  rintro _ rfl
  refine wpL_op rfl rfl rfl (OpA.mv rfl (by with_reducible conv => lhs; whnf) ?_)
  refine wpL_op rfl rfl rfl (OpA.extract rfl rfl rfl ?_)
  refine wpL_op rfl rfl rfl (OpA.extract rfl rfl rfl ?_)
  refine wpL_op rfl rfl rfl (OpA.asn rfl (by with_reducible conv => lhs; whnf) ?_)
  refine wpL_op rfl rfl rfl (OpA.asn rfl (by with_reducible conv => lhs; whnf) ?_)
  refine wpL_nil ?_
  refine wpA_seq ?_
  refine wpA_mid (asg [(4, D.b false), (92, D.b ((((hexF ((parseF text).1)).2) != 0) || (!decide ((hexF ((parseF text).1)).1 = text))))]) [] ?_ ?_
  refine wpA_region ?_
  refine wpL_op rfl rfl rfl (OpA.mv rfl (by with_reducible conv => lhs; whnf) ?_)
  refine wpL_op rfl rfl rfl (OpA.neq rfl rfl rfl ?_)
  refine wpL_op rfl rfl rfl (OpA.mv rfl (by with_reducible conv => lhs; whnf) ?_)
  refine wpL_split (s := 88) rfl (fun b6 => ?_) (fun b6 => ?_)
  iterate 3 refine wpL_skip rfl rfl rfl rfl rfl rfl ?_
  refine wpL_op rfl rfl rfl (OpA.pck rfl rfl (by with_reducible conv => lhs; whnf) ?_)
  refine wpL_nil ?_
  exact ⟨(Cov.asg ⟨rfl, (congrArg D.b (Eq.symm (orS b6))), trivial⟩), (.refl _)⟩
  refine wpL_opg rfl rfl rfl rfl rfl rfl (OpA.mv rfl (by with_reducible conv => lhs; whnf) ?_)
  refine wpL_opg rfl rfl rfl rfl rfl rfl (OpA.mv rfl (by with_reducible conv => lhs; whnf) ?_)
  refine wpL_opg rfl rfl rfl rfl rfl rfl (OpA.sneq rfl rfl rfl ?_)
  refine wpL_op rfl rfl rfl (OpA.pck rfl rfl (by with_reducible conv => lhs; whnf) ?_)
  refine wpL_nil ?_
  exact ⟨(Cov.asg ⟨rfl, (congrArg D.b (Eq.symm (orN b6 rfl))), trivial⟩), (.refl _)⟩
  show wpA _ _ _ _ (asg [(4, D.b false), (92, D.b ((((hexF ((parseF text).1)).2) != 0) || (!decide ((hexF ((parseF text).1)).1 = text))))]) []
  refine wpA_cond rfl (fun b5 => ?_) (fun b5 => ?_)
  have h := h.1 ((or0 b5).imp (fun hh => (bneT hh)) (fun hh => (ndecT hh)))
  refine wpA_seq ?_
  refine wpA_region ?_
  refine wpL_op rfl rfl rfl (OpA.asn rfl (by with_reducible conv => lhs; whnf) ?_)
  refine wpL_nil ?_
  refine wpA_ret ?_
  exact ⟨_, (.tmp (d := D.b false) rfl .nil), _, (.same rfl .nil), ⟨false, rfl, h⟩⟩
  have h := h.2 ⟨(bneF (or1 b5)), (ndecF (or2 b5))⟩
  refine wpA_skip ?_
  refine wpA_seq ?_
  refine wpA_region ?_
  refine wpL_op rfl rfl rfl (OpA.asn rfl (by with_reducible conv => lhs; whnf) ?_)
  refine wpL_nil ?_
  refine wpA_ret ?_
  exact ⟨_, (.tmp (d := D.b true) rfl .nil), _, (.same rfl .nil), ⟨true, rfl, h⟩⟩
  have h := h.2 (beqF b4)
  refine wpA_skip ?_
  refine wpA_seq ?_
  refine wpA_region ?_
  refine wpL_op rfl rfl rfl (OpA.asn rfl (by with_reducible conv => lhs; whnf) ?_)
  refine wpL_nil ?_
  refine wpA_ret ?_
  exact ⟨_, (.tmp (d := D.b true) rfl .nil), _, (.same rfl .nil), ⟨true, rfl, h⟩⟩
theorem lawTexts_c (s_ : ByteArray) (text : ByteArray)   : Fun false Try.prog 8 [D.s s_, D.s text] (fun d => d = D.b (true)) :=
  Fun.at (enc := fun r => D.b r) (v := true) (lawTexts_w s_ text  (fun r => r = true) (lawTexts_ok s_ text _  rfl))

set_option maxHeartbeats 2000000 in
set_option maxRecDepth 10000 in
theorem lawBlocks_w (data : ByteArray)  (Q : Bool → Prop) (h : lawBlocks_vc data Q) : Fun false Try.prog 9 [D.s data] (fun d => ∃ r, d = D.b r ∧ Q r) := by
  unfold lawBlocks_vc at h
  refine Fun.of_body Try.func9 rfl Try.ntmps9 rfl ?_
  refine wpA_seq ?_
  refine wpA_region ?_
  refine wpL_op rfl rfl rfl (OpA.asn rfl (by with_reducible conv => lhs; whnf) ?_)
  refine wpL_nil ?_
  iterate 2 refine wpA_seq ?_
  refine wpA_region ?_
  refine wpL_op rfl rfl rfl (OpA.call rfl rfl rfl en10 (awake_c  ) ?_)
  rintro _ rfl
  refine wpL_op rfl rfl rfl (OpA.not rfl rfl ?_)
  refine wpL_nil ?_
  refine wpA_cond rfl (fun b1 => ?_) (fun b1 => ?_)
  have h := h.1 (notT b1)
  refine wpA_seq ?_
  refine wpA_region ?_
  refine wpL_op rfl rfl rfl (OpA.asn rfl (by with_reducible conv => lhs; whnf) ?_)
  refine wpL_nil ?_
  refine wpA_ret ?_
  exact ⟨_, (.tmp (d := D.b false) rfl .nil), _, (.same rfl .nil), ⟨false, rfl, h⟩⟩
  have h := h.2 (notF b1)
  refine wpA_skip ?_
  iterate 2 refine wpA_seq ?_
  refine wpA_region ?_
  refine wpL_op rfl rfl rfl (OpA.mv rfl (by with_reducible conv => lhs; whnf) ?_)
  refine wpL_op rfl rfl rfl (OpA.slen rfl rfl rfl rfl td9 rfl ?_)
  refine wpL_op rfl rfl rfl (OpA.gtr rfl rfl rfl ?_)
  refine wpL_nil ?_
  refine wpA_cond rfl (fun b2 => ?_) (fun b2 => ?_)
  have h := h.1 (decT b2)
  refine wpA_seq ?_
  refine wpA_region ?_
  refine wpL_op rfl rfl rfl (OpA.asn rfl (by with_reducible conv => lhs; whnf) ?_)
  refine wpL_nil ?_
  refine wpA_ret ?_
  exact ⟨_, (.tmp (d := D.b true) rfl .nil), _, (.same rfl .nil), ⟨true, rfl, h⟩⟩
  have h := h.2 (decF b2)
  refine wpA_skip ?_
  refine wpA_seq ?_
  obtain ⟨q1, h⟩ := h
  refine wpA_region ?_
  refine wpL_op rfl rfl rfl (OpA.mv rfl (by with_reducible conv => lhs; whnf) ?_)
  refine wpL_op rfl rfl rfl (OpA.strBytes rfl td9 ts42.desc td5 rfl (fun c3 => ?_))
  refine wpL_op rfl rfl rfl (OpA.ibuildSliceO rfl ts42 rfl (.cons (.of (sz := 1) rfl) .nil) (by decide) ?_)
  refine wpL_op rfl rfl rfl (OpA.appendW (enc := (D.k .u8)) rfl rfl rfl rfl ts42 rfl (fun _ _ => .head) (.list (ys := ([6] : List Int))) q1 (fun c4 pre5 => ?_))
  refine wpL_op rfl rfl rfl (OpA.asn rfl (by with_reducible conv => lhs; whnf) ?_)
  refine wpL_nil ?_
  refine wpA_seq ?_
  refine wpA_block ?_
  refine wpA_lfp (S := (List Int)) (G := Nat × List D × List D) (c4, pre5, ([] : List D)) (fun gg ss => asg [(0, D.s data), (2, D.b false), (3, .own gg.1 1 gg.2.1.length ss.length)]) (fun gg ss => [(gg.1, .cells 1 (winL (D.k .u8) gg.2.1 ss gg.2.2))]) h (Cov.asg ⟨rfl, rfl, rfl, trivial⟩) (.refl _) ?_
  rintro again6 ⟨c16, pre16, post16⟩ padded h
  have h : lawBlocks_L1 data Q again6 padded := h
  unfold lawBlocks_L1 at h
  show wpA _ _ _ _ (asg [(0, D.s data), (2, D.b false), (3, .own c16 1 pre16.length padded.length)]) [(c16, .cells 1 (winL (D.k .u8) pre16 padded post16))]
  iterate 2 refine wpA_seq ?_
  obtain ⟨q1, h⟩ := h
  refine wpA_region ?_
  refine wpL_op rfl rfl rfl (OpA.mv rfl (by with_reducible conv => lhs; whnf) ?_)
  refine wpL_op rfl rfl rfl (OpA.len rfl rfl rfl rfl ts42.desc (.inr (.inl ⟨_, _, _, rfl⟩)) ?_)
  refine wpL_op rfl rfl rfl (OpA.remN rfl rfl rfl q1 ?_)
  refine wpL_op rfl rfl rfl (OpA.neq rfl rfl rfl ?_)
  refine wpL_nil ?_
  refine wpA_cond rfl (fun b7 => ?_) (fun b7 => ?_)
  have h := h.1 (bneT b7)
  refine wpA_skip ?_
  refine wpA_block ?_
  obtain ⟨q1, h⟩ := h
  refine wpA_region ?_
  refine wpL_op rfl rfl rfl (OpA.mv rfl (by with_reducible conv => lhs; whnf) ?_)
  refine wpL_op rfl rfl rfl (OpA.ibuildSliceO rfl ts42 rfl (.cons (.of (sz := 1) rfl) .nil) (by decide) ?_)
  refine wpL_op rfl rfl rfl (OpA.appendW (enc := (D.k .u8)) rfl rfl rfl rfl ts42 rfl (fun _ _ => .head) (.list (ys := ([0] : List Int))) q1 (fun c8 pre9 => ?_))
  refine wpL_op rfl rfl rfl (OpA.asn rfl (by with_reducible conv => lhs; whnf) ?_)
  refine wpL_nil ?_
  exact ⟨(c8, pre9, ([] : List D)), (padded ++ ([0] : List Int)), h, (Cov.asg ⟨rfl, rfl, rfl, trivial⟩), (.refl _)⟩
  have h := h.2 (bneF b7)
  refine wpA_exit ?_
  refine wpA_seq ?_
  obtain ⟨q1, q2, h⟩ := h
  refine wpA_region ?_
  refine wpL_op rfl rfl rfl (OpA.mv rfl (by with_reducible conv => lhs; whnf) ?_)
  refine wpL_op rfl rfl rfl (OpA.mv rfl (by with_reducible conv => lhs; whnf) ?_)
  refine wpL_op rfl rfl rfl (OpA.len rfl rfl rfl rfl ts42.desc (.inr (.inl ⟨_, _, _, rfl⟩)) ?_)
  refine wpL_op rfl rfl rfl (OpA.subi rfl rfl rfl q1 ?_)
  refine wpL_op rfl rfl rfl (OpA.ixV rfl ts42 rfl rfl q2 ?_)
  refine wpL_op rfl rfl rfl (OpA.load rfl ti5 rfl .head (getV (enc := (D.k .u8)) q2) rfl ?_)
  refine wpL_op rfl rfl rfl (OpA.bor rfl rfl rfl ?_)
  refine wpL_op rfl rfl rfl (OpA.ixV rfl ts42 rfl rfl q2 ?_)
  refine wpL_eff rfl rfl (OpA.storeV (enc := (D.k .u8)) (v := (gor .u8 (gi padded ((padded.length : Int) - 1)) 128)) rfl ti5 rfl rfl (.of rfl) rfl q2 .head ?_)
  refine wpL_nil ?_
  refine wpA_seq ?_
  refine wpA_region ?_
  refine wpL_op rfl rfl rfl (OpA.alloc (sz := 25) (d := (encArr 25 (D.k .u64)) (List.replicate 25 0)) rfl tz26 (fun _ _ => .agg (.cons (.v _) (.cons (.v _) (.cons (.v _) (.cons (.v _) (.cons (.v _) (.cons (.v _) (.cons (.v _) (.cons (.v _) (.cons (.v _) (.cons (.v _) (.cons (.v _) (.cons (.v _) (.cons (.v _) (.cons (.v _) (.cons (.v _) (.cons (.v _) (.cons (.v _) (.cons (.v _) (.cons (.v _) (.cons (.v _) (.cons (.v _) (.cons (.v _) (.cons (.v _) (.cons (.v _) (.cons (.v _) .nil)))))))))))))))))))))))))) (.of rfl) (fun c10 _ => ?_))
  refine wpL_nil ?_
  iterate 2 refine wpA_seq ?_
  refine wpA_cov (fr0 := asg [(0, D.s data), (2, D.b false), (3, .own c16 1 pre16.length (si padded ((padded.length : Int) - 1) (gor .u8 (gi padded ((padded.length : Int) - 1)) 128)).length), (4, .ptr c10 25 0 0), (19, .own c16 1 pre16.length (si padded ((padded.length : Int) - 1) (gor .u8 (gi padded ((padded.length : Int) - 1)) 128)).length), (20, D.i (padded.length : Int)), (21, D.i ((padded.length : Int) % 136)), (22, D.b (((padded.length : Int) % 136) != 0)), (26, .own c16 1 pre16.length (si padded ((padded.length : Int) - 1) (gor .u8 (gi padded ((padded.length : Int) - 1)) 128)).length), (27, .own c16 1 pre16.length (si padded ((padded.length : Int) - 1) (gor .u8 (gi padded ((padded.length : Int) - 1)) 128)).length), (28, D.i (padded.length : Int)), (29, D.i ((padded.length : Int) - 1)), (30, .ptr c16 1 (pre16.length + (Int.toNat ((padded.length : Int) - 1))) 0), (31, (D.k .u8) (gi padded ((padded.length : Int) - 1))), (32, (D.k .u8) (gor .u8 (gi padded ((padded.length : Int) - 1)) 128)), (33, .ptr c16 1 (pre16.length + (Int.toNat ((padded.length : Int) - 1))) 0)]) (Cov.asg ⟨rfl, rfl, (congrArg (D.own c16 1 pre16.length) (by simp only [si_length, gcopy_length])), rfl, (congrArg (D.own c16 1 pre16.length) (by simp only [si_length, gcopy_length])), rfl, rfl, rfl, (congrArg (D.own c16 1 pre16.length) (by simp only [si_length, gcopy_length])), (congrArg (D.own c16 1 pre16.length) (by simp only [si_length, gcopy_length])), rfl, rfl, rfl, rfl, rfl, rfl, trivial⟩) ?_
  refine wpA_region ?_
  refine wpL_op rfl rfl rfl (OpA.mv rfl (by with_reducible conv => lhs; whnf) ?_)
  refine wpL_op rfl rfl rfl (OpA.len rfl rfl rfl rfl ts42.desc (.inr (.inl ⟨_, _, _, rfl⟩)) ?_)
  refine wpL_op rfl rfl rfl (OpA.mv rfl (by with_reducible conv => lhs; whnf) ?_)
  refine wpL_nil ?_
  refine wpA_block ?_
  refine wpA_lfp (S := (List Int) × Int) (G := Unit) () (fun gg ss => asg [(0, D.s data), (2, D.b false), (4, .ptr c10 25 0 0), (34, .own c16 1 pre16.length (si padded ((padded.length : Int) - 1) (gor .u8 (gi padded ((padded.length : Int) - 1)) 128)).length), (35, D.i ((si padded ((padded.length : Int) - 1) (gor .u8 (gi padded ((padded.length : Int) - 1)) 128)).length : Int)), (36, D.i ss.2)]) (fun gg ss => [(c10, .cells 25 [(encArr 25 (D.k .u64)) ss.1]), (c16, .cells 1 (winL (D.k .u8) pre16 (si padded ((padded.length : Int) - 1) (gor .u8 (gi padded ((padded.length : Int) - 1)) 128)) post16))]) h (Cov.asg ⟨rfl, rfl, rfl, rfl, rfl, rfl, trivial⟩) (.refl _) ?_
  rintro again11 _ ⟨state, x⟩ h
  have h : lawBlocks_L2 data padded Q again11 state x := h
  unfold lawBlocks_L2 at h
  show wpA _ _ _ _ (asg [(0, D.s data), (2, D.b false), (4, .ptr c10 25 0 0), (34, .own c16 1 pre16.length (si padded ((padded.length : Int) - 1) (gor .u8 (gi padded ((padded.length : Int) - 1)) 128)).length), (35, D.i ((si padded ((padded.length : Int) - 1) (gor .u8 (gi padded ((padded.length : Int) - 1)) 128)).length : Int)), (36, D.i x)]) [(c10, .cells 25 [(encArr 25 (D.k .u64)) state]), (c16, .cells 1 (winL (D.k .u8) pre16 (si padded ((padded.length : Int) - 1) (gor .u8 (gi padded ((padded.length : Int) - 1)) 128)) post16))]
  refine wpA_seq ?_
  refine wpA_region ?_
  refine wpL_op rfl rfl rfl (OpA.lss rfl rfl rfl ?_)
  refine wpL_nil ?_
  refine wpA_seq ?_
  refine wpA_cond rfl (fun b12 => ?_) (fun b12 => ?_)
  have h := h.1 (decT b12)
  refine wpA_skip ?_
  refine wpA_seq ?_
  refine wpA_block ?_
  refine wpA_seq ?_
  obtain ⟨q1, h⟩ := h
  refine wpA_region ?_
  refine wpL_op rfl rfl rfl (OpA.mv rfl (by with_reducible conv => lhs; whnf) ?_)
  refine wpL_op rfl rfl rfl (OpA.ixV rfl ts42 rfl rfl q1 ?_)
  refine wpL_op rfl rfl rfl (OpA.load rfl ti5 rfl (.tail .head) (getV (enc := (D.k .u8)) q1) rfl ?_)
  refine wpL_op rfl rfl rfl (OpA.asn rfl (by with_reducible conv => lhs; whnf) ?_)
  refine wpL_op rfl rfl rfl (OpA.asn rfl (by with_reducible conv => lhs; whnf) ?_)
  refine wpL_nil ?_
  refine wpA_seq ?_
  obtain ⟨q1, h⟩ := h
  refine wpA_region ?_
  refine wpL_op rfl rfl rfl (OpA.mv rfl (by with_reducible conv => lhs; whnf) ?_)
  refine wpL_op rfl rfl rfl (OpA.remN rfl rfl rfl q1 ?_)
  refine wpL_op rfl rfl rfl (OpA.asn rfl (by with_reducible conv => lhs; whnf) ?_)
  refine wpL_nil ?_
  refine wpA_seq ?_
  obtain ⟨q1, q2, q3, q4, q5, q6, h⟩ := h
  refine wpA_draw (m := 12) mo (by kernel_rfl) rfl ?_
  refine DetK.op rfl (OpA.mv rfl (by with_reducible conv => lhs; whnf) ⟨rfl, rfl⟩) ?_
  refine DetK.op rfl (OpA.quoN rfl rfl rfl q1 ⟨rfl, rfl⟩) ?_
  refine DetK.op rfl (OpA.aixV rfl td26 ti25 rfl rfl q2 ⟨rfl, rfl⟩) ?_
  refine DetK.op rfl (OpA.load rfl ti25 rfl .head rfl (arrAt0 q2) ⟨rfl, rfl⟩) ?_
  refine DetK.op rfl (OpA.mv rfl (by with_reducible conv => lhs; whnf) ⟨rfl, rfl⟩) ?_
  refine DetK.op rfl (OpA.conv rfl td5 td25 rfl ⟨rfl, rfl⟩) ?_
  refine DetK.op rfl (OpA.mv rfl (by with_reducible conv => lhs; whnf) ⟨rfl, rfl⟩) ?_
  refine DetK.op rfl (OpA.remN rfl rfl rfl q3 ⟨rfl, rfl⟩) ?_
  refine DetK.op rfl (OpA.muli rfl rfl rfl q4 ⟨rfl, rfl⟩) ?_
  refine DetK.op rfl (OpA.shl rfl rfl rfl q5 ⟨rfl, rfl⟩) ?_
  refine DetK.op rfl (OpA.bxor rfl rfl rfl ⟨rfl, rfl⟩) ?_
  refine DetK.op rfl (OpA.aixV rfl td26 ti25 rfl rfl q2 ⟨rfl, rfl⟩) ?_
  refine DetK.nil ?_
  refine wpL_eff rfl rfl (OpA.store (e := (encArr 25 (D.k .u64)) state) (e' := (encArr 25 (D.k .u64)) (si state ((x % 136) / 8) (gxor .u64 (gi state ((x % 136) / 8)) (gshl .u64 (IntKind.u64.wrap (gi (si padded ((padded.length : Int) - 1) (gor .u8 (gi padded ((padded.length : Int) - 1)) 128)) x)) (8 * ((x % 136) % 8)))))) rfl ti25 rfl (.of rfl) rfl (arrFit0 q2) (arrSet0 q2 q6) .head ?_)
  refine wpL_nil ?_
  refine wpA_seq ?_
  refine wpA_region ?_
  refine wpL_op rfl rfl rfl (OpA.mv rfl (by with_reducible conv => lhs; whnf) ?_)
  refine wpL_op rfl rfl rfl (OpA.eql rfl rfl rfl ?_)
  refine wpL_nil ?_
  refine wpA_cond rfl (fun b13 => ?_) (fun b13 => ?_)
  have h := h.1 (beqT b13)
  obtain ⟨q1, h⟩ := h
  refine wpA_region ?_
  refine wpL_op rfl rfl rfl (OpA.load_whole rfl ti26 rfl rfl .head rfl ⟨_, rfl⟩ ?_)
  refine wpL_op rfl rfl rfl (OpA.call rfl rfl rfl en13 (perm_c (si state ((x % 136) / 8) (gxor .u64 (gi state ((x % 136) / 8)) (gshl .u64 (IntKind.u64.wrap (gi (si padded ((padded.length : Int) - 1) (gor .u8 (gi padded ((padded.length : Int) - 1)) 128)) x)) (8 * ((x % 136) % 8))))) q1) ?_)
  rintro _ rfl
  refine wpL_eff rfl rfl (OpA.storeW rfl ti26 rfl (by with_reducible conv => lhs; whnf) (.of rfl) rfl rfl .head ?_)
  refine wpL_nil ?_
  obtain ⟨q1, h⟩ := h
  refine wpA_region ?_
  refine wpL_op rfl rfl rfl (OpA.addi rfl rfl rfl q1 ?_)
  refine wpL_op rfl rfl rfl (OpA.mv rfl (by with_reducible conv => lhs; whnf) ?_)
  refine wpL_nil ?_
  exact ⟨(), ((permF (si state ((x % 136) / 8) (gxor .u64 (gi state ((x % 136) / 8)) (gshl .u64 (IntKind.u64.wrap (gi (si padded ((padded.length : Int) - 1) (gor .u8 (gi padded ((padded.length : Int) - 1)) 128)) x)) (8 * ((x % 136) % 8)))))), (x + 1)), h, (Cov.asg ⟨rfl, rfl, rfl, rfl, rfl, rfl, trivial⟩), (.refl _)⟩
  have h := h.2 (beqF b13)
  refine wpA_skip ?_
  obtain ⟨q1, h⟩ := h
  refine wpA_region ?_
  refine wpL_op rfl rfl rfl (OpA.addi rfl rfl rfl q1 ?_)
  refine wpL_op rfl rfl rfl (OpA.mv rfl (by with_reducible conv => lhs; whnf) ?_)
  refine wpL_nil ?_
  exact ⟨(), ((si state ((x % 136) / 8) (gxor .u64 (gi state ((x % 136) / 8)) (gshl .u64 (IntKind.u64.wrap (gi (si padded ((padded.length : Int) - 1) (gor .u8 (gi padded ((padded.length : Int) - 1)) 128)) x)) (8 * ((x % 136) % 8))))), (x + 1)), h, (Cov.asg ⟨rfl, rfl, rfl, rfl, rfl, rfl, trivial⟩), (.refl _)⟩
  have h := h.2 (decF b12)
  refine wpA_exit ?_
  refine wpA_seq ?_
  obtain ⟨q1, h⟩ := h
  refine wpA_region ?_
  refine wpL_op rfl rfl rfl (OpA.mv rfl (by with_reducible conv => lhs; whnf) ?_)
  refine wpL_op rfl rfl rfl (OpA.call rfl rfl rfl en11 (sum_c data q1) ?_)
  rintro _ rfl
  refine wpL_op rfl rfl rfl (OpA.asn rfl (by with_reducible conv => lhs; whnf) ?_)
  refine wpL_nil ?_
  iterate 2 refine wpA_seq ?_
  refine wpA_region ?_
  refine wpL_op rfl rfl rfl (OpA.mv rfl (by with_reducible conv => lhs; whnf) ?_)
  refine wpL_op rfl rfl rfl (OpA.slen rfl rfl rfl rfl td9 rfl ?_)
  refine wpL_op rfl rfl rfl (OpA.neq rfl rfl rfl ?_)
  refine wpL_nil ?_
  refine wpA_cond rfl (fun b14 => ?_) (fun b14 => ?_)
  have h := h.1 (bneT b14)
  refine wpA_seq ?_
  refine wpA_region ?_
  refine wpL_op rfl rfl rfl (OpA.asn rfl (by with_reducible conv => lhs; whnf) ?_)
  refine wpL_nil ?_
  refine wpA_ret ?_
  exact ⟨_, (.tmp (d := D.b false) rfl .nil), _, (.same rfl .nil), ⟨false, rfl, h⟩⟩
  have h := h.2 (bneF b14)
  refine wpA_skip ?_
  iterate 2 refine wpA_seq ?_
  refine wpA_region ?_
  refine wpL_op rfl rfl rfl (OpA.mv rfl (by with_reducible conv => lhs; whnf) ?_)
  refine wpL_op rfl rfl rfl (OpA.slen rfl rfl rfl rfl td9 rfl ?_)
  refine wpL_op rfl rfl rfl (OpA.mv rfl (by with_reducible conv => lhs; whnf) ?_)
  refine wpL_nil ?_
  refine wpA_block ?_
  refine wpA_lfp (S := Int) (G := Unit) () (fun gg ss => asg [(2, D.b false), (4, .ptr c10 25 0 0), (8, D.s (sumF data)), (66, D.i ((sumF data).size : Int)), (67, D.i ss)]) (fun gg ss => [(c10, .cells 25 [(encArr 25 (D.k .u64)) state]), (c16, .cells 1 (winL (D.k .u8) pre16 (si padded ((padded.length : Int) - 1) (gor .u8 (gi padded ((padded.length : Int) - 1)) 128)) post16))]) h (Cov.asg ⟨rfl, rfl, rfl, rfl, rfl, trivial⟩) (.refl _) ?_
  rintro again15 _ x1 h
  have h : lawBlocks_L3 data state Q again15 x1 := h
  unfold lawBlocks_L3 at h
  show wpA _ _ _ _ (asg [(2, D.b false), (4, .ptr c10 25 0 0), (8, D.s (sumF data)), (66, D.i ((sumF data).size : Int)), (67, D.i x1)]) [(c10, .cells 25 [(encArr 25 (D.k .u64)) state]), (c16, .cells 1 (winL (D.k .u8) pre16 (si padded ((padded.length : Int) - 1) (gor .u8 (gi padded ((padded.length : Int) - 1)) 128)) post16))]
  refine wpA_seq ?_
  refine wpA_region ?_
  refine wpL_op rfl rfl rfl (OpA.lss rfl rfl rfl ?_)
  refine wpL_nil ?_
  refine wpA_seq ?_
  refine wpA_cond rfl (fun b16 => ?_) (fun b16 => ?_)
  have h := h.1 (decT b16)
  refine wpA_skip ?_
  refine wpA_seq ?_
  refine wpA_block ?_
  refine wpA_seq ?_
  refine wpA_region ?_
  refine wpL_op rfl rfl rfl (OpA.mv rfl (by with_reducible conv => lhs; whnf) ?_)
  refine wpL_op rfl rfl rfl (OpA.asn rfl (by with_reducible conv => lhs; whnf) ?_)
  refine wpL_nil ?_
  refine wpA_seq ?_
  obtain ⟨q1, q2, q3, q4, q5, q6, h⟩ := h
  refine wpA_draw (m := 13) mo (by kernel_rfl) rfl ?_
  iterate 2 refine DetK.op rfl (OpA.mv rfl (by with_reducible conv => lhs; whnf) ⟨rfl, rfl⟩) ?_
  refine DetK.op rfl (OpA.sixV rfl td9 rfl rfl q1 ⟨rfl, rfl⟩) ?_
  refine DetK.op rfl (OpA.mv rfl (by with_reducible conv => lhs; whnf) ⟨rfl, rfl⟩) ?_
  refine DetK.op rfl (OpA.quoN rfl rfl rfl q2 ⟨rfl, rfl⟩) ?_
  refine DetK.op rfl (OpA.aixV rfl td26 ti25 rfl rfl q3 ⟨rfl, rfl⟩) ?_
  refine DetK.op rfl (OpA.load rfl ti25 rfl .head rfl (arrAt0 q3) ⟨rfl, rfl⟩) ?_
  refine DetK.op rfl (OpA.mv rfl (by with_reducible conv => lhs; whnf) ⟨rfl, rfl⟩) ?_
  refine DetK.op rfl (OpA.remN rfl rfl rfl q4 ⟨rfl, rfl⟩) ?_
  refine DetK.op rfl (OpA.muli rfl rfl rfl q5 ⟨rfl, rfl⟩) ?_
  refine DetK.op rfl (OpA.shr rfl rfl rfl q6 ⟨rfl, rfl⟩) ?_
  refine DetK.op rfl (OpA.conv rfl td25 td5 rfl ⟨rfl, rfl⟩) ?_
  refine DetK.op rfl (OpA.neq rfl rfl rfl ⟨rfl, rfl⟩) ?_
  refine DetK.nil ?_
  refine wpL_nil ?_
  refine wpA_cond rfl (fun b17 => ?_) (fun b17 => ?_)
  have h := h.1 (bneT b17)
  refine wpA_seq ?_
  refine wpA_region ?_
  refine wpL_op rfl rfl rfl (OpA.asn rfl (by with_reducible conv => lhs; whnf) ?_)
  refine wpL_nil ?_
  refine wpA_ret ?_
  exact ⟨_, (.tmp (d := D.b false) rfl .nil), _, (.same rfl .nil), ⟨false, rfl, h⟩⟩
  have h := h.2 (bneF b17)
  refine wpA_skip ?_
  obtain ⟨q1, h⟩ := h
  refine wpA_region ?_
  refine wpL_op rfl rfl rfl (OpA.addi rfl rfl rfl q1 ?_)
  refine wpL_op rfl rfl rfl (OpA.mv rfl (by with_reducible conv => lhs; whnf) ?_)
  refine wpL_nil ?_
  exact ⟨(), (x1 + 1), h, (Cov.asg ⟨rfl, rfl, rfl, rfl, rfl, trivial⟩), (.refl _)⟩
  have h := h.2 (decF b16)
  refine wpA_exit ?_
  refine wpA_seq ?_
  refine wpA_region ?_
  refine wpL_op rfl rfl rfl (OpA.asn rfl (by with_reducible conv => lhs; whnf) ?_)
  refine wpL_nil ?_
  refine wpA_ret ?_
  exact ⟨_, (.tmp (d := D.b true) rfl .nil), _, (.same rfl .nil), ⟨true, rfl, h⟩⟩
theorem lawBlocks_c (data : ByteArray)   : Fun false Try.prog 9 [D.s data] (fun d => d = D.b (true)) :=
  Fun.at (enc := fun r => D.b r) (v := true) (lawBlocks_w data  (fun r => r = true) (lawBlocks_ok data _  rfl))
end Go.Proofs.Ytchidogjhgelpaa
