/-
  walks and contracts
-/
import Derived.Test.YtaofnefejkokdaaGreatDoorV5
import Derived.Test.YtaofnefejkokdaaGreatDoorV6
import Derived.Test.YtaofnefejkokdaaGreatDoorVb
import Derived.Test.YtaofnefejkokdaaGreatDoorTw
set_option linter.all false
namespace Go.Proofs.YtaofnefejkokdaaGreatDoor
open Go Go.Lic Go.Sort Go.Proofs
attribute [local irreducible] addF addP attrF badR behindF betR betterP blankF checkA checkF cmpB cmpI cmpL codeF countF countL fewC fewTs fewW findT gramsF growTF has1F hasF hashF indexF insideF leastF lenF longAF mainF maxF mergeF mul64F mulP nameR newF ofF orF packF partF pathB pathF pieceOk postCmp postLt postsF powF printsF pushF rangedF rightA rightCT rollF sameF selectF shareF sizeF smallF spanCmp splitF splitG srcF srcR textF unknownF validF validT



set_option maxHeartbeats 2000000 in
set_option maxRecDepth 10000 in
theorem cmpInts_w (s1 : (List Int)) (s2 : (List Int))  (Q : Int → Prop) (h : cmpInts_vc s1 s2 Q) : Fun false Tryz.prog 67 [(encL 1 D.i) s1, (encL 1 D.i) s2] (fun d => ∃ r, d = D.i r ∧ Q r) := by
  unfold cmpInts_vc at h
  refine Fun.of_body Tryz.func67 rfl Tryz.ntmps67 rfl ?_
  refine wpA_seq ?_
  refine wpA_region ?_
  refine wL (OpA.a ?_)
  refine wpL_nil ?_
  iterate 2 refine wpA_seq ?_
  refine wpA_region ?_
  refine wL (OpA.m ?_)
  refine wL (OpA.len rfl rfl rfl rfl ts52.desc (.inl ⟨_, _, rfl, (List.length_map _).symm⟩) ?_)
  refine wL (OpA.m ?_)
  refine wpL_nil ?_
  refine wpA_block ?_
  refine wpA_lfp (S := Int) (G := Unit) () (fun gg ss => asg [(0, (encL 1 D.i) s1), (1, (encL 1 D.i) s2), (4, D.i 0), (9, (encL 1 D.i) s1), (10, D.i (s1.length : Int)), (11, D.i ss)]) (fun gg ss => []) h (Cov.asg ⟨rfl, rfl, rfl, rfl, rfl, rfl, trivial⟩) (.refl _) ?_
  rintro again1 _ x h
  have h : cmpInts_L1 s1 s2 Q again1 x := h
  unfold cmpInts_L1 at h
  show wpA _ _ _ _ (asg [(0, (encL 1 D.i) s1), (1, (encL 1 D.i) s2), (4, D.i 0), (9, (encL 1 D.i) s1), (10, D.i (s1.length : Int)), (11, D.i x)]) []
  refine wpA_seq ?_
  refine wpA_region ?_
  refine wL (OpA.lss rfl rfl rfl ?_)
  refine wpL_nil ?_
  refine wpA_seq ?_
  refine wpA_cond rfl (fun b2 => ?_) (fun b2 => ?_)
  have h := h.1 (decT b2)
  refine wpA_skip ?_
  refine wpA_seq ?_
  refine wpA_block ?_
  refine wpA_seq ?_
  obtain ⟨q1, h⟩ := h
  refine wpA_region ?_
  refine wL (OpA.m ?_)
  refine wL (OpA.iixV (enc := D.i) rfl ts52 rfl rfl rfl q1 ?_)
  refine wL (OpA.iload rfl ti3 rfl rfl ?_)
  iterate 2 refine wL (OpA.a ?_)
  refine wpL_nil ?_
  iterate 2 refine wpA_seq ?_
  refine wpA_region ?_
  iterate 2 refine wL (OpA.m ?_)
  refine wL (OpA.len rfl rfl rfl rfl ts52.desc (.inl ⟨_, _, rfl, (List.length_map _).symm⟩) ?_)
  refine wL (OpA.geq rfl rfl rfl ?_)
  refine wpL_nil ?_
  refine wpA_cond rfl (fun b3 => ?_) (fun b3 => ?_)
  have h := h.1 (decT b3)
  refine wpA_seq ?_
  refine wpA_region ?_
  refine wL (OpA.a ?_)
  refine wpL_nil ?_
  refine wpA_ret ?_
  exact ⟨_, (.tmp (d := D.i 1) rfl .nil), _, (.same rfl .nil), ⟨1, rfl, h⟩⟩
  have h := h.2 (decF b3)
  refine wpA_skip ?_
  refine wpA_seq ?_
  obtain ⟨q1, h⟩ := h
  refine wpA_region ?_
  iterate 2 refine wL (OpA.m ?_)
  refine wL (OpA.iixV (enc := D.i) rfl ts52 rfl rfl rfl q1 ?_)
  refine wL (OpA.iload rfl ti3 rfl rfl ?_)
  refine wL (OpA.a ?_)
  refine wpL_nil ?_
  refine wpA_seq ?_
  refine wpA_region ?_
  iterate 2 refine wL (OpA.m ?_)
  refine wL (OpA.call rfl rfl rfl en85 (iCompare_c (gi s1 x) (gi s2 x) ) ?_)
  rintro _ rfl
  refine wL (OpA.a ?_)
  refine wpL_nil ?_
  refine wpA_seq ?_
  refine wpA_region ?_
  refine wL (OpA.m ?_)
  refine wL (OpA.neq rfl rfl rfl ?_)
  refine wpL_nil ?_
  refine wpA_cond rfl (fun b4 => ?_) (fun b4 => ?_)
  have h := h.1 (bneT b4)
  refine wpA_seq ?_
  refine wpA_region ?_
  refine wL (OpA.m ?_)
  refine wL (OpA.a ?_)
  refine wpL_nil ?_
  refine wpA_ret ?_
  exact ⟨_, (.tmp (d := D.i (cmpI (gi s1 x) (gi s2 x))) rfl .nil), _, (.same rfl .nil), ⟨(cmpI (gi s1 x) (gi s2 x)), rfl, h⟩⟩
  have h := h.2 (bneF b4)
  refine wpA_skip ?_
  obtain ⟨q1, h⟩ := h
  refine wpA_region ?_
  refine wL (OpA.addi rfl rfl rfl q1 ?_)
  refine wL (OpA.m ?_)
  refine wpL_nil ?_
  exact ⟨(), (x + 1), h, (Cov.asg ⟨rfl, rfl, rfl, rfl, rfl, rfl, trivial⟩), (.refl _)⟩
  have h := h.2 (decF b2)
  refine wpA_exit ?_
  iterate 2 refine wpA_seq ?_
  refine wpA_region ?_
  refine wL (OpA.m ?_)
  refine wL (OpA.len rfl rfl rfl rfl ts52.desc (.inl ⟨_, _, rfl, (List.length_map _).symm⟩) ?_)
  refine wL (OpA.m ?_)
  refine wL (OpA.len rfl rfl rfl rfl ts52.desc (.inl ⟨_, _, rfl, (List.length_map _).symm⟩) ?_)
  refine wL (OpA.lss rfl rfl rfl ?_)
  refine wpL_nil ?_
  refine wpA_cond rfl (fun b5 => ?_) (fun b5 => ?_)
  have h := h.1 (decT b5)
  refine wpA_seq ?_
  refine wpA_region ?_
  refine wL (OpA.a ?_)
  refine wpL_nil ?_
  refine wpA_ret ?_
  exact ⟨_, (.tmp (d := D.i (-1)) rfl .nil), _, (.same rfl .nil), ⟨(-1), rfl, h⟩⟩
  have h := h.2 (decF b5)
  refine wpA_skip ?_
  refine wpA_seq ?_
  refine wpA_region ?_
  refine wL (OpA.a ?_)
  refine wpL_nil ?_
  refine wpA_ret ?_
  exact ⟨_, (.tmp (d := D.i 0) rfl .nil), _, (.same rfl .nil), ⟨0, rfl, h⟩⟩
theorem cmpInts_c (s1 : (List Int)) (s2 : (List Int))  (hp0 : s1.length ≤ 1000000) (hp1 : s2.length ≤ 1000000) : Fun false Tryz.prog 67 [(encL 1 D.i) s1, (encL 1 D.i) s2] (fun d => d = D.i (cmpL s1 s2)) :=
  Fun.at (enc := fun r => D.i r) (v := cmpL s1 s2) (cmpInts_w s1 s2  (fun r => r = cmpL s1 s2) (cmpInts_ok s1 s2 _ hp0 hp1 rfl))

set_option maxHeartbeats 2000000 in
set_option maxRecDepth 10000 in
theorem maxInts_w (x : (List Int))  (Q : Int → Prop) (h : maxInts_vc x Q) : Fun false Tryz.prog 45 [(encL 1 D.i) x] (fun d => ∃ r, d = D.i r ∧ Q r) := by
  unfold maxInts_vc at h
  refine Fun.of_body Tryz.func45 rfl Tryz.ntmps45 rfl ?_
  refine wpA_seq ?_
  refine wpA_region ?_
  refine wL (OpA.a ?_)
  refine wpL_nil ?_
  iterate 2 refine wpA_seq ?_
  refine wpA_region ?_
  refine wL (OpA.m ?_)
  refine wL (OpA.len rfl rfl rfl rfl ts52.desc (.inl ⟨_, _, rfl, (List.length_map _).symm⟩) ?_)
  refine wL (OpA.lss rfl rfl rfl ?_)
  refine wpL_nil ?_
  refine wpA_join (S := Unit) (G := Unit) (fun gg ss => asg [(0, (encL 1 D.i) x), (2, D.i 0)]) (fun gg ss => []) (fun ss => maxInts_J1 x Q) ?_ ?_
  refine wpA_cond rfl (fun b3 => ?_) (fun b3 => ?_)
  have h := h.1 (decT b3)
  exact h.elim
  have h := h.2 (decF b3)
  refine wpA_skip ?_
  exact ⟨(), (), h, (Cov.asg ⟨rfl, rfl, trivial⟩), (.refl _)⟩
  rintro _ _ h
  have h : maxInts_J1 x Q := h
  unfold maxInts_J1 at h
  show wpA _ _ _ _ (asg [(0, (encL 1 D.i) x), (2, D.i 0)]) []
  refine wpA_seq ?_
  obtain ⟨q1, h⟩ := h
  refine wpA_region ?_
  refine wL (OpA.m ?_)
  refine wL (OpA.iixV (enc := D.i) rfl ts52 rfl rfl rfl q1 ?_)
  refine wL (OpA.iload rfl ti3 rfl rfl ?_)
  refine wL (OpA.a ?_)
  refine wpL_nil ?_
  iterate 2 refine wpA_seq ?_
  refine wpA_region ?_
  refine wL (OpA.a ?_)
  refine wpL_nil ?_
  refine wpA_block ?_
  refine wpA_lfp (S := Int × Int) (G := Unit) () (fun gg ss => asg [(0, (encL 1 D.i) x), (2, D.i 0), (3, D.i ss.1), (4, D.i ss.2)]) (fun gg ss => []) h (Cov.asg ⟨rfl, rfl, rfl, rfl, trivial⟩) (.refl _) ?_
  rintro again1 _ ⟨m, i⟩ h
  have h : maxInts_L1 x Q again1 m i := h
  unfold maxInts_L1 at h
  show wpA _ _ _ _ (asg [(0, (encL 1 D.i) x), (2, D.i 0), (3, D.i m), (4, D.i i)]) []
  iterate 2 refine wpA_seq ?_
  refine wpA_region ?_
  iterate 2 refine wL (OpA.m ?_)
  refine wL (OpA.len rfl rfl rfl rfl ts52.desc (.inl ⟨_, _, rfl, (List.length_map _).symm⟩) ?_)
  refine wL (OpA.lss rfl rfl rfl ?_)
  refine wpL_nil ?_
  refine wpA_cond rfl (fun b2 => ?_) (fun b2 => ?_)
  have h := h.1 (decT b2)
  refine wpA_skip ?_
  refine wpA_seq ?_
  refine wpA_block ?_
  obtain ⟨q1, h⟩ := h
  refine wpA_region ?_
  iterate 3 refine wL (OpA.m ?_)
  refine wL (OpA.iixV (enc := D.i) rfl ts52 rfl rfl rfl q1 ?_)
  refine wL (OpA.iload rfl ti3 rfl rfl ?_)
  refine wL (OpA.max (l := [_]) rfl rfl rfl rfl ?_)
  refine wL (OpA.a ?_)
  refine wpL_nil ?_
  obtain ⟨q1, h⟩ := h
  refine wpA_region ?_
  refine wL (OpA.m ?_)
  refine wL (OpA.addi rfl rfl rfl q1 ?_)
  refine wL (OpA.a ?_)
  refine wpL_nil ?_
  exact ⟨(), ((gmax m [(gi x i)]), (i + 1)), h, (Cov.asg ⟨rfl, rfl, rfl, rfl, trivial⟩), (.refl _)⟩
  have h := h.2 (decF b2)
  refine wpA_exit ?_
  refine wpA_seq ?_
  refine wpA_region ?_
  refine wL (OpA.m ?_)
  refine wL (OpA.a ?_)
  refine wpL_nil ?_
  refine wpA_ret ?_
  exact ⟨_, (.tmp (d := D.i m) rfl .nil), _, (.same rfl .nil), ⟨m, rfl, h⟩⟩
theorem maxInts_c (x : (List Int))  (hp0 : 0 < x.length) (hp1 : x.length ≤ 1000000) : Fun false Tryz.prog 45 [(encL 1 D.i) x] (fun d => d = D.i (maxF x)) :=
  Fun.at (enc := fun r => D.i r) (v := maxF x) (maxInts_w x  (fun r => r = maxF x) (maxInts_ok x _ hp0 hp1 rfl))

set_option maxHeartbeats 2000000 in
set_option maxRecDepth 10000 in
theorem eqPieces_w (s1 : (List Piece)) (s2 : (List Piece))  (Q : Bool → Prop) (h : eqPieces_vc s1 s2 Q) : Fun false Tryz.prog 33 [(encL 4 encPiece) s1, (encL 4 encPiece) s2] (fun d => ∃ r, d = D.b r ∧ Q r) := by
  unfold eqPieces_vc at h
  refine Fun.of_body Tryz.func33 rfl Tryz.ntmps33 rfl ?_
  refine wpA_seq ?_
  refine wpA_region ?_
  refine wL (OpA.a ?_)
  refine wpL_nil ?_
  iterate 2 refine wpA_seq ?_
  refine wpA_region ?_
  refine wL (OpA.m ?_)
  refine wL (OpA.len rfl rfl rfl rfl ts31.desc (.inl ⟨_, _, rfl, (List.length_map _).symm⟩) ?_)
  refine wL (OpA.m ?_)
  refine wL (OpA.len rfl rfl rfl rfl ts31.desc (.inl ⟨_, _, rfl, (List.length_map _).symm⟩) ?_)
  refine wL (OpA.neq rfl rfl rfl ?_)
  refine wpL_nil ?_
  refine wpA_cond rfl (fun b1 => ?_) (fun b1 => ?_)
  have h := h.1 (bneT b1)
  refine wpA_seq ?_
  refine wpA_region ?_
  refine wL (OpA.a ?_)
  refine wpL_nil ?_
  refine wpA_ret ?_
  exact ⟨_, (.tmp (d := D.b false) rfl .nil), _, (.same rfl .nil), ⟨false, rfl, h⟩⟩
  have h := h.2 (bneF b1)
  refine wpA_skip ?_
  iterate 2 refine wpA_seq ?_
  refine wpA_region ?_
  refine wL (OpA.m ?_)
  refine wL (OpA.len rfl rfl rfl rfl ts31.desc (.inl ⟨_, _, rfl, (List.length_map _).symm⟩) ?_)
  refine wL (OpA.m ?_)
  refine wpL_nil ?_
  refine wpA_block ?_
  refine wpA_lfp (S := Int) (G := Unit) () (fun gg ss => asg [(0, (encL 4 encPiece) s1), (1, (encL 4 encPiece) s2), (4, D.b false), (12, D.i (s1.length : Int)), (13, D.i ss)]) (fun gg ss => []) h (Cov.asg ⟨rfl, rfl, rfl, rfl, rfl, trivial⟩) (.refl _) ?_
  rintro again2 _ x h
  have h : eqPieces_L1 s1 s2 Q again2 x := h
  unfold eqPieces_L1 at h
  show wpA _ _ _ _ (asg [(0, (encL 4 encPiece) s1), (1, (encL 4 encPiece) s2), (4, D.b false), (12, D.i (s1.length : Int)), (13, D.i x)]) []
  refine wpA_seq ?_
  refine wpA_region ?_
  refine wL (OpA.lss rfl rfl rfl ?_)
  refine wpL_nil ?_
  refine wpA_seq ?_
  refine wpA_cond rfl (fun b3 => ?_) (fun b3 => ?_)
  have h := h.1 (decT b3)
  refine wpA_skip ?_
  refine wpA_seq ?_
  refine wpA_block ?_
  refine wpA_seq ?_
  refine wpA_region ?_
  refine wL (OpA.m ?_)
  refine wL (OpA.a ?_)
  refine wpL_nil ?_
  refine wpA_seq ?_
  obtain ⟨q1, q2, h⟩ := h
  refine wpA_draw (m := 9) mo (by kernel_rfl) rfl ?_
  iterate 2 refine dL (OpA.m ⟨rfl, rfl⟩) ?_
  refine dL (OpA.iixV (enc := encPiece) rfl ts31 rfl rfl rfl q1 ⟨rfl, rfl⟩) ?_
  refine dL (OpA.iload_whole rfl ti48 rfl ⟨_, rfl, rfl⟩ ⟨rfl, rfl⟩) ?_
  iterate 2 refine dL (OpA.m ⟨rfl, rfl⟩) ?_
  refine dL (OpA.iixV (enc := encPiece) rfl ts31 rfl rfl rfl q2 ⟨rfl, rfl⟩) ?_
  refine dL (OpA.iload_whole rfl ti48 rfl ⟨_, rfl, rfl⟩ ⟨rfl, rfl⟩) ?_
  refine dL (OpA.structcmp (xs := [.int .i64 ((gi s1 x).from_), .int .i64 ((gi s1 x).to), .int .i64 ((gi s1 x).text), .int .i64 ((gi s1 x).at_)]) (ys := [.int .i64 ((gi s2 x).from_), .int .i64 ((gi s2 x).to), .int .i64 ((gi s2 x).text), .int .i64 ((gi s2 x).at_)]) (r := (eqPiece (gi s1 x) (gi s2 x))) rfl eg48 su48.1 su48.2.1 su48.2.2 rfl rfl (.int td3 ti3 rfl rfl (.int td3 ti3 rfl rfl (.int td3 ti3 rfl rfl (.int td3 ti3 rfl rfl .nil)))) (.inr ⟨rfl, rfl⟩) ⟨rfl, rfl⟩) ?_
  refine DetK.nil ?_
  refine wpL_nil ?_
  refine wpA_cond rfl (fun b4 => ?_) (fun b4 => ?_)
  have h := h.1 (notT b4)
  refine wpA_seq ?_
  refine wpA_region ?_
  refine wL (OpA.a ?_)
  refine wpL_nil ?_
  refine wpA_ret ?_
  exact ⟨_, (.tmp (d := D.b false) rfl .nil), _, (.same rfl .nil), ⟨false, rfl, h⟩⟩
  have h := h.2 (notF b4)
  refine wpA_skip ?_
  obtain ⟨q1, h⟩ := h
  refine wpA_region ?_
  refine wL (OpA.addi rfl rfl rfl q1 ?_)
  refine wL (OpA.m ?_)
  refine wpL_nil ?_
  exact ⟨(), (x + 1), h, (Cov.asg ⟨rfl, rfl, rfl, rfl, rfl, trivial⟩), (.refl _)⟩
  have h := h.2 (decF b3)
  refine wpA_exit ?_
  refine wpA_seq ?_
  refine wpA_region ?_
  refine wL (OpA.a ?_)
  refine wpL_nil ?_
  refine wpA_ret ?_
  exact ⟨_, (.tmp (d := D.b true) rfl .nil), _, (.same rfl .nil), ⟨true, rfl, h⟩⟩
theorem eqPieces_c (s1 : (List Piece)) (s2 : (List Piece))  (hp0 : s1.length ≤ 9223372036854775807) : Fun false Tryz.prog 33 [(encL 4 encPiece) s1, (encL 4 encPiece) s2] (fun d => d = D.b ((decide (s1 = s2)))) :=
  Fun.at (enc := fun r => D.b r) (v := (decide (s1 = s2))) (eqPieces_w s1 s2  (fun r => r = (decide (s1 = s2))) (eqPieces_ok s1 s2 _ hp0 rfl))

set_option maxHeartbeats 2000000 in
set_option maxRecDepth 10000 in
theorem tvalid_w (c : Corpus) (t : Text)  (Q : Bool → Prop) (h : tvalid_vc c t Q) : Fun false Tryz.prog 35 [encCorpus c, encText t] (fun d => ∃ r, d = D.b r ∧ Q r) := by
  unfold tvalid_vc at h
  refine Fun.of_body Tryz.func35 rfl Tryz.ntmps35 rfl ?_
  refine wpA_seq ?_
  refine wpA_region ?_
  refine wL (OpA.bx (sz := 4) rfl (by with_reducible conv => lhs; whnf) (.of rfl) (fun c1 _ => ?_))
  refine wL (OpA.bx (sz := 2) rfl (by with_reducible conv => lhs; whnf) (.of rfl) (fun c2 _ => ?_))
  refine wL (OpA.a ?_)
  refine wpL_nil ?_
  refine wpA_seq ?_
  obtain ⟨q1, q2, h⟩ := h
  refine wpA_mid (asg [(4, D.b (((checkF c) == 0) && (validT t)))]) [(c2, .cells 2 [encText t]), (c1, .cells 4 [encCorpus c])] ?_ ?_
  refine wpA_region ?_
  refine wL (OpA.load_whole rfl ti25 rfl rfl (.tail .head) rfl ⟨_, rfl⟩ ?_)
  refine wL (OpA.call rfl rfl rfl en20 (ccheck_c c q1) ?_)
  rintro _ rfl
  refine wL (OpA.eql rfl rfl rfl ?_)
  refine wL (OpA.m ?_)
  refine wpL_split (s := 8) rfl (fun b3 => ?_) (fun b3 => ?_)
  refine wG (OpA.load_whole rfl ti28 rfl rfl .head rfl ⟨_, rfl⟩ ?_)
  refine wG (OpA.call rfl rfl rfl en50 (nvalid_c t (q2 (beqT b3))) ?_)
  rintro _ rfl
  refine wL (OpA.p ?_)
  refine wL (OpA.a ?_)
  refine wpL_nil ?_
  exact ⟨(Cov.asg ⟨(congrArg D.b (Eq.symm (andN b3 rfl))), trivial⟩), (.refl _)⟩
  iterate 2 refine wS ?_
  refine wL (OpA.p ?_)
  refine wL (OpA.a ?_)
  refine wpL_nil ?_
  exact ⟨(Cov.asg ⟨(congrArg D.b (Eq.symm (andS b3))), trivial⟩), (.refl _)⟩
  show wpA _ _ _ _ (asg [(4, D.b (((checkF c) == 0) && (validT t)))]) [(c2, .cells 2 [encText t]), (c1, .cells 4 [encCorpus c])]
  refine wpA_ret ?_
  exact ⟨_, (.tmp (d := D.b (((checkF c) == 0) && (validT t))) rfl .nil), _, (.same rfl .nil), ⟨(((checkF c) == 0) && (validT t)), rfl, h⟩⟩
theorem tvalid_c (c : Corpus) (t : Text)  (hp0 : okC c) (hp1 : okT t) : Fun false Tryz.prog 35 [encCorpus c, encText t] (fun d => d = D.b (rightCT c t)) :=
  Fun.at (enc := fun r => D.b r) (v := rightCT c t) (tvalid_w c t  (fun r => r = rightCT c t) (tvalid_ok c t _ hp0 hp1 rfl))

set_option maxHeartbeats 2000000 in
set_option maxRecDepth 10000 in
theorem tsame_w (words : (List Lexeme)) (known : (List Lexeme)) (at_ : Int)  (Q : Bool → Prop) (h : tsame_vc words known at_ Q) : Fun false Tryz.prog 48 [(encL 2 encLex) words, (encL 2 encLex) known, D.i at_] (fun d => ∃ r, d = D.b r ∧ Q r) := by
  unfold tsame_vc at h
  refine Fun.of_body Tryz.func48 rfl Tryz.ntmps48 rfl ?_
  refine wpA_seq ?_
  refine wpA_region ?_
  refine wL (OpA.a ?_)
  refine wpL_nil ?_
  iterate 2 refine wpA_seq ?_
  obtain ⟨q1, h⟩ := h
  refine wpA_mid (asg [(0, (encL 2 encLex) words), (1, (encL 2 encLex) known), (2, D.i at_), (6, D.b false), (26, D.b (((decide (at_ < 0)) || (decide ((words.length : Int) > (known.length : Int)))) || (decide (at_ > ((known.length : Int) - (words.length : Int))))))]) [] ?_ ?_
  refine wpA_region ?_
  refine wL (OpA.m ?_)
  refine wL (OpA.lss rfl rfl rfl ?_)
  refine wL (OpA.m ?_)
  refine wpL_split (s := 11) rfl (fun b6 => ?_) (fun b6 => ?_)
  iterate 5 refine wS ?_
  refine wL (OpA.p ?_)
  refine wL (OpA.m ?_)
  iterate 7 refine wS ?_
  refine wL (OpA.p ?_)
  refine wpL_nil ?_
  exact ⟨(Cov.asg ⟨rfl, rfl, rfl, rfl, (congrArg D.b (Eq.symm (orS (orS b6)))), trivial⟩), (.refl _)⟩
  refine wG (OpA.m ?_)
  refine wG (OpA.len rfl rfl rfl rfl ts26.desc (.inl ⟨_, _, rfl, (List.length_map _).symm⟩) ?_)
  refine wG (OpA.m ?_)
  refine wG (OpA.len rfl rfl rfl rfl ts26.desc (.inl ⟨_, _, rfl, (List.length_map _).symm⟩) ?_)
  refine wG (OpA.gtr rfl rfl rfl ?_)
  refine wL (OpA.p ?_)
  refine wL (OpA.m ?_)
  refine wpL_split (s := 18) rfl (fun b7 => ?_) (fun b7 => ?_)
  iterate 7 refine wS ?_
  refine wL (OpA.p ?_)
  refine wpL_nil ?_
  exact ⟨(Cov.asg ⟨rfl, rfl, rfl, rfl, (congrArg D.b (Eq.symm (orS (orN b6 b7)))), trivial⟩), (.refl _)⟩
  iterate 2 refine wG (OpA.m ?_)
  refine wG (OpA.len rfl rfl rfl rfl ts26.desc (.inl ⟨_, _, rfl, (List.length_map _).symm⟩) ?_)
  refine wG (OpA.m ?_)
  refine wG (OpA.len rfl rfl rfl rfl ts26.desc (.inl ⟨_, _, rfl, (List.length_map _).symm⟩) ?_)
  refine wG (OpA.subi rfl rfl rfl (q1 ⟨(decF b6), (decF b7)⟩) ?_)
  refine wG (OpA.gtr rfl rfl rfl ?_)
  refine wL (OpA.p ?_)
  refine wpL_nil ?_
  exact ⟨(Cov.asg ⟨rfl, rfl, rfl, rfl, (congrArg D.b (Eq.symm (orN (orN b6 b7) rfl))), trivial⟩), (.refl _)⟩
  show wpA _ _ _ _ (asg [(0, (encL 2 encLex) words), (1, (encL 2 encLex) known), (2, D.i at_), (6, D.b false), (26, D.b (((decide (at_ < 0)) || (decide ((words.length : Int) > (known.length : Int)))) || (decide (at_ > ((known.length : Int) - (words.length : Int))))))]) []
  refine wpA_cond rfl (fun b1 => ?_) (fun b1 => ?_)
  have h := h.1 ((or0 b1).imp (fun hh => ((or0 hh).imp (fun hh => (decT hh)) (fun hh => (decT hh)))) (fun hh => (decT hh)))
  refine wpA_seq ?_
  refine wpA_region ?_
  refine wL (OpA.a ?_)
  refine wpL_nil ?_
  refine wpA_ret ?_
  exact ⟨_, (.tmp (d := D.b false) rfl .nil), _, (.same rfl .nil), ⟨false, rfl, h⟩⟩
  have h := h.2 ⟨⟨(decF (or1 (or1 b1))), (decF (or2 (or1 b1)))⟩, (decF (or2 b1))⟩
  refine wpA_skip ?_
  iterate 2 refine wpA_seq ?_
  refine wpA_region ?_
  refine wL (OpA.m ?_)
  refine wL (OpA.len rfl rfl rfl rfl ts26.desc (.inl ⟨_, _, rfl, (List.length_map _).symm⟩) ?_)
  refine wL (OpA.m ?_)
  refine wpL_nil ?_
  refine wpA_block ?_
  refine wpA_lfp (S := Int) (G := Unit) () (fun gg ss => asg [(1, (encL 2 encLex) known), (2, D.i at_), (6, D.b false), (27, (encL 2 encLex) words), (28, D.i (words.length : Int)), (29, D.i ss)]) (fun gg ss => []) h (Cov.asg ⟨rfl, rfl, rfl, rfl, rfl, rfl, trivial⟩) (.refl _) ?_
  rintro again2 _ x h
  have h : tsame_L1 words known at_ Q again2 x := h
  unfold tsame_L1 at h
  show wpA _ _ _ _ (asg [(1, (encL 2 encLex) known), (2, D.i at_), (6, D.b false), (27, (encL 2 encLex) words), (28, D.i (words.length : Int)), (29, D.i x)]) []
  refine wpA_seq ?_
  refine wpA_region ?_
  refine wL (OpA.lss rfl rfl rfl ?_)
  refine wpL_nil ?_
  refine wpA_seq ?_
  refine wpA_cond rfl (fun b3 => ?_) (fun b3 => ?_)
  have h := h.1 (decT b3)
  refine wpA_skip ?_
  refine wpA_seq ?_
  refine wpA_block ?_
  refine wpA_seq ?_
  obtain ⟨q1, h⟩ := h
  refine wpA_region ?_
  refine wL (OpA.m ?_)
  refine wL (OpA.iixV (enc := encLex) rfl ts26 rfl rfl rfl q1 ?_)
  refine wL (OpA.iload_whole rfl ti50 rfl ⟨_, rfl, rfl⟩ ?_)
  refine wL (OpA.alloc (sz := 2) (d := encLex (Lexeme.mk ByteArray.empty 0)) rfl tz50 (fun _ _ => .agg (.cons (.v _) (.cons (.v _) .nil))) (.of rfl) (fun c4 _ => ?_))
  refine wL (OpA.a ?_)
  refine wE (OpA.storeW rfl ti50 rfl (by with_reducible conv => lhs; whnf) (.of rfl) rfl rfl .head ?_)
  refine wpL_nil ?_
  refine wpA_seq ?_
  obtain ⟨q1, q2, h⟩ := h
  refine wpA_draw (m := 10) mo (by kernel_rfl) rfl ?_
  iterate 3 refine dL (OpA.m ⟨rfl, rfl⟩) ?_
  refine dL (OpA.addi rfl rfl rfl q1 ⟨rfl, rfl⟩) ?_
  refine dL (OpA.iixV (enc := encLex) rfl ts26 rfl rfl rfl q2 ⟨rfl, rfl⟩) ?_
  refine dL (OpA.ifieldAddr rfl tf50_0 rfl ⟨rfl, rfl⟩) ?_
  refine dL (OpA.iload rfl ti9 rfl rfl ⟨rfl, rfl⟩) ?_
  refine dL (OpA.fieldAddr rfl tf50_0 rfl ⟨rfl, rfl⟩) ?_
  refine dL (OpA.load rfl ti9 rfl .head rfl rfl ⟨rfl, rfl⟩) ?_
  refine dL (OpA.sneq rfl rfl rfl ⟨rfl, rfl⟩) ?_
  refine DetK.nil ?_
  refine wpL_nil ?_
  refine wpA_cond rfl (fun b5 => ?_) (fun b5 => ?_)
  have h := h.1 (ndecT b5)
  refine wpA_seq ?_
  refine wpA_region ?_
  refine wL (OpA.a ?_)
  refine wpL_nil ?_
  refine wpA_ret ?_
  exact ⟨_, (.tmp (d := D.b false) rfl .nil), _, (.same rfl .nil), ⟨false, rfl, h⟩⟩
  have h := h.2 (ndecF b5)
  refine wpA_skip ?_
  obtain ⟨q1, h⟩ := h
  refine wpA_region ?_
  refine wL (OpA.addi rfl rfl rfl q1 ?_)
  refine wL (OpA.m ?_)
  refine wpL_nil ?_
  exact ⟨(), (x + 1), h, (Cov.asg ⟨rfl, rfl, rfl, rfl, rfl, rfl, trivial⟩), (.cons _ (.refl _))⟩
  have h := h.2 (decF b3)
  refine wpA_exit ?_
  refine wpA_seq ?_
  refine wpA_region ?_
  refine wL (OpA.a ?_)
  refine wpL_nil ?_
  refine wpA_ret ?_
  exact ⟨_, (.tmp (d := D.b true) rfl .nil), _, (.same rfl .nil), ⟨true, rfl, h⟩⟩
theorem tsame_c (words : (List Lexeme)) (known : (List Lexeme)) (at_ : Int)  (hp0 : words.length ≤ 1000000) (hp1 : known.length ≤ 1000000) : Fun false Tryz.prog 48 [(encL 2 encLex) words, (encL 2 encLex) known, D.i at_] (fun d => d = D.b (sameF words known at_)) :=
  Fun.at (enc := fun r => D.b r) (v := sameF words known at_) (tsame_w words known at_  (fun r => r = sameF words known at_) (tsame_ok words known at_ _ hp0 hp1 rfl))

set_option maxHeartbeats 2000000 in
set_option maxRecDepth 10000 in
theorem tafter_w (v : (Int × Int)) (n : Int)  (Q : (Int × Int) → Prop) (h : tafter_vc v n Q) : Fun false Tryz.prog 39 [(encA2 D.i) v, D.i n] (fun d => ∃ r, d = (encA2 D.i) r ∧ Q r) := by
  unfold tafter_vc at h
  refine Fun.of_body Tryz.func39 rfl Tryz.ntmps39 rfl ?_
  refine wpA_seq ?_
  refine wpA_region ?_
  refine wL (OpA.bx (sz := 2) rfl (by with_reducible conv => lhs; whnf) (.of rfl) (fun c1 _ => ?_))
  refine wL (OpA.alloc (sz := 2) (d := (encA2 D.i) (0, 0)) rfl tz84 (fun _ _ => .agg (.cons (.v _) (.cons (.v _) .nil))) (.of rfl) (fun c2 _ => ?_))
  refine wpL_nil ?_
  refine wpA_seq ?_
  obtain ⟨q1, q2, h⟩ := h
  refine wpA_region ?_
  refine wL (OpA.aixV rfl td84 ti3 rfl rfl ⟨by decide, by decide⟩ ?_)
  refine wL (OpA.load rfl ti3 rfl (.tail .head) rfl rfl ?_)
  refine wL (OpA.m ?_)
  refine wL (OpA.addi rfl rfl rfl q1 ?_)
  refine wL (OpA.aixV rfl td84 ti3 rfl rfl ⟨by decide, by decide⟩ ?_)
  refine wL (OpA.load rfl ti3 rfl (.tail .head) rfl rfl ?_)
  refine wL (OpA.subi rfl rfl rfl q2 ?_)
  refine wL (OpA.buildArr (zs := [.v (.int .i64 0), .v (.int .i64 0)]) rfl td84 ti3 tz84 (fun _ _ => (.cons (.v _) (.cons (.v _) .nil))) (.cons (.of (sz := 1) rfl) (.cons (.of (sz := 1) rfl) .nil)) rfl ?_)
  refine wE (OpA.storeW rfl ti84 rfl (by with_reducible conv => lhs; whnf) (.of rfl) rfl rfl .head ?_)
  refine wpL_nil ?_
  refine wpA_ret ?_
  exact ⟨_, (.cell (.whole ti84 rfl rfl .head rfl ⟨_, rfl⟩) .nil), _, (.same rfl .nil), ⟨((v.1 + n), (v.2 - 1)), rfl, h⟩⟩
theorem tafter_c (v : (Int × Int)) (n : Int)  (hp0 : inI (v.1 + n)) (hp1 : inI (v.2 - 1)) : Fun false Tryz.prog 39 [(encA2 D.i) v, D.i n] (fun d => d = (encA2 D.i) (afterP v n)) :=
  Fun.at (enc := fun r => (encA2 D.i) r) (v := afterP v n) (tafter_w v n  (fun r => r = afterP v n) (tafter_ok v n _ hp0 hp1 rfl))

set_option maxHeartbeats 2000000 in
set_option maxRecDepth 10000 in
theorem tbetter_w (a : (Int × Int)) (b : (Int × Int))  (Q : (Int × Int) → Prop) (h : tbetter_vc a b Q) : Fun false Tryz.prog 38 [(encA2 D.i) a, (encA2 D.i) b] (fun d => ∃ r, d = (encA2 D.i) r ∧ Q r) := by
  unfold tbetter_vc at h
  refine Fun.of_body Tryz.func38 rfl Tryz.ntmps38 rfl ?_
  refine wpA_seq ?_
  refine wpA_region ?_
  refine wL (OpA.bx (sz := 2) rfl (by with_reducible conv => lhs; whnf) (.of rfl) (fun c1 _ => ?_))
  refine wL (OpA.bx (sz := 2) rfl (by with_reducible conv => lhs; whnf) (.of rfl) (fun c2 _ => ?_))
  refine wL (OpA.alloc (sz := 2) (d := (encA2 D.i) (0, 0)) rfl tz84 (fun _ _ => .agg (.cons (.v _) (.cons (.v _) .nil))) (.of rfl) (fun c3 _ => ?_))
  refine wpL_nil ?_
  iterate 2 refine wpA_seq ?_
  refine wpA_freeze (s := 2) (d := .ptr c1 2 0 0) (d' := .iptr ((encA2 D.i) a) 0) (List.perm_middle (l₁ := ([(c3, .cells 2 [(encA2 D.i) (0, 0)]), (c2, .cells 2 [(encA2 D.i) b])] : Heap))) rfl (.ptrp rfl .head rfl .nil) ?_
  refine wpA_freeze (s := 3) (d := .ptr c2 2 0 0) (d' := .iptr ((encA2 D.i) b) 0) (.swap _ _ _) rfl (.ptrp rfl .head rfl .nil) ?_
  obtain ⟨q1, q2, h⟩ := h
  refine wpA_draw (m := 4) mo (by kernel_rfl) rfl ?_
  refine dL (OpA.isliceA (ds := [D.i a.1, D.i a.2]) rfl td84 ti3 rfl rfl rfl ⟨rfl, rfl⟩) ?_
  refine dL (OpA.isliceA (ds := [D.i b.1, D.i b.2]) rfl td84 ti3 rfl rfl rfl ⟨rfl, rfl⟩) ?_
  refine dL (OpA.call rfl rfl rfl en67 (cmpInts_c ([a.1, a.2] : List Int) ([b.1, b.2] : List Int) q1 q2) (by rintro _ rfl; exact ⟨rfl, rfl⟩)) ?_
  refine dL (OpA.geq rfl rfl rfl ⟨rfl, rfl⟩) ?_
  refine DetK.nil ?_
  refine wpL_nil ?_
  refine wpA_cond rfl (fun b4 => ?_) (fun b4 => ?_)
  have h := h.1 (decT b4)
  refine wpA_seq ?_
  refine wpA_region ?_
  refine wL (OpA.iload_whole rfl ti84 rfl ⟨_, rfl, rfl⟩ ?_)
  refine wE (OpA.storeW rfl ti84 rfl (by with_reducible conv => lhs; whnf) (.of rfl) rfl rfl .head ?_)
  refine wpL_nil ?_
  refine wpA_ret ?_
  exact ⟨_, (.cell (.whole ti84 rfl rfl .head rfl ⟨_, rfl⟩) .nil), _, (.same rfl .nil), ⟨a, rfl, h⟩⟩
  have h := h.2 (decF b4)
  refine wpA_skip ?_
  refine wpA_seq ?_
  refine wpA_region ?_
  refine wL (OpA.iload_whole rfl ti84 rfl ⟨_, rfl, rfl⟩ ?_)
  refine wE (OpA.storeW rfl ti84 rfl (by with_reducible conv => lhs; whnf) (.of rfl) rfl rfl .head ?_)
  refine wpL_nil ?_
  refine wpA_ret ?_
  exact ⟨_, (.cell (.whole ti84 rfl rfl .head rfl ⟨_, rfl⟩) .nil), _, (.same rfl .nil), ⟨b, rfl, h⟩⟩
theorem tbetter_c (a : (Int × Int)) (b : (Int × Int))   : Fun false Tryz.prog 38 [(encA2 D.i) a, (encA2 D.i) b] (fun d => d = (encA2 D.i) (betterP a b)) :=
  Fun.at (enc := fun r => (encA2 D.i) r) (v := betterP a b) (tbetter_w a b  (fun r => r = betterP a b) (tbetter_ok a b _  rfl))

set_option maxHeartbeats 2000000 in
set_option maxRecDepth 10000 in
theorem tlongest_w (c : Corpus) (t : Text)  (Q : (List Int) → Prop) (h : tlongest_vc c t Q) : Fun false Tryz.prog 36 [encCorpus c, encText t] (fun d => ∃ r, d = (encL 1 D.i) r ∧ Q r) := by
  unfold tlongest_vc at h
  refine Fun.of_body Tryz.func36 rfl Tryz.ntmps36 rfl ?_
  refine wpA_seq ?_
  refine wpA_region ?_
  refine wL (OpA.bx (sz := 4) rfl (by with_reducible conv => lhs; whnf) (.of rfl) (fun c1 _ => ?_))
  refine wL (OpA.bx (sz := 2) rfl (by with_reducible conv => lhs; whnf) (.of rfl) (fun c2 _ => ?_))
  refine wL (OpA.asnN (T := Int) (enc := D.i) (sz := 1) rfl rfl ?_)
  refine wpL_nil ?_
  refine wpA_seq ?_
  obtain ⟨q1, h⟩ := h
  refine wpA_region ?_
  refine wL (OpA.fieldAddr rfl tf28_1 rfl ?_)
  refine wL (OpA.load rfl ti26 rfl .head rfl rfl ?_)
  refine wL (OpA.len rfl rfl rfl rfl ts26.desc (.inl ⟨_, _, rfl, (List.length_map _).symm⟩) ?_)
  refine wL (OpA.makeSliceV (enc := D.i) (v0 := 0) rfl ts52 rfl rfl tz3 (fun _ _ => .v _) (.of rfl) q1 (fun c3 => ?_))
  refine wL (OpA.alloc (sz := 1) (d := .v (.slice none 0 0)) rfl tz52 (fun _ _ => .v _) (.of rfl) (fun c4 _ => ?_))
  refine wE (OpA.storeW rfl ti52 rfl (by with_reducible conv => lhs; whnf) (.of rfl) rfl rfl .head ?_)
  refine wpL_nil ?_
  iterate 2 refine wpA_seq ?_
  refine wpA_region ?_
  refine wL (OpA.fieldAddr rfl tf25_2 rfl ?_)
  refine wL (OpA.load rfl ti22 rfl (.tail (.tail (.tail .head))) rfl rfl ?_)
  refine wL (OpA.len rfl rfl rfl rfl ts22.desc (.inl ⟨_, _, rfl, (List.length_map _).symm⟩) ?_)
  refine wL (OpA.m ?_)
  refine wpL_nil ?_
  refine wpA_block ?_
  refine wpA_lfp (S := (List Int) × Int) (G := Nat × List D × List D) (c3, ([] : List D), ([] : List D)) (fun gg ss => asg [(3, .ptr c2 2 0 0), (4, (encL 1 D.i) ([] : List Int)), (5, .ptr c4 1 0 0), (18, (encL 2 encText) c.texts), (19, D.i (c.texts.length : Int)), (20, D.i ss.2)]) (fun gg ss => [(c4, .cells 1 [.own gg.1 1 gg.2.1.length ss.1.length]), (gg.1, .cells 1 (winL D.i gg.2.1 ss.1 gg.2.2)), (c2, .cells 2 [encText t]), (c1, .cells 4 [encCorpus c])]) h (Cov.asg ⟨rfl, rfl, rfl, rfl, rfl, rfl, trivial⟩) (.refl _) ?_
  rintro again5 ⟨cb16, pre16, post16⟩ ⟨xs, x⟩ h
  have h : tlongest_L1 c t Q again5 xs x := h
  unfold tlongest_L1 at h
  show wpA _ _ _ _ (asg [(3, .ptr c2 2 0 0), (4, (encL 1 D.i) ([] : List Int)), (5, .ptr c4 1 0 0), (18, (encL 2 encText) c.texts), (19, D.i (c.texts.length : Int)), (20, D.i x)]) [(c4, .cells 1 [.own cb16 1 pre16.length xs.length]), (cb16, .cells 1 (winL D.i pre16 xs post16)), (c2, .cells 2 [encText t]), (c1, .cells 4 [encCorpus c])]
  refine wpA_seq ?_
  refine wpA_region ?_
  refine wL (OpA.lss rfl rfl rfl ?_)
  refine wpL_nil ?_
  refine wpA_seq ?_
  refine wpA_cond rfl (fun b6 => ?_) (fun b6 => ?_)
  have h := h.1 (decT b6)
  refine wpA_skip ?_
  refine wpA_seq ?_
  refine wpA_block ?_
  refine wpA_seq ?_
  obtain ⟨q1, h⟩ := h
  refine wpA_region ?_
  refine wL (OpA.iixV (enc := encText) rfl ts22 rfl rfl rfl q1 ?_)
  refine wL (OpA.iload_whole rfl ti28 rfl ⟨_, rfl, rfl⟩ ?_)
  refine wL (OpA.alloc (sz := 2) (d := .agg ([D.s ByteArray.empty, .v (.slice none 0 0)])) rfl tz28 (fun _ _ => .agg (.cons (.v _) (.cons (.v _) .nil))) (.of rfl) (fun c7 _ => ?_))
  refine wE (OpA.storeW rfl ti28 rfl (by with_reducible conv => lhs; whnf) (.of rfl) rfl rfl .head ?_)
  refine wpL_nil ?_
  refine wpA_seq ?_
  obtain ⟨q1, q2, h⟩ := h
  refine wpA_region ?_
  refine wL (OpA.fieldAddr rfl tf28_1 rfl ?_)
  refine wL (OpA.load rfl ti26 rfl .head rfl rfl ?_)
  refine wL (OpA.len rfl rfl rfl rfl ts26.desc (.inl ⟨_, _, rfl, (List.length_map _).symm⟩) ?_)
  refine wL (OpA.addi rfl rfl rfl q1 ?_)
  refine wL (OpA.makeSliceV (enc := D.i) (v0 := 0) rfl ts52 rfl rfl tz3 (fun _ _ => .v _) (.of rfl) q2 (fun c8 => ?_))
  refine wL (OpA.alloc (sz := 1) (d := .v (.slice none 0 0)) rfl tz52 (fun _ _ => .v _) (.of rfl) (fun c9 _ => ?_))
  refine wE (OpA.storeW rfl ti52 rfl (by with_reducible conv => lhs; whnf) (.of rfl) rfl rfl .head ?_)
  refine wpL_nil ?_
  refine wpA_seq ?_
  obtain ⟨q1, h⟩ := h
  refine wpA_region ?_
  refine wL (OpA.fieldAddr rfl tf28_1 rfl ?_)
  refine wL (OpA.load rfl ti26 rfl (.tail (.tail (.tail (.tail (.tail .head))))) rfl rfl ?_)
  refine wL (OpA.call rfl rfl rfl en37 (backL_c t.words q1) ?_)
  rintro _ rfl
  refine wpL_nil ?_
  refine wpA_block ?_
  refine wpA_cov (fr0 := asg [(3, .ptr c2 2 0 0), (4, (encL 1 D.i) ([] : List Int)), (5, .ptr c4 1 0 0), (7, .ptr c7 2 0 0), (8, .ptr c9 1 0 0), (18, (encL 2 encText) c.texts), (19, D.i (c.texts.length : Int)), (20, D.i x), (31, .fn (.func 66) [] [.iptr ((encL 2 encLex) t.words) 0])]) (Cov.asg ⟨rfl, rfl, rfl, rfl, rfl, rfl, rfl, rfl, rfl, trivial⟩) ?_
  refine wpA_back (enc := encLex) (xs := t.words) (S := (List Int) × (List Int)) (G := Unit) () (fun gg ss => [(c9, .cells 1 [.own c8 1 ([] : List D).length ss.1.length]), (c8, .cells 1 (winL D.i ([] : List D) ss.1 ([] : List D))), (c7, .cells 2 [encText (gi c.texts x)]), (c4, .cells 1 [.own cb16 1 pre16.length ss.2.length]), (cb16, .cells 1 (winL D.i pre16 ss.2 post16)), (c2, .cells 2 [encText t]), (c1, .cells 4 [encCorpus c])]) rfl en66 (backL_it t.words (by assumption)) h (.refl _) rfl ?_ ?_
  · skip
    rintro again10 _ ⟨xs1, xs2⟩ ix hix h
    have h : tlongest_L2 c t x again5 again10 xs1 xs2 ix := h
    unfold tlongest_L2 at h
    replace h := h.1 hix
    show wpA _ _ _ _ (upd (upd (asg [(3, .ptr c2 2 0 0), (4, (encL 1 D.i) ([] : List Int)), (5, .ptr c4 1 0 0), (7, .ptr c7 2 0 0), (8, .ptr c9 1 0 0), (18, (encL 2 encText) c.texts), (19, D.i (c.texts.length : Int)), (20, D.i x), (31, .fn (.func 66) [] [.iptr ((encL 2 encLex) t.words) 0])]) 32 (D.i ix)) 33 (encLex (gi t.words ix))) [(c9, .cells 1 [.own c8 1 ([] : List D).length xs1.length]), (c8, .cells 1 (winL D.i ([] : List D) xs1 ([] : List D))), (c7, .cells 2 [encText (gi c.texts x)]), (c4, .cells 1 [.own cb16 1 pre16.length xs2.length]), (cb16, .cells 1 (winL D.i pre16 xs2 post16)), (c2, .cells 2 [encText t]), (c1, .cells 4 [encCorpus c])]
    refine wpA_seq ?_
    refine wpA_region ?_
    refine wL (OpA.a ?_)
    refine wpL_nil ?_
    refine wpA_region ?_
    refine wL (OpA.alloc (sz := 2) (d := encLex (Lexeme.mk ByteArray.empty 0)) rfl tz50 (fun _ _ => .agg (.cons (.v _) (.cons (.v _) .nil))) (.of rfl) (fun c11 _ => ?_))
    refine wE (OpA.storeW rfl ti50 rfl (by with_reducible conv => lhs; whnf) (.of rfl) rfl rfl .head ?_)
    refine wpL_nil ?_
    refine wpA_block ?_
    refine wpA_seq ?_
    refine wpA_region ?_
    refine wL (OpA.fieldAddr rfl tf28_1 rfl ?_)
    refine wL (OpA.load rfl ti26 rfl (.tail (.tail (.tail .head))) rfl rfl ?_)
    refine wL (OpA.len rfl rfl rfl rfl ts26.desc (.inl ⟨_, _, rfl, (List.length_map _).symm⟩) ?_)
    refine wL (OpA.m ?_)
    refine wpL_nil ?_
    refine wpA_block ?_
    refine wpA_lfp (S := (List Int) × (List Int) × Int) (G := Unit) () (fun gg ss => asg [(5, .ptr c4 1 0 0), (8, .ptr c9 1 0 0), (9, D.i ix), (10, .ptr c11 2 0 0), (35, (encL 2 encLex) ((gi c.texts x).words)), (36, D.i (((gi c.texts x).words).length : Int)), (37, D.i ss.2.2)]) (fun gg ss => [(c11, .cells 2 [encLex (gi t.words ix)]), (c9, .cells 1 [.own c8 1 ([] : List D).length ss.1.length]), (c8, .cells 1 (winL D.i ([] : List D) ss.1 ([] : List D))), (c7, .cells 2 [encText (gi c.texts x)]), (c4, .cells 1 [.own cb16 1 pre16.length ss.2.1.length]), (cb16, .cells 1 (winL D.i pre16 ss.2.1 post16)), (c2, .cells 2 [encText t]), (c1, .cells 4 [encCorpus c])]) h (Cov.asg ⟨rfl, rfl, rfl, rfl, rfl, rfl, rfl, trivial⟩) (.refl _) ?_
    rintro again12 _ ⟨xs3, xs4, x1⟩ h
    have h : tlongest_L3 c t x ix again10 again12 xs3 xs4 x1 := h
    unfold tlongest_L3 at h
    show wpA _ _ _ _ (asg [(5, .ptr c4 1 0 0), (8, .ptr c9 1 0 0), (9, D.i ix), (10, .ptr c11 2 0 0), (35, (encL 2 encLex) ((gi c.texts x).words)), (36, D.i (((gi c.texts x).words).length : Int)), (37, D.i x1)]) [(c11, .cells 2 [encLex (gi t.words ix)]), (c9, .cells 1 [.own c8 1 ([] : List D).length xs3.length]), (c8, .cells 1 (winL D.i ([] : List D) xs3 ([] : List D))), (c7, .cells 2 [encText (gi c.texts x)]), (c4, .cells 1 [.own cb16 1 pre16.length xs4.length]), (cb16, .cells 1 (winL D.i pre16 xs4 post16)), (c2, .cells 2 [encText t]), (c1, .cells 4 [encCorpus c])]
    refine wpA_seq ?_
    refine wpA_region ?_
    refine wL (OpA.lss rfl rfl rfl ?_)
    refine wpL_nil ?_
    refine wpA_seq ?_
    refine wpA_cond rfl (fun b13 => ?_) (fun b13 => ?_)
    have h := h.1 (decT b13)
    refine wpA_skip ?_
    refine wpA_seq ?_
    refine wpA_block ?_
    refine wpA_seq ?_
    obtain ⟨q1, h⟩ := h
    refine wpA_region ?_
    refine wL (OpA.m ?_)
    refine wL (OpA.iixV (enc := encLex) rfl ts26 rfl rfl rfl q1 ?_)
    refine wL (OpA.iload_whole rfl ti50 rfl ⟨_, rfl, rfl⟩ ?_)
    refine wL (OpA.alloc (sz := 2) (d := encLex (Lexeme.mk ByteArray.empty 0)) rfl tz50 (fun _ _ => .agg (.cons (.v _) (.cons (.v _) .nil))) (.of rfl) (fun c14 _ => ?_))
    refine wL (OpA.a ?_)
    refine wE (OpA.storeW rfl ti50 rfl (by with_reducible conv => lhs; whnf) (.of rfl) rfl rfl .head ?_)
    refine wpL_nil ?_
    iterate 2 refine wpA_seq ?_
    refine wpA_region ?_
    refine wL (OpA.fieldAddr rfl tf50_0 rfl ?_)
    refine wL (OpA.load rfl ti9 rfl .head rfl rfl ?_)
    refine wL (OpA.fieldAddr rfl tf50_0 rfl ?_)
    refine wL (OpA.load rfl ti9 rfl (.tail .head) rfl rfl ?_)
    refine wL (OpA.seql rfl rfl rfl ?_)
    refine wpL_nil ?_
    refine wpA_join (S := (List Int)) (G := Unit) (fun gg ss => asg [(5, .ptr c4 1 0 0), (8, .ptr c9 1 0 0), (9, D.i ix), (10, .ptr c11 2 0 0), (11, D.i x1), (35, (encL 2 encLex) ((gi c.texts x).words)), (36, D.i (((gi c.texts x).words).length : Int)), (37, D.i x1)]) (fun gg ss => [(c14, .cells 2 [encLex (gi ((gi c.texts x).words) x1)]), (c11, .cells 2 [encLex (gi t.words ix)]), (c9, .cells 1 [.own c8 1 ([] : List D).length ss.length]), (c8, .cells 1 (winL D.i ([] : List D) ss ([] : List D))), (c7, .cells 2 [encText (gi c.texts x)]), (c4, .cells 1 [.own cb16 1 pre16.length xs4.length]), (cb16, .cells 1 (winL D.i pre16 xs4 post16)), (c2, .cells 2 [encText t]), (c1, .cells 4 [encCorpus c])]) (fun ss => tlongest_J1 ix xs4 x1 again12 ss) ?_ ?_
    refine wpA_cond rfl (fun b15 => ?_) (fun b15 => ?_)
    have h := h.1 (decT b15)
    obtain ⟨q1, q2, q3, q4, h⟩ := h
    refine wpA_draw (m := 9) mo (by kernel_rfl) rfl ?_
    refine dL (OpA.load rfl ti52 rfl (.tail (.tail .head)) rfl rfl ⟨rfl, rfl⟩) ?_
    refine dL (OpA.m ⟨rfl, rfl⟩) ?_
    refine dL (OpA.load rfl ti52 rfl (.tail (.tail .head)) rfl rfl ⟨rfl, rfl⟩) ?_
    refine dL (OpA.m ⟨rfl, rfl⟩) ?_
    refine dL (OpA.addi rfl rfl rfl q1 ⟨rfl, rfl⟩) ?_
    refine dL (OpA.ixV rfl ts52 rfl rfl q2 ⟨rfl, rfl⟩) ?_
    refine dL (OpA.load rfl ti3 rfl (.tail (.tail (.tail .head))) (getV (enc := D.i) q2) rfl ⟨rfl, rfl⟩) ?_
    refine dL (OpA.addi rfl rfl rfl q3 ⟨rfl, rfl⟩) ?_
    refine dL (OpA.ixV rfl ts52 rfl rfl q4 ⟨rfl, rfl⟩) ?_
    refine DetK.nil ?_
    refine wE (OpA.storeV (enc := D.i) (v := ((gi xs3 (x1 + 1)) + 1)) rfl ti3 rfl rfl (.of rfl) rfl q4 (.tail (.tail (.tail .head))) ?_)
    refine wpL_nil ?_
    exact ⟨(), (si xs3 x1 ((gi xs3 (x1 + 1)) + 1)), h, (Cov.asg ⟨rfl, rfl, rfl, rfl, rfl, rfl, rfl, rfl, trivial⟩), (sub_heq (h' := [(c14, .cells 2 [encLex (gi ((gi c.texts x).words) x1)]), (c11, .cells 2 [encLex (gi t.words ix)]), (c9, .cells 1 [.own c8 1 ([] : List D).length (si xs3 x1 ((gi xs3 (x1 + 1)) + 1)).length]), (c8, .cells 1 (winL D.i ([] : List D) (si xs3 x1 ((gi xs3 (x1 + 1)) + 1)) ([] : List D))), (c7, .cells 2 [encText (gi c.texts x)]), (c4, .cells 1 [.own cb16 1 pre16.length xs4.length]), (cb16, .cells 1 (winL D.i pre16 xs4 post16)), (c2, .cells 2 [encText t]), (c1, .cells 4 [encCorpus c])]) (by simp only [si_length, gcopy_length, sortF_len postCmp_swo, sortF_len spanCmp_swo] <;> rfl) (.refl _))⟩
    have h := h.2 (decF b15)
    obtain ⟨q1, h⟩ := h
    refine wpA_region ?_
    refine wL (OpA.load rfl ti52 rfl (.tail (.tail .head)) rfl rfl ?_)
    refine wL (OpA.m ?_)
    refine wL (OpA.ixV rfl ts52 rfl rfl q1 ?_)
    refine wE (OpA.storeV (enc := D.i) (v := 0) rfl ti3 rfl rfl (.of rfl) rfl q1 (.tail (.tail (.tail .head))) ?_)
    refine wpL_nil ?_
    exact ⟨(), (si xs3 x1 0), h, (Cov.asg ⟨rfl, rfl, rfl, rfl, rfl, rfl, rfl, rfl, trivial⟩), (sub_heq (h' := [(c14, .cells 2 [encLex (gi ((gi c.texts x).words) x1)]), (c11, .cells 2 [encLex (gi t.words ix)]), (c9, .cells 1 [.own c8 1 ([] : List D).length (si xs3 x1 0).length]), (c8, .cells 1 (winL D.i ([] : List D) (si xs3 x1 0) ([] : List D))), (c7, .cells 2 [encText (gi c.texts x)]), (c4, .cells 1 [.own cb16 1 pre16.length xs4.length]), (cb16, .cells 1 (winL D.i pre16 xs4 post16)), (c2, .cells 2 [encText t]), (c1, .cells 4 [encCorpus c])]) (by simp only [si_length, gcopy_length, sortF_len postCmp_swo, sortF_len spanCmp_swo] <;> rfl) (.refl _))⟩
    rintro _ xs5 h
    have h : tlongest_J1 ix xs4 x1 again12 xs5 := h
    unfold tlongest_J1 at h
    show wpA _ _ _ _ (asg [(5, .ptr c4 1 0 0), (8, .ptr c9 1 0 0), (9, D.i ix), (10, .ptr c11 2 0 0), (11, D.i x1), (35, (encL 2 encLex) ((gi c.texts x).words)), (36, D.i (((gi c.texts x).words).length : Int)), (37, D.i x1)]) [(c14, .cells 2 [encLex (gi ((gi c.texts x).words) x1)]), (c11, .cells 2 [encLex (gi t.words ix)]), (c9, .cells 1 [.own c8 1 ([] : List D).length xs5.length]), (c8, .cells 1 (winL D.i ([] : List D) xs5 ([] : List D))), (c7, .cells 2 [encText (gi c.texts x)]), (c4, .cells 1 [.own cb16 1 pre16.length xs4.length]), (cb16, .cells 1 (winL D.i pre16 xs4 post16)), (c2, .cells 2 [encText t]), (c1, .cells 4 [encCorpus c])]
    obtain ⟨q1, q2, h⟩ := h
    refine wpA_draw (m := 12) mo (by kernel_rfl) rfl ?_
    refine dL (OpA.load rfl ti52 rfl (.tail (.tail (.tail (.tail (.tail .head))))) rfl rfl ⟨rfl, rfl⟩) ?_
    refine dL (OpA.m ⟨rfl, rfl⟩) ?_
    refine dL (OpA.load rfl ti52 rfl (.tail (.tail (.tail (.tail (.tail .head))))) rfl rfl ⟨rfl, rfl⟩) ?_
    refine dL (OpA.m ⟨rfl, rfl⟩) ?_
    refine dL (OpA.ixV rfl ts52 rfl rfl q1 ⟨rfl, rfl⟩) ?_
    refine dL (OpA.load rfl ti3 rfl (.tail (.tail (.tail (.tail (.tail (.tail .head)))))) (getV (enc := D.i) q1) rfl ⟨rfl, rfl⟩) ?_
    refine dL (OpA.load rfl ti52 rfl (.tail (.tail .head)) rfl rfl ⟨rfl, rfl⟩) ?_
    refine dL (OpA.m ⟨rfl, rfl⟩) ?_
    refine dL (OpA.ixV rfl ts52 rfl rfl q2 ⟨rfl, rfl⟩) ?_
    refine dL (OpA.load rfl ti3 rfl (.tail (.tail (.tail .head))) (getV (enc := D.i) q2) rfl ⟨rfl, rfl⟩) ?_
    refine dL (OpA.max (l := [_]) rfl rfl rfl rfl ⟨rfl, rfl⟩) ?_
    refine dL (OpA.ixV rfl ts52 rfl rfl q1 ⟨rfl, rfl⟩) ?_
    refine DetK.nil ?_
    refine wE (OpA.storeV (enc := D.i) (v := (gmax (gi xs4 ix) [(gi xs5 x1)])) rfl ti3 rfl rfl (.of rfl) rfl q1 (.tail (.tail (.tail (.tail (.tail (.tail .head)))))) ?_)
    refine wpL_nil ?_
    obtain ⟨q1, h⟩ := h
    refine wpA_region ?_
    refine wL (OpA.addi rfl rfl rfl q1 ?_)
    refine wL (OpA.m ?_)
    refine wpL_nil ?_
    exact ⟨(), (xs5, (si xs4 ix (gmax (gi xs4 ix) [(gi xs5 x1)])), (x1 + 1)), h, (Cov.asg ⟨rfl, rfl, rfl, rfl, rfl, rfl, rfl, trivial⟩), (sub_heq (h' := [(c14, .cells 2 [encLex (gi ((gi c.texts x).words) x1)]), (c11, .cells 2 [encLex (gi t.words ix)]), (c9, .cells 1 [.own c8 1 ([] : List D).length xs5.length]), (c8, .cells 1 (winL D.i ([] : List D) xs5 ([] : List D))), (c7, .cells 2 [encText (gi c.texts x)]), (c4, .cells 1 [.own cb16 1 pre16.length (si xs4 ix (gmax (gi xs4 ix) [(gi xs5 x1)])).length]), (cb16, .cells 1 (winL D.i pre16 (si xs4 ix (gmax (gi xs4 ix) [(gi xs5 x1)])) post16)), (c2, .cells 2 [encText t]), (c1, .cells 4 [encCorpus c])]) (by simp only [si_length, gcopy_length, sortF_len postCmp_swo, sortF_len spanCmp_swo] <;> rfl) (.cons _ (.refl _)))⟩
    have h := h.2 (decF b13)
    refine wpA_exit ?_
    exact ⟨(), (xs3, xs4), h, (.cons _ (.refl _))⟩
  · skip
    rintro again10 _ ⟨xs1, xs2⟩ ix hix h
    have h : tlongest_L2 c t x again5 again10 xs1 xs2 ix := h
    unfold tlongest_L2 at h
    replace h := h.2 hix
    obtain ⟨q1, h⟩ := h
    refine wpA_region ?_
    refine wL (OpA.addi rfl rfl rfl q1 ?_)
    refine wL (OpA.m ?_)
    refine wpL_nil ?_
    exact ⟨(cb16, pre16, post16), (xs2, (x + 1)), h, (Cov.asg ⟨rfl, rfl, rfl, rfl, rfl, rfl, trivial⟩), (.cons _ (.cons _ (.cons _ (.refl _))))⟩
  have h := h.2 (decF b6)
  refine wpA_exit ?_
  refine wpA_seq ?_
  refine wpA_region ?_
  refine wL (OpA.load rfl ti52 rfl .head rfl rfl ?_)
  refine wL (OpA.a ?_)
  refine wpL_nil ?_
  refine wpA_ret ?_
  exact ⟨_, (.tmp (d := .own cb16 1 pre16.length xs.length) rfl .nil), _, (.win (.tail .head) (by intro hf; cases hf) .nil), ⟨xs, rfl, h⟩⟩
theorem tlongest_c (c : Corpus) (t : Text)  (hp0 : okC c) (hp1 : okT t) : Fun false Tryz.prog 36 [encCorpus c, encText t] (fun d => d = (encL 1 D.i) (longAF c t)) :=
  Fun.at (enc := fun r => (encL 1 D.i) r) (v := longAF c t) (tlongest_w c t  (fun r => r = longAF c t) (tlongest_ok c t _ hp0 hp1 rfl))

set_option maxHeartbeats 2000000 in
set_option maxRecDepth 10000 in
theorem tsource_w (c : Corpus) (words : (List Lexeme))  (Q : Int × Int → Prop) (h : tsource_vc c words Q) : Fun false Tryz.prog 40 [encCorpus c, (encL 2 encLex) words] (fun d => ∃ r, d = .tup [D.i (r.1), D.i (r.2)] ∧ Q r) := by
  unfold tsource_vc at h
  refine Fun.of_body Tryz.func40 rfl Tryz.ntmps40 rfl ?_
  refine wpA_seq ?_
  refine wpA_region ?_
  refine wL (OpA.bx (sz := 4) rfl (by with_reducible conv => lhs; whnf) (.of rfl) (fun c1 _ => ?_))
  iterate 2 refine wL (OpA.a ?_)
  refine wpL_nil ?_
  iterate 2 refine wpA_seq ?_
  refine wpA_region ?_
  refine wL (OpA.fieldAddr rfl tf25_2 rfl ?_)
  refine wL (OpA.load rfl ti22 rfl .head rfl rfl ?_)
  refine wL (OpA.len rfl rfl rfl rfl ts22.desc (.inl ⟨_, _, rfl, (List.length_map _).symm⟩) ?_)
  refine wL (OpA.m ?_)
  refine wpL_nil ?_
  refine wpA_block ?_
  refine wpA_lfp (S := Int) (G := Unit) () (fun gg ss => asg [(1, (encL 2 encLex) words), (4, D.i 0), (5, D.i 0), (10, (encL 2 encText) c.texts), (11, D.i (c.texts.length : Int)), (12, D.i ss)]) (fun gg ss => [(c1, .cells 4 [encCorpus c])]) h (Cov.asg ⟨rfl, rfl, rfl, rfl, rfl, rfl, trivial⟩) (.refl _) ?_
  rintro again2 _ x h
  have h : tsource_L1 c words Q again2 x := h
  unfold tsource_L1 at h
  show wpA _ _ _ _ (asg [(1, (encL 2 encLex) words), (4, D.i 0), (5, D.i 0), (10, (encL 2 encText) c.texts), (11, D.i (c.texts.length : Int)), (12, D.i x)]) [(c1, .cells 4 [encCorpus c])]
  refine wpA_seq ?_
  refine wpA_region ?_
  refine wL (OpA.lss rfl rfl rfl ?_)
  refine wpL_nil ?_
  refine wpA_seq ?_
  refine wpA_cond rfl (fun b3 => ?_) (fun b3 => ?_)
  have h := h.1 (decT b3)
  refine wpA_skip ?_
  refine wpA_seq ?_
  refine wpA_block ?_
  refine wpA_seq ?_
  obtain ⟨q1, h⟩ := h
  refine wpA_region ?_
  refine wL (OpA.m ?_)
  refine wL (OpA.iixV (enc := encText) rfl ts22 rfl rfl rfl q1 ?_)
  refine wL (OpA.iload_whole rfl ti28 rfl ⟨_, rfl, rfl⟩ ?_)
  refine wL (OpA.alloc (sz := 2) (d := .agg ([D.s ByteArray.empty, .v (.slice none 0 0)])) rfl tz28 (fun _ _ => .agg (.cons (.v _) (.cons (.v _) .nil))) (.of rfl) (fun c4 _ => ?_))
  refine wL (OpA.a ?_)
  refine wE (OpA.storeW rfl ti28 rfl (by with_reducible conv => lhs; whnf) (.of rfl) rfl rfl .head ?_)
  refine wpL_nil ?_
  refine wpA_seq ?_
  refine wpA_region ?_
  refine wL (OpA.fieldAddr rfl tf28_1 rfl ?_)
  refine wL (OpA.load rfl ti26 rfl .head rfl rfl ?_)
  refine wL (OpA.len rfl rfl rfl rfl ts26.desc (.inl ⟨_, _, rfl, (List.length_map _).symm⟩) ?_)
  refine wL (OpA.m ?_)
  refine wpL_nil ?_
  refine wpA_block ?_
  refine wpA_lfp (S := Int) (G := Unit) () (fun gg ss => asg [(1, (encL 2 encLex) words), (4, D.i 0), (5, D.i 0), (6, D.i x), (7, .ptr c4 2 0 0), (10, (encL 2 encText) c.texts), (11, D.i (c.texts.length : Int)), (12, D.i x), (19, D.i (((gi c.texts x).words).length : Int)), (20, D.i ss)]) (fun gg ss => [(c4, .cells 2 [encText (gi c.texts x)]), (c1, .cells 4 [encCorpus c])]) h (Cov.asg ⟨rfl, rfl, rfl, rfl, rfl, rfl, rfl, rfl, rfl, rfl, trivial⟩) (.refl _) ?_
  rintro again5 _ x1 h
  have h : tsource_L2 c words x Q again2 again5 x1 := h
  unfold tsource_L2 at h
  show wpA _ _ _ _ (asg [(1, (encL 2 encLex) words), (4, D.i 0), (5, D.i 0), (6, D.i x), (7, .ptr c4 2 0 0), (10, (encL 2 encText) c.texts), (11, D.i (c.texts.length : Int)), (12, D.i x), (19, D.i (((gi c.texts x).words).length : Int)), (20, D.i x1)]) [(c4, .cells 2 [encText (gi c.texts x)]), (c1, .cells 4 [encCorpus c])]
  refine wpA_seq ?_
  refine wpA_region ?_
  refine wL (OpA.lss rfl rfl rfl ?_)
  refine wpL_nil ?_
  refine wpA_seq ?_
  refine wpA_cond rfl (fun b6 => ?_) (fun b6 => ?_)
  have h := h.1 (decT b6)
  refine wpA_skip ?_
  refine wpA_seq ?_
  refine wpA_block ?_
  refine wpA_seq ?_
  refine wpA_region ?_
  refine wL (OpA.m ?_)
  refine wL (OpA.a ?_)
  refine wpL_nil ?_
  refine wpA_seq ?_
  obtain ⟨q1, q2, h⟩ := h
  refine wpA_region ?_
  refine wL (OpA.m ?_)
  refine wL (OpA.fieldAddr rfl tf28_1 rfl ?_)
  refine wL (OpA.load rfl ti26 rfl .head rfl rfl ?_)
  refine wL (OpA.m ?_)
  refine wL (OpA.call rfl rfl rfl en48 (tsame_c words ((gi c.texts x).words) x1 q1 q2) ?_)
  rintro _ rfl
  refine wpL_nil ?_
  refine wpA_cond rfl (fun b7 => ?_) (fun b7 => ?_)
  have h := h.1 b7
  refine wpA_seq ?_
  refine wpA_region ?_
  iterate 2 refine wL (OpA.m ?_)
  iterate 2 refine wL (OpA.a ?_)
  refine wpL_nil ?_
  refine wpA_ret ?_
  exact ⟨_, (.tmp (d := D.i x) rfl (.tmp (d := D.i x1) rfl .nil)), _, (.tup (.same rfl (.same rfl .nil)) .nil), ⟨(x, x1), rfl, h⟩⟩
  have h := h.2 b7
  refine wpA_skip ?_
  obtain ⟨q1, h⟩ := h
  refine wpA_region ?_
  refine wL (OpA.addi rfl rfl rfl q1 ?_)
  refine wL (OpA.m ?_)
  refine wpL_nil ?_
  exact ⟨(), (x1 + 1), h, (Cov.asg ⟨rfl, rfl, rfl, rfl, rfl, rfl, rfl, rfl, rfl, rfl, trivial⟩), (.refl _)⟩
  have h := h.2 (decF b6)
  refine wpA_exit ?_
  obtain ⟨q1, h⟩ := h
  refine wpA_region ?_
  refine wL (OpA.addi rfl rfl rfl q1 ?_)
  refine wL (OpA.m ?_)
  refine wpL_nil ?_
  exact ⟨(), (x + 1), h, (Cov.asg ⟨rfl, rfl, rfl, rfl, rfl, rfl, trivial⟩), (.cons _ (.refl _))⟩
  have h := h.2 (decF b3)
  refine wpA_exit ?_
  refine wpA_seq ?_
  refine wpA_region ?_
  iterate 2 refine wL (OpA.a ?_)
  refine wpL_nil ?_
  refine wpA_ret ?_
  exact ⟨_, (.tmp (d := D.i 0) rfl (.tmp (d := D.i 0) rfl .nil)), _, (.tup (.same rfl (.same rfl .nil)) .nil), ⟨(0, 0), rfl, h⟩⟩
theorem tsource_c (c : Corpus) (words : (List Lexeme))  (hp0 : okC c) (hp1 : words.length ≤ 1000000) : Fun false Tryz.prog 40 [encCorpus c, (encL 2 encLex) words] (fun d => d = .tup [D.i ((srcF c words).1), D.i ((srcF c words).2)]) :=
  Fun.at (enc := fun r => .tup [D.i (r.1), D.i (r.2)]) (v := srcF c words) (tsource_w c words  (fun r => r = srcF c words) (tsource_ok c words _ hp0 hp1 rfl))

set_option maxHeartbeats 2000000 in
set_option maxRecDepth 10000 in
theorem tof_w (c : Corpus) (t : Text) (least : Int)  (Q : Attribution × Int → Prop) (h : tof_vc c t least Q) : Fun false Tryz.prog 12 [encCorpus c, encText t, D.i least] (fun d => ∃ r, d = .tup [encAttribution (r.1), D.i (r.2)] ∧ Q r) := by
  unfold tof_vc at h
  refine Fun.of_body Tryz.func12 rfl Tryz.ntmps12 rfl ?_
  refine wpA_seq ?_
  refine wpA_region ?_
  refine wL (OpA.bx (sz := 4) rfl (by with_reducible conv => lhs; whnf) (.of rfl) (fun c1 _ => ?_))
  refine wL (OpA.bx (sz := 2) rfl (by with_reducible conv => lhs; whnf) (.of rfl) (fun c2 _ => ?_))
  refine wL (OpA.bx (sz := 1) rfl (by with_reducible conv => lhs; whnf) (.of rfl) (fun c3 _ => ?_))
  refine wL (OpA.alloc (sz := 2) (d := .agg ([D.s ByteArray.empty, .v (.slice none 0 0)])) rfl tz33 (fun _ _ => .agg (.cons (.v _) (.cons (.v _) .nil))) (.of rfl) (fun c4 _ => ?_))
  refine wL (OpA.a ?_)
  refine wpL_nil ?_
  refine wpA_seq ?_
  refine wpA_block ?_
  refine wpA_seq ?_
  obtain ⟨q1, q2, h⟩ := h
  refine wpA_region ?_
  refine wL (OpA.load_whole rfl ti25 rfl rfl (.tail (.tail (.tail .head))) rfl ⟨_, rfl⟩ ?_)
  refine wL (OpA.load_whole rfl ti28 rfl rfl (.tail (.tail .head)) rfl ⟨_, rfl⟩ ?_)
  refine wL (OpA.call rfl rfl rfl en35 (tvalid_c c t q1 q2) ?_)
  rintro _ rfl
  refine wL (OpA.not rfl rfl ?_)
  refine wL (OpA.a ?_)
  refine wpL_nil ?_
  refine wpA_cond rfl (fun b5 => ?_) (fun b5 => ?_)
  have h := h.1 (notT b5)
  refine wpA_seq ?_
  refine wpA_region ?_
  refine wL (OpA.buildO (zs := [.v (.string ⟨#[]⟩), .v (.slice none 0 0)]) rfl tp33 tz33 (fun _ _ => (.cons (.v _) (.cons (.v _) .nil))) .nil rfl ?_)
  refine wE (OpA.storeW rfl ti33 rfl (by with_reducible conv => lhs; whnf) (.of rfl) rfl rfl .head ?_)
  refine wL (OpA.a ?_)
  refine wpL_nil ?_
  refine wpA_ret ?_
  exact ⟨_, (.cell (.whole ti33 rfl rfl .head rfl ⟨_, rfl⟩) (.tmp (d := D.i 1) rfl .nil)), _, (.tup (.agg (.same rfl (.nilv (sz := 4) .nil)) (.same rfl .nil)) .nil), ⟨((Attribution.mk ByteArray.empty []), 1), rfl, h⟩⟩
  have h := h.2 (notF b5)
  refine wpA_seq ?_
  refine wpA_mid (asg [(3, .ptr c1 4 0 0), (4, .ptr c2 2 0 0), (5, .ptr c3 1 0 0), (6, .ptr c4 2 0 0), (7, D.i 0), (24, D.b ((decide (least < 1)) || (decide (least > 8192))))]) [(c4, .cells 2 [.agg ([D.s ByteArray.empty, .v (.slice none 0 0)])]), (c3, .cells 1 [D.i least]), (c2, .cells 2 [encText t]), (c1, .cells 4 [encCorpus c])] ?_ ?_
  refine wpA_region ?_
  refine wL (OpA.load rfl ti3 rfl (.tail .head) rfl rfl ?_)
  refine wL (OpA.lss rfl rfl rfl ?_)
  refine wL (OpA.m ?_)
  refine wpL_split (s := 27) rfl (fun b23 => ?_) (fun b23 => ?_)
  iterate 2 refine wS ?_
  refine wL (OpA.p ?_)
  refine wL (OpA.a ?_)
  refine wpL_nil ?_
  exact ⟨(Cov.asg ⟨rfl, rfl, rfl, rfl, rfl, (congrArg D.b (Eq.symm (orS b23))), trivial⟩), (.refl _)⟩
  refine wG (OpA.load rfl ti3 rfl (.tail .head) rfl rfl ?_)
  refine wG (OpA.gtr rfl rfl rfl ?_)
  refine wL (OpA.p ?_)
  refine wL (OpA.a ?_)
  refine wpL_nil ?_
  exact ⟨(Cov.asg ⟨rfl, rfl, rfl, rfl, rfl, (congrArg D.b (Eq.symm (orN b23 rfl))), trivial⟩), (.refl _)⟩
  show wpA _ _ _ _ (asg [(3, .ptr c1 4 0 0), (4, .ptr c2 2 0 0), (5, .ptr c3 1 0 0), (6, .ptr c4 2 0 0), (7, D.i 0), (24, D.b ((decide (least < 1)) || (decide (least > 8192))))]) [(c4, .cells 2 [.agg ([D.s ByteArray.empty, .v (.slice none 0 0)])]), (c3, .cells 1 [D.i least]), (c2, .cells 2 [encText t]), (c1, .cells 4 [encCorpus c])]
  refine wpA_cond rfl (fun b6 => ?_) (fun b6 => ?_)
  have h := h.1 ((or0 b6).imp (fun hh => (decT hh)) (fun hh => (decT hh)))
  refine wpA_seq ?_
  refine wpA_region ?_
  refine wL (OpA.buildO (zs := [.v (.string ⟨#[]⟩), .v (.slice none 0 0)]) rfl tp33 tz33 (fun _ _ => (.cons (.v _) (.cons (.v _) .nil))) .nil rfl ?_)
  refine wE (OpA.storeW rfl ti33 rfl (by with_reducible conv => lhs; whnf) (.of rfl) rfl rfl .head ?_)
  refine wL (OpA.a ?_)
  refine wpL_nil ?_
  refine wpA_ret ?_
  exact ⟨_, (.cell (.whole ti33 rfl rfl .head rfl ⟨_, rfl⟩) (.tmp (d := D.i 3) rfl .nil)), _, (.tup (.agg (.same rfl (.nilv (sz := 4) .nil)) (.same rfl .nil)) .nil), ⟨((Attribution.mk ByteArray.empty []), 3), rfl, h⟩⟩
  have h := h.2 ⟨(decF (or1 b6)), (decF (or2 b6))⟩
  refine wpA_skip ?_
  refine wpA_seq ?_
  refine wpA_region ?_
  refine wL (OpA.fieldAddr rfl tf28_1 rfl ?_)
  refine wL (OpA.load rfl ti26 rfl (.tail (.tail .head)) rfl rfl ?_)
  refine wL (OpA.len rfl rfl rfl rfl ts26.desc (.inl ⟨_, _, rfl, (List.length_map _).symm⟩) ?_)
  refine wL (OpA.a ?_)
  refine wpL_nil ?_
  refine wpA_seq ?_
  obtain ⟨q1, q2, h⟩ := h
  refine wpA_region ?_
  refine wL (OpA.load_whole rfl ti25 rfl rfl (.tail (.tail (.tail .head))) rfl ⟨_, rfl⟩ ?_)
  refine wL (OpA.load_whole rfl ti28 rfl rfl (.tail (.tail .head)) rfl ⟨_, rfl⟩ ?_)
  refine wL (OpA.call rfl rfl rfl en36 (tlongest_c c t q1 q2) ?_)
  rintro _ rfl
  refine wL (OpA.alloc (sz := 1) (d := .v (.slice none 0 0)) rfl tz52 (fun _ _ => .v _) (.of rfl) (fun c7 _ => ?_))
  refine wE (OpA.storeW rfl ti52 rfl (by with_reducible conv => lhs; whnf) (.of rfl) rfl rfl .head ?_)
  refine wpL_nil ?_
  refine wpA_seq ?_
  obtain ⟨q1, q2, h⟩ := h
  refine wpA_region ?_
  refine wL (OpA.m ?_)
  refine wL (OpA.addi rfl rfl rfl q1 ?_)
  refine wL (OpA.makeSliceV (enc := (encA2 D.i)) (v0 := (0, 0)) rfl ts79 rfl rfl tz84 (fun _ _ => .agg (.cons (.v _) (.cons (.v _) .nil))) (.of rfl) q2 (fun c8 => ?_))
  refine wL (OpA.alloc (sz := 1) (d := .v (.slice none 0 0)) rfl tz79 (fun _ _ => .v _) (.of rfl) (fun c9 _ => ?_))
  refine wE (OpA.storeW rfl ti79 rfl (by with_reducible conv => lhs; whnf) (.of rfl) rfl rfl .head ?_)
  refine wpL_nil ?_
  iterate 2 refine wpA_seq ?_
  obtain ⟨q1, h⟩ := h
  refine wpA_region ?_
  refine wL (OpA.fieldAddr rfl tf28_1 rfl ?_)
  refine wL (OpA.load rfl ti26 rfl (.tail (.tail (.tail (.tail (.tail .head))))) rfl rfl ?_)
  refine wL (OpA.call rfl rfl rfl en37 (backL_c t.words q1) ?_)
  rintro _ rfl
  refine wpL_nil ?_
  refine wpA_block ?_
  refine wpA_cov (fr0 := asg [(3, .ptr c1 4 0 0), (4, .ptr c2 2 0 0), (5, .ptr c3 1 0 0), (6, .ptr c4 2 0 0), (7, D.i 0), (8, D.i (t.words.length : Int)), (9, .ptr c7 1 0 0), (10, .ptr c9 1 0 0), (43, .fn (.func 66) [] [.iptr ((encL 2 encLex) t.words) 0])]) (Cov.asg ⟨rfl, rfl, rfl, rfl, rfl, rfl, rfl, rfl, rfl, trivial⟩) ?_
  refine wpA_back (enc := encLex) (xs := t.words) (S := (List (Int × Int))) (G := Unit) () (fun gg ss => [(c9, .cells 1 [.own c8 2 ([] : List D).length ss.length]), (c8, .cells 2 (winL (encA2 D.i) ([] : List D) ss ([] : List D))), (c7, .cells 1 [(encL 1 D.i) (longAF c t)]), (c4, .cells 2 [.agg ([D.s ByteArray.empty, .v (.slice none 0 0)])]), (c3, .cells 1 [D.i least]), (c2, .cells 2 [encText t]), (c1, .cells 4 [encCorpus c])]) rfl en66 (backL_it t.words (by assumption)) h (.refl _) rfl ?_ ?_
  · skip
    rintro again10 _ xs ix hix h
    have h : tof_L1 c t least Q again10 xs ix := h
    unfold tof_L1 at h
    replace h := h.1 hix
    show wpA _ _ _ _ (upd (upd (asg [(3, .ptr c1 4 0 0), (4, .ptr c2 2 0 0), (5, .ptr c3 1 0 0), (6, .ptr c4 2 0 0), (7, D.i 0), (8, D.i (t.words.length : Int)), (9, .ptr c7 1 0 0), (10, .ptr c9 1 0 0), (43, .fn (.func 66) [] [.iptr ((encL 2 encLex) t.words) 0])]) 44 (D.i ix)) 45 (encLex (gi t.words ix))) [(c9, .cells 1 [.own c8 2 ([] : List D).length xs.length]), (c8, .cells 2 (winL (encA2 D.i) ([] : List D) xs ([] : List D))), (c7, .cells 1 [(encL 1 D.i) (longAF c t)]), (c4, .cells 2 [.agg ([D.s ByteArray.empty, .v (.slice none 0 0)])]), (c3, .cells 1 [D.i least]), (c2, .cells 2 [encText t]), (c1, .cells 4 [encCorpus c])]
    refine wpA_region ?_
    refine wL (OpA.a ?_)
    refine wpL_nil ?_
    refine wpA_block ?_
    refine wpA_seq ?_
    obtain ⟨q1, q2, q3, h⟩ := h
    refine wpA_draw (m := 8) mo (by kernel_rfl) rfl ?_
    refine dL (OpA.load rfl ti79 rfl .head rfl rfl ⟨rfl, rfl⟩) ?_
    refine dL (OpA.m ⟨rfl, rfl⟩) ?_
    refine dL (OpA.load rfl ti79 rfl .head rfl rfl ⟨rfl, rfl⟩) ?_
    refine dL (OpA.m ⟨rfl, rfl⟩) ?_
    refine dL (OpA.addi rfl rfl rfl q1 ⟨rfl, rfl⟩) ?_
    refine dL (OpA.ixV rfl ts79 rfl rfl q2 ⟨rfl, rfl⟩) ?_
    refine dL (OpA.load_whole rfl ti84 rfl rfl (.tail .head) (getV (enc := (encA2 D.i)) q2) ⟨_, rfl⟩ ⟨rfl, rfl⟩) ?_
    refine dL (OpA.ixV rfl ts79 rfl rfl q3 ⟨rfl, rfl⟩) ?_
    refine DetK.nil ?_
    refine wE (OpA.storeV (enc := (encA2 D.i)) (v := (gi xs (ix + 1))) rfl ti84 rfl rfl (.of rfl) rfl q3 (.tail .head) ?_)
    refine wpL_nil ?_
    refine wpA_seq ?_
    refine wpA_region ?_
    refine wL (OpA.load rfl ti3 rfl (.tail (.tail (.tail (.tail .head)))) rfl rfl ?_)
    refine wL (OpA.a ?_)
    refine wpL_nil ?_
    refine wpA_block ?_
    refine wpA_heq (h' := [(c9, .cells 1 [.own c8 2 ([] : List D).length (si xs ix (gi xs (ix + 1))).length]), (c8, .cells 2 (winL (encA2 D.i) ([] : List D) (si xs ix (gi xs (ix + 1))) ([] : List D))), (c7, .cells 1 [(encL 1 D.i) (longAF c t)]), (c4, .cells 2 [.agg ([D.s ByteArray.empty, .v (.slice none 0 0)])]), (c3, .cells 1 [D.i least]), (c2, .cells 2 [encText t]), (c1, .cells 4 [encCorpus c])]) (by simp only [si_length, gcopy_length, sortF_len postCmp_swo, sortF_len spanCmp_swo] <;> rfl) ?_
    refine wpA_cov (fr0 := asg [(3, .ptr c1 4 0 0), (4, .ptr c2 2 0 0), (5, .ptr c3 1 0 0), (6, .ptr c4 2 0 0), (7, D.i 0), (8, D.i (t.words.length : Int)), (9, .ptr c7 1 0 0), (10, .ptr c9 1 0 0), (11, D.i ix), (12, D.i least), (43, .fn (.func 66) [] [.iptr ((encL 2 encLex) t.words) 0]), (44, D.i ix), (45, encLex (gi t.words ix)), (46, .own c8 2 ([] : List D).length (si xs ix (gi xs (ix + 1))).length), (47, D.i ix), (48, .own c8 2 ([] : List D).length (si xs ix (gi xs (ix + 1))).length), (49, D.i ix), (50, D.i (ix + 1)), (51, .ptr c8 2 (([] : List D).length + (Int.toNat (ix + 1))) 0), (52, (encA2 D.i) (gi xs (ix + 1))), (53, .ptr c8 2 (([] : List D).length + (Int.toNat ix)) 0), (54, D.i least)]) (Cov.asg ⟨rfl, rfl, rfl, rfl, rfl, rfl, rfl, rfl, rfl, rfl, rfl, rfl, rfl, (congrArg (D.own c8 2 ([] : List D).length) (by simp only [si_length, gcopy_length, sortF_len postCmp_swo, sortF_len spanCmp_swo] <;> rfl)), rfl, (congrArg (D.own c8 2 ([] : List D).length) (by simp only [si_length, gcopy_length, sortF_len postCmp_swo, sortF_len spanCmp_swo] <;> rfl)), rfl, rfl, rfl, rfl, rfl, rfl, trivial⟩) ?_
    refine wpA_lfp (S := (List (Int × Int)) × Int) (G := Unit) () (fun gg ss => asg [(9, .ptr c7 1 0 0), (10, .ptr c9 1 0 0), (11, D.i ix), (12, D.i ss.2)]) (fun gg ss => [(c9, .cells 1 [.own c8 2 ([] : List D).length ss.1.length]), (c8, .cells 2 (winL (encA2 D.i) ([] : List D) ss.1 ([] : List D))), (c7, .cells 1 [(encL 1 D.i) (longAF c t)]), (c4, .cells 2 [.agg ([D.s ByteArray.empty, .v (.slice none 0 0)])]), (c3, .cells 1 [D.i least]), (c2, .cells 2 [encText t]), (c1, .cells 4 [encCorpus c])]) h (Cov.asg ⟨rfl, rfl, rfl, rfl, trivial⟩) (.refl _) ?_
    rintro again11 _ ⟨xs1, k⟩ h
    have h : tof_L2 c t ix again10 again11 xs1 k := h
    unfold tof_L2 at h
    show wpA _ _ _ _ (asg [(9, .ptr c7 1 0 0), (10, .ptr c9 1 0 0), (11, D.i ix), (12, D.i k)]) [(c9, .cells 1 [.own c8 2 ([] : List D).length xs1.length]), (c8, .cells 2 (winL (encA2 D.i) ([] : List D) xs1 ([] : List D))), (c7, .cells 1 [(encL 1 D.i) (longAF c t)]), (c4, .cells 2 [.agg ([D.s ByteArray.empty, .v (.slice none 0 0)])]), (c3, .cells 1 [D.i least]), (c2, .cells 2 [encText t]), (c1, .cells 4 [encCorpus c])]
    iterate 2 refine wpA_seq ?_
    obtain ⟨q1, h⟩ := h
    refine wpA_region ?_
    refine wL (OpA.m ?_)
    refine wL (OpA.load rfl ti52 rfl (.tail (.tail .head)) rfl rfl ?_)
    refine wL (OpA.m ?_)
    refine wL (OpA.iixV (enc := D.i) rfl ts52 rfl rfl rfl q1 ?_)
    refine wL (OpA.iload rfl ti3 rfl rfl ?_)
    refine wL (OpA.leq rfl rfl rfl ?_)
    refine wpL_nil ?_
    refine wpA_cond rfl (fun b12 => ?_) (fun b12 => ?_)
    have h := h.1 (decT b12)
    refine wpA_skip ?_
    refine wpA_seq ?_
    refine wpA_block ?_
    obtain ⟨q1, q2, q3, q4, q5, h⟩ := h
    refine wpA_draw (m := 16) mo (by kernel_rfl) rfl ?_
    refine dL (OpA.load rfl ti79 rfl .head rfl rfl ⟨rfl, rfl⟩) ?_
    refine dL (OpA.m ⟨rfl, rfl⟩) ?_
    refine dL (OpA.load rfl ti79 rfl .head rfl rfl ⟨rfl, rfl⟩) ?_
    refine dL (OpA.m ⟨rfl, rfl⟩) ?_
    refine dL (OpA.ixV rfl ts79 rfl rfl q1 ⟨rfl, rfl⟩) ?_
    refine dL (OpA.load_whole rfl ti84 rfl rfl (.tail .head) (getV (enc := (encA2 D.i)) q1) ⟨_, rfl⟩ ⟨rfl, rfl⟩) ?_
    refine dL (OpA.load rfl ti79 rfl .head rfl rfl ⟨rfl, rfl⟩) ?_
    iterate 2 refine dL (OpA.m ⟨rfl, rfl⟩) ?_
    refine dL (OpA.addi rfl rfl rfl q2 ⟨rfl, rfl⟩) ?_
    refine dL (OpA.ixV rfl ts79 rfl rfl q3 ⟨rfl, rfl⟩) ?_
    refine dL (OpA.load_whole rfl ti84 rfl rfl (.tail .head) (getV (enc := (encA2 D.i)) q3) ⟨_, rfl⟩ ⟨rfl, rfl⟩) ?_
    refine dL (OpA.m ⟨rfl, rfl⟩) ?_
    refine dL (OpA.call rfl rfl rfl en39 (tafter_c (gi xs1 (ix + k)) k q4 q5) (by rintro _ rfl; exact ⟨rfl, rfl⟩)) ?_
    refine dL (OpA.call rfl rfl rfl en38 (tbetter_c (gi xs1 ix) (afterP (gi xs1 (ix + k)) k) ) (by rintro _ rfl; exact ⟨rfl, rfl⟩)) ?_
    refine dL (OpA.ixV rfl ts79 rfl rfl q1 ⟨rfl, rfl⟩) ?_
    refine DetK.nil ?_
    refine wE (OpA.storeV (enc := (encA2 D.i)) (v := (betterP (gi xs1 ix) (afterP (gi xs1 (ix + k)) k))) rfl ti84 rfl rfl (.of rfl) rfl q1 (.tail .head) ?_)
    refine wpL_nil ?_
    obtain ⟨q1, h⟩ := h
    refine wpA_region ?_
    refine wL (OpA.m ?_)
    refine wL (OpA.addi rfl rfl rfl q1 ?_)
    refine wL (OpA.a ?_)
    refine wpL_nil ?_
    exact ⟨(), ((si xs1 ix (betterP (gi xs1 ix) (afterP (gi xs1 (ix + k)) k))), (k + 1)), h, (Cov.asg ⟨rfl, rfl, rfl, rfl, trivial⟩), (sub_heq (h' := [(c9, .cells 1 [.own c8 2 ([] : List D).length (si xs1 ix (betterP (gi xs1 ix) (afterP (gi xs1 (ix + k)) k))).length]), (c8, .cells 2 (winL (encA2 D.i) ([] : List D) (si xs1 ix (betterP (gi xs1 ix) (afterP (gi xs1 (ix + k)) k))) ([] : List D))), (c7, .cells 1 [(encL 1 D.i) (longAF c t)]), (c4, .cells 2 [.agg ([D.s ByteArray.empty, .v (.slice none 0 0)])]), (c3, .cells 1 [D.i least]), (c2, .cells 2 [encText t]), (c1, .cells 4 [encCorpus c])]) (by simp only [si_length, gcopy_length, sortF_len postCmp_swo, sortF_len spanCmp_swo] <;> rfl) (.refl _))⟩
    have h := h.2 (decF b12)
    refine wpA_exit ?_
    exact ⟨(), xs1, h, (.refl _)⟩
  · skip
    rintro again10 _ xs ix hix h
    have h : tof_L1 c t least Q again10 xs ix := h
    unfold tof_L1 at h
    replace h := h.2 hix
    refine wpA_seq ?_
    refine wpA_region ?_
    refine wL (OpA.fieldAddr rfl tf28_0 rfl ?_)
    refine wL (OpA.load rfl ti9 rfl (.tail (.tail (.tail (.tail (.tail .head))))) rfl rfl ?_)
    refine wL (OpA.buildO (zs := [.v (.string ⟨#[]⟩), .v (.slice none 0 0)]) rfl tp33 tz33 (fun _ _ => (.cons (.v _) (.cons (.v _) .nil))) (.cons (.of (sz := 1) rfl) .nil) rfl ?_)
    refine wL (OpA.alloc (sz := 2) (d := .agg ([D.s ByteArray.empty, .v (.slice none 0 0)])) rfl tz33 (fun _ _ => .agg (.cons (.v _) (.cons (.v _) .nil))) (.of rfl) (fun c13 _ => ?_))
    refine wE (OpA.storeW rfl ti33 rfl (by with_reducible conv => lhs; whnf) (.of rfl) rfl rfl .head ?_)
    refine wpL_nil ?_
    iterate 2 refine wpA_seq ?_
    refine wpA_region ?_
    refine wL (OpA.a ?_)
    refine wpL_nil ?_
    refine wpA_block ?_
    refine wpA_ghostM (c := c13) (sz1 := 2) (sz := 4) (es' := fun g14 => [.agg ([D.s t.path, .own g14 4 ([] : List D).length ([] : List Piece).length])]) (fun _ => .head) (fun _ => (.same (.turn .nil))) (fun _ => rfl) (fun _ => by rintro d (_ | ⟨_, hd⟩); exact .of rfl; cases hd) (fun g14 => ?_)
    refine wpA_lfp (S := (List Piece) × Int) (G := Nat × List D × List D) (g14, ([] : List D), ([] : List D)) (fun gg ss => asg [(3, .ptr c1 4 0 0), (4, .ptr c2 2 0 0), (5, .ptr c3 1 0 0), (6, .ptr c4 2 0 0), (7, D.i 0), (8, D.i (t.words.length : Int)), (9, .ptr c7 1 0 0), (10, .ptr c9 1 0 0), (13, .ptr c13 2 0 0), (14, D.i ss.2)]) (fun gg ss => [(gg.1, .cells 4 (winL encPiece gg.2.1 ss.1 gg.2.2)), (c13, .cells 2 [.agg ([D.s t.path, .own gg.1 4 gg.2.1.length ss.1.length])]), (c9, .cells 1 [.own c8 2 ([] : List D).length xs.length]), (c8, .cells 2 (winL (encA2 D.i) ([] : List D) xs ([] : List D))), (c7, .cells 1 [(encL 1 D.i) (longAF c t)]), (c4, .cells 2 [.agg ([D.s ByteArray.empty, .v (.slice none 0 0)])]), (c3, .cells 1 [D.i least]), (c2, .cells 2 [encText t]), (c1, .cells 4 [encCorpus c])]) h (Cov.asg ⟨rfl, rfl, rfl, rfl, rfl, rfl, rfl, rfl, rfl, rfl, trivial⟩) (.refl _) ?_
    rintro again15 ⟨cbgh13, pregh13, postgh13⟩ ⟨xs2, i⟩ h
    have h : tof_L3 c t least xs Q again15 xs2 i := h
    unfold tof_L3 at h
    show wpA _ _ _ _ (asg [(3, .ptr c1 4 0 0), (4, .ptr c2 2 0 0), (5, .ptr c3 1 0 0), (6, .ptr c4 2 0 0), (7, D.i 0), (8, D.i (t.words.length : Int)), (9, .ptr c7 1 0 0), (10, .ptr c9 1 0 0), (13, .ptr c13 2 0 0), (14, D.i i)]) [(cbgh13, .cells 4 (winL encPiece pregh13 xs2 postgh13)), (c13, .cells 2 [.agg ([D.s t.path, .own cbgh13 4 pregh13.length xs2.length])]), (c9, .cells 1 [.own c8 2 ([] : List D).length xs.length]), (c8, .cells 2 (winL (encA2 D.i) ([] : List D) xs ([] : List D))), (c7, .cells 1 [(encL 1 D.i) (longAF c t)]), (c4, .cells 2 [.agg ([D.s ByteArray.empty, .v (.slice none 0 0)])]), (c3, .cells 1 [D.i least]), (c2, .cells 2 [encText t]), (c1, .cells 4 [encCorpus c])]
    iterate 2 refine wpA_seq ?_
    refine wpA_region ?_
    refine wL (OpA.m ?_)
    refine wL (OpA.m ?_)
    refine wL (OpA.lss rfl rfl rfl ?_)
    refine wpL_nil ?_
    refine wpA_cond rfl (fun b16 => ?_) (fun b16 => ?_)
    have h := h.1 (decT b16)
    refine wpA_skip ?_
    refine wpA_block ?_
    refine wpA_seq ?_
    obtain ⟨q1, h⟩ := h
    refine wpA_region ?_
    refine wL (OpA.load rfl ti52 rfl (.tail (.tail (.tail (.tail .head)))) rfl rfl ?_)
    refine wL (OpA.m ?_)
    refine wL (OpA.iixV (enc := D.i) rfl ts52 rfl rfl rfl q1 ?_)
    refine wL (OpA.iload rfl ti3 rfl rfl ?_)
    refine wL (OpA.a ?_)
    refine wpL_nil ?_
    refine wpA_seq ?_
    refine wpA_block ?_
    refine wpA_lfp (S := Int) (G := Unit) () (fun gg ss => asg [(3, .ptr c1 4 0 0), (4, .ptr c2 2 0 0), (5, .ptr c3 1 0 0), (6, .ptr c4 2 0 0), (7, D.i 0), (8, D.i (t.words.length : Int)), (9, .ptr c7 1 0 0), (10, .ptr c9 1 0 0), (13, .ptr c13 2 0 0), (14, D.i i), (15, D.i ss)]) (fun gg ss => [(cbgh13, .cells 4 (winL encPiece pregh13 xs2 postgh13)), (c13, .cells 2 [.agg ([D.s t.path, .own cbgh13 4 pregh13.length xs2.length])]), (c9, .cells 1 [.own c8 2 ([] : List D).length xs.length]), (c8, .cells 2 (winL (encA2 D.i) ([] : List D) xs ([] : List D))), (c7, .cells 1 [(encL 1 D.i) (longAF c t)]), (c4, .cells 2 [.agg ([D.s ByteArray.empty, .v (.slice none 0 0)])]), (c3, .cells 1 [D.i least]), (c2, .cells 2 [encText t]), (c1, .cells 4 [encCorpus c])]) h (Cov.asg ⟨rfl, rfl, rfl, rfl, rfl, rfl, rfl, rfl, rfl, rfl, rfl, trivial⟩) (.refl _) ?_
    rintro again17 _ k1 h
    have h : tof_L4 c t least xs xs2 i again15 again17 k1 := h
    unfold tof_L4 at h
    show wpA _ _ _ _ (asg [(3, .ptr c1 4 0 0), (4, .ptr c2 2 0 0), (5, .ptr c3 1 0 0), (6, .ptr c4 2 0 0), (7, D.i 0), (8, D.i (t.words.length : Int)), (9, .ptr c7 1 0 0), (10, .ptr c9 1 0 0), (13, .ptr c13 2 0 0), (14, D.i i), (15, D.i k1)]) [(cbgh13, .cells 4 (winL encPiece pregh13 xs2 postgh13)), (c13, .cells 2 [.agg ([D.s t.path, .own cbgh13 4 pregh13.length xs2.length])]), (c9, .cells 1 [.own c8 2 ([] : List D).length xs.length]), (c8, .cells 2 (winL (encA2 D.i) ([] : List D) xs ([] : List D))), (c7, .cells 1 [(encL 1 D.i) (longAF c t)]), (c4, .cells 2 [.agg ([D.s ByteArray.empty, .v (.slice none 0 0)])]), (c3, .cells 1 [D.i least]), (c2, .cells 2 [encText t]), (c1, .cells 4 [encCorpus c])]
    iterate 2 refine wpA_seq ?_
    obtain ⟨q1, h⟩ := h
    refine wpA_mid (asg [(3, .ptr c1 4 0 0), (4, .ptr c2 2 0 0), (5, .ptr c3 1 0 0), (6, .ptr c4 2 0 0), (7, D.i 0), (8, D.i (t.words.length : Int)), (9, .ptr c7 1 0 0), (10, .ptr c9 1 0 0), (13, .ptr c13 2 0 0), (14, D.i i), (15, D.i k1), (106, D.b ((decide (k1 ≥ least)) && (!(aeq 2 ([(afterP (gi xs (i + k1)) k1).1, (afterP (gi xs (i + k1)) k1).2] : List Int) ([(gi xs i).1, (gi xs i).2] : List Int)))))]) [(cbgh13, .cells 4 (winL encPiece pregh13 xs2 postgh13)), (c13, .cells 2 [.agg ([D.s t.path, .own cbgh13 4 pregh13.length xs2.length])]), (c9, .cells 1 [.own c8 2 ([] : List D).length xs.length]), (c8, .cells 2 (winL (encA2 D.i) ([] : List D) xs ([] : List D))), (c7, .cells 1 [(encL 1 D.i) (longAF c t)]), (c4, .cells 2 [.agg ([D.s ByteArray.empty, .v (.slice none 0 0)])]), (c3, .cells 1 [D.i least]), (c2, .cells 2 [encText t]), (c1, .cells 4 [encCorpus c])] ?_ ?_
    refine wpA_draw (m := 18) mo (by kernel_rfl) rfl ?_
    refine dL (OpA.m ⟨rfl, rfl⟩) ?_
    refine dL (OpA.load rfl ti3 rfl (.tail (.tail (.tail (.tail (.tail (.tail .head)))))) rfl rfl ⟨rfl, rfl⟩) ?_
    refine dL (OpA.geq rfl rfl rfl ⟨rfl, rfl⟩) ?_
    refine dL (OpA.m ⟨rfl, rfl⟩) ?_
    refine DetK_split (s := 92) rfl (fun b22 => ?_) (fun b22 => ?_)
    refine dG (OpA.load rfl ti79 rfl (.tail (.tail .head)) rfl rfl ⟨rfl, rfl⟩) ?_
    iterate 2 refine dG (OpA.m ⟨rfl, rfl⟩) ?_
    refine dG (OpA.addi rfl rfl rfl (q1 (decT b22)).1 ⟨rfl, rfl⟩) ?_
    refine dG (OpA.ixV rfl ts79 rfl rfl (q1 (decT b22)).2.1 ⟨rfl, rfl⟩) ?_
    refine dG (OpA.load_whole rfl ti84 rfl rfl (.tail (.tail (.tail .head))) (getV (enc := (encA2 D.i)) (q1 (decT b22)).2.1) ⟨_, rfl⟩ ⟨rfl, rfl⟩) ?_
    refine dG (OpA.m ⟨rfl, rfl⟩) ?_
    refine dG (OpA.call rfl rfl rfl en39 (tafter_c (gi xs (i + k1)) k1 (q1 (decT b22)).2.2.1 (q1 (decT b22)).2.2.2.1) (by rintro _ rfl; exact ⟨rfl, rfl⟩)) ?_
    refine dG (OpA.load rfl ti79 rfl (.tail (.tail .head)) rfl rfl ⟨rfl, rfl⟩) ?_
    refine dG (OpA.m ⟨rfl, rfl⟩) ?_
    refine dG (OpA.ixV rfl ts79 rfl rfl (q1 (decT b22)).2.2.2.2 ⟨rfl, rfl⟩) ?_
    refine dG (OpA.load_whole rfl ti84 rfl rfl (.tail (.tail (.tail .head))) (getV (enc := (encA2 D.i)) (q1 (decT b22)).2.2.2.2) ⟨_, rfl⟩ ⟨rfl, rfl⟩) ?_
    refine dG (OpA.arrcmp (l := ([(afterP (gi xs (i + k1)) k1).1, (afterP (gi xs (i + k1)) k1).2] : List Int)) (m := ([(gi xs i).1, (gi xs i).2] : List Int)) rfl eg84 td84 ti3 td3 rfl rfl (.inr ⟨rfl, rfl⟩) ⟨rfl, rfl⟩) ?_
    refine dL (OpA.p ⟨rfl, rfl⟩) ?_
    refine DetK.nil ?_
    refine wpL_nil ?_
    exact ⟨(Cov.asg ⟨rfl, rfl, rfl, rfl, rfl, rfl, rfl, rfl, rfl, rfl, rfl, (congrArg D.b (Eq.symm (andN b22 rfl))), trivial⟩), (.refl _)⟩
    iterate 13 refine dS ?_
    refine dL (OpA.p ⟨rfl, rfl⟩) ?_
    refine DetK.nil ?_
    refine wpL_nil ?_
    exact ⟨(Cov.asg ⟨rfl, rfl, rfl, rfl, rfl, rfl, rfl, rfl, rfl, rfl, rfl, (congrArg D.b (Eq.symm (andS b22))), trivial⟩), (.refl _)⟩
    show wpA _ _ _ _ (asg [(3, .ptr c1 4 0 0), (4, .ptr c2 2 0 0), (5, .ptr c3 1 0 0), (6, .ptr c4 2 0 0), (7, D.i 0), (8, D.i (t.words.length : Int)), (9, .ptr c7 1 0 0), (10, .ptr c9 1 0 0), (13, .ptr c13 2 0 0), (14, D.i i), (15, D.i k1), (106, D.b ((decide (k1 ≥ least)) && (!(aeq 2 ([(afterP (gi xs (i + k1)) k1).1, (afterP (gi xs (i + k1)) k1).2] : List Int) ([(gi xs i).1, (gi xs i).2] : List Int)))))]) [(cbgh13, .cells 4 (winL encPiece pregh13 xs2 postgh13)), (c13, .cells 2 [.agg ([D.s t.path, .own cbgh13 4 pregh13.length xs2.length])]), (c9, .cells 1 [.own c8 2 ([] : List D).length xs.length]), (c8, .cells 2 (winL (encA2 D.i) ([] : List D) xs ([] : List D))), (c7, .cells 1 [(encL 1 D.i) (longAF c t)]), (c4, .cells 2 [.agg ([D.s ByteArray.empty, .v (.slice none 0 0)])]), (c3, .cells 1 [D.i least]), (c2, .cells 2 [encText t]), (c1, .cells 4 [encCorpus c])]
    refine wpA_cond rfl (fun b18 => ?_) (fun b18 => ?_)
    have h := h.1 ⟨(decT (and1 b18)), (notT (and2 b18))⟩
    refine wpA_skip ?_
    refine wpA_block ?_
    obtain ⟨q1, h⟩ := h
    refine wpA_region ?_
    refine wL (OpA.m ?_)
    refine wL (OpA.subi rfl rfl rfl q1 ?_)
    refine wL (OpA.a ?_)
    refine wpL_nil ?_
    exact ⟨(), (k1 - 1), h, (Cov.asg ⟨rfl, rfl, rfl, rfl, rfl, rfl, rfl, rfl, rfl, rfl, rfl, trivial⟩), (.refl _)⟩
    have h := h.2 ((and0 b18).imp (fun hh => (decF hh)) (fun hh => (notF hh)))
    refine wpA_exit ?_
    iterate 2 refine wpA_seq ?_
    refine wpA_region ?_
    refine wL (OpA.m ?_)
    refine wL (OpA.load rfl ti3 rfl (.tail (.tail (.tail (.tail (.tail (.tail .head)))))) rfl rfl ?_)
    refine wL (OpA.lss rfl rfl rfl ?_)
    refine wpL_nil ?_
    refine wpA_cond rfl (fun b19 => ?_) (fun b19 => ?_)
    have h := h.1 (decT b19)
    refine wpA_seq ?_
    obtain ⟨q1, h⟩ := h
    refine wpA_region ?_
    refine wL (OpA.m ?_)
    refine wL (OpA.addi rfl rfl rfl q1 ?_)
    refine wL (OpA.a ?_)
    refine wpL_nil ?_
    refine wpA_exit ?_
    exact ⟨(cbgh13, pregh13, postgh13), (xs2, (i + 1)), h, (Cov.asg ⟨rfl, rfl, rfl, rfl, rfl, rfl, rfl, rfl, rfl, rfl, trivial⟩), (.refl _)⟩
    have h := h.2 (decF b19)
    refine wpA_skip ?_
    refine wpA_seq ?_
    obtain ⟨q1, q2, q3, q4, h⟩ := h
    refine wpA_draw (m := 14) mo (by kernel_rfl) rfl ?_
    refine dL (OpA.load_whole rfl ti25 rfl rfl (.tail (.tail (.tail (.tail (.tail (.tail (.tail (.tail .head)))))))) rfl ⟨_, rfl⟩ ⟨rfl, rfl⟩) ?_
    refine dL (OpA.fieldAddr rfl tf28_1 rfl ⟨rfl, rfl⟩) ?_
    refine dL (OpA.load rfl ti26 rfl (.tail (.tail (.tail (.tail (.tail (.tail (.tail .head))))))) rfl rfl ⟨rfl, rfl⟩) ?_
    iterate 3 refine dL (OpA.m ⟨rfl, rfl⟩) ?_
    refine dL (OpA.addi rfl rfl rfl q1 ⟨rfl, rfl⟩) ?_
    refine dL (OpA.isliceV (enc := encLex) rfl ts26 rfl (.some rfl) (.some rfl) q2 ⟨rfl, rfl⟩) ?_
    refine dL (OpA.call rfl rfl rfl en40 (tsource_c c (lsub t.words i (i + k1)) q3 q4) (by rintro _ rfl; exact ⟨rfl, rfl⟩)) ?_
    refine dL (OpA.m ⟨rfl, rfl⟩) ?_
    iterate 2 refine dL (OpA.extract rfl rfl rfl ⟨rfl, rfl⟩) ?_
    iterate 2 refine dL (OpA.a ⟨rfl, rfl⟩) ?_
    refine DetK.nil ?_
    refine wpL_nil ?_
    refine wpA_seq ?_
    obtain ⟨q1, q2, h⟩ := h
    refine wpA_region ?_
    refine wL (OpA.fieldAddr rfl tf33_1 rfl ?_)
    refine wL (OpA.load rfl ti31 rfl (.tail .head) rfl rfl ?_)
    refine wL (OpA.m ?_)
    refine wL (OpA.m ?_)
    refine wL (OpA.m ?_)
    refine wL (OpA.addi rfl rfl rfl q1 ?_)
    refine wL (OpA.m ?_)
    refine wL (OpA.m ?_)
    refine wL (OpA.buildO (zs := [.v (.int .i64 0), .v (.int .i64 0), .v (.int .i64 0), .v (.int .i64 0)]) rfl tp48 tz48 (fun _ _ => (.cons (.v _) (.cons (.v _) (.cons (.v _) (.cons (.v _) .nil))))) (.cons (.of (sz := 1) rfl) (.cons (.of (sz := 1) rfl) (.cons (.of (sz := 1) rfl) (.cons (.of (sz := 1) rfl) .nil)))) rfl ?_)
    refine wL (OpA.ibuildSliceO rfl ts31 rfl (.cons (.of (sz := 4) rfl) .nil) (by decide) ?_)
    refine wL (OpA.appendW (enc := encPiece) rfl rfl rfl rfl ts31 rfl (fun _ _ => .head) (.list (ys := ([(Piece.mk i (i + k1) ((srcF c (lsub t.words i (i + k1))).1) ((srcF c (lsub t.words i (i + k1))).2))] : List Piece))) q2 (fun c20 pre21 => ?_))
    refine wL (OpA.fieldAddr rfl tf33_1 rfl ?_)
    refine wE (OpA.store (e' := .agg ([D.s t.path, .own c20 4 pre21.length (xs2 ++ ([(Piece.mk i (i + k1) ((srcF c (lsub t.words i (i + k1))).1) ((srcF c (lsub t.words i (i + k1))).2))] : List Piece)).length])) rfl ti31 rfl (.of rfl) rfl (Nat.le_of_ble_eq_true rfl) rfl (.tail .head) ?_)
    refine wpL_nil ?_
    obtain ⟨q1, h⟩ := h
    refine wpA_region ?_
    refine wL (OpA.m ?_)
    refine wL (OpA.m ?_)
    refine wL (OpA.addi rfl rfl rfl q1 ?_)
    refine wL (OpA.a ?_)
    refine wpL_nil ?_
    exact ⟨(c20, pre21, ([] : List D)), ((xs2 ++ ([(Piece.mk i (i + k1) ((srcF c (lsub t.words i (i + k1))).1) ((srcF c (lsub t.words i (i + k1))).2))] : List Piece)), (i + k1)), h, (Cov.asg ⟨rfl, rfl, rfl, rfl, rfl, rfl, rfl, rfl, rfl, rfl, trivial⟩), (.refl _)⟩
    have h := h.2 (decF b16)
    refine wpA_exit ?_
    refine wpA_seq ?_
    refine wpA_region ?_
    refine wL (OpA.load_whole rfl ti33 rfl rfl (.tail .head) rfl ⟨_, rfl⟩ ?_)
    refine wE (OpA.storeW rfl ti33 rfl (by with_reducible conv => lhs; whnf) (.of rfl) rfl rfl (.tail (.tail (.tail (.tail (.tail .head))))) ?_)
    refine wL (OpA.a ?_)
    refine wpL_nil ?_
    refine wpA_ret ?_
    exact ⟨_, (.cell (.whole ti33 rfl rfl (.tail (.tail (.tail (.tail (.tail .head))))) rfl ⟨_, rfl⟩) (.tmp (d := D.i 0) rfl .nil)), _, (.tup (.agg (.same rfl (.win .head (by intro hf; cases hf) .nil)) (.same rfl .nil)) .nil), ⟨((Attribution.mk t.path xs2), 0), rfl, h⟩⟩
theorem tof_c (c : Corpus) (t : Text) (least : Int)  (hp0 : okC c) (hp1 : okT t) : Fun false Tryz.prog 12 [encCorpus c, encText t, D.i least] (fun d => d = .tup [encAttribution ((attrF c t least).1), D.i ((attrF c t least).2)]) :=
  Fun.at (enc := fun r => .tup [encAttribution (r.1), D.i (r.2)]) (v := attrF c t least) (tof_w c t least  (fun r => r = attrF c t least) (tof_ok c t least _ hp0 hp1 rfl))

set_option maxHeartbeats 2000000 in
set_option maxRecDepth 10000 in
theorem tranged_w (t : Text) (p : Piece)  (Q : Bool → Prop) (h : tranged_vc t p Q) : Fun false Tryz.prog 47 [encText t, encPiece p] (fun d => ∃ r, d = D.b r ∧ Q r) := by
  unfold tranged_vc at h
  refine Fun.of_body Tryz.func47 rfl Tryz.ntmps47 rfl ?_
  refine wpA_seq ?_
  refine wpA_region ?_
  refine wL (OpA.bx (sz := 2) rfl (by with_reducible conv => lhs; whnf) (.of rfl) (fun c1 _ => ?_))
  refine wL (OpA.bx (sz := 4) rfl (by with_reducible conv => lhs; whnf) (.of rfl) (fun c2 _ => ?_))
  refine wL (OpA.a ?_)
  refine wpL_nil ?_
  refine wpA_seq ?_
  refine wpA_mid (asg [(4, D.b (((decide (p.from_ ≥ 0)) && (decide (p.from_ < p.to))) && (decide (p.to ≤ (t.words.length : Int)))))]) [(c2, .cells 4 [encPiece p]), (c1, .cells 2 [encText t])] ?_ ?_
  refine wpA_region ?_
  refine wL (OpA.fieldAddr rfl tf48_0 rfl ?_)
  refine wL (OpA.load rfl ti3 rfl .head rfl rfl ?_)
  refine wL (OpA.geq rfl rfl rfl ?_)
  refine wL (OpA.m ?_)
  refine wpL_split (s := 8) rfl (fun b3 => ?_) (fun b3 => ?_)
  refine wG (OpA.fieldAddr rfl tf48_0 rfl ?_)
  refine wG (OpA.load rfl ti3 rfl .head rfl rfl ?_)
  refine wG (OpA.fieldAddr rfl tf48_1 rfl ?_)
  refine wG (OpA.load rfl ti3 rfl .head rfl rfl ?_)
  refine wG (OpA.lss rfl rfl rfl ?_)
  refine wL (OpA.p ?_)
  refine wL (OpA.m ?_)
  refine wpL_split (s := 15) rfl (fun b4 => ?_) (fun b4 => ?_)
  refine wG (OpA.fieldAddr rfl tf48_1 rfl ?_)
  refine wG (OpA.load rfl ti3 rfl .head rfl rfl ?_)
  refine wG (OpA.fieldAddr rfl tf28_1 rfl ?_)
  refine wG (OpA.load rfl ti26 rfl (.tail .head) rfl rfl ?_)
  refine wG (OpA.len rfl rfl rfl rfl ts26.desc (.inl ⟨_, _, rfl, (List.length_map _).symm⟩) ?_)
  refine wG (OpA.leq rfl rfl rfl ?_)
  refine wL (OpA.p ?_)
  refine wL (OpA.a ?_)
  refine wpL_nil ?_
  exact ⟨(Cov.asg ⟨(congrArg D.b (Eq.symm (andN (andN b3 b4) rfl))), trivial⟩), (.refl _)⟩
  iterate 6 refine wS ?_
  refine wL (OpA.p ?_)
  refine wL (OpA.a ?_)
  refine wpL_nil ?_
  exact ⟨(Cov.asg ⟨(congrArg D.b (Eq.symm (andS (andN b3 b4)))), trivial⟩), (.refl _)⟩
  iterate 5 refine wS ?_
  refine wL (OpA.p ?_)
  refine wL (OpA.m ?_)
  iterate 6 refine wS ?_
  refine wL (OpA.p ?_)
  refine wL (OpA.a ?_)
  refine wpL_nil ?_
  exact ⟨(Cov.asg ⟨(congrArg D.b (Eq.symm (andS (andS b3)))), trivial⟩), (.refl _)⟩
  show wpA _ _ _ _ (asg [(4, D.b (((decide (p.from_ ≥ 0)) && (decide (p.from_ < p.to))) && (decide (p.to ≤ (t.words.length : Int)))))]) [(c2, .cells 4 [encPiece p]), (c1, .cells 2 [encText t])]
  refine wpA_ret ?_
  exact ⟨_, (.tmp (d := D.b (((decide (p.from_ ≥ 0)) && (decide (p.from_ < p.to))) && (decide (p.to ≤ (t.words.length : Int))))) rfl .nil), _, (.same rfl .nil), ⟨(((decide (p.from_ ≥ 0)) && (decide (p.from_ < p.to))) && (decide (p.to ≤ (t.words.length : Int)))), rfl, h⟩⟩
theorem tranged_c (t : Text) (p : Piece)  (hp0 : okT t) : Fun false Tryz.prog 47 [encText t, encPiece p] (fun d => d = D.b (rangedF t p)) :=
  Fun.at (enc := fun r => D.b r) (v := rangedF t p) (tranged_w t p  (fun r => r = rangedF t p) (tranged_ok t p _ hp0 rfl))

set_option maxHeartbeats 2000000 in
set_option maxRecDepth 10000 in
theorem tcheck_w (c : Corpus) (t : Text) (least : Int) (a : Attribution)  (Q : Int → Prop) (h : tcheck_vc c t least a Q) : Fun false Tryz.prog 17 [encCorpus c, encText t, D.i least, encAttribution a] (fun d => ∃ r, d = D.i r ∧ Q r) := by
  unfold tcheck_vc at h
  refine Fun.of_body Tryz.func17 rfl Tryz.ntmps17 rfl ?_
  refine wpA_seq ?_
  refine wpA_region ?_
  refine wL (OpA.bx (sz := 4) rfl (by with_reducible conv => lhs; whnf) (.of rfl) (fun c1 _ => ?_))
  refine wL (OpA.bx (sz := 2) rfl (by with_reducible conv => lhs; whnf) (.of rfl) (fun c2 _ => ?_))
  refine wL (OpA.bx (sz := 2) rfl (by with_reducible conv => lhs; whnf) (.of rfl) (fun c3 _ => ?_))
  refine wL (OpA.a ?_)
  refine wpL_nil ?_
  refine wpA_seq ?_
  refine wpA_block ?_
  refine wpA_seq ?_
  obtain ⟨q1, q2, h⟩ := h
  refine wpA_region ?_
  refine wL (OpA.load_whole rfl ti25 rfl rfl (.tail (.tail .head)) rfl ⟨_, rfl⟩ ?_)
  refine wL (OpA.load_whole rfl ti28 rfl rfl (.tail .head) rfl ⟨_, rfl⟩ ?_)
  refine wL (OpA.call rfl rfl rfl en35 (tvalid_c c t q1 q2) ?_)
  rintro _ rfl
  refine wL (OpA.not rfl rfl ?_)
  refine wL (OpA.a ?_)
  refine wpL_nil ?_
  refine wpA_cond rfl (fun b4 => ?_) (fun b4 => ?_)
  have h := h.1 (notT b4)
  refine wpA_seq ?_
  refine wpA_region ?_
  refine wL (OpA.a ?_)
  refine wpL_nil ?_
  refine wpA_ret ?_
  exact ⟨_, (.tmp (d := D.i 1) rfl .nil), _, (.same rfl .nil), ⟨1, rfl, h⟩⟩
  have h := h.2 (notF b4)
  refine wpA_seq ?_
  refine wpA_mid (asg [(2, D.i least), (4, .ptr c1 4 0 0), (5, .ptr c2 2 0 0), (7, .ptr c3 2 0 0), (8, D.i 0), (18, D.b ((decide (least < 1)) || (decide (least > 8192))))]) [(c3, .cells 2 [encAttribution a]), (c2, .cells 2 [encText t]), (c1, .cells 4 [encCorpus c])] ?_ ?_
  refine wpA_region ?_
  refine wL (OpA.m ?_)
  refine wL (OpA.lss rfl rfl rfl ?_)
  refine wL (OpA.m ?_)
  refine wpL_split (s := 21) rfl (fun b16 => ?_) (fun b16 => ?_)
  iterate 2 refine wS ?_
  refine wL (OpA.p ?_)
  refine wL (OpA.a ?_)
  refine wpL_nil ?_
  exact ⟨(Cov.asg ⟨rfl, rfl, rfl, rfl, rfl, (congrArg D.b (Eq.symm (orS b16))), trivial⟩), (.refl _)⟩
  refine wG (OpA.m ?_)
  refine wG (OpA.gtr rfl rfl rfl ?_)
  refine wL (OpA.p ?_)
  refine wL (OpA.a ?_)
  refine wpL_nil ?_
  exact ⟨(Cov.asg ⟨rfl, rfl, rfl, rfl, rfl, (congrArg D.b (Eq.symm (orN b16 rfl))), trivial⟩), (.refl _)⟩
  show wpA _ _ _ _ (asg [(2, D.i least), (4, .ptr c1 4 0 0), (5, .ptr c2 2 0 0), (7, .ptr c3 2 0 0), (8, D.i 0), (18, D.b ((decide (least < 1)) || (decide (least > 8192))))]) [(c3, .cells 2 [encAttribution a]), (c2, .cells 2 [encText t]), (c1, .cells 4 [encCorpus c])]
  refine wpA_cond rfl (fun b5 => ?_) (fun b5 => ?_)
  have h := h.1 ((or0 b5).imp (fun hh => (decT hh)) (fun hh => (decT hh)))
  refine wpA_seq ?_
  refine wpA_region ?_
  refine wL (OpA.a ?_)
  refine wpL_nil ?_
  refine wpA_ret ?_
  exact ⟨_, (.tmp (d := D.i 3) rfl .nil), _, (.same rfl .nil), ⟨3, rfl, h⟩⟩
  have h := h.2 ⟨(decF (or1 b5)), (decF (or2 b5))⟩
  refine wpA_seq ?_
  refine wpA_region ?_
  refine wL (OpA.fieldAddr rfl tf33_0 rfl ?_)
  refine wL (OpA.load rfl ti9 rfl .head rfl rfl ?_)
  refine wL (OpA.fieldAddr rfl tf28_0 rfl ?_)
  refine wL (OpA.load rfl ti9 rfl (.tail .head) rfl rfl ?_)
  refine wL (OpA.sneq rfl rfl rfl ?_)
  refine wL (OpA.a ?_)
  refine wpL_nil ?_
  refine wpA_cond rfl (fun b6 => ?_) (fun b6 => ?_)
  have h := h.1 (ndecT b6)
  refine wpA_seq ?_
  refine wpA_region ?_
  refine wL (OpA.a ?_)
  refine wpL_nil ?_
  refine wpA_ret ?_
  exact ⟨_, (.tmp (d := D.i 9) rfl .nil), _, (.same rfl .nil), ⟨9, rfl, h⟩⟩
  have h := h.2 (ndecF b6)
  refine wpA_skip ?_
  refine wpA_seq ?_
  refine wpA_region ?_
  refine wL (OpA.a ?_)
  refine wpL_nil ?_
  iterate 2 refine wpA_seq ?_
  refine wpA_region ?_
  refine wL (OpA.fieldAddr rfl tf33_1 rfl ?_)
  refine wL (OpA.load rfl ti31 rfl .head rfl rfl ?_)
  refine wL (OpA.len rfl rfl rfl rfl ts31.desc (.inl ⟨_, _, rfl, (List.length_map _).symm⟩) ?_)
  refine wL (OpA.m ?_)
  refine wpL_nil ?_
  refine wpA_block ?_
  refine wpA_lfp (S := Int × Int) (G := Unit) () (fun gg ss => asg [(2, D.i least), (4, .ptr c1 4 0 0), (5, .ptr c2 2 0 0), (8, D.i 0), (9, D.i ss.1), (32, (encL 4 encPiece) a.pieces), (33, D.i (a.pieces.length : Int)), (34, D.i ss.2)]) (fun gg ss => [(c3, .cells 2 [encAttribution a]), (c2, .cells 2 [encText t]), (c1, .cells 4 [encCorpus c])]) h (Cov.asg ⟨rfl, rfl, rfl, rfl, rfl, rfl, rfl, rfl, trivial⟩) (.refl _) ?_
  rintro again7 _ ⟨end_, x⟩ h
  have h : tcheck_L1 c t least a Q again7 end_ x := h
  unfold tcheck_L1 at h
  show wpA _ _ _ _ (asg [(2, D.i least), (4, .ptr c1 4 0 0), (5, .ptr c2 2 0 0), (8, D.i 0), (9, D.i end_), (32, (encL 4 encPiece) a.pieces), (33, D.i (a.pieces.length : Int)), (34, D.i x)]) [(c3, .cells 2 [encAttribution a]), (c2, .cells 2 [encText t]), (c1, .cells 4 [encCorpus c])]
  refine wpA_seq ?_
  refine wpA_region ?_
  refine wL (OpA.lss rfl rfl rfl ?_)
  refine wpL_nil ?_
  refine wpA_seq ?_
  refine wpA_cond rfl (fun b8 => ?_) (fun b8 => ?_)
  have h := h.1 (decT b8)
  refine wpA_skip ?_
  refine wpA_seq ?_
  refine wpA_block ?_
  refine wpA_seq ?_
  obtain ⟨q1, h⟩ := h
  refine wpA_region ?_
  refine wL (OpA.iixV (enc := encPiece) rfl ts31 rfl rfl rfl q1 ?_)
  refine wL (OpA.iload_whole rfl ti48 rfl ⟨_, rfl, rfl⟩ ?_)
  refine wL (OpA.alloc (sz := 4) (d := encPiece (Piece.mk 0 0 0 0)) rfl tz48 (fun _ _ => .agg (.cons (.v _) (.cons (.v _) (.cons (.v _) (.cons (.v _) .nil))))) (.of rfl) (fun c9 _ => ?_))
  refine wE (OpA.storeW rfl ti48 rfl (by with_reducible conv => lhs; whnf) (.of rfl) rfl rfl .head ?_)
  refine wpL_nil ?_
  refine wpA_seq ?_
  refine wpA_mid (asg [(2, D.i least), (4, .ptr c1 4 0 0), (5, .ptr c2 2 0 0), (8, D.i 0), (9, D.i end_), (11, .ptr c9 4 0 0), (12, D.b ((decide ((gi a.pieces x).text ≥ 0)) && (decide ((gi a.pieces x).text < (c.texts.length : Int))))), (32, (encL 4 encPiece) a.pieces), (33, D.i (a.pieces.length : Int)), (34, D.i x)]) [(c9, .cells 4 [encPiece (gi a.pieces x)]), (c3, .cells 2 [encAttribution a]), (c2, .cells 2 [encText t]), (c1, .cells 4 [encCorpus c])] ?_ ?_
  refine wpA_region ?_
  refine wL (OpA.fieldAddr rfl tf48_2 rfl ?_)
  refine wL (OpA.load rfl ti3 rfl .head rfl rfl ?_)
  refine wL (OpA.geq rfl rfl rfl ?_)
  refine wL (OpA.m ?_)
  refine wpL_split (s := 41) rfl (fun b15 => ?_) (fun b15 => ?_)
  refine wG (OpA.fieldAddr rfl tf48_2 rfl ?_)
  refine wG (OpA.load rfl ti3 rfl .head rfl rfl ?_)
  refine wG (OpA.fieldAddr rfl tf25_2 rfl ?_)
  refine wG (OpA.load rfl ti22 rfl (.tail (.tail (.tail .head))) rfl rfl ?_)
  refine wG (OpA.len rfl rfl rfl rfl ts22.desc (.inl ⟨_, _, rfl, (List.length_map _).symm⟩) ?_)
  refine wG (OpA.lss rfl rfl rfl ?_)
  refine wL (OpA.p ?_)
  refine wL (OpA.a ?_)
  refine wpL_nil ?_
  exact ⟨(Cov.asg ⟨rfl, rfl, rfl, rfl, rfl, rfl, (congrArg D.b (Eq.symm (andN b15 rfl))), rfl, rfl, rfl, trivial⟩), (.refl _)⟩
  iterate 6 refine wS ?_
  refine wL (OpA.p ?_)
  refine wL (OpA.a ?_)
  refine wpL_nil ?_
  exact ⟨(Cov.asg ⟨rfl, rfl, rfl, rfl, rfl, rfl, (congrArg D.b (Eq.symm (andS b15))), rfl, rfl, rfl, trivial⟩), (.refl _)⟩
  show wpA _ _ _ _ (asg [(2, D.i least), (4, .ptr c1 4 0 0), (5, .ptr c2 2 0 0), (8, D.i 0), (9, D.i end_), (11, .ptr c9 4 0 0), (12, D.b ((decide ((gi a.pieces x).text ≥ 0)) && (decide ((gi a.pieces x).text < (c.texts.length : Int))))), (32, (encL 4 encPiece) a.pieces), (33, D.i (a.pieces.length : Int)), (34, D.i x)]) [(c9, .cells 4 [encPiece (gi a.pieces x)]), (c3, .cells 2 [encAttribution a]), (c2, .cells 2 [encText t]), (c1, .cells 4 [encCorpus c])]
  iterate 2 refine wpA_seq ?_
  obtain ⟨q1, q2, q3, h⟩ := h
  refine wpA_mid (asg [(2, D.i least), (4, .ptr c1 4 0 0), (5, .ptr c2 2 0 0), (8, D.i 0), (9, D.i end_), (11, .ptr c9 4 0 0), (32, (encL 4 encPiece) a.pieces), (33, D.i (a.pieces.length : Int)), (34, D.i x), (85, D.b ((((!(rangedF t (gi a.pieces x))) || (decide ((((gi a.pieces x).to) - ((gi a.pieces x).from_)) < least))) || (!((decide ((gi a.pieces x).text ≥ 0)) && (decide ((gi a.pieces x).text < (c.texts.length : Int)))))) || (!(sameF (lsub t.words ((gi a.pieces x).from_) ((gi a.pieces x).to)) ((gi c.texts ((gi a.pieces x).text)).words) ((gi a.pieces x).at_)))))]) [(c9, .cells 4 [encPiece (gi a.pieces x)]), (c3, .cells 2 [encAttribution a]), (c2, .cells 2 [encText t]), (c1, .cells 4 [encCorpus c])] ?_ ?_
  refine wpA_draw (m := 37) mo (by kernel_rfl) rfl ?_
  refine dL (OpA.load_whole rfl ti28 rfl rfl (.tail (.tail .head)) rfl ⟨_, rfl⟩ ⟨rfl, rfl⟩) ?_
  refine dL (OpA.load_whole rfl ti48 rfl rfl .head rfl ⟨_, rfl⟩ ⟨rfl, rfl⟩) ?_
  refine dL (OpA.call rfl rfl rfl en47 (tranged_c t (gi a.pieces x) q1) (by rintro _ rfl; exact ⟨rfl, rfl⟩)) ?_
  refine dL (OpA.not rfl rfl ⟨rfl, rfl⟩) ?_
  refine dL (OpA.m ⟨rfl, rfl⟩) ?_
  refine DetK_split (s := 53) rfl (fun b12 => ?_) (fun b12 => ?_)
  iterate 7 refine dS ?_
  refine dL (OpA.p ⟨rfl, rfl⟩) ?_
  refine dL (OpA.m ⟨rfl, rfl⟩) ?_
  iterate 2 refine dS ?_
  refine dL (OpA.p ⟨rfl, rfl⟩) ?_
  refine dL (OpA.m ⟨rfl, rfl⟩) ?_
  iterate 18 refine dS ?_
  refine dL (OpA.p ⟨rfl, rfl⟩) ?_
  refine DetK.nil ?_
  refine wpL_nil ?_
  exact ⟨(Cov.asg ⟨rfl, rfl, rfl, rfl, rfl, rfl, rfl, rfl, rfl, (congrArg D.b (Eq.symm (orS (orS (orS b12))))), trivial⟩), (.refl _)⟩
  refine dG (OpA.fieldAddr rfl tf48_1 rfl ⟨rfl, rfl⟩) ?_
  refine dG (OpA.load rfl ti3 rfl .head rfl rfl ⟨rfl, rfl⟩) ?_
  refine dG (OpA.fieldAddr rfl tf48_0 rfl ⟨rfl, rfl⟩) ?_
  refine dG (OpA.load rfl ti3 rfl .head rfl rfl ⟨rfl, rfl⟩) ?_
  refine dG (OpA.subi rfl rfl rfl (q2 (notF b12)) ⟨rfl, rfl⟩) ?_
  refine dG (OpA.m ⟨rfl, rfl⟩) ?_
  refine dG (OpA.lss rfl rfl rfl ⟨rfl, rfl⟩) ?_
  refine dL (OpA.p ⟨rfl, rfl⟩) ?_
  refine dL (OpA.m ⟨rfl, rfl⟩) ?_
  refine DetK_split (s := 62) rfl (fun b13 => ?_) (fun b13 => ?_)
  iterate 2 refine dS ?_
  refine dL (OpA.p ⟨rfl, rfl⟩) ?_
  refine dL (OpA.m ⟨rfl, rfl⟩) ?_
  iterate 18 refine dS ?_
  refine dL (OpA.p ⟨rfl, rfl⟩) ?_
  refine DetK.nil ?_
  refine wpL_nil ?_
  exact ⟨(Cov.asg ⟨rfl, rfl, rfl, rfl, rfl, rfl, rfl, rfl, rfl, (congrArg D.b (Eq.symm (orS (orS (orN b12 b13))))), trivial⟩), (.refl _)⟩
  refine dG (OpA.m ⟨rfl, rfl⟩) ?_
  refine dG (OpA.not rfl rfl ⟨rfl, rfl⟩) ?_
  refine dL (OpA.p ⟨rfl, rfl⟩) ?_
  refine dL (OpA.m ⟨rfl, rfl⟩) ?_
  refine DetK_split (s := 66) rfl (fun b14 => ?_) (fun b14 => ?_)
  iterate 18 refine dS ?_
  refine dL (OpA.p ⟨rfl, rfl⟩) ?_
  refine DetK.nil ?_
  refine wpL_nil ?_
  exact ⟨(Cov.asg ⟨rfl, rfl, rfl, rfl, rfl, rfl, rfl, rfl, rfl, (congrArg D.b (Eq.symm (orS (orN (orN b12 b13) b14)))), trivial⟩), (.refl _)⟩
  refine dG (OpA.fieldAddr rfl tf28_1 rfl ⟨rfl, rfl⟩) ?_
  refine dG (OpA.load rfl ti26 rfl (.tail (.tail .head)) rfl rfl ⟨rfl, rfl⟩) ?_
  refine dG (OpA.fieldAddr rfl tf48_0 rfl ⟨rfl, rfl⟩) ?_
  refine dG (OpA.load rfl ti3 rfl .head rfl rfl ⟨rfl, rfl⟩) ?_
  refine dG (OpA.fieldAddr rfl tf48_1 rfl ⟨rfl, rfl⟩) ?_
  refine dG (OpA.load rfl ti3 rfl .head rfl rfl ⟨rfl, rfl⟩) ?_
  refine dG (OpA.isliceV (enc := encLex) rfl ts26 rfl (.some rfl) (.some rfl) (q3 ⟨⟨(notF b12), (decF b13)⟩, ⟨(decT (and1 (notF b14))), (decT (and2 (notF b14)))⟩⟩).1 ⟨rfl, rfl⟩) ?_
  refine dG (OpA.fieldAddr rfl tf25_2 rfl ⟨rfl, rfl⟩) ?_
  refine dG (OpA.load rfl ti22 rfl (.tail (.tail (.tail .head))) rfl rfl ⟨rfl, rfl⟩) ?_
  refine dG (OpA.fieldAddr rfl tf48_2 rfl ⟨rfl, rfl⟩) ?_
  refine dG (OpA.load rfl ti3 rfl .head rfl rfl ⟨rfl, rfl⟩) ?_
  refine dG (OpA.iixV (enc := encText) rfl ts22 rfl rfl rfl (q3 ⟨⟨(notF b12), (decF b13)⟩, ⟨(decT (and1 (notF b14))), (decT (and2 (notF b14)))⟩⟩).2.1 ⟨rfl, rfl⟩) ?_
  refine dG (OpA.ifieldAddr rfl tf28_1 rfl ⟨rfl, rfl⟩) ?_
  refine dG (OpA.iload rfl ti26 rfl rfl ⟨rfl, rfl⟩) ?_
  refine dG (OpA.fieldAddr rfl tf48_3 rfl ⟨rfl, rfl⟩) ?_
  refine dG (OpA.load rfl ti3 rfl .head rfl rfl ⟨rfl, rfl⟩) ?_
  refine dG (OpA.call rfl rfl rfl en48 (tsame_c (lsub t.words ((gi a.pieces x).from_) ((gi a.pieces x).to)) ((gi c.texts ((gi a.pieces x).text)).words) ((gi a.pieces x).at_) (q3 ⟨⟨(notF b12), (decF b13)⟩, ⟨(decT (and1 (notF b14))), (decT (and2 (notF b14)))⟩⟩).2.2.1 (q3 ⟨⟨(notF b12), (decF b13)⟩, ⟨(decT (and1 (notF b14))), (decT (and2 (notF b14)))⟩⟩).2.2.2) (by rintro _ rfl; exact ⟨rfl, rfl⟩)) ?_
  refine dG (OpA.not rfl rfl ⟨rfl, rfl⟩) ?_
  refine dL (OpA.p ⟨rfl, rfl⟩) ?_
  refine DetK.nil ?_
  refine wpL_nil ?_
  exact ⟨(Cov.asg ⟨rfl, rfl, rfl, rfl, rfl, rfl, rfl, rfl, rfl, (congrArg D.b (Eq.symm (orN (orN (orN b12 b13) b14) rfl))), trivial⟩), (.refl _)⟩
  show wpA _ _ _ _ (asg [(2, D.i least), (4, .ptr c1 4 0 0), (5, .ptr c2 2 0 0), (8, D.i 0), (9, D.i end_), (11, .ptr c9 4 0 0), (32, (encL 4 encPiece) a.pieces), (33, D.i (a.pieces.length : Int)), (34, D.i x), (85, D.b ((((!(rangedF t (gi a.pieces x))) || (decide ((((gi a.pieces x).to) - ((gi a.pieces x).from_)) < least))) || (!((decide ((gi a.pieces x).text ≥ 0)) && (decide ((gi a.pieces x).text < (c.texts.length : Int)))))) || (!(sameF (lsub t.words ((gi a.pieces x).from_) ((gi a.pieces x).to)) ((gi c.texts ((gi a.pieces x).text)).words) ((gi a.pieces x).at_)))))]) [(c9, .cells 4 [encPiece (gi a.pieces x)]), (c3, .cells 2 [encAttribution a]), (c2, .cells 2 [encText t]), (c1, .cells 4 [encCorpus c])]
  refine wpA_cond rfl (fun b10 => ?_) (fun b10 => ?_)
  have h := h.1 ((or0 b10).imp (fun hh => ((or0 hh).imp (fun hh => ((or0 hh).imp (fun hh => (notT hh)) (fun hh => (decT hh)))) (fun hh => ((and0 (notT hh)).imp (fun hh => (decF hh)) (fun hh => (decF hh)))))) (fun hh => (notT hh)))
  refine wpA_seq ?_
  refine wpA_region ?_
  refine wL (OpA.a ?_)
  refine wpL_nil ?_
  refine wpA_ret ?_
  exact ⟨_, (.tmp (d := D.i 18) rfl .nil), _, (.same rfl .nil), ⟨18, rfl, h⟩⟩
  have h := h.2 ⟨⟨⟨(notF (or1 (or1 (or1 b10)))), (decF (or2 (or1 (or1 b10))))⟩, ⟨(decT (and1 (notF (or2 (or1 b10))))), (decT (and2 (notF (or2 (or1 b10)))))⟩⟩, (notF (or2 b10))⟩
  refine wpA_skip ?_
  iterate 2 refine wpA_seq ?_
  refine wpA_region ?_
  refine wL (OpA.fieldAddr rfl tf48_0 rfl ?_)
  refine wL (OpA.load rfl ti3 rfl .head rfl rfl ?_)
  refine wL (OpA.m ?_)
  refine wL (OpA.lss rfl rfl rfl ?_)
  refine wpL_nil ?_
  refine wpA_cond rfl (fun b11 => ?_) (fun b11 => ?_)
  have h := h.1 (decT b11)
  refine wpA_seq ?_
  refine wpA_region ?_
  refine wL (OpA.a ?_)
  refine wpL_nil ?_
  refine wpA_ret ?_
  exact ⟨_, (.tmp (d := D.i 5) rfl .nil), _, (.same rfl .nil), ⟨5, rfl, h⟩⟩
  have h := h.2 (decF b11)
  refine wpA_skip ?_
  refine wpA_region ?_
  refine wL (OpA.fieldAddr rfl tf48_1 rfl ?_)
  refine wL (OpA.load rfl ti3 rfl .head rfl rfl ?_)
  refine wL (OpA.a ?_)
  refine wpL_nil ?_
  obtain ⟨q1, h⟩ := h
  refine wpA_region ?_
  refine wL (OpA.addi rfl rfl rfl q1 ?_)
  refine wL (OpA.m ?_)
  refine wpL_nil ?_
  exact ⟨(), ((gi a.pieces x).to, (x + 1)), h, (Cov.asg ⟨rfl, rfl, rfl, rfl, rfl, rfl, rfl, rfl, trivial⟩), (.cons _ (.refl _))⟩
  have h := h.2 (decF b8)
  refine wpA_exit ?_
  refine wpA_seq ?_
  refine wpA_region ?_
  refine wL (OpA.a ?_)
  refine wpL_nil ?_
  refine wpA_ret ?_
  exact ⟨_, (.tmp (d := D.i 0) rfl .nil), _, (.same rfl .nil), ⟨0, rfl, h⟩⟩
theorem tcheck_c (c : Corpus) (t : Text) (least : Int) (a : Attribution)  (hp0 : okC c) (hp1 : okT t) (hp2 : okA a) : Fun false Tryz.prog 17 [encCorpus c, encText t, D.i least, encAttribution a] (fun d => d = D.i (checkA c t least a)) :=
  Fun.at (enc := fun r => D.i r) (v := checkA c t least a) (tcheck_w c t least a  (fun r => r = checkA c t least a) (tcheck_ok c t least a _ hp0 hp1 hp2 rfl))

set_option maxHeartbeats 2000000 in
set_option maxRecDepth 10000 in
theorem tshare_w (c : Corpus) (t : Text) (a : Attribution)  (Q : (List Int) × Int → Prop) (h : tshare_vc c t a Q) : Fun false Tryz.prog 21 [encCorpus c, encText t, encAttribution a] (fun d => ∃ r, d = .tup [(encL 1 D.i) (r.1), D.i (r.2)] ∧ Q r) := by
  unfold tshare_vc at h
  refine Fun.of_body Tryz.func21 rfl Tryz.ntmps21 rfl ?_
  refine wpA_seq ?_
  refine wpA_region ?_
  refine wL (OpA.bx (sz := 4) rfl (by with_reducible conv => lhs; whnf) (.of rfl) (fun c1 _ => ?_))
  refine wL (OpA.bx (sz := 2) rfl (by with_reducible conv => lhs; whnf) (.of rfl) (fun c2 _ => ?_))
  refine wL (OpA.bx (sz := 2) rfl (by with_reducible conv => lhs; whnf) (.of rfl) (fun c3 _ => ?_))
  iterate 2 refine wL (OpA.a ?_)
  refine wpL_nil ?_
  iterate 2 refine wpA_seq ?_
  obtain ⟨q1, q2, h⟩ := h
  refine wpA_region ?_
  refine wL (OpA.load_whole rfl ti25 rfl rfl (.tail (.tail .head)) rfl ⟨_, rfl⟩ ?_)
  refine wL (OpA.load_whole rfl ti28 rfl rfl (.tail .head) rfl ⟨_, rfl⟩ ?_)
  refine wL (OpA.call rfl rfl rfl en35 (tvalid_c c t q1 q2) ?_)
  rintro _ rfl
  refine wL (OpA.not rfl rfl ?_)
  refine wpL_nil ?_
  refine wpA_cond rfl (fun b4 => ?_) (fun b4 => ?_)
  have h := h.1 (notT b4)
  refine wpA_seq ?_
  refine wpA_region ?_
  iterate 2 refine wL (OpA.a ?_)
  refine wpL_nil ?_
  refine wpA_ret ?_
  exact ⟨_, (.tmp (d := .v (.slice none 0 0)) rfl (.tmp (d := D.i 1) rfl .nil)), _, (.tup (.nilv (sz := 1) (.same rfl .nil)) .nil), ⟨([], 1), rfl, h⟩⟩
  have h := h.2 (notF b4)
  refine wpA_skip ?_
  iterate 2 refine wpA_seq ?_
  obtain ⟨q1, q2, q3, h⟩ := h
  refine wpA_region ?_
  refine wL (OpA.load_whole rfl ti25 rfl rfl (.tail (.tail .head)) rfl ⟨_, rfl⟩ ?_)
  refine wL (OpA.load_whole rfl ti28 rfl rfl (.tail .head) rfl ⟨_, rfl⟩ ?_)
  refine wL (OpA.load_whole rfl ti33 rfl rfl .head rfl ⟨_, rfl⟩ ?_)
  refine wL (OpA.call rfl rfl rfl en17 (tcheck_c c t 1 a q1 q2 q3) ?_)
  rintro _ rfl
  refine wL (OpA.neq rfl rfl rfl ?_)
  refine wpL_nil ?_
  refine wpA_cond rfl (fun b5 => ?_) (fun b5 => ?_)
  have h := h.1 (bneT b5)
  refine wpA_seq ?_
  refine wpA_region ?_
  iterate 2 refine wL (OpA.a ?_)
  refine wpL_nil ?_
  refine wpA_ret ?_
  exact ⟨_, (.tmp (d := .v (.slice none 0 0)) rfl (.tmp (d := D.i 18) rfl .nil)), _, (.tup (.nilv (sz := 1) (.same rfl .nil)) .nil), ⟨([], 18), rfl, h⟩⟩
  have h := h.2 (bneF b5)
  refine wpA_skip ?_
  refine wpA_seq ?_
  obtain ⟨q1, h⟩ := h
  refine wpA_region ?_
  refine wL (OpA.fieldAddr rfl tf25_2 rfl ?_)
  refine wL (OpA.load rfl ti22 rfl (.tail (.tail .head)) rfl rfl ?_)
  refine wL (OpA.len rfl rfl rfl rfl ts22.desc (.inl ⟨_, _, rfl, (List.length_map _).symm⟩) ?_)
  refine wL (OpA.makeSliceV (enc := D.i) (v0 := 0) rfl ts52 rfl rfl tz3 (fun _ _ => .v _) (.of rfl) q1 (fun c6 => ?_))
  refine wL (OpA.a ?_)
  refine wpL_nil ?_
  iterate 2 refine wpA_seq ?_
  refine wpA_region ?_
  refine wL (OpA.fieldAddr rfl tf33_1 rfl ?_)
  refine wL (OpA.load rfl ti31 rfl (.tail .head) rfl rfl ?_)
  refine wL (OpA.len rfl rfl rfl rfl ts31.desc (.inl ⟨_, _, rfl, (List.length_map _).symm⟩) ?_)
  refine wL (OpA.m ?_)
  refine wpL_nil ?_
  refine wpA_block ?_
  refine wpA_lfp (S := (List Int) × Int) (G := Nat × List D × List D) (c6, ([] : List D), ([] : List D)) (fun gg ss => asg [(6, .v (.slice none 0 0)), (7, D.i 0), (8, .own gg.1 1 gg.2.1.length ss.1.length), (25, (encL 4 encPiece) a.pieces), (26, D.i (a.pieces.length : Int)), (27, D.i ss.2)]) (fun gg ss => [(gg.1, .cells 1 (winL D.i gg.2.1 ss.1 gg.2.2)), (c3, .cells 2 [encAttribution a]), (c2, .cells 2 [encText t]), (c1, .cells 4 [encCorpus c])]) h (Cov.asg ⟨rfl, rfl, rfl, rfl, rfl, rfl, trivial⟩) (.refl _) ?_
  rintro again7 ⟨cb23, pre23, post23⟩ ⟨out, x⟩ h
  have h : tshare_L1 a Q again7 out x := h
  unfold tshare_L1 at h
  show wpA _ _ _ _ (asg [(6, .v (.slice none 0 0)), (7, D.i 0), (8, .own cb23 1 pre23.length out.length), (25, (encL 4 encPiece) a.pieces), (26, D.i (a.pieces.length : Int)), (27, D.i x)]) [(cb23, .cells 1 (winL D.i pre23 out post23)), (c3, .cells 2 [encAttribution a]), (c2, .cells 2 [encText t]), (c1, .cells 4 [encCorpus c])]
  refine wpA_seq ?_
  refine wpA_region ?_
  refine wL (OpA.lss rfl rfl rfl ?_)
  refine wpL_nil ?_
  refine wpA_seq ?_
  refine wpA_cond rfl (fun b8 => ?_) (fun b8 => ?_)
  have h := h.1 (decT b8)
  refine wpA_skip ?_
  refine wpA_seq ?_
  refine wpA_block ?_
  refine wpA_seq ?_
  obtain ⟨q1, h⟩ := h
  refine wpA_region ?_
  refine wL (OpA.iixV (enc := encPiece) rfl ts31 rfl rfl rfl q1 ?_)
  refine wL (OpA.iload_whole rfl ti48 rfl ⟨_, rfl, rfl⟩ ?_)
  refine wL (OpA.alloc (sz := 4) (d := encPiece (Piece.mk 0 0 0 0)) rfl tz48 (fun _ _ => .agg (.cons (.v _) (.cons (.v _) (.cons (.v _) (.cons (.v _) .nil))))) (.of rfl) (fun c9 _ => ?_))
  refine wE (OpA.storeW rfl ti48 rfl (by with_reducible conv => lhs; whnf) (.of rfl) rfl rfl .head ?_)
  refine wpL_nil ?_
  obtain ⟨q1, q2, q3, h⟩ := h
  refine wpA_draw (m := 12) mo (by kernel_rfl) rfl ?_
  refine dL (OpA.m ⟨rfl, rfl⟩) ?_
  refine dL (OpA.fieldAddr rfl tf48_2 rfl ⟨rfl, rfl⟩) ?_
  refine dL (OpA.load rfl ti3 rfl .head rfl rfl ⟨rfl, rfl⟩) ?_
  refine dL (OpA.ixV rfl ts52 rfl rfl q1 ⟨rfl, rfl⟩) ?_
  refine dL (OpA.load rfl ti3 rfl (.tail .head) (getV (enc := D.i) q1) rfl ⟨rfl, rfl⟩) ?_
  refine dL (OpA.fieldAddr rfl tf48_1 rfl ⟨rfl, rfl⟩) ?_
  refine dL (OpA.load rfl ti3 rfl .head rfl rfl ⟨rfl, rfl⟩) ?_
  refine dL (OpA.fieldAddr rfl tf48_0 rfl ⟨rfl, rfl⟩) ?_
  refine dL (OpA.load rfl ti3 rfl .head rfl rfl ⟨rfl, rfl⟩) ?_
  refine dL (OpA.subi rfl rfl rfl q2 ⟨rfl, rfl⟩) ?_
  refine dL (OpA.addi rfl rfl rfl q3 ⟨rfl, rfl⟩) ?_
  refine dL (OpA.ixV rfl ts52 rfl rfl q1 ⟨rfl, rfl⟩) ?_
  refine DetK.nil ?_
  refine wE (OpA.storeV (enc := D.i) (v := ((gi out ((gi a.pieces x).text)) + (((gi a.pieces x).to) - ((gi a.pieces x).from_)))) rfl ti3 rfl rfl (.of rfl) rfl q1 (.tail .head) ?_)
  refine wpL_nil ?_
  obtain ⟨q1, h⟩ := h
  refine wpA_region ?_
  refine wL (OpA.addi rfl rfl rfl q1 ?_)
  refine wL (OpA.m ?_)
  refine wpL_nil ?_
  exact ⟨(cb23, pre23, post23), ((si out ((gi a.pieces x).text) ((gi out ((gi a.pieces x).text)) + (((gi a.pieces x).to) - ((gi a.pieces x).from_)))), (x + 1)), h, (Cov.asg ⟨rfl, rfl, (congrArg (D.own cb23 1 pre23.length) (by simp only [si_length, gcopy_length, sortF_len postCmp_swo, sortF_len spanCmp_swo] <;> rfl)), rfl, rfl, rfl, trivial⟩), (.cons _ (.refl _))⟩
  have h := h.2 (decF b8)
  refine wpA_exit ?_
  refine wpA_seq ?_
  refine wpA_region ?_
  refine wL (OpA.m ?_)
  iterate 2 refine wL (OpA.a ?_)
  refine wpL_nil ?_
  refine wpA_ret ?_
  exact ⟨_, (.tmp (d := .own cb23 1 pre23.length out.length) rfl (.tmp (d := D.i 0) rfl .nil)), _, (.tup (.win .head (by intro hf; cases hf) (.same rfl .nil)) .nil), ⟨(out, 0), rfl, h⟩⟩
theorem tshare_c (c : Corpus) (t : Text) (a : Attribution)  (hp0 : okC c) (hp1 : okT t) (hp2 : okA a) : Fun false Tryz.prog 21 [encCorpus c, encText t, encAttribution a] (fun d => d = .tup [(encL 1 D.i) ((shareF c t a).1), D.i ((shareF c t a).2)]) :=
  Fun.at (enc := fun r => .tup [(encL 1 D.i) (r.1), D.i (r.2)]) (v := shareF c t a) (tshare_w c t a  (fun r => r = shareF c t a) (tshare_ok c t a _ hp0 hp1 hp2 rfl))

set_option maxHeartbeats 2000000 in
set_option maxRecDepth 10000 in
theorem trest_w (to : Int) (t : Text) (e : Int) (c_e : Nat) (l : (List Line)) (c_l d_l : Nat) (pre_l post_l : List D)  (Q : (List Line) → Prop) (h : trest_vc to t e l Q) : CallH Tryz.prog 53 [D.i to, .iptr (encText t) 0, .ptr c_e 1 0 0, .ptr c_l 1 0 0] [(c_e, .cells 1 [D.i e]), (c_l, .cells 1 [.own d_l 2 pre_l.length l.length]), (d_l, .cells 2 (winL encLine pre_l l post_l))] (fun d h' => ∃ (r : (List Line)) (g : Nat × List D × List D), d = .tup [] ∧ h' = [(c_l, .cells 1 [.own g.1 2 g.2.1.length r.length]), (g.1, .cells 2 (winL encLine g.2.1 r g.2.2)), (c_e, .cells 1 [D.i e])] ∧ Q r) := by
  unfold trest_vc at h
  refine CallH.of_bodyP Tryz.func53 rfl Tryz.ntmps53 rfl ?_
  refine wpA_seq ?_
  obtain ⟨q1, h⟩ := h
  refine wpA_region ?_
  refine wL (OpA.ifieldAddr rfl tf28_1 rfl ?_)
  refine wL (OpA.iload rfl ti26 rfl rfl ?_)
  refine wL (OpA.load rfl ti3 rfl .head rfl rfl ?_)
  refine wL (OpA.m ?_)
  refine wL (OpA.isliceV (enc := encLex) rfl ts26 rfl (.some rfl) (.some rfl) q1 ?_)
  refine wL (OpA.len rfl rfl rfl rfl ts26.desc (.inl ⟨_, _, rfl, (List.length_map _).symm⟩) ?_)
  refine wL (OpA.m ?_)
  refine wpL_nil ?_
  refine wpA_block ?_
  refine wpA_lfp (S := (List Line) × Int) (G := Nat × List D × List D) (d_l, pre_l, post_l) (fun gg ss => asg [(1, .iptr (encText t) 0), (3, .ptr c_l 1 0 0), (11, (encL 2 encLex) (lsub t.words e to)), (12, D.i ((lsub t.words e to).length : Int)), (13, D.i ss.2)]) (fun gg ss => [(c_e, .cells 1 [D.i e]), (c_l, .cells 1 [.own gg.1 2 gg.2.1.length ss.1.length]), (gg.1, .cells 2 (winL encLine gg.2.1 ss.1 gg.2.2))]) h (Cov.asg ⟨rfl, rfl, rfl, rfl, rfl, trivial⟩) (.refl _) ?_
  rintro again1 ⟨cbp3s, prep3s, postp3s⟩ ⟨xs, x⟩ h
  have h : trest_L1 to t e Q again1 xs x := h
  unfold trest_L1 at h
  show wpA _ _ _ _ (asg [(1, .iptr (encText t) 0), (3, .ptr c_l 1 0 0), (11, (encL 2 encLex) (lsub t.words e to)), (12, D.i ((lsub t.words e to).length : Int)), (13, D.i x)]) [(c_e, .cells 1 [D.i e]), (c_l, .cells 1 [.own cbp3s 2 prep3s.length xs.length]), (cbp3s, .cells 2 (winL encLine prep3s xs postp3s))]
  refine wpA_seq ?_
  refine wpA_region ?_
  refine wL (OpA.lss rfl rfl rfl ?_)
  refine wpL_nil ?_
  refine wpA_seq ?_
  refine wpA_cond rfl (fun b2 => ?_) (fun b2 => ?_)
  have h := h.1 (decT b2)
  refine wpA_skip ?_
  refine wpA_seq ?_
  refine wpA_block ?_
  refine wpA_seq ?_
  obtain ⟨q1, h⟩ := h
  refine wpA_region ?_
  refine wL (OpA.iixV (enc := encLex) rfl ts26 rfl rfl rfl q1 ?_)
  refine wL (OpA.iload_whole rfl ti50 rfl ⟨_, rfl, rfl⟩ ?_)
  refine wL (OpA.alloc (sz := 2) (d := encLex (Lexeme.mk ByteArray.empty 0)) rfl tz50 (fun _ _ => .agg (.cons (.v _) (.cons (.v _) .nil))) (.of rfl) (fun c3 _ => ?_))
  refine wE (OpA.storeW rfl ti50 rfl (by with_reducible conv => lhs; whnf) (.of rfl) rfl rfl .head ?_)
  refine wpL_nil ?_
  obtain ⟨q1, h⟩ := h
  refine wpA_region ?_
  refine wL (OpA.load rfl ti104 rfl (.tail (.tail .head)) rfl rfl ?_)
  refine wL (OpA.ifieldAddr rfl tf28_0 rfl ?_)
  refine wL (OpA.iload rfl ti9 rfl rfl ?_)
  refine wL (OpA.fieldAddr rfl tf50_1 rfl ?_)
  refine wL (OpA.load rfl ti3 rfl .head rfl rfl ?_)
  refine wL (OpA.buildO (zs := [.v (.string ⟨#[]⟩), .v (.int .i64 0)]) rfl tp68 tz68 (fun _ _ => (.cons (.v _) (.cons (.v _) .nil))) (.cons (.of (sz := 1) rfl) (.cons (.of (sz := 1) rfl) .nil)) rfl ?_)
  refine wL (OpA.ibuildSliceO rfl ts104 rfl (.cons (.of (sz := 2) rfl) .nil) (by decide) ?_)
  refine wL (OpA.appendW (enc := encLine) rfl rfl rfl rfl ts104 rfl (fun _ _ => (.tail (.tail (.tail .head)))) (.list (ys := ([(Line.mk t.path ((gi (lsub t.words e to) x).line))] : List Line))) q1 (fun c4 pre5 => ?_))
  refine wE (OpA.storeW rfl ti104 rfl (by with_reducible conv => lhs; whnf) (.of rfl) rfl rfl (.tail (.tail .head)) ?_)
  refine wpL_nil ?_
  obtain ⟨q1, h⟩ := h
  refine wpA_region ?_
  refine wL (OpA.addi rfl rfl rfl q1 ?_)
  refine wL (OpA.m ?_)
  refine wpL_nil ?_
  exact ⟨(c4, pre5, ([] : List D)), ((xs ++ ([(Line.mk t.path ((gi (lsub t.words e to) x).line))] : List Line)), (x + 1)), h, (Cov.asg ⟨rfl, rfl, rfl, rfl, rfl, trivial⟩), (.cons _ (.refl _))⟩
  have h := h.2 (decF b2)
  refine wpA_exit ?_
  exact ⟨_, .nil, [(c_l, .cells 1 [.own cbp3s 2 prep3s.length xs.length]), (cbp3s, .cells 2 (winL encLine prep3s xs postp3s)), (c_e, .cells 1 [D.i e])], [(c_l, .cells 1 [.own cbp3s 2 prep3s.length xs.length]), (cbp3s, .cells 2 (winL encLine prep3s xs postp3s)), (c_e, .cells 1 [D.i e])], (pull1.trans (.cons _ pull1)), (.refl _), xs, (cbp3s, prep3s, postp3s), rfl, rfl, h⟩
theorem trest_c (to : Int) (t : Text) (e : Int) (c_e : Nat) (l : (List Line)) (c_l d_l : Nat) (pre_l post_l : List D)  (hp0 : inS e to t.words.length) (hp1 : l.length + t.words.length ≤ 1000000) : CallH Tryz.prog 53 [D.i to, .iptr (encText t) 0, .ptr c_e 1 0 0, .ptr c_l 1 0 0] [(c_e, .cells 1 [D.i e]), (c_l, .cells 1 [.own d_l 2 pre_l.length l.length]), (d_l, .cells 2 (winL encLine pre_l l post_l))] (fun d h' => ∃ (g : Nat × List D × List D), d = .tup [] ∧ h' = [(c_l, .cells 1 [.own g.1 2 g.2.1.length (l ++ linesW t (lsub t.words e to)).length]), (g.1, .cells 2 (winL encLine g.2.1 (l ++ linesW t (lsub t.words e to)) g.2.2)), (c_e, .cells 1 [D.i e])]) :=
  (trest_w to t e c_e l c_l d_l pre_l post_l  (fun r => r = (l ++ linesW t (lsub t.words e to))) (trest_ok to t e l _ hp0 hp1 rfl)).mono (by rintro d h' ⟨r, g, hd, hh, rfl⟩; exact ⟨g, hd, hh⟩)

set_option maxHeartbeats 2000000 in
set_option maxRecDepth 10000 in
theorem tunknown_w (t : Text) (a : Attribution)  (Q : (List Span) × Int → Prop) (h : tunknown_vc t a Q) : Fun false Tryz.prog 23 [encText t, encAttribution a] (fun d => ∃ r, d = .tup [(encL 3 encSpan) (r.1), D.i (r.2)] ∧ Q r) := by
  unfold tunknown_vc at h
  refine Fun.of_body Tryz.func23 rfl Tryz.ntmps23 rfl ?_
  refine wpA_seq ?_
  refine wpA_region ?_
  refine wL (OpA.bx (sz := 2) rfl (by with_reducible conv => lhs; whnf) (.of rfl) (fun c1 _ => ?_))
  refine wL (OpA.bx (sz := 2) rfl (by with_reducible conv => lhs; whnf) (.of rfl) (fun c2 _ => ?_))
  refine wL (OpA.asnN (T := Span) (enc := encSpan) (sz := 3) rfl rfl ?_)
  refine wL (OpA.a ?_)
  refine wpL_nil ?_
  refine wpA_seq ?_
  refine wpA_block ?_
  refine wpA_seq ?_
  refine wpA_freeze (s := 2) (d := .ptr c1 2 0 0) (d' := .iptr (encText t) 0) (.swap _ _ _) rfl (.ptrp rfl .head rfl .nil) ?_
  obtain ⟨q1, h⟩ := h
  refine wpA_region ?_
  refine wL (OpA.iload_whole rfl ti28 rfl ⟨_, rfl, rfl⟩ ?_)
  refine wL (OpA.call rfl rfl rfl en50 (nvalid_c t q1) ?_)
  rintro _ rfl
  refine wL (OpA.not rfl rfl ?_)
  refine wL (OpA.a ?_)
  refine wpL_nil ?_
  refine wpA_cond rfl (fun b3 => ?_) (fun b3 => ?_)
  have h := h.1 (notT b3)
  refine wpA_seq ?_
  refine wpA_region ?_
  refine wL (OpA.asnN (T := Span) (enc := encSpan) (sz := 3) rfl rfl ?_)
  refine wL (OpA.a ?_)
  refine wpL_nil ?_
  refine wpA_ret ?_
  exact ⟨_, (.tmp (d := (encL 3 encSpan) ([] : List Span)) rfl (.tmp (d := D.i 1) rfl .nil)), _, (.tup (.same rfl (.same rfl .nil)) .nil), ⟨(([] : List Span), 1), rfl, h⟩⟩
  have h := h.2 (notF b3)
  refine wpA_seq ?_
  refine wpA_region ?_
  refine wL (OpA.fieldAddr rfl tf33_0 rfl ?_)
  refine wL (OpA.load rfl ti9 rfl .head rfl rfl ?_)
  refine wL (OpA.ifieldAddr rfl tf28_0 rfl ?_)
  refine wL (OpA.iload rfl ti9 rfl rfl ?_)
  refine wL (OpA.sneq rfl rfl rfl ?_)
  refine wL (OpA.a ?_)
  refine wpL_nil ?_
  refine wpA_cond rfl (fun b4 => ?_) (fun b4 => ?_)
  have h := h.1 (ndecT b4)
  refine wpA_seq ?_
  refine wpA_region ?_
  refine wL (OpA.asnN (T := Span) (enc := encSpan) (sz := 3) rfl rfl ?_)
  refine wL (OpA.a ?_)
  refine wpL_nil ?_
  refine wpA_ret ?_
  exact ⟨_, (.tmp (d := (encL 3 encSpan) ([] : List Span)) rfl (.tmp (d := D.i 9) rfl .nil)), _, (.tup (.same rfl (.same rfl .nil)) .nil), ⟨(([] : List Span), 9), rfl, h⟩⟩
  have h := h.2 (ndecF b4)
  refine wpA_skip ?_
  refine wpA_seq ?_
  refine wpA_region ?_
  refine wL (OpA.alloc (sz := 1) (d := .v (.slice none 0 0)) rfl tz104 (fun _ _ => .v _) (.of rfl) (fun c5 _ => ?_))
  refine wpL_nil ?_
  refine wpA_seq ?_
  refine wpA_region ?_
  refine wL (OpA.alloc (sz := 1) (d := D.i 0) rfl tz3 (fun _ _ => .v _) (.of rfl) (fun c6 _ => ?_))
  refine wE (OpA.storeW rfl ti3 rfl (by with_reducible conv => lhs; whnf) (.of rfl) rfl rfl .head ?_)
  refine wpL_nil ?_
  refine wpA_seq ?_
  refine wpA_region ?_
  refine wL (OpA.makeFunc rfl ?_)
  refine wL (OpA.a ?_)
  refine wpL_nil ?_
  iterate 2 refine wpA_seq ?_
  refine wpA_region ?_
  refine wL (OpA.fieldAddr rfl tf33_1 rfl ?_)
  refine wL (OpA.load rfl ti31 rfl (.tail (.tail .head)) rfl rfl ?_)
  refine wL (OpA.len rfl rfl rfl rfl ts31.desc (.inl ⟨_, _, rfl, (List.length_map _).symm⟩) ?_)
  refine wL (OpA.m ?_)
  refine wpL_nil ?_
  refine wpA_block ?_
  refine wpA_ghostM (c := c5) (sz1 := 1) (sz := 2) (es' := fun g7 => [.own g7 2 ([] : List D).length ([] : List Line).length]) (fun _ => (.tail .head)) (fun _ => (.turn .nil)) (fun _ => rfl) (fun _ => by rintro d (_ | ⟨_, hd⟩); exact .of rfl; cases hd) (fun g7 => ?_)
  refine wpA_lfp (S := (List Line) × Int × Int) (G := Nat × List D × List D) (g7, ([] : List D), ([] : List D)) (fun gg ss => asg [(2, .iptr (encText t) 0), (4, (encL 3 encSpan) ([] : List Span)), (5, D.i 0), (6, .ptr c5 1 0 0), (7, .ptr c6 1 0 0), (8, .fn (.func 53) [] [.iptr (encText t) 0, .ptr c6 1 0 0, .ptr c5 1 0 0]), (23, (encL 4 encPiece) a.pieces), (24, D.i (a.pieces.length : Int)), (25, D.i ss.2.2)]) (fun gg ss => [(gg.1, .cells 2 (winL encLine gg.2.1 ss.1 gg.2.2)), (c6, .cells 1 [D.i ss.2.1]), (c5, .cells 1 [.own gg.1 2 gg.2.1.length ss.1.length]), (c2, .cells 2 [encAttribution a])]) h (Cov.asg ⟨rfl, rfl, rfl, rfl, rfl, rfl, rfl, rfl, rfl, trivial⟩) (.refl _) ?_
  rintro again8 ⟨cbgh6, pregh6, postgh6⟩ ⟨xs, end_, x⟩ h
  have h : tunknown_L1 t a Q again8 xs end_ x := h
  unfold tunknown_L1 at h
  show wpA _ _ _ _ (asg [(2, .iptr (encText t) 0), (4, (encL 3 encSpan) ([] : List Span)), (5, D.i 0), (6, .ptr c5 1 0 0), (7, .ptr c6 1 0 0), (8, .fn (.func 53) [] [.iptr (encText t) 0, .ptr c6 1 0 0, .ptr c5 1 0 0]), (23, (encL 4 encPiece) a.pieces), (24, D.i (a.pieces.length : Int)), (25, D.i x)]) [(cbgh6, .cells 2 (winL encLine pregh6 xs postgh6)), (c6, .cells 1 [D.i end_]), (c5, .cells 1 [.own cbgh6 2 pregh6.length xs.length]), (c2, .cells 2 [encAttribution a])]
  refine wpA_seq ?_
  refine wpA_region ?_
  refine wL (OpA.lss rfl rfl rfl ?_)
  refine wpL_nil ?_
  refine wpA_seq ?_
  refine wpA_cond rfl (fun b9 => ?_) (fun b9 => ?_)
  have h := h.1 (decT b9)
  refine wpA_skip ?_
  refine wpA_seq ?_
  refine wpA_block ?_
  refine wpA_seq ?_
  obtain ⟨q1, h⟩ := h
  refine wpA_region ?_
  refine wL (OpA.iixV (enc := encPiece) rfl ts31 rfl rfl rfl q1 ?_)
  refine wL (OpA.iload_whole rfl ti48 rfl ⟨_, rfl, rfl⟩ ?_)
  refine wL (OpA.alloc (sz := 4) (d := encPiece (Piece.mk 0 0 0 0)) rfl tz48 (fun _ _ => .agg (.cons (.v _) (.cons (.v _) (.cons (.v _) (.cons (.v _) .nil))))) (.of rfl) (fun c10 _ => ?_))
  refine wE (OpA.storeW rfl ti48 rfl (by with_reducible conv => lhs; whnf) (.of rfl) rfl rfl .head ?_)
  refine wpL_nil ?_
  iterate 2 refine wpA_seq ?_
  obtain ⟨q1, h⟩ := h
  refine wpA_mid (asg [(2, .iptr (encText t) 0), (4, (encL 3 encSpan) ([] : List Span)), (5, D.i 0), (6, .ptr c5 1 0 0), (7, .ptr c6 1 0 0), (8, .fn (.func 53) [] [.iptr (encText t) 0, .ptr c6 1 0 0, .ptr c5 1 0 0]), (10, .ptr c10 4 0 0), (23, (encL 4 encPiece) a.pieces), (24, D.i (a.pieces.length : Int)), (25, D.i x), (38, D.b ((!(rangedF t (gi a.pieces x))) || (decide ((gi a.pieces x).from_ < end_))))]) [(c10, .cells 4 [encPiece (gi a.pieces x)]), (cbgh6, .cells 2 (winL encLine pregh6 xs postgh6)), (c6, .cells 1 [D.i end_]), (c5, .cells 1 [.own cbgh6 2 pregh6.length xs.length]), (c2, .cells 2 [encAttribution a])] ?_ ?_
  refine wpA_region ?_
  refine wL (OpA.iload_whole rfl ti28 rfl ⟨_, rfl, rfl⟩ ?_)
  refine wL (OpA.load_whole rfl ti48 rfl rfl .head rfl ⟨_, rfl⟩ ?_)
  refine wL (OpA.call rfl rfl rfl en47 (tranged_c t (gi a.pieces x) q1) ?_)
  rintro _ rfl
  refine wL (OpA.not rfl rfl ?_)
  refine wL (OpA.m ?_)
  refine wpL_split (s := 33) rfl (fun b15 => ?_) (fun b15 => ?_)
  iterate 4 refine wS ?_
  refine wL (OpA.p ?_)
  refine wpL_nil ?_
  exact ⟨(Cov.asg ⟨rfl, rfl, rfl, rfl, rfl, rfl, rfl, rfl, rfl, rfl, (congrArg D.b (Eq.symm (orS b15))), trivial⟩), (.refl _)⟩
  refine wG (OpA.fieldAddr rfl tf48_0 rfl ?_)
  refine wG (OpA.load rfl ti3 rfl .head rfl rfl ?_)
  refine wG (OpA.load rfl ti3 rfl (.tail (.tail .head)) rfl rfl ?_)
  refine wG (OpA.lss rfl rfl rfl ?_)
  refine wL (OpA.p ?_)
  refine wpL_nil ?_
  exact ⟨(Cov.asg ⟨rfl, rfl, rfl, rfl, rfl, rfl, rfl, rfl, rfl, rfl, (congrArg D.b (Eq.symm (orN b15 rfl))), trivial⟩), (.refl _)⟩
  show wpA _ _ _ _ (asg [(2, .iptr (encText t) 0), (4, (encL 3 encSpan) ([] : List Span)), (5, D.i 0), (6, .ptr c5 1 0 0), (7, .ptr c6 1 0 0), (8, .fn (.func 53) [] [.iptr (encText t) 0, .ptr c6 1 0 0, .ptr c5 1 0 0]), (10, .ptr c10 4 0 0), (23, (encL 4 encPiece) a.pieces), (24, D.i (a.pieces.length : Int)), (25, D.i x), (38, D.b ((!(rangedF t (gi a.pieces x))) || (decide ((gi a.pieces x).from_ < end_))))]) [(c10, .cells 4 [encPiece (gi a.pieces x)]), (cbgh6, .cells 2 (winL encLine pregh6 xs postgh6)), (c6, .cells 1 [D.i end_]), (c5, .cells 1 [.own cbgh6 2 pregh6.length xs.length]), (c2, .cells 2 [encAttribution a])]
  refine wpA_cond rfl (fun b11 => ?_) (fun b11 => ?_)
  have h := h.1 ((or0 b11).imp (fun hh => (notT hh)) (fun hh => (decT hh)))
  refine wpA_seq ?_
  refine wpA_region ?_
  refine wL (OpA.asnN (T := Span) (enc := encSpan) (sz := 3) rfl rfl ?_)
  refine wL (OpA.a ?_)
  refine wpL_nil ?_
  refine wpA_ret ?_
  exact ⟨_, (.tmp (d := (encL 3 encSpan) ([] : List Span)) rfl (.tmp (d := D.i 3) rfl .nil)), _, (.tup (.same rfl (.same rfl .nil)) .nil), ⟨(([] : List Span), 3), rfl, h⟩⟩
  have h := h.2 ⟨(notF (or1 b11)), (decF (or2 b11))⟩
  refine wpA_skip ?_
  refine wpA_seq ?_
  obtain ⟨q1, q2, h⟩ := h
  refine wpA_region ?_
  refine wL (OpA.m ?_)
  refine wL (OpA.fieldAddr rfl tf48_0 rfl ?_)
  refine wL (OpA.load rfl ti3 rfl .head rfl rfl ?_)
  refine wL (OpA.callH rfl rfl rfl en53 (h1 := [(c6, .cells 1 [D.i end_]), (c5, .cells 1 [.own cbgh6 2 pregh6.length xs.length]), (cbgh6, .cells 2 (winL encLine pregh6 xs postgh6))]) (h2 := [(c10, .cells 4 [encPiece (gi a.pieces x)]), (c2, .cells 2 [encAttribution a])]) (pull2.trans (.cons _ (pull2.trans (.cons _ pull1)))) (trest_c ((gi a.pieces x).from_) t end_ c6 xs c5 cbgh6 pregh6 postgh6 q1 q2) ?_)
  rintro _ _ ⟨⟨c12, pre13, post14⟩, rfl, rfl⟩
  refine wpL_perm (h' := [(c10, .cells 4 [encPiece (gi a.pieces x)]), (c12, .cells 2 (winL encLine pre13 (xs ++ linesW t (lsub t.words end_ ((gi a.pieces x).from_))) post14)), (c6, .cells 1 [D.i end_]), (c5, .cells 1 [.own c12 2 pre13.length (xs ++ linesW t (lsub t.words end_ ((gi a.pieces x).from_))).length]), (c2, .cells 2 [encAttribution a])]) (pull3.trans (.cons _ (pull1.trans (.cons _ pull1)))) ?_
  refine wpL_nil ?_
  refine wpA_region ?_
  refine wL (OpA.fieldAddr rfl tf48_1 rfl ?_)
  refine wL (OpA.load rfl ti3 rfl .head rfl rfl ?_)
  refine wE (OpA.storeW rfl ti3 rfl (by with_reducible conv => lhs; whnf) (.of rfl) rfl rfl (.tail (.tail .head)) ?_)
  refine wpL_nil ?_
  obtain ⟨q1, h⟩ := h
  refine wpA_region ?_
  refine wL (OpA.addi rfl rfl rfl q1 ?_)
  refine wL (OpA.m ?_)
  refine wpL_nil ?_
  exact ⟨(c12, pre13, post14), ((xs ++ linesW t (lsub t.words end_ ((gi a.pieces x).from_))), (gi a.pieces x).to, (x + 1)), h, (Cov.asg ⟨rfl, rfl, rfl, rfl, rfl, rfl, rfl, rfl, rfl, trivial⟩), (.cons _ (.refl _))⟩
  have h := h.2 (decF b9)
  refine wpA_exit ?_
  refine wpA_seq ?_
  obtain ⟨q1, q2, h⟩ := h
  refine wpA_region ?_
  refine wL (OpA.m ?_)
  refine wL (OpA.ifieldAddr rfl tf28_1 rfl ?_)
  refine wL (OpA.iload rfl ti26 rfl rfl ?_)
  refine wL (OpA.len rfl rfl rfl rfl ts26.desc (.inl ⟨_, _, rfl, (List.length_map _).symm⟩) ?_)
  refine wL (OpA.callH rfl rfl rfl en53 (h1 := [(c6, .cells 1 [D.i end_]), (c5, .cells 1 [.own cbgh6 2 pregh6.length xs.length]), (cbgh6, .cells 2 (winL encLine pregh6 xs postgh6))]) (h2 := [(c2, .cells 2 [encAttribution a])]) (pull1.trans (.cons _ pull1)) (trest_c (t.words.length : Int) t end_ c6 xs c5 cbgh6 pregh6 postgh6 q1 q2) ?_)
  rintro _ _ ⟨⟨c16, pre17, post18⟩, rfl, rfl⟩
  refine wpL_perm (h' := [(c16, .cells 2 (winL encLine pre17 (xs ++ linesW t (lsub t.words end_ (t.words.length : Int))) post18)), (c6, .cells 1 [D.i end_]), (c5, .cells 1 [.own c16 2 pre17.length (xs ++ linesW t (lsub t.words end_ (t.words.length : Int))).length]), (c2, .cells 2 [encAttribution a])]) (pull1.trans (.cons _ pull1)) ?_
  refine wpL_nil ?_
  refine wpA_seq ?_
  obtain ⟨q1, q2, h⟩ := h
  refine wpA_region ?_
  refine wL (OpA.load rfl ti104 rfl (.tail (.tail .head)) rfl rfl ?_)
  refine wL (OpA.frz (s := 51) (d := .own c16 2 pre17.length (xs ++ linesW t (lsub t.words end_ (t.words.length : Int))).length) (d' := (encL 2 encLine) (xs ++ linesW t (lsub t.words end_ (t.words.length : Int)))) (.refl _) rfl (.win (enc := encLine) .head (by intro hf; cases hf) .nil) (OpA.call rfl rfl rfl en54 (of_c (xs ++ linesW t (lsub t.words end_ (t.words.length : Int))) q1 q2) ?_))
  rintro _ rfl
  iterate 2 refine wL (OpA.extract rfl rfl rfl ?_)
  iterate 2 refine wL (OpA.a ?_)
  refine wpL_nil ?_
  refine wpA_ret ?_
  exact ⟨_, (.tmp (d := (encL 3 encSpan) ((ofF (xs ++ linesW t (lsub t.words end_ (t.words.length : Int)))).1)) rfl (.tmp (d := D.i ((ofF (xs ++ linesW t (lsub t.words end_ (t.words.length : Int)))).2)) rfl .nil)), _, (.tup (.same rfl (.same rfl .nil)) .nil), ⟨((ofF (xs ++ linesW t (lsub t.words end_ (t.words.length : Int)))).1, (ofF (xs ++ linesW t (lsub t.words end_ (t.words.length : Int)))).2), rfl, h⟩⟩
theorem tunknown_c (t : Text) (a : Attribution)  (hp0 : okT t) (hp1 : okA a) : Fun false Tryz.prog 23 [encText t, encAttribution a] (fun d => d = .tup [(encL 3 encSpan) ((unknownF t a).1), D.i ((unknownF t a).2)]) :=
  Fun.at (enc := fun r => .tup [(encL 3 encSpan) (r.1), D.i (r.2)]) (v := unknownF t a) (tunknown_w t a  (fun r => r = unknownF t a) (tunknown_ok t a _ hp0 hp1 rfl))

set_option maxHeartbeats 2000000 in
set_option maxRecDepth 10000 in
theorem tmain_w (c : Corpus) (t : Text) (a : Attribution) (percent : Int)  (Q : ByteArray × Bool → Prop) (h : tmain_vc c t a percent Q) : Fun false Tryz.prog 15 [encCorpus c, encText t, encAttribution a, D.i percent] (fun d => ∃ r, d = .tup [D.s (r.1), D.b (r.2)] ∧ Q r) := by
  unfold tmain_vc at h
  refine Fun.of_body Tryz.func15 rfl Tryz.ntmps15 rfl ?_
  refine wpA_seq ?_
  refine wpA_region ?_
  refine wL (OpA.bx (sz := 4) rfl (by with_reducible conv => lhs; whnf) (.of rfl) (fun c1 _ => ?_))
  refine wL (OpA.bx (sz := 2) rfl (by with_reducible conv => lhs; whnf) (.of rfl) (fun c2 _ => ?_))
  refine wL (OpA.bx (sz := 2) rfl (by with_reducible conv => lhs; whnf) (.of rfl) (fun c3 _ => ?_))
  iterate 2 refine wL (OpA.a ?_)
  refine wpL_nil ?_
  refine wpA_seq ?_
  obtain ⟨q1, q2, q3, h⟩ := h
  refine wpA_region ?_
  refine wL (OpA.load_whole rfl ti25 rfl rfl (.tail (.tail .head)) rfl ⟨_, rfl⟩ ?_)
  refine wL (OpA.load_whole rfl ti28 rfl rfl (.tail .head) rfl ⟨_, rfl⟩ ?_)
  refine wL (OpA.load_whole rfl ti33 rfl rfl .head rfl ⟨_, rfl⟩ ?_)
  refine wL (OpA.call rfl rfl rfl en21 (tshare_c c t a q1 q2 q3) ?_)
  rintro _ rfl
  refine wL (OpA.m ?_)
  iterate 2 refine wL (OpA.extract rfl rfl rfl ?_)
  iterate 2 refine wL (OpA.a ?_)
  refine wpL_nil ?_
  iterate 2 refine wpA_seq ?_
  refine wpA_mid (asg [(3, D.i percent), (4, .ptr c1 4 0 0), (5, .ptr c2 2 0 0), (8, D.s (⟨#[]⟩ : ByteArray)), (9, D.b false), (10, (encL 1 D.i) ((shareF c t a).1)), (34, D.b ((((((shareF c t a).2) != 0) || ((((shareF c t a).1).length : Int) == 0)) || (decide (percent < 0))) || (decide (percent > 100))))]) [(c3, .cells 2 [encAttribution a]), (c2, .cells 2 [encText t]), (c1, .cells 4 [encCorpus c])] ?_ ?_
  refine wpA_region ?_
  refine wL (OpA.m ?_)
  refine wL (OpA.neq rfl rfl rfl ?_)
  refine wL (OpA.m ?_)
  refine wpL_split (s := 22) rfl (fun b7 => ?_) (fun b7 => ?_)
  iterate 3 refine wS ?_
  refine wL (OpA.p ?_)
  refine wL (OpA.m ?_)
  iterate 2 refine wS ?_
  refine wL (OpA.p ?_)
  refine wL (OpA.m ?_)
  iterate 2 refine wS ?_
  refine wL (OpA.p ?_)
  refine wpL_nil ?_
  exact ⟨(Cov.asg ⟨rfl, rfl, rfl, rfl, rfl, rfl, (congrArg D.b (Eq.symm (orS (orS (orS b7))))), trivial⟩), (.refl _)⟩
  refine wG (OpA.m ?_)
  refine wG (OpA.len rfl rfl rfl rfl ts52.desc (.inl ⟨_, _, rfl, (List.length_map _).symm⟩) ?_)
  refine wG (OpA.eql rfl rfl rfl ?_)
  refine wL (OpA.p ?_)
  refine wL (OpA.m ?_)
  refine wpL_split (s := 27) rfl (fun b8 => ?_) (fun b8 => ?_)
  iterate 2 refine wS ?_
  refine wL (OpA.p ?_)
  refine wL (OpA.m ?_)
  iterate 2 refine wS ?_
  refine wL (OpA.p ?_)
  refine wpL_nil ?_
  exact ⟨(Cov.asg ⟨rfl, rfl, rfl, rfl, rfl, rfl, (congrArg D.b (Eq.symm (orS (orS (orN b7 b8))))), trivial⟩), (.refl _)⟩
  refine wG (OpA.m ?_)
  refine wG (OpA.lss rfl rfl rfl ?_)
  refine wL (OpA.p ?_)
  refine wL (OpA.m ?_)
  refine wpL_split (s := 31) rfl (fun b9 => ?_) (fun b9 => ?_)
  iterate 2 refine wS ?_
  refine wL (OpA.p ?_)
  refine wpL_nil ?_
  exact ⟨(Cov.asg ⟨rfl, rfl, rfl, rfl, rfl, rfl, (congrArg D.b (Eq.symm (orS (orN (orN b7 b8) b9)))), trivial⟩), (.refl _)⟩
  refine wG (OpA.m ?_)
  refine wG (OpA.gtr rfl rfl rfl ?_)
  refine wL (OpA.p ?_)
  refine wpL_nil ?_
  exact ⟨(Cov.asg ⟨rfl, rfl, rfl, rfl, rfl, rfl, (congrArg D.b (Eq.symm (orN (orN (orN b7 b8) b9) rfl))), trivial⟩), (.refl _)⟩
  show wpA _ _ _ _ (asg [(3, D.i percent), (4, .ptr c1 4 0 0), (5, .ptr c2 2 0 0), (8, D.s (⟨#[]⟩ : ByteArray)), (9, D.b false), (10, (encL 1 D.i) ((shareF c t a).1)), (34, D.b ((((((shareF c t a).2) != 0) || ((((shareF c t a).1).length : Int) == 0)) || (decide (percent < 0))) || (decide (percent > 100))))]) [(c3, .cells 2 [encAttribution a]), (c2, .cells 2 [encText t]), (c1, .cells 4 [encCorpus c])]
  refine wpA_cond rfl (fun b4 => ?_) (fun b4 => ?_)
  have h := h.1 ((or0 b4).imp (fun hh => ((or0 hh).imp (fun hh => ((or0 hh).imp (fun hh => (bneT hh)) (fun hh => (beqT hh)))) (fun hh => (decT hh)))) (fun hh => (decT hh)))
  refine wpA_seq ?_
  refine wpA_region ?_
  iterate 2 refine wL (OpA.a ?_)
  refine wpL_nil ?_
  refine wpA_ret ?_
  exact ⟨_, (.tmp (d := D.s (⟨#[]⟩ : ByteArray)) rfl (.tmp (d := D.b false) rfl .nil)), _, (.tup (.same rfl (.same rfl .nil)) .nil), ⟨((⟨#[]⟩ : ByteArray), false), rfl, h⟩⟩
  have h := h.2 ⟨⟨⟨(bneF (or1 (or1 (or1 b4)))), (beqF (or2 (or1 (or1 b4))))⟩, (decF (or2 (or1 b4)))⟩, (decF (or2 b4))⟩
  refine wpA_skip ?_
  refine wpA_seq ?_
  obtain ⟨q1, q2, h⟩ := h
  refine wpA_region ?_
  refine wL (OpA.m ?_)
  refine wL (OpA.call rfl rfl rfl en45 (maxInts_c ((shareF c t a).1) q1 q2) ?_)
  rintro _ rfl
  refine wL (OpA.a ?_)
  refine wpL_nil ?_
  iterate 2 refine wpA_seq ?_
  obtain ⟨q1, h⟩ := h
  refine wpA_mid (asg [(4, .ptr c1 4 0 0), (8, D.s (⟨#[]⟩ : ByteArray)), (9, D.b false), (10, (encL 1 D.i) ((shareF c t a).1)), (12, D.i (maxF ((shareF c t a).1))), (48, D.b (((maxF ((shareF c t a).1)) == 0) || (decide ((100 * (maxF ((shareF c t a).1))) < (percent * (t.words.length : Int))))))]) [(c3, .cells 2 [encAttribution a]), (c2, .cells 2 [encText t]), (c1, .cells 4 [encCorpus c])] ?_ ?_
  refine wpA_region ?_
  refine wL (OpA.m ?_)
  refine wL (OpA.eql rfl rfl rfl ?_)
  refine wL (OpA.m ?_)
  refine wpL_split (s := 39) rfl (fun b6 => ?_) (fun b6 => ?_)
  iterate 8 refine wS ?_
  refine wL (OpA.p ?_)
  refine wpL_nil ?_
  exact ⟨(Cov.asg ⟨rfl, rfl, rfl, rfl, rfl, (congrArg D.b (Eq.symm (orS b6))), trivial⟩), (.refl _)⟩
  refine wG (OpA.m ?_)
  refine wG (OpA.muli rfl rfl rfl (q1 (beqF b6)).1 ?_)
  refine wG (OpA.m ?_)
  refine wG (OpA.fieldAddr rfl tf28_1 rfl ?_)
  refine wG (OpA.load rfl ti26 rfl (.tail .head) rfl rfl ?_)
  refine wG (OpA.len rfl rfl rfl rfl ts26.desc (.inl ⟨_, _, rfl, (List.length_map _).symm⟩) ?_)
  refine wG (OpA.muli rfl rfl rfl (q1 (beqF b6)).2 ?_)
  refine wG (OpA.lss rfl rfl rfl ?_)
  refine wL (OpA.p ?_)
  refine wpL_nil ?_
  exact ⟨(Cov.asg ⟨rfl, rfl, rfl, rfl, rfl, (congrArg D.b (Eq.symm (orN b6 rfl))), trivial⟩), (.refl _)⟩
  show wpA _ _ _ _ (asg [(4, .ptr c1 4 0 0), (8, D.s (⟨#[]⟩ : ByteArray)), (9, D.b false), (10, (encL 1 D.i) ((shareF c t a).1)), (12, D.i (maxF ((shareF c t a).1))), (48, D.b (((maxF ((shareF c t a).1)) == 0) || (decide ((100 * (maxF ((shareF c t a).1))) < (percent * (t.words.length : Int))))))]) [(c3, .cells 2 [encAttribution a]), (c2, .cells 2 [encText t]), (c1, .cells 4 [encCorpus c])]
  refine wpA_cond rfl (fun b5 => ?_) (fun b5 => ?_)
  have h := h.1 ((or0 b5).imp (fun hh => (beqT hh)) (fun hh => (decT hh)))
  refine wpA_seq ?_
  refine wpA_region ?_
  iterate 2 refine wL (OpA.a ?_)
  refine wpL_nil ?_
  refine wpA_ret ?_
  exact ⟨_, (.tmp (d := D.s (⟨#[]⟩ : ByteArray)) rfl (.tmp (d := D.b false) rfl .nil)), _, (.tup (.same rfl (.same rfl .nil)) .nil), ⟨((⟨#[]⟩ : ByteArray), false), rfl, h⟩⟩
  have h := h.2 ⟨(beqF (or1 b5)), (decF (or2 b5))⟩
  refine wpA_skip ?_
  refine wpA_seq ?_
  obtain ⟨q1, q2, h⟩ := h
  refine wpA_draw (m := 10) mo (by kernel_rfl) rfl ?_
  refine dL (OpA.fieldAddr rfl tf25_2 rfl ⟨rfl, rfl⟩) ?_
  refine dL (OpA.load rfl ti22 rfl (.tail (.tail .head)) rfl rfl ⟨rfl, rfl⟩) ?_
  iterate 2 refine dL (OpA.m ⟨rfl, rfl⟩) ?_
  refine dL (OpA.call rfl rfl rfl en46 (ixInt_c ((shareF c t a).1) (maxF ((shareF c t a).1)) q1) (by rintro _ rfl; exact ⟨rfl, rfl⟩)) ?_
  refine dL (OpA.iixV (enc := encText) rfl ts22 rfl rfl rfl q2 ⟨rfl, rfl⟩) ?_
  refine dL (OpA.ifieldAddr rfl tf28_0 rfl ⟨rfl, rfl⟩) ?_
  refine dL (OpA.iload rfl ti9 rfl rfl ⟨rfl, rfl⟩) ?_
  iterate 2 refine dL (OpA.a ⟨rfl, rfl⟩) ?_
  refine DetK.nil ?_
  refine wpL_nil ?_
  refine wpA_ret ?_
  exact ⟨_, (.tmp (d := D.s ((gi c.texts (idxOf (fun z_ => decide (z_ = (maxF ((shareF c t a).1)))) ((shareF c t a).1))).path)) rfl (.tmp (d := D.b true) rfl .nil)), _, (.tup (.same rfl (.same rfl .nil)) .nil), ⟨((gi c.texts (idxOf (fun z_ => decide (z_ = (maxF ((shareF c t a).1)))) ((shareF c t a).1))).path, true), rfl, h⟩⟩
theorem tmain_c (c : Corpus) (t : Text) (a : Attribution) (percent : Int)  (hp0 : okC c) (hp1 : okT t) (hp2 : okA a) : Fun false Tryz.prog 15 [encCorpus c, encText t, encAttribution a, D.i percent] (fun d => d = .tup [D.s ((mainF c t a percent).1), D.b ((mainF c t a percent).2)]) :=
  Fun.at (enc := fun r => .tup [D.s (r.1), D.b (r.2)]) (v := mainF c t a percent) (tmain_w c t a percent  (fun r => r = mainF c t a percent) (tmain_ok c t a percent _ hp0 hp1 hp2 rfl))
end Go.Proofs.YtaofnefejkokdaaGreatDoor
