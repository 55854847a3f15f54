/-
  walks and contracts
-/
import Derived.Test.YtaofnefejkokdaaGreatDoorV4
set_option linter.all false
namespace Go.Proofs.YtaofnefejkokdaaGreatDoor
open Go Go.Lic Go.Sort Go.Proofs
attribute [local irreducible] addF addP attrF badR behindF betR betterP blankF checkA checkF cmpB cmpI cmpL codeF countF countL fewC fewTs fewW findT gramsF growTF has1F hasF hashF indexF insideF leastF lenF longAF mainF maxF mergeF mul64F mulP nameR newF ofF orF packF partF pathB pathF pieceOk postCmp postLt postsF powF printsF pushF rangedF rightA rightCT rollF sameF selectF shareF sizeF smallF spanCmp splitF splitG srcF srcR textF unknownF validF validT



set_option maxHeartbeats 2000000 in
set_option maxRecDepth 10000 in
theorem cadd_w (c : Corpus) (t : Text)  (Q : Corpus × Int → Prop) (h : cadd_vc c t Q) : Fun false Tryz.prog 31 [encCorpus c, encText t] (fun d => ∃ r, d = .tup [encCorpus (r.1), D.i (r.2)] ∧ Q r) := by
  unfold cadd_vc at h
  refine Fun.of_body Tryz.func31 rfl Tryz.ntmps31 rfl ?_
  refine wpA_seq ?_
  refine wpA_region ?_
  refine wL (OpA.bx (sz := 4) rfl (by with_reducible conv => lhs; whnf) (.of rfl) (fun c1 _ => ?_))
  refine wL (OpA.bx (sz := 2) rfl (by with_reducible conv => lhs; whnf) (.of rfl) (fun c2 _ => ?_))
  refine wL (OpA.alloc (sz := 4) (d := .agg ([D.i 0, D.i 0, .v (.slice none 0 0), .v (.slice none 0 0)])) rfl tz25 (fun _ _ => .agg (.cons (.v _) (.cons (.v _) (.cons (.v _) (.cons (.v _) .nil))))) (.of rfl) (fun c3 _ => ?_))
  refine wL (OpA.a ?_)
  refine wpL_nil ?_
  iterate 2 refine wpA_seq ?_
  obtain ⟨q1, q2, h⟩ := h
  refine wpA_mid (asg [(2, .ptr c1 4 0 0), (3, .ptr c2 2 0 0), (4, .ptr c3 4 0 0), (5, D.i 0), (15, D.b (((checkF c) != 0) || (!(validT t))))]) [(c3, .cells 4 [.agg ([D.i 0, D.i 0, .v (.slice none 0 0), .v (.slice none 0 0)])]), (c2, .cells 2 [encText t]), (c1, .cells 4 [encCorpus c])] ?_ ?_
  refine wpA_region ?_
  refine wL (OpA.load_whole rfl ti25 rfl rfl (.tail (.tail .head)) rfl ⟨_, rfl⟩ ?_)
  refine wL (OpA.call rfl rfl rfl en20 (ccheck_c c q1) ?_)
  rintro _ rfl
  refine wL (OpA.neq rfl rfl rfl ?_)
  refine wL (OpA.m ?_)
  refine wpL_split (s := 11) rfl (fun b7 => ?_) (fun b7 => ?_)
  iterate 3 refine wS ?_
  refine wL (OpA.p ?_)
  refine wpL_nil ?_
  exact ⟨(Cov.asg ⟨rfl, rfl, rfl, rfl, (congrArg D.b (Eq.symm (orS b7))), trivial⟩), (.refl _)⟩
  refine wG (OpA.load_whole rfl ti28 rfl rfl (.tail .head) rfl ⟨_, rfl⟩ ?_)
  refine wG (OpA.call rfl rfl rfl en50 (nvalid_c t (q2 (bneF b7))) ?_)
  rintro _ rfl
  refine wG (OpA.not rfl rfl ?_)
  refine wL (OpA.p ?_)
  refine wpL_nil ?_
  exact ⟨(Cov.asg ⟨rfl, rfl, rfl, rfl, (congrArg D.b (Eq.symm (orN b7 rfl))), trivial⟩), (.refl _)⟩
  show wpA _ _ _ _ (asg [(2, .ptr c1 4 0 0), (3, .ptr c2 2 0 0), (4, .ptr c3 4 0 0), (5, D.i 0), (15, D.b (((checkF c) != 0) || (!(validT t))))]) [(c3, .cells 4 [.agg ([D.i 0, D.i 0, .v (.slice none 0 0), .v (.slice none 0 0)])]), (c2, .cells 2 [encText t]), (c1, .cells 4 [encCorpus c])]
  refine wpA_cond rfl (fun b4 => ?_) (fun b4 => ?_)
  have h := h.1 ((or0 b4).imp (fun hh => (bneT hh)) (fun hh => (notT hh)))
  refine wpA_seq ?_
  refine wpA_region ?_
  refine wL (OpA.buildO (zs := [.v (.int .i64 0), .v (.int .i64 0), .v (.slice none 0 0), .v (.slice none 0 0)]) rfl tp25 tz25 (fun _ _ => (.cons (.v _) (.cons (.v _) (.cons (.v _) (.cons (.v _) .nil))))) .nil rfl ?_)
  refine wE (OpA.storeW rfl ti25 rfl (by with_reducible conv => lhs; whnf) (.of rfl) rfl rfl .head ?_)
  refine wL (OpA.a ?_)
  refine wpL_nil ?_
  refine wpA_ret ?_
  exact ⟨_, (.cell (.whole ti25 rfl rfl .head rfl ⟨_, rfl⟩) (.tmp (d := D.i 1) rfl .nil)), _, (.tup (.agg (.same rfl (.same rfl (.nilv (sz := 2) (.nilv (sz := 3) .nil)))) (.same rfl .nil)) .nil), ⟨((Corpus.mk 0 0 [] []), 1), rfl, h⟩⟩
  have h := h.2 ⟨(bneF (or1 b4)), (notF (or2 b4))⟩
  refine wpA_skip ?_
  refine wpA_seq ?_
  obtain ⟨q1, q2, h⟩ := h
  refine wpA_region ?_
  refine wL (OpA.fieldAddr rfl tf25_2 rfl ?_)
  refine wL (OpA.load rfl ti22 rfl (.tail (.tail .head)) rfl rfl ?_)
  refine wL (OpA.fieldAddr rfl tf28_0 rfl ?_)
  refine wL (OpA.load rfl ti9 rfl (.tail .head) rfl rfl ?_)
  refine wL (OpA.call rfl rfl rfl en61 (cfind_c c.texts t.path q1 q2) ?_)
  rintro _ rfl
  refine wL (OpA.m ?_)
  iterate 2 refine wL (OpA.extract rfl rfl rfl ?_)
  iterate 2 refine wL (OpA.a ?_)
  refine wpL_nil ?_
  refine wpA_seq ?_
  refine wpA_block ?_
  refine wpA_seq ?_
  refine wpA_region ?_
  refine wL (OpA.m ?_)
  refine wL (OpA.a ?_)
  refine wpL_nil ?_
  refine wpA_cond rfl (fun b5 => ?_) (fun b5 => ?_)
  have h := h.1 b5
  refine wpA_seq ?_
  refine wpA_region ?_
  refine wL (OpA.buildO (zs := [.v (.int .i64 0), .v (.int .i64 0), .v (.slice none 0 0), .v (.slice none 0 0)]) rfl tp25 tz25 (fun _ _ => (.cons (.v _) (.cons (.v _) (.cons (.v _) (.cons (.v _) .nil))))) .nil rfl ?_)
  refine wE (OpA.storeW rfl ti25 rfl (by with_reducible conv => lhs; whnf) (.of rfl) rfl rfl .head ?_)
  refine wL (OpA.a ?_)
  refine wpL_nil ?_
  refine wpA_ret ?_
  exact ⟨_, (.cell (.whole ti25 rfl rfl .head rfl ⟨_, rfl⟩) (.tmp (d := D.i 6) rfl .nil)), _, (.tup (.agg (.same rfl (.same rfl (.nilv (sz := 2) (.nilv (sz := 3) .nil)))) (.same rfl .nil)) .nil), ⟨((Corpus.mk 0 0 [] []), 6), rfl, h⟩⟩
  have h := h.2 b5
  refine wpA_seq ?_
  refine wpA_region ?_
  refine wL (OpA.fieldAddr rfl tf25_2 rfl ?_)
  refine wL (OpA.load rfl ti22 rfl (.tail (.tail .head)) rfl rfl ?_)
  refine wL (OpA.len rfl rfl rfl rfl ts22.desc (.inl ⟨_, _, rfl, (List.length_map _).symm⟩) ?_)
  refine wL (OpA.eql rfl rfl rfl ?_)
  refine wL (OpA.a ?_)
  refine wpL_nil ?_
  refine wpA_cond rfl (fun b6 => ?_) (fun b6 => ?_)
  have h := h.1 (beqT b6)
  refine wpA_seq ?_
  refine wpA_region ?_
  refine wL (OpA.buildO (zs := [.v (.int .i64 0), .v (.int .i64 0), .v (.slice none 0 0), .v (.slice none 0 0)]) rfl tp25 tz25 (fun _ _ => (.cons (.v _) (.cons (.v _) (.cons (.v _) (.cons (.v _) .nil))))) .nil rfl ?_)
  refine wE (OpA.storeW rfl ti25 rfl (by with_reducible conv => lhs; whnf) (.of rfl) rfl rfl .head ?_)
  refine wL (OpA.a ?_)
  refine wpL_nil ?_
  refine wpA_ret ?_
  exact ⟨_, (.cell (.whole ti25 rfl rfl .head rfl ⟨_, rfl⟩) (.tmp (d := D.i 10) rfl .nil)), _, (.tup (.agg (.same rfl (.same rfl (.nilv (sz := 2) (.nilv (sz := 3) .nil)))) (.same rfl .nil)) .nil), ⟨((Corpus.mk 0 0 [] []), 10), rfl, h⟩⟩
  have h := h.2 (beqF b6)
  refine wpA_skip ?_
  refine wpA_seq ?_
  obtain ⟨q1, h⟩ := h
  refine wpA_region ?_
  refine wL (OpA.fieldAddr rfl tf28_1 rfl ?_)
  refine wL (OpA.load rfl ti26 rfl (.tail .head) rfl rfl ?_)
  refine wL (OpA.call rfl rfl rfl en62 (cclone_c t.words q1) ?_)
  rintro _ rfl
  refine wL (OpA.fieldAddr rfl tf28_1 rfl ?_)
  refine wE (OpA.store (e' := encText (Text.mk t.path t.words)) rfl ti26 rfl (.of rfl) rfl (Nat.le_of_ble_eq_true rfl) rfl (.tail .head) ?_)
  refine wpL_nil ?_
  refine wpA_seq ?_
  obtain ⟨q1, q2, q3, q4, q5, h⟩ := h
  refine wpA_draw (m := 14) mo (by kernel_rfl) rfl ?_
  refine dL (OpA.load_whole rfl ti25 rfl rfl (.tail (.tail .head)) rfl ⟨_, rfl⟩ ⟨rfl, rfl⟩) ?_
  refine dL (OpA.fieldAddr rfl tf25_2 rfl ⟨rfl, rfl⟩) ?_
  refine dL (OpA.load rfl ti22 rfl (.tail (.tail .head)) rfl rfl ⟨rfl, rfl⟩) ?_
  refine dL (OpA.m ⟨rfl, rfl⟩) ?_
  refine dL (OpA.isliceV (enc := encText) rfl ts22 rfl (.none _) (.some rfl) q1 ⟨rfl, rfl⟩) ?_
  refine dL (OpA.load_whole rfl ti28 rfl rfl (.tail .head) rfl ⟨_, rfl⟩ ⟨rfl, rfl⟩) ?_
  refine dL (OpA.ibuildSliceO rfl ts22 rfl (.cons (.of (sz := 2) rfl) .nil) (by decide) ⟨rfl, rfl⟩) ?_
  refine dL (OpA.fieldAddr rfl tf25_2 rfl ⟨rfl, rfl⟩) ?_
  refine dL (OpA.load rfl ti22 rfl (.tail (.tail .head)) rfl rfl ⟨rfl, rfl⟩) ?_
  refine dL (OpA.m ⟨rfl, rfl⟩) ?_
  refine dL (OpA.isliceV (enc := encText) rfl ts22 rfl (.some rfl) (.none _) q2 ⟨rfl, rfl⟩) ?_
  refine dL (OpA.ibuildSliceO rfl ts138 rfl (.cons (.of (sz := 1) rfl) (.cons (.of (sz := 1) rfl) (.cons (.of (sz := 1) rfl) .nil))) (by decide) ⟨rfl, rfl⟩) ?_
  refine dL (OpA.call rfl rfl rfl en64 (concatT_c ([(lsub c.texts 0 ((findT c.texts t.path).1)), ([(Text.mk t.path t.words)] : List Text), (lsub c.texts ((findT c.texts t.path).1) (c.texts.length : Int))] : List (List Text)) q3 q4) (by rintro _ rfl; exact ⟨rfl, rfl⟩)) ?_
  refine dL (OpA.call rfl rfl rfl en63 (cwith_c c (List.flatten ([(lsub c.texts 0 ((findT c.texts t.path).1)), ([(Text.mk t.path t.words)] : List Text), (lsub c.texts ((findT c.texts t.path).1) (c.texts.length : Int))] : List (List Text))) q5) (by rintro _ rfl; exact ⟨rfl, rfl⟩)) ?_
  refine DetK.nil ?_
  refine wE (OpA.storeW rfl ti25 rfl (by with_reducible conv => lhs; whnf) (.of rfl) rfl rfl .head ?_)
  refine wL (OpA.a ?_)
  refine wpL_nil ?_
  refine wpA_ret ?_
  exact ⟨_, (.cell (.whole ti25 rfl rfl .head rfl ⟨_, rfl⟩) (.tmp (d := D.i 0) rfl .nil)), _, (.tup (.same rfl (.same rfl .nil)) .nil), ⟨((corpusOf (List.flatten ([(lsub c.texts 0 ((findT c.texts t.path).1)), ([(Text.mk t.path t.words)] : List Text), (lsub c.texts ((findT c.texts t.path).1) (c.texts.length : Int))] : List (List Text))) c.k c.w), 0), rfl, h⟩⟩
theorem cadd_c (c : Corpus) (t : Text)  (hp0 : okC c) (hp1 : okT t) : Fun false Tryz.prog 31 [encCorpus c, encText t] (fun d => d = .tup [encCorpus ((addF c t).1), D.i ((addF c t).2)]) :=
  Fun.at (enc := fun r => .tup [encCorpus (r.1), D.i (r.2)]) (v := addF c t) (cadd_w c t  (fun r => r = addF c t) (cadd_ok c t _ hp0 hp1 rfl))

set_option maxHeartbeats 2000000 in
set_option maxRecDepth 10000 in
theorem c26fewt_w (l : (List Text))  (Q : Bool → Prop) (h : c26fewt_vc l Q) : Fun false Tryz.prog 34 [(encL 2 encText) l] (fun d => ∃ r, d = D.b r ∧ Q r) := by
  unfold c26fewt_vc at h
  refine Fun.of_body Tryz.func34 rfl Tryz.ntmps34 rfl ?_
  refine wpA_seq ?_
  refine wpA_region ?_
  refine wL (OpA.a ?_)
  refine wpL_nil ?_
  iterate 2 refine wpA_seq ?_
  refine wpA_region ?_
  refine wL (OpA.m ?_)
  refine wL (OpA.len rfl rfl rfl rfl ts22.desc (.inl ⟨_, _, rfl, (List.length_map _).symm⟩) ?_)
  refine wL (OpA.gtr rfl rfl rfl ?_)
  refine wpL_nil ?_
  refine wpA_cond rfl (fun b1 => ?_) (fun b1 => ?_)
  have h := h.1 (decT b1)
  refine wpA_seq ?_
  refine wpA_region ?_
  refine wL (OpA.a ?_)
  refine wpL_nil ?_
  refine wpA_ret ?_
  exact ⟨_, (.tmp (d := D.b false) rfl .nil), _, (.same rfl .nil), ⟨false, rfl, h⟩⟩
  have h := h.2 (decF b1)
  refine wpA_skip ?_
  iterate 2 refine wpA_seq ?_
  refine wpA_region ?_
  refine wL (OpA.a ?_)
  refine wpL_nil ?_
  refine wpA_block ?_
  refine wpA_lfp (S := Int) (G := Unit) () (fun gg ss => asg [(0, (encL 2 encText) l), (2, D.b false), (3, D.i ss)]) (fun gg ss => []) h (Cov.asg ⟨rfl, rfl, rfl, trivial⟩) (.refl _) ?_
  rintro again2 _ i h
  have h : c26fewt_L1 l Q again2 i := h
  unfold c26fewt_L1 at h
  show wpA _ _ _ _ (asg [(0, (encL 2 encText) l), (2, D.b false), (3, D.i i)]) []
  iterate 2 refine wpA_seq ?_
  refine wpA_region ?_
  iterate 2 refine wL (OpA.m ?_)
  refine wL (OpA.len rfl rfl rfl rfl ts22.desc (.inl ⟨_, _, rfl, (List.length_map _).symm⟩) ?_)
  refine wL (OpA.lss rfl rfl rfl ?_)
  refine wpL_nil ?_
  refine wpA_cond rfl (fun b3 => ?_) (fun b3 => ?_)
  have h := h.1 (decT b3)
  refine wpA_skip ?_
  refine wpA_seq ?_
  refine wpA_block ?_
  refine wpA_seq ?_
  obtain ⟨q1, h⟩ := h
  refine wpA_mid (asg [(0, (encL 2 encText) l), (2, D.b false), (3, D.i i), (28, D.b ((!(fewW ((gi l i).words))) || (decide ((((gi l i).path).size : Int) > 200))))]) [] ?_ ?_
  refine wpA_region ?_
  iterate 2 refine wL (OpA.m ?_)
  refine wL (OpA.iixV (enc := encText) rfl ts22 rfl rfl rfl q1 ?_)
  refine wL (OpA.ifieldAddr rfl tf28_1 rfl ?_)
  refine wL (OpA.iload rfl ti26 rfl rfl ?_)
  refine wL (OpA.call rfl rfl rfl en65 (g24few_c ((gi l i).words) ) ?_)
  rintro _ rfl
  refine wL (OpA.not rfl rfl ?_)
  refine wL (OpA.m ?_)
  refine wpL_split (s := 20) rfl (fun b5 => ?_) (fun b5 => ?_)
  iterate 7 refine wS ?_
  refine wL (OpA.p ?_)
  refine wpL_nil ?_
  exact ⟨(Cov.asg ⟨rfl, rfl, rfl, (congrArg D.b (Eq.symm (orS b5))), trivial⟩), (.refl _)⟩
  iterate 2 refine wG (OpA.m ?_)
  refine wG (OpA.iixV (enc := encText) rfl ts22 rfl rfl rfl q1 ?_)
  refine wG (OpA.ifieldAddr rfl tf28_0 rfl ?_)
  refine wG (OpA.iload rfl ti9 rfl rfl ?_)
  refine wG (OpA.slen rfl rfl rfl rfl td9 rfl ?_)
  refine wG (OpA.gtr rfl rfl rfl ?_)
  refine wL (OpA.p ?_)
  refine wpL_nil ?_
  exact ⟨(Cov.asg ⟨rfl, rfl, rfl, (congrArg D.b (Eq.symm (orN b5 rfl))), trivial⟩), (.refl _)⟩
  show wpA _ _ _ _ (asg [(0, (encL 2 encText) l), (2, D.b false), (3, D.i i), (28, D.b ((!(fewW ((gi l i).words))) || (decide ((((gi l i).path).size : Int) > 200))))]) []
  refine wpA_cond rfl (fun b4 => ?_) (fun b4 => ?_)
  have h := h.1 ((or0 b4).imp (fun hh => (notT hh)) (fun hh => (decT hh)))
  refine wpA_seq ?_
  refine wpA_region ?_
  refine wL (OpA.a ?_)
  refine wpL_nil ?_
  refine wpA_ret ?_
  exact ⟨_, (.tmp (d := D.b false) rfl .nil), _, (.same rfl .nil), ⟨false, rfl, h⟩⟩
  have h := h.2 ⟨(notF (or1 b4)), (decF (or2 b4))⟩
  refine wpA_skip ?_
  obtain ⟨q1, h⟩ := h
  refine wpA_region ?_
  refine wL (OpA.m ?_)
  refine wL (OpA.addi rfl rfl rfl q1 ?_)
  refine wL (OpA.a ?_)
  refine wpL_nil ?_
  exact ⟨(), (i + 1), h, (Cov.asg ⟨rfl, rfl, rfl, trivial⟩), (.refl _)⟩
  have h := h.2 (decF b3)
  refine wpA_exit ?_
  refine wpA_seq ?_
  refine wpA_region ?_
  refine wL (OpA.a ?_)
  refine wpL_nil ?_
  refine wpA_ret ?_
  exact ⟨_, (.tmp (d := D.b true) rfl .nil), _, (.same rfl .nil), ⟨true, rfl, h⟩⟩
theorem c26fewt_c (l : (List Text))   : Fun false Tryz.prog 34 [(encL 2 encText) l] (fun d => d = D.b (fewTs l)) :=
  Fun.at (enc := fun r => D.b r) (v := fewTs l) (c26fewt_w l  (fun r => r = fewTs l) (c26fewt_ok l _  rfl))

set_option maxHeartbeats 2000000 in
set_option maxRecDepth 10000 in
theorem c26few_w (c : Corpus)  (Q : Bool → Prop) (h : c26few_vc c Q) : Fun false Tryz.prog 19 [encCorpus c] (fun d => ∃ r, d = D.b r ∧ Q r) := by
  unfold c26few_vc at h
  refine Fun.of_body Tryz.func19 rfl Tryz.ntmps19 rfl ?_
  refine wpA_seq ?_
  refine wpA_region ?_
  refine wL (OpA.bx (sz := 4) rfl (by with_reducible conv => lhs; whnf) (.of rfl) (fun c1 _ => ?_))
  refine wL (OpA.a ?_)
  refine wpL_nil ?_
  refine wpA_seq ?_
  refine wpA_mid (asg [(2, D.b ((fewTs c.texts) && (decide ((c.posts.length : Int) ≤ 300))))]) [(c1, .cells 4 [encCorpus c])] ?_ ?_
  refine wpA_region ?_
  refine wL (OpA.fieldAddr rfl tf25_2 rfl ?_)
  refine wL (OpA.load rfl ti22 rfl .head rfl rfl ?_)
  refine wL (OpA.call rfl rfl rfl en34 (c26fewt_c c.texts ) ?_)
  rintro _ rfl
  refine wL (OpA.m ?_)
  refine wpL_split (s := 6) rfl (fun b2 => ?_) (fun b2 => ?_)
  refine wG (OpA.fieldAddr rfl tf25_3 rfl ?_)
  refine wG (OpA.load rfl ti23 rfl .head rfl rfl ?_)
  refine wG (OpA.len rfl rfl rfl rfl ts23.desc (.inl ⟨_, _, rfl, (List.length_map _).symm⟩) ?_)
  refine wG (OpA.leq rfl rfl rfl ?_)
  refine wL (OpA.p ?_)
  refine wL (OpA.a ?_)
  refine wpL_nil ?_
  exact ⟨(Cov.asg ⟨(congrArg D.b (Eq.symm (andN b2 rfl))), trivial⟩), (.refl _)⟩
  iterate 4 refine wS ?_
  refine wL (OpA.p ?_)
  refine wL (OpA.a ?_)
  refine wpL_nil ?_
  exact ⟨(Cov.asg ⟨(congrArg D.b (Eq.symm (andS b2))), trivial⟩), (.refl _)⟩
  show wpA _ _ _ _ (asg [(2, D.b ((fewTs c.texts) && (decide ((c.posts.length : Int) ≤ 300))))]) [(c1, .cells 4 [encCorpus c])]
  refine wpA_ret ?_
  exact ⟨_, (.tmp (d := D.b ((fewTs c.texts) && (decide ((c.posts.length : Int) ≤ 300)))) rfl .nil), _, (.same rfl .nil), ⟨((fewTs c.texts) && (decide ((c.posts.length : Int) ≤ 300))), rfl, h⟩⟩
theorem c26few_c (c : Corpus)   : Fun false Tryz.prog 19 [encCorpus c] (fun d => d = D.b (fewC c)) :=
  Fun.at (enc := fun r => D.b r) (v := fewC c) (c26few_w c  (fun r => r = fewC c) (c26few_ok c _  rfl))

set_option maxHeartbeats 2000000 in
set_option maxRecDepth 10000 in
theorem ixInt_w (s_ : (List Int)) (v : Int)  (Q : Int → Prop) (h : ixInt_vc s_ v Q) : Fun false Tryz.prog 46 [(encL 1 D.i) s_, D.i v] (fun d => ∃ r, d = D.i r ∧ Q r) := by
  unfold ixInt_vc at h
  refine Fun.of_body Tryz.func46 rfl Tryz.ntmps46 rfl ?_
  refine wpA_seq ?_
  refine wpA_region ?_
  refine wL (OpA.a ?_)
  refine wpL_nil ?_
  iterate 2 refine wpA_seq ?_
  refine wpA_region ?_
  refine wL (OpA.m ?_)
  refine wL (OpA.len rfl rfl rfl rfl ts52.desc (.inl ⟨_, _, rfl, (List.length_map _).symm⟩) ?_)
  refine wL (OpA.m ?_)
  refine wpL_nil ?_
  refine wpA_block ?_
  refine wpA_lfp (S := Int) (G := Unit) () (fun gg ss => asg [(0, (encL 1 D.i) s_), (1, D.i v), (4, D.i 0), (7, D.i (s_.length : Int)), (8, D.i ss)]) (fun gg ss => []) h (Cov.asg ⟨rfl, rfl, rfl, rfl, rfl, trivial⟩) (.refl _) ?_
  rintro again1 _ x h
  have h : ixInt_L1 s_ v Q again1 x := h
  unfold ixInt_L1 at h
  show wpA _ _ _ _ (asg [(0, (encL 1 D.i) s_), (1, D.i v), (4, D.i 0), (7, D.i (s_.length : Int)), (8, D.i x)]) []
  refine wpA_seq ?_
  refine wpA_region ?_
  refine wL (OpA.lss rfl rfl rfl ?_)
  refine wpL_nil ?_
  refine wpA_seq ?_
  refine wpA_cond rfl (fun b2 => ?_) (fun b2 => ?_)
  have h := h.1 (decT b2)
  refine wpA_skip ?_
  refine wpA_seq ?_
  refine wpA_block ?_
  refine wpA_seq ?_
  refine wpA_region ?_
  refine wL (OpA.m ?_)
  refine wL (OpA.a ?_)
  refine wpL_nil ?_
  refine wpA_seq ?_
  obtain ⟨q1, h⟩ := h
  refine wpA_region ?_
  iterate 3 refine wL (OpA.m ?_)
  refine wL (OpA.iixV (enc := D.i) rfl ts52 rfl rfl rfl q1 ?_)
  refine wL (OpA.iload rfl ti3 rfl rfl ?_)
  refine wL (OpA.eql rfl rfl rfl ?_)
  refine wpL_nil ?_
  refine wpA_cond rfl (fun b3 => ?_) (fun b3 => ?_)
  have h := h.1 (beqT b3)
  refine wpA_seq ?_
  refine wpA_region ?_
  refine wL (OpA.m ?_)
  refine wL (OpA.a ?_)
  refine wpL_nil ?_
  refine wpA_ret ?_
  exact ⟨_, (.tmp (d := D.i x) rfl .nil), _, (.same rfl .nil), ⟨x, rfl, h⟩⟩
  have h := h.2 (beqF b3)
  refine wpA_skip ?_
  obtain ⟨q1, h⟩ := h
  refine wpA_region ?_
  refine wL (OpA.addi rfl rfl rfl q1 ?_)
  refine wL (OpA.m ?_)
  refine wpL_nil ?_
  exact ⟨(), (x + 1), h, (Cov.asg ⟨rfl, rfl, rfl, rfl, rfl, trivial⟩), (.refl _)⟩
  have h := h.2 (decF b2)
  refine wpA_exit ?_
  refine wpA_seq ?_
  refine wpA_region ?_
  refine wL (OpA.a ?_)
  refine wpL_nil ?_
  refine wpA_ret ?_
  exact ⟨_, (.tmp (d := D.i (-1)) rfl .nil), _, (.same rfl .nil), ⟨(-1), rfl, h⟩⟩
theorem ixInt_c (s_ : (List Int)) (v : Int)  (hp0 : s_.length ≤ 9223372036854775807) : Fun false Tryz.prog 46 [(encL 1 D.i) s_, D.i v] (fun d => d = D.i ((idxOf (fun z_ => decide (z_ = v)) s_))) :=
  Fun.at (enc := fun r => D.i r) (v := (idxOf (fun z_ => decide (z_ = v)) s_)) (ixInt_w s_ v  (fun r => r = (idxOf (fun z_ => decide (z_ = v)) s_)) (ixInt_ok s_ v _ hp0 rfl))

end Go.Proofs.YtaofnefejkokdaaGreatDoor
