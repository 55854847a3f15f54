/-
  walks and contracts
-/
import Derived.Test.YtkoomieafmjjfaaGreatDoorV4
set_option linter.all false
namespace Go.Proofs.YtkoomieafmjjfaaGreatDoor
open Go Go.Lic Go.Sort Go.Proofs
attribute [local irreducible] addF addP badR blankF checkF cmpB cmpI codeF commonF4 corpusOf countF dropF fewC fewTs fewW findP findT gramsF growTF guarF hashF indexF itoaF leastF lenF mul64F mulP nameR nearC nearF newF orF partF pathB pathF postCmp postLt postsF powF printsF pushF rollF selectF sizeF splitF splitG validT



set_option maxHeartbeats 2000000 in
set_option maxRecDepth 10000 in
theorem cadd_w (c : Corpus) (t : Text)  (Q : Corpus × Int → Prop) (h : cadd_vc c t Q) : Fun false Tryz.prog 17 [encCorpus c, encText t] (fun d => ∃ r, d = .tup [encCorpus (r.1), D.i (r.2)] ∧ Q r) := by
  unfold cadd_vc at h
  refine Fun.of_body Tryz.func17 rfl Tryz.ntmps17 rfl ?_
  refine wpA_seq ?_
  refine wpA_region ?_
  refine wL (OpA.bx (sz := 4) rfl (by with_reducible conv => lhs; whnf) (.of rfl) (fun c1 _ => ?_))
  refine wL (OpA.bx (sz := 2) rfl (by with_reducible conv => lhs; whnf) (.of rfl) (fun c2 _ => ?_))
  refine wL (OpA.alloc (sz := 4) (d := .agg ([D.i 0, D.i 0, .v (.slice none 0 0), .v (.slice none 0 0)])) rfl tz25 (fun _ _ => .agg (.cons (.v _) (.cons (.v _) (.cons (.v _) (.cons (.v _) .nil))))) (.of rfl) (fun c3 _ => ?_))
  refine wL (OpA.a ?_)
  refine wpL_nil ?_
  iterate 2 refine wpA_seq ?_
  obtain ⟨q1, q2, h⟩ := h
  refine wpA_mid (asg [(2, .ptr c1 4 0 0), (3, .ptr c2 2 0 0), (4, .ptr c3 4 0 0), (5, D.i 0), (15, D.b (((checkF c) != 0) || (!(validT t))))]) [(c3, .cells 4 [.agg ([D.i 0, D.i 0, .v (.slice none 0 0), .v (.slice none 0 0)])]), (c2, .cells 2 [encText t]), (c1, .cells 4 [encCorpus c])] ?_ ?_
  refine wpA_region ?_
  refine wL (OpA.load_whole rfl ti25 rfl rfl (.tail (.tail .head)) rfl ⟨_, rfl⟩ ?_)
  refine wL (OpA.call rfl rfl rfl en13 (ccheck_c c q1) ?_)
  rintro _ rfl
  refine wL (OpA.neq rfl rfl rfl ?_)
  refine wL (OpA.m ?_)
  refine wpL_split (s := 11) rfl (fun b7 => ?_) (fun b7 => ?_)
  iterate 3 refine wS ?_
  refine wL (OpA.p ?_)
  refine wpL_nil ?_
  exact ⟨(Cov.asg ⟨rfl, rfl, rfl, rfl, (congrArg D.b (Eq.symm (orS b7))), trivial⟩), (.refl _)⟩
  refine wG (OpA.load_whole rfl ti36 rfl rfl (.tail .head) rfl ⟨_, rfl⟩ ?_)
  refine wG (OpA.call rfl rfl rfl en27 (nvalid_c t (q2 (bneF b7))) ?_)
  rintro _ rfl
  refine wG (OpA.not rfl rfl ?_)
  refine wL (OpA.p ?_)
  refine wpL_nil ?_
  exact ⟨(Cov.asg ⟨rfl, rfl, rfl, rfl, (congrArg D.b (Eq.symm (orN b7 rfl))), trivial⟩), (.refl _)⟩
  show wpA _ _ _ _ (asg [(2, .ptr c1 4 0 0), (3, .ptr c2 2 0 0), (4, .ptr c3 4 0 0), (5, D.i 0), (15, D.b (((checkF c) != 0) || (!(validT t))))]) [(c3, .cells 4 [.agg ([D.i 0, D.i 0, .v (.slice none 0 0), .v (.slice none 0 0)])]), (c2, .cells 2 [encText t]), (c1, .cells 4 [encCorpus c])]
  refine wpA_cond rfl (fun b4 => ?_) (fun b4 => ?_)
  have h := h.1 ((or0 b4).imp (fun hh => (bneT hh)) (fun hh => (notT hh)))
  refine wpA_seq ?_
  refine wpA_region ?_
  refine wL (OpA.buildO (zs := [.v (.int .i64 0), .v (.int .i64 0), .v (.slice none 0 0), .v (.slice none 0 0)]) rfl tp25 tz25 (fun _ _ => (.cons (.v _) (.cons (.v _) (.cons (.v _) (.cons (.v _) .nil))))) .nil rfl ?_)
  refine wE (OpA.storeW rfl ti25 rfl (by with_reducible conv => lhs; whnf) (.of rfl) rfl rfl .head ?_)
  refine wL (OpA.a ?_)
  refine wpL_nil ?_
  refine wpA_ret ?_
  exact ⟨_, (.cell (.whole ti25 rfl rfl .head rfl ⟨_, rfl⟩) (.tmp (d := D.i 1) rfl .nil)), _, (.tup (.agg (.same rfl (.same rfl (.nilv (sz := 2) (.nilv (sz := 3) .nil)))) (.same rfl .nil)) .nil), ⟨((Corpus.mk 0 0 [] []), 1), rfl, h⟩⟩
  have h := h.2 ⟨(bneF (or1 b4)), (notF (or2 b4))⟩
  refine wpA_skip ?_
  refine wpA_seq ?_
  obtain ⟨q1, q2, h⟩ := h
  refine wpA_region ?_
  refine wL (OpA.fieldAddr rfl tf25_2 rfl ?_)
  refine wL (OpA.load rfl ti22 rfl (.tail (.tail .head)) rfl rfl ?_)
  refine wL (OpA.fieldAddr rfl tf36_0 rfl ?_)
  refine wL (OpA.load rfl ti9 rfl (.tail .head) rfl rfl ?_)
  refine wL (OpA.call rfl rfl rfl en51 (cfind_c c.texts t.path q1 q2) ?_)
  rintro _ rfl
  refine wL (OpA.m ?_)
  iterate 2 refine wL (OpA.extract rfl rfl rfl ?_)
  iterate 2 refine wL (OpA.a ?_)
  refine wpL_nil ?_
  refine wpA_seq ?_
  refine wpA_block ?_
  refine wpA_seq ?_
  refine wpA_region ?_
  refine wL (OpA.m ?_)
  refine wL (OpA.a ?_)
  refine wpL_nil ?_
  refine wpA_cond rfl (fun b5 => ?_) (fun b5 => ?_)
  have h := h.1 b5
  refine wpA_seq ?_
  refine wpA_region ?_
  refine wL (OpA.buildO (zs := [.v (.int .i64 0), .v (.int .i64 0), .v (.slice none 0 0), .v (.slice none 0 0)]) rfl tp25 tz25 (fun _ _ => (.cons (.v _) (.cons (.v _) (.cons (.v _) (.cons (.v _) .nil))))) .nil rfl ?_)
  refine wE (OpA.storeW rfl ti25 rfl (by with_reducible conv => lhs; whnf) (.of rfl) rfl rfl .head ?_)
  refine wL (OpA.a ?_)
  refine wpL_nil ?_
  refine wpA_ret ?_
  exact ⟨_, (.cell (.whole ti25 rfl rfl .head rfl ⟨_, rfl⟩) (.tmp (d := D.i 6) rfl .nil)), _, (.tup (.agg (.same rfl (.same rfl (.nilv (sz := 2) (.nilv (sz := 3) .nil)))) (.same rfl .nil)) .nil), ⟨((Corpus.mk 0 0 [] []), 6), rfl, h⟩⟩
  have h := h.2 b5
  refine wpA_seq ?_
  refine wpA_region ?_
  refine wL (OpA.fieldAddr rfl tf25_2 rfl ?_)
  refine wL (OpA.load rfl ti22 rfl (.tail (.tail .head)) rfl rfl ?_)
  refine wL (OpA.len rfl rfl rfl rfl ts22.desc (.inl ⟨_, _, rfl, (List.length_map _).symm⟩) ?_)
  refine wL (OpA.eql rfl rfl rfl ?_)
  refine wL (OpA.a ?_)
  refine wpL_nil ?_
  refine wpA_cond rfl (fun b6 => ?_) (fun b6 => ?_)
  have h := h.1 (beqT b6)
  refine wpA_seq ?_
  refine wpA_region ?_
  refine wL (OpA.buildO (zs := [.v (.int .i64 0), .v (.int .i64 0), .v (.slice none 0 0), .v (.slice none 0 0)]) rfl tp25 tz25 (fun _ _ => (.cons (.v _) (.cons (.v _) (.cons (.v _) (.cons (.v _) .nil))))) .nil rfl ?_)
  refine wE (OpA.storeW rfl ti25 rfl (by with_reducible conv => lhs; whnf) (.of rfl) rfl rfl .head ?_)
  refine wL (OpA.a ?_)
  refine wpL_nil ?_
  refine wpA_ret ?_
  exact ⟨_, (.cell (.whole ti25 rfl rfl .head rfl ⟨_, rfl⟩) (.tmp (d := D.i 10) rfl .nil)), _, (.tup (.agg (.same rfl (.same rfl (.nilv (sz := 2) (.nilv (sz := 3) .nil)))) (.same rfl .nil)) .nil), ⟨((Corpus.mk 0 0 [] []), 10), rfl, h⟩⟩
  have h := h.2 (beqF b6)
  refine wpA_skip ?_
  refine wpA_seq ?_
  obtain ⟨q1, h⟩ := h
  refine wpA_region ?_
  refine wL (OpA.fieldAddr rfl tf36_1 rfl ?_)
  refine wL (OpA.load rfl ti34 rfl (.tail .head) rfl rfl ?_)
  refine wL (OpA.call rfl rfl rfl en52 (cclone_c t.words q1) ?_)
  rintro _ rfl
  refine wL (OpA.fieldAddr rfl tf36_1 rfl ?_)
  refine wE (OpA.store (e' := encText (Text.mk t.path t.words)) rfl ti34 rfl (.of rfl) rfl (Nat.le_of_ble_eq_true rfl) rfl (.tail .head) ?_)
  refine wpL_nil ?_
  refine wpA_seq ?_
  obtain ⟨q1, q2, q3, q4, q5, h⟩ := h
  refine wpA_draw (m := 14) mo (by kernel_rfl) rfl ?_
  refine dL (OpA.load_whole rfl ti25 rfl rfl (.tail (.tail .head)) rfl ⟨_, rfl⟩ ⟨rfl, rfl⟩) ?_
  refine dL (OpA.fieldAddr rfl tf25_2 rfl ⟨rfl, rfl⟩) ?_
  refine dL (OpA.load rfl ti22 rfl (.tail (.tail .head)) rfl rfl ⟨rfl, rfl⟩) ?_
  refine dL (OpA.m ⟨rfl, rfl⟩) ?_
  refine dL (OpA.isliceV (enc := encText) rfl ts22 rfl (.none _) (.some rfl) q1 ⟨rfl, rfl⟩) ?_
  refine dL (OpA.load_whole rfl ti36 rfl rfl (.tail .head) rfl ⟨_, rfl⟩ ⟨rfl, rfl⟩) ?_
  refine dL (OpA.ibuildSliceO rfl ts22 rfl (.cons (.of (sz := 2) rfl) .nil) (by decide) ⟨rfl, rfl⟩) ?_
  refine dL (OpA.fieldAddr rfl tf25_2 rfl ⟨rfl, rfl⟩) ?_
  refine dL (OpA.load rfl ti22 rfl (.tail (.tail .head)) rfl rfl ⟨rfl, rfl⟩) ?_
  refine dL (OpA.m ⟨rfl, rfl⟩) ?_
  refine dL (OpA.isliceV (enc := encText) rfl ts22 rfl (.some rfl) (.none _) q2 ⟨rfl, rfl⟩) ?_
  refine dL (OpA.ibuildSliceO rfl ts108 rfl (.cons (.of (sz := 1) rfl) (.cons (.of (sz := 1) rfl) (.cons (.of (sz := 1) rfl) .nil))) (by decide) ⟨rfl, rfl⟩) ?_
  refine dL (OpA.call rfl rfl rfl en40 (concatT_c ([(lsub c.texts 0 ((findT c.texts t.path).1)), ([(Text.mk t.path t.words)] : List Text), (lsub c.texts ((findT c.texts t.path).1) (c.texts.length : Int))] : List (List Text)) q3 q4) (by rintro _ rfl; exact ⟨rfl, rfl⟩)) ?_
  refine dL (OpA.call rfl rfl rfl en53 (cwith_c c (List.flatten ([(lsub c.texts 0 ((findT c.texts t.path).1)), ([(Text.mk t.path t.words)] : List Text), (lsub c.texts ((findT c.texts t.path).1) (c.texts.length : Int))] : List (List Text))) q5) (by rintro _ rfl; exact ⟨rfl, rfl⟩)) ?_
  refine DetK.nil ?_
  refine wE (OpA.storeW rfl ti25 rfl (by with_reducible conv => lhs; whnf) (.of rfl) rfl rfl .head ?_)
  refine wL (OpA.a ?_)
  refine wpL_nil ?_
  refine wpA_ret ?_
  exact ⟨_, (.cell (.whole ti25 rfl rfl .head rfl ⟨_, rfl⟩) (.tmp (d := D.i 0) rfl .nil)), _, (.tup (.same rfl (.same rfl .nil)) .nil), ⟨((corpusOf (List.flatten ([(lsub c.texts 0 ((findT c.texts t.path).1)), ([(Text.mk t.path t.words)] : List Text), (lsub c.texts ((findT c.texts t.path).1) (c.texts.length : Int))] : List (List Text))) c.k c.w), 0), rfl, h⟩⟩
theorem cadd_c (c : Corpus) (t : Text)  (hp0 : okC c) (hp1 : okT t) : Fun false Tryz.prog 17 [encCorpus c, encText t] (fun d => d = .tup [encCorpus ((addF c t).1), D.i ((addF c t).2)]) :=
  Fun.at (enc := fun r => .tup [encCorpus (r.1), D.i (r.2)]) (v := addF c t) (cadd_w c t  (fun r => r = addF c t) (cadd_ok c t _ hp0 hp1 rfl))

set_option maxHeartbeats 2000000 in
set_option maxRecDepth 10000 in
theorem cdrop_w (c : Corpus) (path : ByteArray)  (Q : Corpus × Int → Prop) (h : cdrop_vc c path Q) : Fun false Tryz.prog 19 [encCorpus c, D.s path] (fun d => ∃ r, d = .tup [encCorpus (r.1), D.i (r.2)] ∧ Q r) := by
  unfold cdrop_vc at h
  refine Fun.of_body Tryz.func19 rfl Tryz.ntmps19 rfl ?_
  refine wpA_seq ?_
  refine wpA_region ?_
  refine wL (OpA.bx (sz := 4) rfl (by with_reducible conv => lhs; whnf) (.of rfl) (fun c1 _ => ?_))
  refine wL (OpA.alloc (sz := 4) (d := .agg ([D.i 0, D.i 0, .v (.slice none 0 0), .v (.slice none 0 0)])) rfl tz25 (fun _ _ => .agg (.cons (.v _) (.cons (.v _) (.cons (.v _) (.cons (.v _) .nil))))) (.of rfl) (fun c2 _ => ?_))
  refine wL (OpA.a ?_)
  refine wpL_nil ?_
  iterate 2 refine wpA_seq ?_
  obtain ⟨q1, h⟩ := h
  refine wpA_region ?_
  refine wL (OpA.load_whole rfl ti25 rfl rfl (.tail .head) rfl ⟨_, rfl⟩ ?_)
  refine wL (OpA.call rfl rfl rfl en13 (ccheck_c c q1) ?_)
  rintro _ rfl
  refine wL (OpA.neq rfl rfl rfl ?_)
  refine wpL_nil ?_
  refine wpA_cond rfl (fun b3 => ?_) (fun b3 => ?_)
  have h := h.1 (bneT b3)
  refine wpA_seq ?_
  refine wpA_region ?_
  refine wL (OpA.buildO (zs := [.v (.int .i64 0), .v (.int .i64 0), .v (.slice none 0 0), .v (.slice none 0 0)]) rfl tp25 tz25 (fun _ _ => (.cons (.v _) (.cons (.v _) (.cons (.v _) (.cons (.v _) .nil))))) .nil rfl ?_)
  refine wE (OpA.storeW rfl ti25 rfl (by with_reducible conv => lhs; whnf) (.of rfl) rfl rfl .head ?_)
  refine wL (OpA.a ?_)
  refine wpL_nil ?_
  refine wpA_ret ?_
  exact ⟨_, (.cell (.whole ti25 rfl rfl .head rfl ⟨_, rfl⟩) (.tmp (d := D.i 1) rfl .nil)), _, (.tup (.agg (.same rfl (.same rfl (.nilv (sz := 2) (.nilv (sz := 3) .nil)))) (.same rfl .nil)) .nil), ⟨((Corpus.mk 0 0 [] []), 1), rfl, h⟩⟩
  have h := h.2 (bneF b3)
  refine wpA_skip ?_
  refine wpA_seq ?_
  obtain ⟨q1, q2, h⟩ := h
  refine wpA_region ?_
  refine wL (OpA.fieldAddr rfl tf25_2 rfl ?_)
  refine wL (OpA.load rfl ti22 rfl (.tail .head) rfl rfl ?_)
  refine wL (OpA.m ?_)
  refine wL (OpA.call rfl rfl rfl en51 (cfind_c c.texts path q1 q2) ?_)
  rintro _ rfl
  refine wL (OpA.m ?_)
  iterate 2 refine wL (OpA.extract rfl rfl rfl ?_)
  iterate 2 refine wL (OpA.a ?_)
  refine wpL_nil ?_
  iterate 2 refine wpA_seq ?_
  refine wpA_region ?_
  refine wL (OpA.m ?_)
  refine wL (OpA.not rfl rfl ?_)
  refine wpL_nil ?_
  refine wpA_cond rfl (fun b4 => ?_) (fun b4 => ?_)
  have h := h.1 (notT b4)
  refine wpA_seq ?_
  refine wpA_region ?_
  refine wL (OpA.buildO (zs := [.v (.int .i64 0), .v (.int .i64 0), .v (.slice none 0 0), .v (.slice none 0 0)]) rfl tp25 tz25 (fun _ _ => (.cons (.v _) (.cons (.v _) (.cons (.v _) (.cons (.v _) .nil))))) .nil rfl ?_)
  refine wE (OpA.storeW rfl ti25 rfl (by with_reducible conv => lhs; whnf) (.of rfl) rfl rfl .head ?_)
  refine wL (OpA.a ?_)
  refine wpL_nil ?_
  refine wpA_ret ?_
  exact ⟨_, (.cell (.whole ti25 rfl rfl .head rfl ⟨_, rfl⟩) (.tmp (d := D.i 7) rfl .nil)), _, (.tup (.agg (.same rfl (.same rfl (.nilv (sz := 2) (.nilv (sz := 3) .nil)))) (.same rfl .nil)) .nil), ⟨((Corpus.mk 0 0 [] []), 7), rfl, h⟩⟩
  have h := h.2 (notF b4)
  refine wpA_skip ?_
  refine wpA_seq ?_
  obtain ⟨q1, q2, q3, q4, q5, q6, h⟩ := h
  refine wpA_draw (m := 13) mo (by kernel_rfl) rfl ?_
  refine dL (OpA.load_whole rfl ti25 rfl rfl (.tail .head) rfl ⟨_, rfl⟩ ⟨rfl, rfl⟩) ?_
  refine dL (OpA.fieldAddr rfl tf25_2 rfl ⟨rfl, rfl⟩) ?_
  refine dL (OpA.load rfl ti22 rfl (.tail .head) rfl rfl ⟨rfl, rfl⟩) ?_
  refine dL (OpA.m ⟨rfl, rfl⟩) ?_
  refine dL (OpA.isliceV (enc := encText) rfl ts22 rfl (.none _) (.some rfl) q1 ⟨rfl, rfl⟩) ?_
  refine dL (OpA.fieldAddr rfl tf25_2 rfl ⟨rfl, rfl⟩) ?_
  refine dL (OpA.load rfl ti22 rfl (.tail .head) rfl rfl ⟨rfl, rfl⟩) ?_
  refine dL (OpA.m ⟨rfl, rfl⟩) ?_
  refine dL (OpA.addi rfl rfl rfl q2 ⟨rfl, rfl⟩) ?_
  refine dL (OpA.isliceV (enc := encText) rfl ts22 rfl (.some rfl) (.none _) q3 ⟨rfl, rfl⟩) ?_
  refine dL (OpA.ibuildSliceO rfl ts108 rfl (.cons (.of (sz := 1) rfl) (.cons (.of (sz := 1) rfl) .nil)) (by decide) ⟨rfl, rfl⟩) ?_
  refine dL (OpA.call rfl rfl rfl en40 (concatT_c ([(lsub c.texts 0 ((findT c.texts path).1)), (lsub c.texts (((findT c.texts path).1) + 1) (c.texts.length : Int))] : List (List Text)) q4 q5) (by rintro _ rfl; exact ⟨rfl, rfl⟩)) ?_
  refine dL (OpA.call rfl rfl rfl en53 (cwith_c c (List.flatten ([(lsub c.texts 0 ((findT c.texts path).1)), (lsub c.texts (((findT c.texts path).1) + 1) (c.texts.length : Int))] : List (List Text))) q6) (by rintro _ rfl; exact ⟨rfl, rfl⟩)) ?_
  refine DetK.nil ?_
  refine wE (OpA.storeW rfl ti25 rfl (by with_reducible conv => lhs; whnf) (.of rfl) rfl rfl .head ?_)
  refine wL (OpA.a ?_)
  refine wpL_nil ?_
  refine wpA_ret ?_
  exact ⟨_, (.cell (.whole ti25 rfl rfl .head rfl ⟨_, rfl⟩) (.tmp (d := D.i 0) rfl .nil)), _, (.tup (.same rfl (.same rfl .nil)) .nil), ⟨((corpusOf (List.flatten ([(lsub c.texts 0 ((findT c.texts path).1)), (lsub c.texts (((findT c.texts path).1) + 1) (c.texts.length : Int))] : List (List Text))) c.k c.w), 0), rfl, h⟩⟩
theorem cdrop_c (c : Corpus) (path : ByteArray)  (hp0 : okC c) (hp1 : path.size ≤ 1000000) : Fun false Tryz.prog 19 [encCorpus c, D.s path] (fun d => d = .tup [encCorpus ((dropF c path).1), D.i ((dropF c path).2)]) :=
  Fun.at (enc := fun r => .tup [encCorpus (r.1), D.i (r.2)]) (v := dropF c path) (cdrop_w c path  (fun r => r = dropF c path) (cdrop_ok c path _ hp0 hp1 rfl))

set_option maxHeartbeats 2000000 in
set_option maxRecDepth 10000 in
theorem n23same_w (a : Text) (b : Text)  (Q : Bool → Prop) (h : n23same_vc a b Q) : Fun false Tryz.prog 49 [encText a, encText b] (fun d => ∃ r, d = D.b r ∧ Q r) := by
  unfold n23same_vc at h
  refine Fun.of_body Tryz.func49 rfl Tryz.ntmps49 rfl ?_
  refine wpA_seq ?_
  refine wpA_region ?_
  refine wL (OpA.bx (sz := 2) rfl (by with_reducible conv => lhs; whnf) (.of rfl) (fun c1 _ => ?_))
  refine wL (OpA.bx (sz := 2) rfl (by with_reducible conv => lhs; whnf) (.of rfl) (fun c2 _ => ?_))
  refine wL (OpA.a ?_)
  refine wpL_nil ?_
  iterate 2 refine wpA_seq ?_
  refine wpA_mid (asg [(2, .ptr c1 2 0 0), (3, .ptr c2 2 0 0), (4, D.b false), (19, D.b ((!decide (a.path = b.path)) || ((a.words.length : Int) != (b.words.length : Int))))]) [(c2, .cells 2 [encText b]), (c1, .cells 2 [encText a])] ?_ ?_
  refine wpA_region ?_
  refine wL (OpA.fieldAddr rfl tf36_0 rfl ?_)
  refine wL (OpA.load rfl ti9 rfl (.tail .head) rfl rfl ?_)
  refine wL (OpA.fieldAddr rfl tf36_0 rfl ?_)
  refine wL (OpA.load rfl ti9 rfl .head rfl rfl ?_)
  refine wL (OpA.sneq rfl rfl rfl ?_)
  refine wL (OpA.m ?_)
  refine wpL_split (s := 11) rfl (fun b7 => ?_) (fun b7 => ?_)
  iterate 7 refine wS ?_
  refine wL (OpA.p ?_)
  refine wpL_nil ?_
  exact ⟨(Cov.asg ⟨rfl, rfl, rfl, (congrArg D.b (Eq.symm (orS b7))), trivial⟩), (.refl _)⟩
  refine wG (OpA.fieldAddr rfl tf36_1 rfl ?_)
  refine wG (OpA.load rfl ti34 rfl (.tail .head) rfl rfl ?_)
  refine wG (OpA.len rfl rfl rfl rfl ts34.desc (.inl ⟨_, _, rfl, (List.length_map _).symm⟩) ?_)
  refine wG (OpA.fieldAddr rfl tf36_1 rfl ?_)
  refine wG (OpA.load rfl ti34 rfl .head rfl rfl ?_)
  refine wG (OpA.len rfl rfl rfl rfl ts34.desc (.inl ⟨_, _, rfl, (List.length_map _).symm⟩) ?_)
  refine wG (OpA.neq rfl rfl rfl ?_)
  refine wL (OpA.p ?_)
  refine wpL_nil ?_
  exact ⟨(Cov.asg ⟨rfl, rfl, rfl, (congrArg D.b (Eq.symm (orN b7 rfl))), trivial⟩), (.refl _)⟩
  show wpA _ _ _ _ (asg [(2, .ptr c1 2 0 0), (3, .ptr c2 2 0 0), (4, D.b false), (19, D.b ((!decide (a.path = b.path)) || ((a.words.length : Int) != (b.words.length : Int))))]) [(c2, .cells 2 [encText b]), (c1, .cells 2 [encText a])]
  refine wpA_cond rfl (fun b3 => ?_) (fun b3 => ?_)
  have h := h.1 ((or0 b3).imp (fun hh => (ndecT hh)) (fun hh => (bneT hh)))
  refine wpA_seq ?_
  refine wpA_region ?_
  refine wL (OpA.a ?_)
  refine wpL_nil ?_
  refine wpA_ret ?_
  exact ⟨_, (.tmp (d := D.b false) rfl .nil), _, (.same rfl .nil), ⟨false, rfl, h⟩⟩
  have h := h.2 ⟨(ndecF (or1 b3)), (bneF (or2 b3))⟩
  refine wpA_skip ?_
  iterate 2 refine wpA_seq ?_
  refine wpA_region ?_
  refine wL (OpA.a ?_)
  refine wpL_nil ?_
  refine wpA_block ?_
  refine wpA_lfp (S := Int) (G := Unit) () (fun gg ss => asg [(2, .ptr c1 2 0 0), (3, .ptr c2 2 0 0), (4, D.b false), (5, D.i ss)]) (fun gg ss => [(c2, .cells 2 [encText b]), (c1, .cells 2 [encText a])]) h (Cov.asg ⟨rfl, rfl, rfl, rfl, trivial⟩) (.refl _) ?_
  rintro again4 _ i h
  have h : n23same_L1 a b Q again4 i := h
  unfold n23same_L1 at h
  show wpA _ _ _ _ (asg [(2, .ptr c1 2 0 0), (3, .ptr c2 2 0 0), (4, D.b false), (5, D.i i)]) [(c2, .cells 2 [encText b]), (c1, .cells 2 [encText a])]
  iterate 2 refine wpA_seq ?_
  refine wpA_region ?_
  refine wL (OpA.m ?_)
  refine wL (OpA.fieldAddr rfl tf36_1 rfl ?_)
  refine wL (OpA.load rfl ti34 rfl (.tail .head) rfl rfl ?_)
  refine wL (OpA.len rfl rfl rfl rfl ts34.desc (.inl ⟨_, _, rfl, (List.length_map _).symm⟩) ?_)
  refine wL (OpA.lss rfl rfl rfl ?_)
  refine wpL_nil ?_
  refine wpA_cond rfl (fun b5 => ?_) (fun b5 => ?_)
  have h := h.1 (decT b5)
  refine wpA_skip ?_
  refine wpA_seq ?_
  refine wpA_block ?_
  refine wpA_seq ?_
  obtain ⟨q1, q2, h⟩ := h
  refine wpA_draw (m := 11) mo (by kernel_rfl) rfl ?_
  refine dL (OpA.fieldAddr rfl tf36_1 rfl ⟨rfl, rfl⟩) ?_
  refine dL (OpA.load rfl ti34 rfl (.tail .head) rfl rfl ⟨rfl, rfl⟩) ?_
  refine dL (OpA.m ⟨rfl, rfl⟩) ?_
  refine dL (OpA.iixV (enc := encLex) rfl ts34 rfl rfl rfl q1 ⟨rfl, rfl⟩) ?_
  refine dL (OpA.iload_whole rfl ti72 rfl ⟨_, rfl, rfl⟩ ⟨rfl, rfl⟩) ?_
  refine dL (OpA.fieldAddr rfl tf36_1 rfl ⟨rfl, rfl⟩) ?_
  refine dL (OpA.load rfl ti34 rfl .head rfl rfl ⟨rfl, rfl⟩) ?_
  refine dL (OpA.m ⟨rfl, rfl⟩) ?_
  refine dL (OpA.iixV (enc := encLex) rfl ts34 rfl rfl rfl q2 ⟨rfl, rfl⟩) ?_
  refine dL (OpA.iload_whole rfl ti72 rfl ⟨_, rfl, rfl⟩ ⟨rfl, rfl⟩) ?_
  refine dL (OpA.structcmp (xs := [.string ((gi a.words i).text), .int .i64 ((gi a.words i).line)]) (ys := [.string ((gi b.words i).text), .int .i64 ((gi b.words i).line)]) (r := (eqLexeme (gi a.words i) (gi b.words i))) rfl eg72 su72.1 su72.2.1 su72.2.2 rfl rfl (.str td9 ti9 rfl rfl (.int td3 ti3 rfl rfl .nil)) (.inr ⟨rfl, rfl⟩) ⟨rfl, rfl⟩) ?_
  refine DetK.nil ?_
  refine wpL_nil ?_
  refine wpA_cond rfl (fun b6 => ?_) (fun b6 => ?_)
  have h := h.1 (notT b6)
  refine wpA_seq ?_
  refine wpA_region ?_
  refine wL (OpA.a ?_)
  refine wpL_nil ?_
  refine wpA_ret ?_
  exact ⟨_, (.tmp (d := D.b false) rfl .nil), _, (.same rfl .nil), ⟨false, rfl, h⟩⟩
  have h := h.2 (notF b6)
  refine wpA_skip ?_
  obtain ⟨q1, h⟩ := h
  refine wpA_region ?_
  refine wL (OpA.m ?_)
  refine wL (OpA.addi rfl rfl rfl q1 ?_)
  refine wL (OpA.a ?_)
  refine wpL_nil ?_
  exact ⟨(), (i + 1), h, (Cov.asg ⟨rfl, rfl, rfl, rfl, trivial⟩), (.refl _)⟩
  have h := h.2 (decF b5)
  refine wpA_exit ?_
  refine wpA_seq ?_
  refine wpA_region ?_
  refine wL (OpA.a ?_)
  refine wpL_nil ?_
  refine wpA_ret ?_
  exact ⟨_, (.tmp (d := D.b true) rfl .nil), _, (.same rfl .nil), ⟨true, rfl, h⟩⟩
theorem n23same_c (a : Text) (b : Text)  (hp0 : okT a) : Fun false Tryz.prog 49 [encText a, encText b] (fun d => d = D.b ((decide (a = b)))) :=
  Fun.at (enc := fun r => D.b r) (v := (decide (a = b))) (n23same_w a b  (fun r => r = (decide (a = b))) (n23same_ok a b _ hp0 rfl))

set_option maxHeartbeats 2000000 in
set_option maxRecDepth 10000 in
theorem c26samec_w (a : Corpus) (b : Corpus)  (Q : Bool → Prop) (h : c26samec_vc a b Q) : Fun false Tryz.prog 15 [encCorpus a, encCorpus b] (fun d => ∃ r, d = D.b r ∧ Q r) := by
  unfold c26samec_vc at h
  refine Fun.of_body Tryz.func15 rfl Tryz.ntmps15 rfl ?_
  refine wpA_seq ?_
  refine wpA_region ?_
  refine wL (OpA.bx (sz := 4) rfl (by with_reducible conv => lhs; whnf) (.of rfl) (fun c1 _ => ?_))
  refine wL (OpA.bx (sz := 4) rfl (by with_reducible conv => lhs; whnf) (.of rfl) (fun c2 _ => ?_))
  refine wL (OpA.a ?_)
  refine wpL_nil ?_
  iterate 2 refine wpA_seq ?_
  obtain ⟨q1, h⟩ := h
  refine wpA_mid (asg [(2, .ptr c1 4 0 0), (3, .ptr c2 4 0 0), (4, D.b false), (34, D.b ((((a.k != b.k) || (a.w != b.w)) || ((a.texts.length : Int) != (b.texts.length : Int))) || (!(decide (a.posts = b.posts)))))]) [(c2, .cells 4 [encCorpus b]), (c1, .cells 4 [encCorpus a])] ?_ ?_
  refine wpA_region ?_
  refine wL (OpA.fieldAddr rfl tf25_0 rfl ?_)
  refine wL (OpA.load rfl ti3 rfl (.tail .head) rfl rfl ?_)
  refine wL (OpA.fieldAddr rfl tf25_0 rfl ?_)
  refine wL (OpA.load rfl ti3 rfl .head rfl rfl ?_)
  refine wL (OpA.neq rfl rfl rfl ?_)
  refine wL (OpA.m ?_)
  refine wpL_split (s := 11) rfl (fun b7 => ?_) (fun b7 => ?_)
  iterate 5 refine wS ?_
  refine wL (OpA.p ?_)
  refine wL (OpA.m ?_)
  iterate 7 refine wS ?_
  refine wL (OpA.p ?_)
  refine wL (OpA.m ?_)
  iterate 6 refine wS ?_
  refine wL (OpA.p ?_)
  refine wpL_nil ?_
  exact ⟨(Cov.asg ⟨rfl, rfl, rfl, (congrArg D.b (Eq.symm (orS (orS (orS b7))))), trivial⟩), (.refl _)⟩
  refine wG (OpA.fieldAddr rfl tf25_1 rfl ?_)
  refine wG (OpA.load rfl ti3 rfl (.tail .head) rfl rfl ?_)
  refine wG (OpA.fieldAddr rfl tf25_1 rfl ?_)
  refine wG (OpA.load rfl ti3 rfl .head rfl rfl ?_)
  refine wG (OpA.neq rfl rfl rfl ?_)
  refine wL (OpA.p ?_)
  refine wL (OpA.m ?_)
  refine wpL_split (s := 18) rfl (fun b8 => ?_) (fun b8 => ?_)
  iterate 7 refine wS ?_
  refine wL (OpA.p ?_)
  refine wL (OpA.m ?_)
  iterate 6 refine wS ?_
  refine wL (OpA.p ?_)
  refine wpL_nil ?_
  exact ⟨(Cov.asg ⟨rfl, rfl, rfl, (congrArg D.b (Eq.symm (orS (orS (orN b7 b8))))), trivial⟩), (.refl _)⟩
  refine wG (OpA.fieldAddr rfl tf25_2 rfl ?_)
  refine wG (OpA.load rfl ti22 rfl (.tail .head) rfl rfl ?_)
  refine wG (OpA.len rfl rfl rfl rfl ts22.desc (.inl ⟨_, _, rfl, (List.length_map _).symm⟩) ?_)
  refine wG (OpA.fieldAddr rfl tf25_2 rfl ?_)
  refine wG (OpA.load rfl ti22 rfl .head rfl rfl ?_)
  refine wG (OpA.len rfl rfl rfl rfl ts22.desc (.inl ⟨_, _, rfl, (List.length_map _).symm⟩) ?_)
  refine wG (OpA.neq rfl rfl rfl ?_)
  refine wL (OpA.p ?_)
  refine wL (OpA.m ?_)
  refine wpL_split (s := 27) rfl (fun b9 => ?_) (fun b9 => ?_)
  iterate 6 refine wS ?_
  refine wL (OpA.p ?_)
  refine wpL_nil ?_
  exact ⟨(Cov.asg ⟨rfl, rfl, rfl, (congrArg D.b (Eq.symm (orS (orN (orN b7 b8) b9)))), trivial⟩), (.refl _)⟩
  refine wG (OpA.fieldAddr rfl tf25_3 rfl ?_)
  refine wG (OpA.load rfl ti23 rfl (.tail .head) rfl rfl ?_)
  refine wG (OpA.fieldAddr rfl tf25_3 rfl ?_)
  refine wG (OpA.load rfl ti23 rfl .head rfl rfl ?_)
  refine wG (OpA.call rfl rfl rfl en47 (c26same_c a.posts b.posts (q1 ⟨⟨(bneF b7), (bneF b8)⟩, (bneF b9)⟩)) ?_)
  rintro _ rfl
  refine wG (OpA.not rfl rfl ?_)
  refine wL (OpA.p ?_)
  refine wpL_nil ?_
  exact ⟨(Cov.asg ⟨rfl, rfl, rfl, (congrArg D.b (Eq.symm (orN (orN (orN b7 b8) b9) rfl))), trivial⟩), (.refl _)⟩
  show wpA _ _ _ _ (asg [(2, .ptr c1 4 0 0), (3, .ptr c2 4 0 0), (4, D.b false), (34, D.b ((((a.k != b.k) || (a.w != b.w)) || ((a.texts.length : Int) != (b.texts.length : Int))) || (!(decide (a.posts = b.posts)))))]) [(c2, .cells 4 [encCorpus b]), (c1, .cells 4 [encCorpus a])]
  refine wpA_cond rfl (fun b3 => ?_) (fun b3 => ?_)
  have h := h.1 ((or0 b3).imp (fun hh => ((or0 hh).imp (fun hh => ((or0 hh).imp (fun hh => (bneT hh)) (fun hh => (bneT hh)))) (fun hh => (bneT hh)))) (fun hh => (notT hh)))
  refine wpA_seq ?_
  refine wpA_region ?_
  refine wL (OpA.a ?_)
  refine wpL_nil ?_
  refine wpA_ret ?_
  exact ⟨_, (.tmp (d := D.b false) rfl .nil), _, (.same rfl .nil), ⟨false, rfl, h⟩⟩
  have h := h.2 ⟨⟨⟨(bneF (or1 (or1 (or1 b3)))), (bneF (or2 (or1 (or1 b3))))⟩, (bneF (or2 (or1 b3)))⟩, (notF (or2 b3))⟩
  refine wpA_skip ?_
  iterate 2 refine wpA_seq ?_
  refine wpA_region ?_
  refine wL (OpA.a ?_)
  refine wpL_nil ?_
  refine wpA_block ?_
  refine wpA_lfp (S := Int) (G := Unit) () (fun gg ss => asg [(2, .ptr c1 4 0 0), (3, .ptr c2 4 0 0), (4, D.b false), (5, D.i ss)]) (fun gg ss => [(c2, .cells 4 [encCorpus b]), (c1, .cells 4 [encCorpus a])]) h (Cov.asg ⟨rfl, rfl, rfl, rfl, trivial⟩) (.refl _) ?_
  rintro again4 _ i h
  have h : c26samec_L1 a b Q again4 i := h
  unfold c26samec_L1 at h
  show wpA _ _ _ _ (asg [(2, .ptr c1 4 0 0), (3, .ptr c2 4 0 0), (4, D.b false), (5, D.i i)]) [(c2, .cells 4 [encCorpus b]), (c1, .cells 4 [encCorpus a])]
  iterate 2 refine wpA_seq ?_
  refine wpA_region ?_
  refine wL (OpA.m ?_)
  refine wL (OpA.fieldAddr rfl tf25_2 rfl ?_)
  refine wL (OpA.load rfl ti22 rfl (.tail .head) rfl rfl ?_)
  refine wL (OpA.len rfl rfl rfl rfl ts22.desc (.inl ⟨_, _, rfl, (List.length_map _).symm⟩) ?_)
  refine wL (OpA.lss rfl rfl rfl ?_)
  refine wpL_nil ?_
  refine wpA_cond rfl (fun b5 => ?_) (fun b5 => ?_)
  have h := h.1 (decT b5)
  refine wpA_skip ?_
  refine wpA_seq ?_
  refine wpA_block ?_
  refine wpA_seq ?_
  obtain ⟨q1, q2, q3, h⟩ := h
  refine wpA_draw (m := 12) mo (by kernel_rfl) rfl ?_
  refine dL (OpA.fieldAddr rfl tf25_2 rfl ⟨rfl, rfl⟩) ?_
  refine dL (OpA.load rfl ti22 rfl (.tail .head) rfl rfl ⟨rfl, rfl⟩) ?_
  refine dL (OpA.m ⟨rfl, rfl⟩) ?_
  refine dL (OpA.iixV (enc := encText) rfl ts22 rfl rfl rfl q1 ⟨rfl, rfl⟩) ?_
  refine dL (OpA.iload_whole rfl ti36 rfl ⟨_, rfl, rfl⟩ ⟨rfl, rfl⟩) ?_
  refine dL (OpA.fieldAddr rfl tf25_2 rfl ⟨rfl, rfl⟩) ?_
  refine dL (OpA.load rfl ti22 rfl .head rfl rfl ⟨rfl, rfl⟩) ?_
  refine dL (OpA.m ⟨rfl, rfl⟩) ?_
  refine dL (OpA.iixV (enc := encText) rfl ts22 rfl rfl rfl q2 ⟨rfl, rfl⟩) ?_
  refine dL (OpA.iload_whole rfl ti36 rfl ⟨_, rfl, rfl⟩ ⟨rfl, rfl⟩) ?_
  refine dL (OpA.call rfl rfl rfl en49 (n23same_c (gi a.texts i) (gi b.texts i) q3) (by rintro _ rfl; exact ⟨rfl, rfl⟩)) ?_
  refine dL (OpA.not rfl rfl ⟨rfl, rfl⟩) ?_
  refine DetK.nil ?_
  refine wpL_nil ?_
  refine wpA_cond rfl (fun b6 => ?_) (fun b6 => ?_)
  have h := h.1 (notT b6)
  refine wpA_seq ?_
  refine wpA_region ?_
  refine wL (OpA.a ?_)
  refine wpL_nil ?_
  refine wpA_ret ?_
  exact ⟨_, (.tmp (d := D.b false) rfl .nil), _, (.same rfl .nil), ⟨false, rfl, h⟩⟩
  have h := h.2 (notF b6)
  refine wpA_skip ?_
  obtain ⟨q1, h⟩ := h
  refine wpA_region ?_
  refine wL (OpA.m ?_)
  refine wL (OpA.addi rfl rfl rfl q1 ?_)
  refine wL (OpA.a ?_)
  refine wpL_nil ?_
  exact ⟨(), (i + 1), h, (Cov.asg ⟨rfl, rfl, rfl, rfl, trivial⟩), (.refl _)⟩
  have h := h.2 (decF b5)
  refine wpA_exit ?_
  refine wpA_seq ?_
  refine wpA_region ?_
  refine wL (OpA.a ?_)
  refine wpL_nil ?_
  refine wpA_ret ?_
  exact ⟨_, (.tmp (d := D.b true) rfl .nil), _, (.same rfl .nil), ⟨true, rfl, h⟩⟩
theorem c26samec_c (a : Corpus) (b : Corpus)  (hp0 : okC a) : Fun false Tryz.prog 15 [encCorpus a, encCorpus b] (fun d => d = D.b ((decide (a = b)))) :=
  Fun.at (enc := fun r => D.b r) (v := (decide (a = b))) (c26samec_w a b  (fun r => r = (decide (a = b))) (c26samec_ok a b _ hp0 rfl))

set_option maxHeartbeats 2000000 in
set_option maxRecDepth 10000 in
theorem c26fewt_w (l : (List Text))  (Q : Bool → Prop) (h : c26fewt_vc l Q) : Fun false Tryz.prog 16 [(encL 2 encText) l] (fun d => ∃ r, d = D.b r ∧ Q r) := by
  unfold c26fewt_vc at h
  refine Fun.of_body Tryz.func16 rfl Tryz.ntmps16 rfl ?_
  refine wpA_seq ?_
  refine wpA_region ?_
  refine wL (OpA.a ?_)
  refine wpL_nil ?_
  iterate 2 refine wpA_seq ?_
  refine wpA_region ?_
  refine wL (OpA.m ?_)
  refine wL (OpA.len rfl rfl rfl rfl ts22.desc (.inl ⟨_, _, rfl, (List.length_map _).symm⟩) ?_)
  refine wL (OpA.gtr rfl rfl rfl ?_)
  refine wpL_nil ?_
  refine wpA_cond rfl (fun b1 => ?_) (fun b1 => ?_)
  have h := h.1 (decT b1)
  refine wpA_seq ?_
  refine wpA_region ?_
  refine wL (OpA.a ?_)
  refine wpL_nil ?_
  refine wpA_ret ?_
  exact ⟨_, (.tmp (d := D.b false) rfl .nil), _, (.same rfl .nil), ⟨false, rfl, h⟩⟩
  have h := h.2 (decF b1)
  refine wpA_skip ?_
  iterate 2 refine wpA_seq ?_
  refine wpA_region ?_
  refine wL (OpA.a ?_)
  refine wpL_nil ?_
  refine wpA_block ?_
  refine wpA_lfp (S := Int) (G := Unit) () (fun gg ss => asg [(0, (encL 2 encText) l), (2, D.b false), (3, D.i ss)]) (fun gg ss => []) h (Cov.asg ⟨rfl, rfl, rfl, trivial⟩) (.refl _) ?_
  rintro again2 _ i h
  have h : c26fewt_L1 l Q again2 i := h
  unfold c26fewt_L1 at h
  show wpA _ _ _ _ (asg [(0, (encL 2 encText) l), (2, D.b false), (3, D.i i)]) []
  iterate 2 refine wpA_seq ?_
  refine wpA_region ?_
  iterate 2 refine wL (OpA.m ?_)
  refine wL (OpA.len rfl rfl rfl rfl ts22.desc (.inl ⟨_, _, rfl, (List.length_map _).symm⟩) ?_)
  refine wL (OpA.lss rfl rfl rfl ?_)
  refine wpL_nil ?_
  refine wpA_cond rfl (fun b3 => ?_) (fun b3 => ?_)
  have h := h.1 (decT b3)
  refine wpA_skip ?_
  refine wpA_seq ?_
  refine wpA_block ?_
  refine wpA_seq ?_
  obtain ⟨q1, h⟩ := h
  refine wpA_mid (asg [(0, (encL 2 encText) l), (2, D.b false), (3, D.i i), (28, D.b ((!(fewW ((gi l i).words))) || (decide ((((gi l i).path).size : Int) > 200))))]) [] ?_ ?_
  refine wpA_region ?_
  iterate 2 refine wL (OpA.m ?_)
  refine wL (OpA.iixV (enc := encText) rfl ts22 rfl rfl rfl q1 ?_)
  refine wL (OpA.ifieldAddr rfl tf36_1 rfl ?_)
  refine wL (OpA.iload rfl ti34 rfl rfl ?_)
  refine wL (OpA.call rfl rfl rfl en50 (g24few_c ((gi l i).words) ) ?_)
  rintro _ rfl
  refine wL (OpA.not rfl rfl ?_)
  refine wL (OpA.m ?_)
  refine wpL_split (s := 20) rfl (fun b5 => ?_) (fun b5 => ?_)
  iterate 7 refine wS ?_
  refine wL (OpA.p ?_)
  refine wpL_nil ?_
  exact ⟨(Cov.asg ⟨rfl, rfl, rfl, (congrArg D.b (Eq.symm (orS b5))), trivial⟩), (.refl _)⟩
  iterate 2 refine wG (OpA.m ?_)
  refine wG (OpA.iixV (enc := encText) rfl ts22 rfl rfl rfl q1 ?_)
  refine wG (OpA.ifieldAddr rfl tf36_0 rfl ?_)
  refine wG (OpA.iload rfl ti9 rfl rfl ?_)
  refine wG (OpA.slen rfl rfl rfl rfl td9 rfl ?_)
  refine wG (OpA.gtr rfl rfl rfl ?_)
  refine wL (OpA.p ?_)
  refine wpL_nil ?_
  exact ⟨(Cov.asg ⟨rfl, rfl, rfl, (congrArg D.b (Eq.symm (orN b5 rfl))), trivial⟩), (.refl _)⟩
  show wpA _ _ _ _ (asg [(0, (encL 2 encText) l), (2, D.b false), (3, D.i i), (28, D.b ((!(fewW ((gi l i).words))) || (decide ((((gi l i).path).size : Int) > 200))))]) []
  refine wpA_cond rfl (fun b4 => ?_) (fun b4 => ?_)
  have h := h.1 ((or0 b4).imp (fun hh => (notT hh)) (fun hh => (decT hh)))
  refine wpA_seq ?_
  refine wpA_region ?_
  refine wL (OpA.a ?_)
  refine wpL_nil ?_
  refine wpA_ret ?_
  exact ⟨_, (.tmp (d := D.b false) rfl .nil), _, (.same rfl .nil), ⟨false, rfl, h⟩⟩
  have h := h.2 ⟨(notF (or1 b4)), (decF (or2 b4))⟩
  refine wpA_skip ?_
  obtain ⟨q1, h⟩ := h
  refine wpA_region ?_
  refine wL (OpA.m ?_)
  refine wL (OpA.addi rfl rfl rfl q1 ?_)
  refine wL (OpA.a ?_)
  refine wpL_nil ?_
  exact ⟨(), (i + 1), h, (Cov.asg ⟨rfl, rfl, rfl, trivial⟩), (.refl _)⟩
  have h := h.2 (decF b3)
  refine wpA_exit ?_
  refine wpA_seq ?_
  refine wpA_region ?_
  refine wL (OpA.a ?_)
  refine wpL_nil ?_
  refine wpA_ret ?_
  exact ⟨_, (.tmp (d := D.b true) rfl .nil), _, (.same rfl .nil), ⟨true, rfl, h⟩⟩
theorem c26fewt_c (l : (List Text))   : Fun false Tryz.prog 16 [(encL 2 encText) l] (fun d => d = D.b (fewTs l)) :=
  Fun.at (enc := fun r => D.b r) (v := fewTs l) (c26fewt_w l  (fun r => r = fewTs l) (c26fewt_ok l _  rfl))

end Go.Proofs.YtkoomieafmjjfaaGreatDoor
