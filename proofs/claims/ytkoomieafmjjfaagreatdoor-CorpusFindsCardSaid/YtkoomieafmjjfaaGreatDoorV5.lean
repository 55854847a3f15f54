/-
  walks and contracts
-/
import Derived.Test.YtkoomieafmjjfaaGreatDoorV4
set_option linter.all false
namespace Go.Proofs.YtkoomieafmjjfaaGreatDoor
open Go Go.Lic Go.Sort Go.Proofs
attribute [local irreducible] addF addP badR blankF checkF cmpB cmpI codeF commonF4 corpusOf countF dropF fewC fewTs fewW findP findT gramsF growTF guarF hashF indexF leastF lenF mul64F mulP nameR nearC nearF newF orF partF pathB pathF postCmp postLt postsF powF printsF pushF rollF selectF sizeF splitF splitG validT



set_option maxHeartbeats 2000000 in
set_option maxRecDepth 10000 in
theorem cadd_w (c : Corpus) (t : Text)  (Q : Corpus × Int → Prop) (h : cadd_vc c t Q) : Fun false Tryz.prog 17 [encCorpus c, encText t] (fun d => ∃ r, d = .tup [encCorpus (r.1), D.i (r.2)] ∧ Q r) := by
  unfold cadd_vc at h
  refine Fun.of_body Tryz.func17 rfl Tryz.ntmps17 rfl ?_
  refine wpA_seq ?_
  refine wpA_region ?_
  refine wpL_op rfl rfl rfl (OpA.bx (sz := 4) rfl (by with_reducible conv => lhs; whnf) (.of rfl) (fun c1 _ => ?_))
  refine wpL_op rfl rfl rfl (OpA.bx (sz := 2) rfl (by with_reducible conv => lhs; whnf) (.of rfl) (fun c2 _ => ?_))
  refine wpL_op rfl rfl rfl (OpA.alloc (sz := 4) (d := .agg ([D.i 0, D.i 0, .v (.slice none 0 0), .v (.slice none 0 0)])) rfl tz25 (fun _ _ => .agg (.cons (.v _) (.cons (.v _) (.cons (.v _) (.cons (.v _) .nil))))) (.of rfl) (fun c3 _ => ?_))
  refine wpL_op rfl rfl rfl (OpA.asn rfl (by with_reducible conv => lhs; whnf) ?_)
  refine wpL_nil ?_
  iterate 2 refine wpA_seq ?_
  obtain ⟨q1, q2, h⟩ := h
  refine wpA_mid (asg [(2, .ptr c1 4 0 0), (3, .ptr c2 2 0 0), (4, .ptr c3 4 0 0), (5, D.i 0), (15, D.b (((checkF c) != 0) || (!(validT t))))]) [(c3, .cells 4 [.agg ([D.i 0, D.i 0, .v (.slice none 0 0), .v (.slice none 0 0)])]), (c2, .cells 2 [encText t]), (c1, .cells 4 [encCorpus c])] ?_ ?_
  refine wpA_region ?_
  refine wpL_op rfl rfl rfl (OpA.load_whole rfl ti25 rfl rfl (.tail (.tail .head)) rfl ⟨_, rfl⟩ ?_)
  refine wpL_op rfl rfl rfl (OpA.call rfl rfl rfl en13 (ccheck_c c q1) ?_)
  rintro _ rfl
  refine wpL_op rfl rfl rfl (OpA.neq rfl rfl rfl ?_)
  refine wpL_op rfl rfl rfl (OpA.mv rfl (by with_reducible conv => lhs; whnf) ?_)
  refine wpL_split (s := 11) rfl (fun b7 => ?_) (fun b7 => ?_)
  iterate 3 refine wpL_skip rfl rfl rfl rfl rfl rfl ?_
  refine wpL_op rfl rfl rfl (OpA.pck rfl rfl (by with_reducible conv => lhs; whnf) ?_)
  refine wpL_nil ?_
  exact ⟨(Cov.asg ⟨rfl, rfl, rfl, rfl, (congrArg D.b (Eq.symm (orS b7))), trivial⟩), (.refl _)⟩
  refine wpL_opg rfl rfl rfl rfl rfl rfl (OpA.load_whole rfl ti36 rfl rfl (.tail .head) rfl ⟨_, rfl⟩ ?_)
  refine wpL_opg rfl rfl rfl rfl rfl rfl (OpA.call rfl rfl rfl en27 (nvalid_c t (q2 (bneF b7))) ?_)
  rintro _ rfl
  refine wpL_opg rfl rfl rfl rfl rfl rfl (OpA.not rfl rfl ?_)
  refine wpL_op rfl rfl rfl (OpA.pck rfl rfl (by with_reducible conv => lhs; whnf) ?_)
  refine wpL_nil ?_
  exact ⟨(Cov.asg ⟨rfl, rfl, rfl, rfl, (congrArg D.b (Eq.symm (orN b7 rfl))), trivial⟩), (.refl _)⟩
  show wpA _ _ _ _ (asg [(2, .ptr c1 4 0 0), (3, .ptr c2 2 0 0), (4, .ptr c3 4 0 0), (5, D.i 0), (15, D.b (((checkF c) != 0) || (!(validT t))))]) [(c3, .cells 4 [.agg ([D.i 0, D.i 0, .v (.slice none 0 0), .v (.slice none 0 0)])]), (c2, .cells 2 [encText t]), (c1, .cells 4 [encCorpus c])]
  refine wpA_cond rfl (fun b4 => ?_) (fun b4 => ?_)
  have h := h.1 ((or0 b4).imp (fun hh => (bneT hh)) (fun hh => (notT hh)))
  refine wpA_seq ?_
  refine wpA_region ?_
  refine wpL_op rfl rfl rfl (OpA.buildO (zs := [.v (.int .i64 0), .v (.int .i64 0), .v (.slice none 0 0), .v (.slice none 0 0)]) rfl tp25 tz25 (fun _ _ => (.cons (.v _) (.cons (.v _) (.cons (.v _) (.cons (.v _) .nil))))) .nil rfl ?_)
  refine wpL_eff rfl rfl (OpA.storeW rfl ti25 rfl (by with_reducible conv => lhs; whnf) (.of rfl) rfl rfl .head ?_)
  refine wpL_op rfl rfl rfl (OpA.asn rfl (by with_reducible conv => lhs; whnf) ?_)
  refine wpL_nil ?_
  refine wpA_ret ?_
  exact ⟨_, (.cell (.whole ti25 rfl rfl .head rfl ⟨_, rfl⟩) (.tmp (d := D.i 1) rfl .nil)), _, (.tup (.agg (.same rfl (.same rfl (.nilv (sz := 2) (.nilv (sz := 3) .nil)))) (.same rfl .nil)) .nil), ⟨((Corpus.mk 0 0 [] []), 1), rfl, h⟩⟩
  have h := h.2 ⟨(bneF (or1 b4)), (notF (or2 b4))⟩
  refine wpA_skip ?_
  refine wpA_seq ?_
  obtain ⟨q1, q2, h⟩ := h
  refine wpA_region ?_
  refine wpL_op rfl rfl rfl (OpA.fieldAddr rfl tf25_2 rfl ?_)
  refine wpL_op rfl rfl rfl (OpA.load rfl ti22 rfl (.tail (.tail .head)) rfl rfl ?_)
  refine wpL_op rfl rfl rfl (OpA.fieldAddr rfl tf36_0 rfl ?_)
  refine wpL_op rfl rfl rfl (OpA.load rfl ti9 rfl (.tail .head) rfl rfl ?_)
  refine wpL_op rfl rfl rfl (OpA.call rfl rfl rfl en51 (cfind_c c.texts t.path q1 q2) ?_)
  rintro _ rfl
  refine wpL_op rfl rfl rfl (OpA.mv rfl (by with_reducible conv => lhs; whnf) ?_)
  refine wpL_op rfl rfl rfl (OpA.extract rfl rfl rfl ?_)
  refine wpL_op rfl rfl rfl (OpA.extract rfl rfl rfl ?_)
  refine wpL_op rfl rfl rfl (OpA.asn rfl (by with_reducible conv => lhs; whnf) ?_)
  refine wpL_op rfl rfl rfl (OpA.asn rfl (by with_reducible conv => lhs; whnf) ?_)
  refine wpL_nil ?_
  refine wpA_seq ?_
  refine wpA_block ?_
  refine wpA_seq ?_
  refine wpA_region ?_
  refine wpL_op rfl rfl rfl (OpA.mv rfl (by with_reducible conv => lhs; whnf) ?_)
  refine wpL_op rfl rfl rfl (OpA.asn rfl (by with_reducible conv => lhs; whnf) ?_)
  refine wpL_nil ?_
  refine wpA_cond rfl (fun b5 => ?_) (fun b5 => ?_)
  have h := h.1 b5
  refine wpA_seq ?_
  refine wpA_region ?_
  refine wpL_op rfl rfl rfl (OpA.buildO (zs := [.v (.int .i64 0), .v (.int .i64 0), .v (.slice none 0 0), .v (.slice none 0 0)]) rfl tp25 tz25 (fun _ _ => (.cons (.v _) (.cons (.v _) (.cons (.v _) (.cons (.v _) .nil))))) .nil rfl ?_)
  refine wpL_eff rfl rfl (OpA.storeW rfl ti25 rfl (by with_reducible conv => lhs; whnf) (.of rfl) rfl rfl .head ?_)
  refine wpL_op rfl rfl rfl (OpA.asn rfl (by with_reducible conv => lhs; whnf) ?_)
  refine wpL_nil ?_
  refine wpA_ret ?_
  exact ⟨_, (.cell (.whole ti25 rfl rfl .head rfl ⟨_, rfl⟩) (.tmp (d := D.i 6) rfl .nil)), _, (.tup (.agg (.same rfl (.same rfl (.nilv (sz := 2) (.nilv (sz := 3) .nil)))) (.same rfl .nil)) .nil), ⟨((Corpus.mk 0 0 [] []), 6), rfl, h⟩⟩
  have h := h.2 b5
  refine wpA_seq ?_
  refine wpA_region ?_
  refine wpL_op rfl rfl rfl (OpA.fieldAddr rfl tf25_2 rfl ?_)
  refine wpL_op rfl rfl rfl (OpA.load rfl ti22 rfl (.tail (.tail .head)) rfl rfl ?_)
  refine wpL_op rfl rfl rfl (OpA.len rfl rfl rfl rfl ts22.desc (.inl ⟨_, _, rfl, (List.length_map _).symm⟩) ?_)
  refine wpL_op rfl rfl rfl (OpA.eql rfl rfl rfl ?_)
  refine wpL_op rfl rfl rfl (OpA.asn rfl (by with_reducible conv => lhs; whnf) ?_)
  refine wpL_nil ?_
  refine wpA_cond rfl (fun b6 => ?_) (fun b6 => ?_)
  have h := h.1 (beqT b6)
  refine wpA_seq ?_
  refine wpA_region ?_
  refine wpL_op rfl rfl rfl (OpA.buildO (zs := [.v (.int .i64 0), .v (.int .i64 0), .v (.slice none 0 0), .v (.slice none 0 0)]) rfl tp25 tz25 (fun _ _ => (.cons (.v _) (.cons (.v _) (.cons (.v _) (.cons (.v _) .nil))))) .nil rfl ?_)
  refine wpL_eff rfl rfl (OpA.storeW rfl ti25 rfl (by with_reducible conv => lhs; whnf) (.of rfl) rfl rfl .head ?_)
  refine wpL_op rfl rfl rfl (OpA.asn rfl (by with_reducible conv => lhs; whnf) ?_)
  refine wpL_nil ?_
  refine wpA_ret ?_
  exact ⟨_, (.cell (.whole ti25 rfl rfl .head rfl ⟨_, rfl⟩) (.tmp (d := D.i 10) rfl .nil)), _, (.tup (.agg (.same rfl (.same rfl (.nilv (sz := 2) (.nilv (sz := 3) .nil)))) (.same rfl .nil)) .nil), ⟨((Corpus.mk 0 0 [] []), 10), rfl, h⟩⟩
  have h := h.2 (beqF b6)
  refine wpA_skip ?_
  refine wpA_seq ?_
  obtain ⟨q1, h⟩ := h
  refine wpA_region ?_
  refine wpL_op rfl rfl rfl (OpA.fieldAddr rfl tf36_1 rfl ?_)
  refine wpL_op rfl rfl rfl (OpA.load rfl ti34 rfl (.tail .head) rfl rfl ?_)
  refine wpL_op rfl rfl rfl (OpA.call rfl rfl rfl en52 (cclone_c t.words q1) ?_)
  rintro _ rfl
  refine wpL_op rfl rfl rfl (OpA.fieldAddr rfl tf36_1 rfl ?_)
  refine wpL_eff rfl rfl (OpA.store (e' := encText (Text.mk t.path t.words)) rfl ti34 rfl (.of rfl) rfl (Nat.le_of_ble_eq_true rfl) rfl (.tail .head) ?_)
  refine wpL_nil ?_
  refine wpA_seq ?_
  obtain ⟨q1, q2, q3, q4, q5, h⟩ := h
  refine wpA_draw (m := 14) mo (by kernel_rfl) rfl ?_
  refine DetK.op rfl (OpA.load_whole rfl ti25 rfl rfl (.tail (.tail .head)) rfl ⟨_, rfl⟩ ⟨rfl, rfl⟩) ?_
  refine DetK.op rfl (OpA.fieldAddr rfl tf25_2 rfl ⟨rfl, rfl⟩) ?_
  refine DetK.op rfl (OpA.load rfl ti22 rfl (.tail (.tail .head)) rfl rfl ⟨rfl, rfl⟩) ?_
  refine DetK.op rfl (OpA.mv rfl (by with_reducible conv => lhs; whnf) ⟨rfl, rfl⟩) ?_
  refine DetK.op rfl (OpA.isliceV (enc := encText) rfl ts22 rfl (.none _) (.some rfl) q1 ⟨rfl, rfl⟩) ?_
  refine DetK.op rfl (OpA.load_whole rfl ti36 rfl rfl (.tail .head) rfl ⟨_, rfl⟩ ⟨rfl, rfl⟩) ?_
  refine DetK.op rfl (OpA.ibuildSliceO rfl ts22 rfl (.cons (.of (sz := 2) rfl) .nil) (by decide) ⟨rfl, rfl⟩) ?_
  refine DetK.op rfl (OpA.fieldAddr rfl tf25_2 rfl ⟨rfl, rfl⟩) ?_
  refine DetK.op rfl (OpA.load rfl ti22 rfl (.tail (.tail .head)) rfl rfl ⟨rfl, rfl⟩) ?_
  refine DetK.op rfl (OpA.mv rfl (by with_reducible conv => lhs; whnf) ⟨rfl, rfl⟩) ?_
  refine DetK.op rfl (OpA.isliceV (enc := encText) rfl ts22 rfl (.some rfl) (.none _) q2 ⟨rfl, rfl⟩) ?_
  refine DetK.op rfl (OpA.ibuildSliceO rfl ts108 rfl (.cons (.of (sz := 1) rfl) (.cons (.of (sz := 1) rfl) (.cons (.of (sz := 1) rfl) .nil))) (by decide) ⟨rfl, rfl⟩) ?_
  refine DetK.op rfl (OpA.call rfl rfl rfl en40 (concatT_c ([(lsub c.texts 0 ((findT c.texts t.path).1)), ([(Text.mk t.path t.words)] : List Text), (lsub c.texts ((findT c.texts t.path).1) (c.texts.length : Int))] : List (List Text)) q3 q4) (by rintro _ rfl; exact ⟨rfl, rfl⟩)) ?_
  refine DetK.op rfl (OpA.call rfl rfl rfl en53 (cwith_c c (List.flatten ([(lsub c.texts 0 ((findT c.texts t.path).1)), ([(Text.mk t.path t.words)] : List Text), (lsub c.texts ((findT c.texts t.path).1) (c.texts.length : Int))] : List (List Text))) q5) (by rintro _ rfl; exact ⟨rfl, rfl⟩)) ?_
  refine DetK.nil ?_
  refine wpL_eff rfl rfl (OpA.storeW rfl ti25 rfl (by with_reducible conv => lhs; whnf) (.of rfl) rfl rfl .head ?_)
  refine wpL_op rfl rfl rfl (OpA.asn rfl (by with_reducible conv => lhs; whnf) ?_)
  refine wpL_nil ?_
  refine wpA_ret ?_
  exact ⟨_, (.cell (.whole ti25 rfl rfl .head rfl ⟨_, rfl⟩) (.tmp (d := D.i 0) rfl .nil)), _, (.tup (.same rfl (.same rfl .nil)) .nil), ⟨((corpusOf (List.flatten ([(lsub c.texts 0 ((findT c.texts t.path).1)), ([(Text.mk t.path t.words)] : List Text), (lsub c.texts ((findT c.texts t.path).1) (c.texts.length : Int))] : List (List Text))) c.k c.w), 0), rfl, h⟩⟩
theorem cadd_c (c : Corpus) (t : Text)  (hp0 : okC c) (hp1 : okT t) : Fun false Tryz.prog 17 [encCorpus c, encText t] (fun d => d = .tup [encCorpus ((addF c t).1), D.i ((addF c t).2)]) :=
  Fun.at (enc := fun r => .tup [encCorpus (r.1), D.i (r.2)]) (v := addF c t) (cadd_w c t  (fun r => r = addF c t) (cadd_ok c t _ hp0 hp1 rfl))

set_option maxHeartbeats 2000000 in
set_option maxRecDepth 10000 in
theorem cdrop_w (c : Corpus) (path : ByteArray)  (Q : Corpus × Int → Prop) (h : cdrop_vc c path Q) : Fun false Tryz.prog 19 [encCorpus c, D.s path] (fun d => ∃ r, d = .tup [encCorpus (r.1), D.i (r.2)] ∧ Q r) := by
  unfold cdrop_vc at h
  refine Fun.of_body Tryz.func19 rfl Tryz.ntmps19 rfl ?_
  refine wpA_seq ?_
  refine wpA_region ?_
  refine wpL_op rfl rfl rfl (OpA.bx (sz := 4) rfl (by with_reducible conv => lhs; whnf) (.of rfl) (fun c1 _ => ?_))
  refine wpL_op rfl rfl rfl (OpA.alloc (sz := 4) (d := .agg ([D.i 0, D.i 0, .v (.slice none 0 0), .v (.slice none 0 0)])) rfl tz25 (fun _ _ => .agg (.cons (.v _) (.cons (.v _) (.cons (.v _) (.cons (.v _) .nil))))) (.of rfl) (fun c2 _ => ?_))
  refine wpL_op rfl rfl rfl (OpA.asn rfl (by with_reducible conv => lhs; whnf) ?_)
  refine wpL_nil ?_
  iterate 2 refine wpA_seq ?_
  obtain ⟨q1, h⟩ := h
  refine wpA_region ?_
  refine wpL_op rfl rfl rfl (OpA.load_whole rfl ti25 rfl rfl (.tail .head) rfl ⟨_, rfl⟩ ?_)
  refine wpL_op rfl rfl rfl (OpA.call rfl rfl rfl en13 (ccheck_c c q1) ?_)
  rintro _ rfl
  refine wpL_op rfl rfl rfl (OpA.neq rfl rfl rfl ?_)
  refine wpL_nil ?_
  refine wpA_cond rfl (fun b3 => ?_) (fun b3 => ?_)
  have h := h.1 (bneT b3)
  refine wpA_seq ?_
  refine wpA_region ?_
  refine wpL_op rfl rfl rfl (OpA.buildO (zs := [.v (.int .i64 0), .v (.int .i64 0), .v (.slice none 0 0), .v (.slice none 0 0)]) rfl tp25 tz25 (fun _ _ => (.cons (.v _) (.cons (.v _) (.cons (.v _) (.cons (.v _) .nil))))) .nil rfl ?_)
  refine wpL_eff rfl rfl (OpA.storeW rfl ti25 rfl (by with_reducible conv => lhs; whnf) (.of rfl) rfl rfl .head ?_)
  refine wpL_op rfl rfl rfl (OpA.asn rfl (by with_reducible conv => lhs; whnf) ?_)
  refine wpL_nil ?_
  refine wpA_ret ?_
  exact ⟨_, (.cell (.whole ti25 rfl rfl .head rfl ⟨_, rfl⟩) (.tmp (d := D.i 1) rfl .nil)), _, (.tup (.agg (.same rfl (.same rfl (.nilv (sz := 2) (.nilv (sz := 3) .nil)))) (.same rfl .nil)) .nil), ⟨((Corpus.mk 0 0 [] []), 1), rfl, h⟩⟩
  have h := h.2 (bneF b3)
  refine wpA_skip ?_
  refine wpA_seq ?_
  obtain ⟨q1, q2, h⟩ := h
  refine wpA_region ?_
  refine wpL_op rfl rfl rfl (OpA.fieldAddr rfl tf25_2 rfl ?_)
  refine wpL_op rfl rfl rfl (OpA.load rfl ti22 rfl (.tail .head) rfl rfl ?_)
  refine wpL_op rfl rfl rfl (OpA.mv rfl (by with_reducible conv => lhs; whnf) ?_)
  refine wpL_op rfl rfl rfl (OpA.call rfl rfl rfl en51 (cfind_c c.texts path q1 q2) ?_)
  rintro _ rfl
  refine wpL_op rfl rfl rfl (OpA.mv rfl (by with_reducible conv => lhs; whnf) ?_)
  refine wpL_op rfl rfl rfl (OpA.extract rfl rfl rfl ?_)
  refine wpL_op rfl rfl rfl (OpA.extract rfl rfl rfl ?_)
  refine wpL_op rfl rfl rfl (OpA.asn rfl (by with_reducible conv => lhs; whnf) ?_)
  refine wpL_op rfl rfl rfl (OpA.asn rfl (by with_reducible conv => lhs; whnf) ?_)
  refine wpL_nil ?_
  iterate 2 refine wpA_seq ?_
  refine wpA_region ?_
  refine wpL_op rfl rfl rfl (OpA.mv rfl (by with_reducible conv => lhs; whnf) ?_)
  refine wpL_op rfl rfl rfl (OpA.not rfl rfl ?_)
  refine wpL_nil ?_
  refine wpA_cond rfl (fun b4 => ?_) (fun b4 => ?_)
  have h := h.1 (notT b4)
  refine wpA_seq ?_
  refine wpA_region ?_
  refine wpL_op rfl rfl rfl (OpA.buildO (zs := [.v (.int .i64 0), .v (.int .i64 0), .v (.slice none 0 0), .v (.slice none 0 0)]) rfl tp25 tz25 (fun _ _ => (.cons (.v _) (.cons (.v _) (.cons (.v _) (.cons (.v _) .nil))))) .nil rfl ?_)
  refine wpL_eff rfl rfl (OpA.storeW rfl ti25 rfl (by with_reducible conv => lhs; whnf) (.of rfl) rfl rfl .head ?_)
  refine wpL_op rfl rfl rfl (OpA.asn rfl (by with_reducible conv => lhs; whnf) ?_)
  refine wpL_nil ?_
  refine wpA_ret ?_
  exact ⟨_, (.cell (.whole ti25 rfl rfl .head rfl ⟨_, rfl⟩) (.tmp (d := D.i 7) rfl .nil)), _, (.tup (.agg (.same rfl (.same rfl (.nilv (sz := 2) (.nilv (sz := 3) .nil)))) (.same rfl .nil)) .nil), ⟨((Corpus.mk 0 0 [] []), 7), rfl, h⟩⟩
  have h := h.2 (notF b4)
  refine wpA_skip ?_
  refine wpA_seq ?_
  obtain ⟨q1, q2, q3, q4, q5, q6, h⟩ := h
  refine wpA_draw (m := 13) mo (by kernel_rfl) rfl ?_
  refine DetK.op rfl (OpA.load_whole rfl ti25 rfl rfl (.tail .head) rfl ⟨_, rfl⟩ ⟨rfl, rfl⟩) ?_
  refine DetK.op rfl (OpA.fieldAddr rfl tf25_2 rfl ⟨rfl, rfl⟩) ?_
  refine DetK.op rfl (OpA.load rfl ti22 rfl (.tail .head) rfl rfl ⟨rfl, rfl⟩) ?_
  refine DetK.op rfl (OpA.mv rfl (by with_reducible conv => lhs; whnf) ⟨rfl, rfl⟩) ?_
  refine DetK.op rfl (OpA.isliceV (enc := encText) rfl ts22 rfl (.none _) (.some rfl) q1 ⟨rfl, rfl⟩) ?_
  refine DetK.op rfl (OpA.fieldAddr rfl tf25_2 rfl ⟨rfl, rfl⟩) ?_
  refine DetK.op rfl (OpA.load rfl ti22 rfl (.tail .head) rfl rfl ⟨rfl, rfl⟩) ?_
  refine DetK.op rfl (OpA.mv rfl (by with_reducible conv => lhs; whnf) ⟨rfl, rfl⟩) ?_
  refine DetK.op rfl (OpA.addi rfl rfl rfl q2 ⟨rfl, rfl⟩) ?_
  refine DetK.op rfl (OpA.isliceV (enc := encText) rfl ts22 rfl (.some rfl) (.none _) q3 ⟨rfl, rfl⟩) ?_
  refine DetK.op rfl (OpA.ibuildSliceO rfl ts108 rfl (.cons (.of (sz := 1) rfl) (.cons (.of (sz := 1) rfl) .nil)) (by decide) ⟨rfl, rfl⟩) ?_
  refine DetK.op rfl (OpA.call rfl rfl rfl en40 (concatT_c ([(lsub c.texts 0 ((findT c.texts path).1)), (lsub c.texts (((findT c.texts path).1) + 1) (c.texts.length : Int))] : List (List Text)) q4 q5) (by rintro _ rfl; exact ⟨rfl, rfl⟩)) ?_
  refine DetK.op rfl (OpA.call rfl rfl rfl en53 (cwith_c c (List.flatten ([(lsub c.texts 0 ((findT c.texts path).1)), (lsub c.texts (((findT c.texts path).1) + 1) (c.texts.length : Int))] : List (List Text))) q6) (by rintro _ rfl; exact ⟨rfl, rfl⟩)) ?_
  refine DetK.nil ?_
  refine wpL_eff rfl rfl (OpA.storeW rfl ti25 rfl (by with_reducible conv => lhs; whnf) (.of rfl) rfl rfl .head ?_)
  refine wpL_op rfl rfl rfl (OpA.asn rfl (by with_reducible conv => lhs; whnf) ?_)
  refine wpL_nil ?_
  refine wpA_ret ?_
  exact ⟨_, (.cell (.whole ti25 rfl rfl .head rfl ⟨_, rfl⟩) (.tmp (d := D.i 0) rfl .nil)), _, (.tup (.same rfl (.same rfl .nil)) .nil), ⟨((corpusOf (List.flatten ([(lsub c.texts 0 ((findT c.texts path).1)), (lsub c.texts (((findT c.texts path).1) + 1) (c.texts.length : Int))] : List (List Text))) c.k c.w), 0), rfl, h⟩⟩
theorem cdrop_c (c : Corpus) (path : ByteArray)  (hp0 : okC c) (hp1 : path.size ≤ 1000000) : Fun false Tryz.prog 19 [encCorpus c, D.s path] (fun d => d = .tup [encCorpus ((dropF c path).1), D.i ((dropF c path).2)]) :=
  Fun.at (enc := fun r => .tup [encCorpus (r.1), D.i (r.2)]) (v := dropF c path) (cdrop_w c path  (fun r => r = dropF c path) (cdrop_ok c path _ hp0 hp1 rfl))

set_option maxHeartbeats 2000000 in
set_option maxRecDepth 10000 in
theorem c26at_w (c : Corpus) (path : ByteArray)  (Q : Int → Prop) (h : c26at_vc c path Q) : Fun false Tryz.prog 54 [encCorpus c, D.s path] (fun d => ∃ r, d = D.i r ∧ Q r) := by
  unfold c26at_vc at h
  refine Fun.of_body Tryz.func54 rfl Tryz.ntmps54 rfl ?_
  refine wpA_seq ?_
  refine wpA_region ?_
  refine wpL_op rfl rfl rfl (OpA.bx (sz := 4) rfl (by with_reducible conv => lhs; whnf) (.of rfl) (fun c1 _ => ?_))
  refine wpL_op rfl rfl rfl (OpA.asn rfl (by with_reducible conv => lhs; whnf) ?_)
  refine wpL_nil ?_
  iterate 2 refine wpA_seq ?_
  refine wpA_region ?_
  refine wpL_op rfl rfl rfl (OpA.asn rfl (by with_reducible conv => lhs; whnf) ?_)
  refine wpL_nil ?_
  refine wpA_block ?_
  refine wpA_lfp (S := Int) (G := Unit) () (fun gg ss => asg [(1, D.s path), (2, .ptr c1 4 0 0), (4, D.i 0), (5, D.i ss)]) (fun gg ss => [(c1, .cells 4 [encCorpus c])]) h (Cov.asg ⟨rfl, rfl, rfl, rfl, trivial⟩) (.refl _) ?_
  rintro again2 _ i h
  have h : c26at_L1 c path Q again2 i := h
  unfold c26at_L1 at h
  show wpA _ _ _ _ (asg [(1, D.s path), (2, .ptr c1 4 0 0), (4, D.i 0), (5, D.i i)]) [(c1, .cells 4 [encCorpus c])]
  iterate 2 refine wpA_seq ?_
  refine wpA_region ?_
  refine wpL_op rfl rfl rfl (OpA.mv rfl (by with_reducible conv => lhs; whnf) ?_)
  refine wpL_op rfl rfl rfl (OpA.fieldAddr rfl tf25_2 rfl ?_)
  refine wpL_op rfl rfl rfl (OpA.load rfl ti22 rfl .head rfl rfl ?_)
  refine wpL_op rfl rfl rfl (OpA.len rfl rfl rfl rfl ts22.desc (.inl ⟨_, _, rfl, (List.length_map _).symm⟩) ?_)
  refine wpL_op rfl rfl rfl (OpA.lss rfl rfl rfl ?_)
  refine wpL_nil ?_
  refine wpA_cond rfl (fun b3 => ?_) (fun b3 => ?_)
  have h := h.1 (decT b3)
  refine wpA_skip ?_
  refine wpA_seq ?_
  refine wpA_block ?_
  refine wpA_seq ?_
  obtain ⟨q1, h⟩ := h
  refine wpA_region ?_
  refine wpL_op rfl rfl rfl (OpA.fieldAddr rfl tf25_2 rfl ?_)
  refine wpL_op rfl rfl rfl (OpA.load rfl ti22 rfl .head rfl rfl ?_)
  refine wpL_op rfl rfl rfl (OpA.mv rfl (by with_reducible conv => lhs; whnf) ?_)
  refine wpL_op rfl rfl rfl (OpA.iixV (enc := encText) rfl ts22 rfl rfl rfl q1 ?_)
  refine wpL_op rfl rfl rfl (OpA.ifieldAddr rfl tf36_0 rfl ?_)
  refine wpL_op rfl rfl rfl (OpA.iload rfl ti9 rfl rfl ?_)
  refine wpL_op rfl rfl rfl (OpA.mv rfl (by with_reducible conv => lhs; whnf) ?_)
  refine wpL_op rfl rfl rfl (OpA.seql rfl rfl rfl ?_)
  refine wpL_nil ?_
  refine wpA_cond rfl (fun b4 => ?_) (fun b4 => ?_)
  have h := h.1 (decT b4)
  refine wpA_seq ?_
  refine wpA_region ?_
  refine wpL_op rfl rfl rfl (OpA.mv rfl (by with_reducible conv => lhs; whnf) ?_)
  refine wpL_op rfl rfl rfl (OpA.asn rfl (by with_reducible conv => lhs; whnf) ?_)
  refine wpL_nil ?_
  refine wpA_ret ?_
  exact ⟨_, (.tmp (d := D.i i) rfl .nil), _, (.same rfl .nil), ⟨i, rfl, h⟩⟩
  have h := h.2 (decF b4)
  refine wpA_skip ?_
  obtain ⟨q1, h⟩ := h
  refine wpA_region ?_
  refine wpL_op rfl rfl rfl (OpA.mv rfl (by with_reducible conv => lhs; whnf) ?_)
  refine wpL_op rfl rfl rfl (OpA.addi rfl rfl rfl q1 ?_)
  refine wpL_op rfl rfl rfl (OpA.asn rfl (by with_reducible conv => lhs; whnf) ?_)
  refine wpL_nil ?_
  exact ⟨(), (i + 1), h, (Cov.asg ⟨rfl, rfl, rfl, rfl, trivial⟩), (.refl _)⟩
  have h := h.2 (decF b3)
  refine wpA_exit ?_
  refine wpA_seq ?_
  refine wpA_region ?_
  refine wpL_op rfl rfl rfl (OpA.asn rfl (by with_reducible conv => lhs; whnf) ?_)
  refine wpL_nil ?_
  refine wpA_ret ?_
  exact ⟨_, (.tmp (d := D.i (-1)) rfl .nil), _, (.same rfl .nil), ⟨(-1), rfl, h⟩⟩
theorem c26at_c (c : Corpus) (path : ByteArray)  (hp0 : okC c) : Fun false Tryz.prog 54 [encCorpus c, D.s path] (fun d => d = D.i ((idxOf (fun t_ => decide (t_.path = path)) c.texts))) :=
  Fun.at (enc := fun r => D.i r) (v := (idxOf (fun t_ => decide (t_.path = path)) c.texts)) (c26at_w c path  (fun r => r = (idxOf (fun t_ => decide (t_.path = path)) c.texts)) (c26at_ok c path _ hp0 rfl))

set_option maxHeartbeats 2000000 in
set_option maxRecDepth 10000 in
theorem c26add_w (c : Corpus) (t : Text)  (Q : Corpus × Int → Prop) (h : c26add_vc c t Q) : Fun false Tryz.prog 18 [encCorpus c, encText t] (fun d => ∃ r, d = .tup [encCorpus (r.1), D.i (r.2)] ∧ Q r) := by
  unfold c26add_vc at h
  refine Fun.of_body Tryz.func18 rfl Tryz.ntmps18 rfl ?_
  refine wpA_seq ?_
  refine wpA_region ?_
  refine wpL_op rfl rfl rfl (OpA.bx (sz := 4) rfl (by with_reducible conv => lhs; whnf) (.of rfl) (fun c1 _ => ?_))
  refine wpL_op rfl rfl rfl (OpA.bx (sz := 2) rfl (by with_reducible conv => lhs; whnf) (.of rfl) (fun c2 _ => ?_))
  refine wpL_op rfl rfl rfl (OpA.alloc (sz := 4) (d := .agg ([D.i 0, D.i 0, .v (.slice none 0 0), .v (.slice none 0 0)])) rfl tz25 (fun _ _ => .agg (.cons (.v _) (.cons (.v _) (.cons (.v _) (.cons (.v _) .nil))))) (.of rfl) (fun c3 _ => ?_))
  refine wpL_op rfl rfl rfl (OpA.asn rfl (by with_reducible conv => lhs; whnf) ?_)
  refine wpL_nil ?_
  iterate 2 refine wpA_seq ?_
  obtain ⟨q1, q2, h⟩ := h
  refine wpA_mid (asg [(2, .ptr c1 4 0 0), (3, .ptr c2 2 0 0), (4, .ptr c3 4 0 0), (5, D.i 0), (15, D.b (((checkF c) != 0) || (!(validT t))))]) [(c3, .cells 4 [.agg ([D.i 0, D.i 0, .v (.slice none 0 0), .v (.slice none 0 0)])]), (c2, .cells 2 [encText t]), (c1, .cells 4 [encCorpus c])] ?_ ?_
  refine wpA_region ?_
  refine wpL_op rfl rfl rfl (OpA.load_whole rfl ti25 rfl rfl (.tail (.tail .head)) rfl ⟨_, rfl⟩ ?_)
  refine wpL_op rfl rfl rfl (OpA.call rfl rfl rfl en14 (c26check_c c q1) ?_)
  rintro _ rfl
  refine wpL_op rfl rfl rfl (OpA.neq rfl rfl rfl ?_)
  refine wpL_op rfl rfl rfl (OpA.mv rfl (by with_reducible conv => lhs; whnf) ?_)
  refine wpL_split (s := 11) rfl (fun b165 => ?_) (fun b165 => ?_)
  iterate 3 refine wpL_skip rfl rfl rfl rfl rfl rfl ?_
  refine wpL_op rfl rfl rfl (OpA.pck rfl rfl (by with_reducible conv => lhs; whnf) ?_)
  refine wpL_nil ?_
  exact ⟨(Cov.asg ⟨rfl, rfl, rfl, rfl, (congrArg D.b (Eq.symm (orS b165))), trivial⟩), (.refl _)⟩
  refine wpL_opg rfl rfl rfl rfl rfl rfl (OpA.load_whole rfl ti36 rfl rfl (.tail .head) rfl ⟨_, rfl⟩ ?_)
  refine wpL_opg rfl rfl rfl rfl rfl rfl (OpA.call rfl rfl rfl en46 (n23valid_c t (q2 (bneF b165))) ?_)
  rintro _ rfl
  refine wpL_opg rfl rfl rfl rfl rfl rfl (OpA.not rfl rfl ?_)
  refine wpL_op rfl rfl rfl (OpA.pck rfl rfl (by with_reducible conv => lhs; whnf) ?_)
  refine wpL_nil ?_
  exact ⟨(Cov.asg ⟨rfl, rfl, rfl, rfl, (congrArg D.b (Eq.symm (orN b165 rfl))), trivial⟩), (.refl _)⟩
  show wpA _ _ _ _ (asg [(2, .ptr c1 4 0 0), (3, .ptr c2 2 0 0), (4, .ptr c3 4 0 0), (5, D.i 0), (15, D.b (((checkF c) != 0) || (!(validT t))))]) [(c3, .cells 4 [.agg ([D.i 0, D.i 0, .v (.slice none 0 0), .v (.slice none 0 0)])]), (c2, .cells 2 [encText t]), (c1, .cells 4 [encCorpus c])]
  refine wpA_cond rfl (fun b4 => ?_) (fun b4 => ?_)
  have h := h.1 ((or0 b4).imp (fun hh => (bneT hh)) (fun hh => (notT hh)))
  refine wpA_seq ?_
  refine wpA_region ?_
  refine wpL_op rfl rfl rfl (OpA.buildO (zs := [.v (.int .i64 0), .v (.int .i64 0), .v (.slice none 0 0), .v (.slice none 0 0)]) rfl tp25 tz25 (fun _ _ => (.cons (.v _) (.cons (.v _) (.cons (.v _) (.cons (.v _) .nil))))) .nil rfl ?_)
  refine wpL_eff rfl rfl (OpA.storeW rfl ti25 rfl (by with_reducible conv => lhs; whnf) (.of rfl) rfl rfl .head ?_)
  refine wpL_op rfl rfl rfl (OpA.asn rfl (by with_reducible conv => lhs; whnf) ?_)
  refine wpL_nil ?_
  refine wpA_ret ?_
  exact ⟨_, (.cell (.whole ti25 rfl rfl .head rfl ⟨_, rfl⟩) (.tmp (d := D.i 1) rfl .nil)), _, (.tup (.agg (.same rfl (.same rfl (.nilv (sz := 2) (.nilv (sz := 3) .nil)))) (.same rfl .nil)) .nil), ⟨((Corpus.mk 0 0 [] []), 1), rfl, h⟩⟩
  have h := h.2 ⟨(bneF (or1 b4)), (notF (or2 b4))⟩
  refine wpA_skip ?_
  iterate 2 refine wpA_seq ?_
  obtain ⟨q1, h⟩ := h
  refine wpA_region ?_
  refine wpL_op rfl rfl rfl (OpA.load_whole rfl ti25 rfl rfl (.tail (.tail .head)) rfl ⟨_, rfl⟩ ?_)
  refine wpL_op rfl rfl rfl (OpA.fieldAddr rfl tf36_0 rfl ?_)
  refine wpL_op rfl rfl rfl (OpA.load rfl ti9 rfl (.tail .head) rfl rfl ?_)
  refine wpL_op rfl rfl rfl (OpA.call rfl rfl rfl en54 (c26at_c c t.path q1) ?_)
  rintro _ rfl
  refine wpL_op rfl rfl rfl (OpA.geq rfl rfl rfl ?_)
  refine wpL_nil ?_
  refine wpA_cond rfl (fun b5 => ?_) (fun b5 => ?_)
  have h := h.1 (decT b5)
  refine wpA_seq ?_
  refine wpA_region ?_
  refine wpL_op rfl rfl rfl (OpA.buildO (zs := [.v (.int .i64 0), .v (.int .i64 0), .v (.slice none 0 0), .v (.slice none 0 0)]) rfl tp25 tz25 (fun _ _ => (.cons (.v _) (.cons (.v _) (.cons (.v _) (.cons (.v _) .nil))))) .nil rfl ?_)
  refine wpL_eff rfl rfl (OpA.storeW rfl ti25 rfl (by with_reducible conv => lhs; whnf) (.of rfl) rfl rfl .head ?_)
  refine wpL_op rfl rfl rfl (OpA.asn rfl (by with_reducible conv => lhs; whnf) ?_)
  refine wpL_nil ?_
  refine wpA_ret ?_
  exact ⟨_, (.cell (.whole ti25 rfl rfl .head rfl ⟨_, rfl⟩) (.tmp (d := D.i 6) rfl .nil)), _, (.tup (.agg (.same rfl (.same rfl (.nilv (sz := 2) (.nilv (sz := 3) .nil)))) (.same rfl .nil)) .nil), ⟨((Corpus.mk 0 0 [] []), 6), rfl, h⟩⟩
  have h := h.2 (decF b5)
  refine wpA_skip ?_
  iterate 2 refine wpA_seq ?_
  refine wpA_region ?_
  refine wpL_op rfl rfl rfl (OpA.fieldAddr rfl tf25_2 rfl ?_)
  refine wpL_op rfl rfl rfl (OpA.load rfl ti22 rfl (.tail (.tail .head)) rfl rfl ?_)
  refine wpL_op rfl rfl rfl (OpA.len rfl rfl rfl rfl ts22.desc (.inl ⟨_, _, rfl, (List.length_map _).symm⟩) ?_)
  refine wpL_op rfl rfl rfl (OpA.eql rfl rfl rfl ?_)
  refine wpL_nil ?_
  refine wpA_cond rfl (fun b6 => ?_) (fun b6 => ?_)
  have h := h.1 (beqT b6)
  refine wpA_seq ?_
  refine wpA_region ?_
  refine wpL_op rfl rfl rfl (OpA.buildO (zs := [.v (.int .i64 0), .v (.int .i64 0), .v (.slice none 0 0), .v (.slice none 0 0)]) rfl tp25 tz25 (fun _ _ => (.cons (.v _) (.cons (.v _) (.cons (.v _) (.cons (.v _) .nil))))) .nil rfl ?_)
  refine wpL_eff rfl rfl (OpA.storeW rfl ti25 rfl (by with_reducible conv => lhs; whnf) (.of rfl) rfl rfl .head ?_)
  refine wpL_op rfl rfl rfl (OpA.asn rfl (by with_reducible conv => lhs; whnf) ?_)
  refine wpL_nil ?_
  refine wpA_ret ?_
  exact ⟨_, (.cell (.whole ti25 rfl rfl .head rfl ⟨_, rfl⟩) (.tmp (d := D.i 10) rfl .nil)), _, (.tup (.agg (.same rfl (.same rfl (.nilv (sz := 2) (.nilv (sz := 3) .nil)))) (.same rfl .nil)) .nil), ⟨((Corpus.mk 0 0 [] []), 10), rfl, h⟩⟩
  have h := h.2 (beqF b6)
  refine wpA_skip ?_
  refine wpA_seq ?_
  refine wpA_region ?_
  refine wpL_op rfl rfl rfl (OpA.asn rfl (by with_reducible conv => lhs; whnf) ?_)
  refine wpL_nil ?_
  refine wpA_seq ?_
  refine wpA_block ?_
  refine wpA_lfp (S := Int) (G := Unit) () (fun gg ss => asg [(2, .ptr c1 4 0 0), (3, .ptr c2 2 0 0), (4, .ptr c3 4 0 0), (5, D.i 0), (6, D.i ss)]) (fun gg ss => [(c3, .cells 4 [.agg ([D.i 0, D.i 0, .v (.slice none 0 0), .v (.slice none 0 0)])]), (c2, .cells 2 [encText t]), (c1, .cells 4 [encCorpus c])]) h (Cov.asg ⟨rfl, rfl, rfl, rfl, rfl, trivial⟩) (.refl _) ?_
  rintro again7 _ n h
  have h : c26add_L1 c t Q again7 n := h
  unfold c26add_L1 at h
  show wpA _ _ _ _ (asg [(2, .ptr c1 4 0 0), (3, .ptr c2 2 0 0), (4, .ptr c3 4 0 0), (5, D.i 0), (6, D.i n)]) [(c3, .cells 4 [.agg ([D.i 0, D.i 0, .v (.slice none 0 0), .v (.slice none 0 0)])]), (c2, .cells 2 [encText t]), (c1, .cells 4 [encCorpus c])]
  iterate 2 refine wpA_seq ?_
  obtain ⟨q1, h⟩ := h
  refine wpA_mid (asg [(2, .ptr c1 4 0 0), (3, .ptr c2 2 0 0), (4, .ptr c3 4 0 0), (5, D.i 0), (6, D.i n), (43, D.b ((decide (n < (c.texts.length : Int))) && (sless ((gi c.texts n).path) t.path)))]) [(c3, .cells 4 [.agg ([D.i 0, D.i 0, .v (.slice none 0 0), .v (.slice none 0 0)])]), (c2, .cells 2 [encText t]), (c1, .cells 4 [encCorpus c])] ?_ ?_
  refine wpA_draw (m := 16) mo (by kernel_rfl) rfl ?_
  refine DetK.op rfl (OpA.mv rfl (by with_reducible conv => lhs; whnf) ⟨rfl, rfl⟩) ?_
  refine DetK.op rfl (OpA.fieldAddr rfl tf25_2 rfl ⟨rfl, rfl⟩) ?_
  refine DetK.op rfl (OpA.load rfl ti22 rfl (.tail (.tail .head)) rfl rfl ⟨rfl, rfl⟩) ?_
  refine DetK.op rfl (OpA.len rfl rfl rfl rfl ts22.desc (.inl ⟨_, _, rfl, (List.length_map _).symm⟩) ⟨rfl, rfl⟩) ?_
  refine DetK.op rfl (OpA.lss rfl rfl rfl ⟨rfl, rfl⟩) ?_
  refine DetK.op rfl (OpA.mv rfl (by with_reducible conv => lhs; whnf) ⟨rfl, rfl⟩) ?_
  refine DetK_split (s := 33) rfl (fun b164 => ?_) (fun b164 => ?_)
  refine DetK.opg rfl rfl rfl rfl (OpA.fieldAddr rfl tf25_2 rfl ⟨rfl, rfl⟩) ?_
  refine DetK.opg rfl rfl rfl rfl (OpA.load rfl ti22 rfl (.tail (.tail .head)) rfl rfl ⟨rfl, rfl⟩) ?_
  refine DetK.opg rfl rfl rfl rfl (OpA.mv rfl (by with_reducible conv => lhs; whnf) ⟨rfl, rfl⟩) ?_
  refine DetK.opg rfl rfl rfl rfl (OpA.iixV (enc := encText) rfl ts22 rfl rfl rfl (q1 (decT b164)) ⟨rfl, rfl⟩) ?_
  refine DetK.opg rfl rfl rfl rfl (OpA.ifieldAddr rfl tf36_0 rfl ⟨rfl, rfl⟩) ?_
  refine DetK.opg rfl rfl rfl rfl (OpA.iload rfl ti9 rfl rfl ⟨rfl, rfl⟩) ?_
  refine DetK.opg rfl rfl rfl rfl (OpA.fieldAddr rfl tf36_0 rfl ⟨rfl, rfl⟩) ?_
  refine DetK.opg rfl rfl rfl rfl (OpA.load rfl ti9 rfl (.tail .head) rfl rfl ⟨rfl, rfl⟩) ?_
  refine DetK.opg rfl rfl rfl rfl (OpA.slss rfl rfl rfl ⟨rfl, rfl⟩) ?_
  refine DetK.op rfl (OpA.pck rfl rfl (by with_reducible conv => lhs; whnf) ⟨rfl, rfl⟩) ?_
  refine DetK.nil ?_
  refine wpL_nil ?_
  exact ⟨(Cov.asg ⟨rfl, rfl, rfl, rfl, rfl, (congrArg D.b (Eq.symm (andN b164 rfl))), trivial⟩), (.refl _)⟩
  iterate 9 refine DetK.skip rfl rfl rfl rfl ?_
  refine DetK.op rfl (OpA.pck rfl rfl (by with_reducible conv => lhs; whnf) ⟨rfl, rfl⟩) ?_
  refine DetK.nil ?_
  refine wpL_nil ?_
  exact ⟨(Cov.asg ⟨rfl, rfl, rfl, rfl, rfl, (congrArg D.b (Eq.symm (andS b164))), trivial⟩), (.refl _)⟩
  show wpA _ _ _ _ (asg [(2, .ptr c1 4 0 0), (3, .ptr c2 2 0 0), (4, .ptr c3 4 0 0), (5, D.i 0), (6, D.i n), (43, D.b ((decide (n < (c.texts.length : Int))) && (sless ((gi c.texts n).path) t.path)))]) [(c3, .cells 4 [.agg ([D.i 0, D.i 0, .v (.slice none 0 0), .v (.slice none 0 0)])]), (c2, .cells 2 [encText t]), (c1, .cells 4 [encCorpus c])]
  refine wpA_cond rfl (fun b8 => ?_) (fun b8 => ?_)
  have h := h.1 ⟨(decT (and1 b8)), (and2 b8)⟩
  refine wpA_skip ?_
  refine wpA_block ?_
  obtain ⟨q1, h⟩ := h
  refine wpA_region ?_
  refine wpL_op rfl rfl rfl (OpA.mv rfl (by with_reducible conv => lhs; whnf) ?_)
  refine wpL_op rfl rfl rfl (OpA.addi rfl rfl rfl q1 ?_)
  refine wpL_op rfl rfl rfl (OpA.asn rfl (by with_reducible conv => lhs; whnf) ?_)
  refine wpL_nil ?_
  exact ⟨(), (n + 1), h, (Cov.asg ⟨rfl, rfl, rfl, rfl, rfl, trivial⟩), (.refl _)⟩
  have h := h.2 ((and0 b8).imp (fun hh => (decF hh)) (fun hh => hh))
  refine wpA_exit ?_
  refine wpA_seq ?_
  obtain ⟨q1, q2, h⟩ := h
  refine wpA_region ?_
  refine wpL_op rfl rfl rfl (OpA.buildSliceV (enc := encText) (xs := ([] : List Text)) rfl ts22 rfl .nil (by decide) rfl (fun c9 => ?_))
  refine wpL_op rfl rfl rfl (OpA.fieldAddr rfl tf25_2 rfl ?_)
  refine wpL_op rfl rfl rfl (OpA.load rfl ti22 rfl (.tail (.tail (.tail .head))) rfl rfl ?_)
  refine wpL_op rfl rfl rfl (OpA.mv rfl (by with_reducible conv => lhs; whnf) ?_)
  refine wpL_op rfl rfl rfl (OpA.isliceV (enc := encText) rfl ts22 rfl (.none _) (.some rfl) q1 ?_)
  refine wpL_op rfl rfl rfl (OpA.appendW (enc := encText) rfl rfl rfl rfl ts22 rfl (fun _ _ => .head) (.list (ys := (lsub c.texts 0 n))) q2 (fun c10 pre11 => ?_))
  refine wpL_op rfl rfl rfl (OpA.asn rfl (by with_reducible conv => lhs; whnf) ?_)
  refine wpL_nil ?_
  refine wpA_seq ?_
  obtain ⟨q1, h⟩ := h
  refine wpA_region ?_
  refine wpL_op rfl rfl rfl (OpA.mv rfl (by with_reducible conv => lhs; whnf) ?_)
  refine wpL_op rfl rfl rfl (OpA.load_whole rfl ti36 rfl rfl (.tail (.tail .head)) rfl ⟨_, rfl⟩ ?_)
  refine wpL_op rfl rfl rfl (OpA.ibuildSliceO rfl ts22 rfl (.cons (.of (sz := 2) rfl) .nil) (by decide) ?_)
  refine wpL_op rfl rfl rfl (OpA.appendW (enc := encText) rfl rfl rfl rfl ts22 rfl (fun _ _ => .head) (.list (ys := ([t] : List Text))) q1 (fun c12 pre13 => ?_))
  refine wpL_op rfl rfl rfl (OpA.asn rfl (by with_reducible conv => lhs; whnf) ?_)
  refine wpL_nil ?_
  refine wpA_seq ?_
  obtain ⟨q4_0, q5_0, q10_0, h⟩ := h
  refine wpA_states mo (fun W hW => ?_)
  refine flip_goal (a := ∀ (c74 : Nat) (pre75 : List D), W 0 (lv 13 8191) (asg [(4, .ptr c3 4 0 0), (5, D.i 0)]) [(c3, .cells 4 [encCorpus (corpusOf (((([] : List Text) ++ (lsub c.texts 0 n)) ++ ([t] : List Text)) ++ (lsub c.texts n (c.texts.length : Int))) c.k c.w)]), (c2, .cells 2 [encText t]), (c1, .cells 4 [encCorpus c])]) (fun s0 => ?_) ?_
  have s1 : ∀ (c74 : Nat) (pre75 : List D), W 1 (lv 13 4095) (asg [(4, .ptr c3 4 0 0), (5, D.i 0)]) [(c3, .cells 4 [encCorpus (corpusOf (((([] : List Text) ++ (lsub c.texts 0 n)) ++ ([t] : List Text)) ++ (lsub c.texts n (c.texts.length : Int))) c.k c.w)]), (c2, .cells 2 [encText t]), (c1, .cells 4 [encCorpus c])] := fun c74 pre75 => wpS_of hW (by refine wpS_step (rs := [12]) (by kernel_rfl) rfl ⟨?_, trivial⟩; refine wpS_op (i := 12) (li' := (lv 13 8191)) rfl rfl rfl rfl (by kernel_rfl) (OpA.asn rfl (by with_reducible conv => lhs; whnf) ?_); exact wpS_to hW (s0 c74 pre75) (Cov.asg ⟨rfl, rfl, trivial⟩) (.refl _))
  have s2 : ∀ (c74 : Nat) (pre75 : List D), W 2 (lv 13 2047) (asg [(4, .ptr c3 4 0 0), (5, D.i 0), (66, encCorpus (corpusOf (((([] : List Text) ++ (lsub c.texts 0 n)) ++ ([t] : List Text)) ++ (lsub c.texts n (c.texts.length : Int))) c.k c.w))]) [(c3, .cells 4 [.agg ([D.i 0, D.i 0, .v (.slice none 0 0), .v (.slice none 0 0)])]), (c2, .cells 2 [encText t]), (c1, .cells 4 [encCorpus c])] := fun c74 pre75 => wpS_of hW (by refine wpS_step (rs := [11]) (by kernel_rfl) rfl ⟨?_, trivial⟩; refine wpS_eff (i := 11) (li' := (lv 13 4095)) rfl rfl rfl (by kernel_rfl) (OpA.storeW rfl ti25 rfl (by with_reducible conv => lhs; whnf) (.of rfl) rfl rfl .head ?_); exact wpS_to hW (s1 c74 pre75) (Cov.asg ⟨rfl, rfl, trivial⟩) (.refl _))
  have s3 : ∀ (c74 : Nat) (pre75 : List D), W 3 (lv 13 1023) (asg [(4, .ptr c3 4 0 0), (5, D.i 0), (61, .own c74 2 pre75.length (((([] : List Text) ++ (lsub c.texts 0 n)) ++ ([t] : List Text)) ++ (lsub c.texts n (c.texts.length : Int))).length), (63, D.i c.k), (65, D.i c.w)]) [(c74, .cells 2 (winL encText pre75 (((([] : List Text) ++ (lsub c.texts 0 n)) ++ ([t] : List Text)) ++ (lsub c.texts n (c.texts.length : Int))) ([] : List D))), (c3, .cells 4 [.agg ([D.i 0, D.i 0, .v (.slice none 0 0), .v (.slice none 0 0)])]), (c2, .cells 2 [encText t]), (c1, .cells 4 [encCorpus c])] := fun c74 pre75 => wpS_of hW (by refine wpS_step (rs := [10]) (by kernel_rfl) rfl ⟨?_, trivial⟩; refine wpS_op (i := 10) (li' := (lv 13 2047)) rfl rfl rfl rfl (by kernel_rfl) (OpA.frz (s := 61) (d := .own c74 2 pre75.length (((([] : List Text) ++ (lsub c.texts 0 n)) ++ ([t] : List Text)) ++ (lsub c.texts n (c.texts.length : Int))).length) (d' := (encL 2 encText) (((([] : List Text) ++ (lsub c.texts 0 n)) ++ ([t] : List Text)) ++ (lsub c.texts n (c.texts.length : Int)))) (.refl _) rfl (.win (enc := encText) .head (by intro hf; cases hf) .nil) (OpA.call rfl rfl rfl en55 (c26of_c (((([] : List Text) ++ (lsub c.texts 0 n)) ++ ([t] : List Text)) ++ (lsub c.texts n (c.texts.length : Int))) c.k c.w q10_0) ?_)); rintro _ rfl; exact wpS_to hW (s2 c74 pre75) (Cov.asg ⟨rfl, rfl, rfl, trivial⟩) (.refl _))
  have s4 : ∀ (c74 : Nat) (pre75 : List D), W 4 (lv 13 511) (asg [(4, .ptr c3 4 0 0), (5, D.i 0), (61, .own c74 2 pre75.length (((([] : List Text) ++ (lsub c.texts 0 n)) ++ ([t] : List Text)) ++ (lsub c.texts n (c.texts.length : Int))).length), (63, D.i c.k), (64, .ptr c1 4 0 1)]) [(c74, .cells 2 (winL encText pre75 (((([] : List Text) ++ (lsub c.texts 0 n)) ++ ([t] : List Text)) ++ (lsub c.texts n (c.texts.length : Int))) ([] : List D))), (c3, .cells 4 [.agg ([D.i 0, D.i 0, .v (.slice none 0 0), .v (.slice none 0 0)])]), (c2, .cells 2 [encText t]), (c1, .cells 4 [encCorpus c])] := fun c74 pre75 => wpS_of hW (by refine wpS_step (rs := [9]) (by kernel_rfl) rfl ⟨?_, trivial⟩; refine wpS_op (i := 9) (li' := (lv 13 1023)) rfl rfl rfl rfl (by kernel_rfl) (OpA.load rfl ti3 rfl (.tail (.tail (.tail .head))) rfl rfl ?_); exact wpS_to hW (s3 c74 pre75) (Cov.asg ⟨rfl, rfl, rfl, rfl, rfl, trivial⟩) (.refl _))
  have s5 : ∀ (c74 : Nat) (pre75 : List D), W 4 (lv 13 895) (asg [(4, .ptr c3 4 0 0), (5, D.i 0), (61, .own c74 2 pre75.length (((([] : List Text) ++ (lsub c.texts 0 n)) ++ ([t] : List Text)) ++ (lsub c.texts n (c.texts.length : Int))).length), (62, .ptr c1 4 0 0), (65, D.i c.w)]) [(c74, .cells 2 (winL encText pre75 (((([] : List Text) ++ (lsub c.texts 0 n)) ++ ([t] : List Text)) ++ (lsub c.texts n (c.texts.length : Int))) ([] : List D))), (c3, .cells 4 [.agg ([D.i 0, D.i 0, .v (.slice none 0 0), .v (.slice none 0 0)])]), (c2, .cells 2 [encText t]), (c1, .cells 4 [encCorpus c])] := fun c74 pre75 => wpS_of hW (by refine wpS_step (rs := [7]) (by kernel_rfl) rfl ⟨?_, trivial⟩; refine wpS_op (i := 7) (li' := (lv 13 1023)) rfl rfl rfl rfl (by kernel_rfl) (OpA.load rfl ti3 rfl (.tail (.tail (.tail .head))) rfl rfl ?_); exact wpS_to hW (s3 c74 pre75) (Cov.asg ⟨rfl, rfl, rfl, rfl, rfl, trivial⟩) (.refl _))
  have s6 : W 4 (lv 13 991) (asg [(4, .ptr c3 4 0 0), (5, D.i 0), (56, .own c12 2 pre13.length ((([] : List Text) ++ (lsub c.texts 0 n)) ++ ([t] : List Text)).length), (60, (encL 2 encText) (lsub c.texts n (c.texts.length : Int))), (63, D.i c.k), (65, D.i c.w)]) [(c12, .cells 2 (winL encText pre13 ((([] : List Text) ++ (lsub c.texts 0 n)) ++ ([t] : List Text)) ([] : List D))), (c3, .cells 4 [.agg ([D.i 0, D.i 0, .v (.slice none 0 0), .v (.slice none 0 0)])]), (c2, .cells 2 [encText t]), (c1, .cells 4 [encCorpus c])] := wpS_of hW (by refine wpS_step (rs := [5]) (by kernel_rfl) rfl ⟨?_, trivial⟩; refine wpS_op (i := 5) (li' := (lv 13 1023)) rfl rfl rfl rfl (by kernel_rfl) (OpA.appendW (enc := encText) rfl rfl rfl rfl ts22 rfl (fun _ _ => .head) (.list (ys := (lsub c.texts n (c.texts.length : Int)))) q5_0 (fun c74 pre75 => ?_)); exact wpS_to hW (s3 c74 pre75) (Cov.asg ⟨rfl, rfl, rfl, rfl, rfl, trivial⟩) (.refl _))
  have s7 : ∀ (c74 : Nat) (pre75 : List D), W 5 (lv 13 383) (asg [(4, .ptr c3 4 0 0), (5, D.i 0), (61, .own c74 2 pre75.length (((([] : List Text) ++ (lsub c.texts 0 n)) ++ ([t] : List Text)) ++ (lsub c.texts n (c.texts.length : Int))).length), (62, .ptr c1 4 0 0), (64, .ptr c1 4 0 1)]) [(c74, .cells 2 (winL encText pre75 (((([] : List Text) ++ (lsub c.texts 0 n)) ++ ([t] : List Text)) ++ (lsub c.texts n (c.texts.length : Int))) ([] : List D))), (c3, .cells 4 [.agg ([D.i 0, D.i 0, .v (.slice none 0 0), .v (.slice none 0 0)])]), (c2, .cells 2 [encText t]), (c1, .cells 4 [encCorpus c])] := fun c74 pre75 => wpS_of hW (by refine wpS_step (rs := [7, 9]) (by kernel_rfl) rfl ⟨?_, ?_, trivial⟩; refine wpS_op (i := 7) (li' := (lv 13 511)) rfl rfl rfl rfl (by kernel_rfl) (OpA.load rfl ti3 rfl (.tail (.tail (.tail .head))) rfl rfl ?_); exact wpS_to hW (s4 c74 pre75) (Cov.asg ⟨rfl, rfl, rfl, rfl, rfl, trivial⟩) (.refl _); refine wpS_op (i := 9) (li' := (lv 13 895)) rfl rfl rfl rfl (by kernel_rfl) (OpA.load rfl ti3 rfl (.tail (.tail (.tail .head))) rfl rfl ?_); exact wpS_to hW (s5 c74 pre75) (Cov.asg ⟨rfl, rfl, rfl, rfl, rfl, trivial⟩) (.refl _))
  have s8 : W 5 (lv 13 479) (asg [(4, .ptr c3 4 0 0), (5, D.i 0), (56, .own c12 2 pre13.length ((([] : List Text) ++ (lsub c.texts 0 n)) ++ ([t] : List Text)).length), (60, (encL 2 encText) (lsub c.texts n (c.texts.length : Int))), (63, D.i c.k), (64, .ptr c1 4 0 1)]) [(c12, .cells 2 (winL encText pre13 ((([] : List Text) ++ (lsub c.texts 0 n)) ++ ([t] : List Text)) ([] : List D))), (c3, .cells 4 [.agg ([D.i 0, D.i 0, .v (.slice none 0 0), .v (.slice none 0 0)])]), (c2, .cells 2 [encText t]), (c1, .cells 4 [encCorpus c])] := wpS_of hW (by refine wpS_step (rs := [5, 9]) (by kernel_rfl) rfl ⟨?_, ?_, trivial⟩; refine wpS_op (i := 5) (li' := (lv 13 511)) rfl rfl rfl rfl (by kernel_rfl) (OpA.appendW (enc := encText) rfl rfl rfl rfl ts22 rfl (fun _ _ => .head) (.list (ys := (lsub c.texts n (c.texts.length : Int)))) q5_0 (fun c74 pre75 => ?_)); exact wpS_to hW (s4 c74 pre75) (Cov.asg ⟨rfl, rfl, rfl, rfl, rfl, trivial⟩) (.refl _); refine wpS_op (i := 9) (li' := (lv 13 991)) rfl rfl rfl rfl (by kernel_rfl) (OpA.load rfl ti3 rfl (.tail (.tail (.tail .head))) rfl rfl ?_); exact wpS_to hW (s6) (Cov.asg ⟨rfl, rfl, rfl, rfl, rfl, rfl, trivial⟩) (.refl _))
  have s9 : W 5 (lv 13 863) (asg [(4, .ptr c3 4 0 0), (5, D.i 0), (56, .own c12 2 pre13.length ((([] : List Text) ++ (lsub c.texts 0 n)) ++ ([t] : List Text)).length), (60, (encL 2 encText) (lsub c.texts n (c.texts.length : Int))), (62, .ptr c1 4 0 0), (65, D.i c.w)]) [(c12, .cells 2 (winL encText pre13 ((([] : List Text) ++ (lsub c.texts 0 n)) ++ ([t] : List Text)) ([] : List D))), (c3, .cells 4 [.agg ([D.i 0, D.i 0, .v (.slice none 0 0), .v (.slice none 0 0)])]), (c2, .cells 2 [encText t]), (c1, .cells 4 [encCorpus c])] := wpS_of hW (by refine wpS_step (rs := [5, 7]) (by kernel_rfl) rfl ⟨?_, ?_, trivial⟩; refine wpS_op (i := 5) (li' := (lv 13 895)) rfl rfl rfl rfl (by kernel_rfl) (OpA.appendW (enc := encText) rfl rfl rfl rfl ts22 rfl (fun _ _ => .head) (.list (ys := (lsub c.texts n (c.texts.length : Int)))) q5_0 (fun c74 pre75 => ?_)); exact wpS_to hW (s5 c74 pre75) (Cov.asg ⟨rfl, rfl, rfl, rfl, rfl, trivial⟩) (.refl _); refine wpS_op (i := 7) (li' := (lv 13 991)) rfl rfl rfl rfl (by kernel_rfl) (OpA.load rfl ti3 rfl (.tail (.tail (.tail .head))) rfl rfl ?_); exact wpS_to hW (s6) (Cov.asg ⟨rfl, rfl, rfl, rfl, rfl, rfl, trivial⟩) (.refl _))
  have s10 : W 5 (lv 13 975) (asg [(4, .ptr c3 4 0 0), (5, D.i 0), (56, .own c12 2 pre13.length ((([] : List Text) ++ (lsub c.texts 0 n)) ++ ([t] : List Text)).length), (58, (encL 2 encText) c.texts), (59, D.i n), (63, D.i c.k), (65, D.i c.w)]) [(c12, .cells 2 (winL encText pre13 ((([] : List Text) ++ (lsub c.texts 0 n)) ++ ([t] : List Text)) ([] : List D))), (c3, .cells 4 [.agg ([D.i 0, D.i 0, .v (.slice none 0 0), .v (.slice none 0 0)])]), (c2, .cells 2 [encText t]), (c1, .cells 4 [encCorpus c])] := wpS_of hW (by refine wpS_step (rs := [4]) (by kernel_rfl) rfl ⟨?_, trivial⟩; refine wpS_op (i := 4) (li' := (lv 13 991)) rfl rfl rfl rfl (by kernel_rfl) (OpA.isliceV (enc := encText) rfl ts22 rfl (.some rfl) (.none _) q4_0 ?_); exact wpS_to hW (s6) (Cov.asg ⟨rfl, rfl, rfl, rfl, rfl, rfl, trivial⟩) (.refl _))
  have s11 : W 6 (lv 13 351) (asg [(4, .ptr c3 4 0 0), (5, D.i 0), (56, .own c12 2 pre13.length ((([] : List Text) ++ (lsub c.texts 0 n)) ++ ([t] : List Text)).length), (60, (encL 2 encText) (lsub c.texts n (c.texts.length : Int))), (62, .ptr c1 4 0 0), (64, .ptr c1 4 0 1)]) [(c12, .cells 2 (winL encText pre13 ((([] : List Text) ++ (lsub c.texts 0 n)) ++ ([t] : List Text)) ([] : List D))), (c3, .cells 4 [.agg ([D.i 0, D.i 0, .v (.slice none 0 0), .v (.slice none 0 0)])]), (c2, .cells 2 [encText t]), (c1, .cells 4 [encCorpus c])] := wpS_of hW (by refine wpS_step (rs := [5, 7, 9]) (by kernel_rfl) rfl ⟨?_, ?_, ?_, trivial⟩; refine wpS_op (i := 5) (li' := (lv 13 383)) rfl rfl rfl rfl (by kernel_rfl) (OpA.appendW (enc := encText) rfl rfl rfl rfl ts22 rfl (fun _ _ => .head) (.list (ys := (lsub c.texts n (c.texts.length : Int)))) q5_0 (fun c74 pre75 => ?_)); exact wpS_to hW (s7 c74 pre75) (Cov.asg ⟨rfl, rfl, rfl, rfl, rfl, trivial⟩) (.refl _); refine wpS_op (i := 7) (li' := (lv 13 479)) rfl rfl rfl rfl (by kernel_rfl) (OpA.load rfl ti3 rfl (.tail (.tail (.tail .head))) rfl rfl ?_); exact wpS_to hW (s8) (Cov.asg ⟨rfl, rfl, rfl, rfl, rfl, rfl, trivial⟩) (.refl _); refine wpS_op (i := 9) (li' := (lv 13 863)) rfl rfl rfl rfl (by kernel_rfl) (OpA.load rfl ti3 rfl (.tail (.tail (.tail .head))) rfl rfl ?_); exact wpS_to hW (s9) (Cov.asg ⟨rfl, rfl, rfl, rfl, rfl, rfl, trivial⟩) (.refl _))
  have s12 : W 6 (lv 13 463) (asg [(4, .ptr c3 4 0 0), (5, D.i 0), (56, .own c12 2 pre13.length ((([] : List Text) ++ (lsub c.texts 0 n)) ++ ([t] : List Text)).length), (58, (encL 2 encText) c.texts), (59, D.i n), (63, D.i c.k), (64, .ptr c1 4 0 1)]) [(c12, .cells 2 (winL encText pre13 ((([] : List Text) ++ (lsub c.texts 0 n)) ++ ([t] : List Text)) ([] : List D))), (c3, .cells 4 [.agg ([D.i 0, D.i 0, .v (.slice none 0 0), .v (.slice none 0 0)])]), (c2, .cells 2 [encText t]), (c1, .cells 4 [encCorpus c])] := wpS_of hW (by refine wpS_step (rs := [4, 9]) (by kernel_rfl) rfl ⟨?_, ?_, trivial⟩; refine wpS_op (i := 4) (li' := (lv 13 479)) rfl rfl rfl rfl (by kernel_rfl) (OpA.isliceV (enc := encText) rfl ts22 rfl (.some rfl) (.none _) q4_0 ?_); exact wpS_to hW (s8) (Cov.asg ⟨rfl, rfl, rfl, rfl, rfl, rfl, trivial⟩) (.refl _); refine wpS_op (i := 9) (li' := (lv 13 975)) rfl rfl rfl rfl (by kernel_rfl) (OpA.load rfl ti3 rfl (.tail (.tail (.tail .head))) rfl rfl ?_); exact wpS_to hW (s10) (Cov.asg ⟨rfl, rfl, rfl, rfl, rfl, rfl, rfl, trivial⟩) (.refl _))
  have s13 : W 6 (lv 13 847) (asg [(4, .ptr c3 4 0 0), (5, D.i 0), (56, .own c12 2 pre13.length ((([] : List Text) ++ (lsub c.texts 0 n)) ++ ([t] : List Text)).length), (58, (encL 2 encText) c.texts), (59, D.i n), (62, .ptr c1 4 0 0), (65, D.i c.w)]) [(c12, .cells 2 (winL encText pre13 ((([] : List Text) ++ (lsub c.texts 0 n)) ++ ([t] : List Text)) ([] : List D))), (c3, .cells 4 [.agg ([D.i 0, D.i 0, .v (.slice none 0 0), .v (.slice none 0 0)])]), (c2, .cells 2 [encText t]), (c1, .cells 4 [encCorpus c])] := wpS_of hW (by refine wpS_step (rs := [4, 7]) (by kernel_rfl) rfl ⟨?_, ?_, trivial⟩; refine wpS_op (i := 4) (li' := (lv 13 863)) rfl rfl rfl rfl (by kernel_rfl) (OpA.isliceV (enc := encText) rfl ts22 rfl (.some rfl) (.none _) q4_0 ?_); exact wpS_to hW (s9) (Cov.asg ⟨rfl, rfl, rfl, rfl, rfl, rfl, trivial⟩) (.refl _); refine wpS_op (i := 7) (li' := (lv 13 975)) rfl rfl rfl rfl (by kernel_rfl) (OpA.load rfl ti3 rfl (.tail (.tail (.tail .head))) rfl rfl ?_); exact wpS_to hW (s10) (Cov.asg ⟨rfl, rfl, rfl, rfl, rfl, rfl, rfl, trivial⟩) (.refl _))
  have s14 : W 6 (lv 13 971) (asg [(4, .ptr c3 4 0 0), (5, D.i 0), (56, .own c12 2 pre13.length ((([] : List Text) ++ (lsub c.texts 0 n)) ++ ([t] : List Text)).length), (57, .ptr c1 4 0 2), (59, D.i n), (63, D.i c.k), (65, D.i c.w)]) [(c12, .cells 2 (winL encText pre13 ((([] : List Text) ++ (lsub c.texts 0 n)) ++ ([t] : List Text)) ([] : List D))), (c3, .cells 4 [.agg ([D.i 0, D.i 0, .v (.slice none 0 0), .v (.slice none 0 0)])]), (c2, .cells 2 [encText t]), (c1, .cells 4 [encCorpus c])] := wpS_of hW (by refine wpS_step (rs := [2]) (by kernel_rfl) rfl ⟨?_, trivial⟩; refine wpS_op (i := 2) (li' := (lv 13 975)) rfl rfl rfl rfl (by kernel_rfl) (OpA.load rfl ti22 rfl (.tail (.tail (.tail .head))) rfl rfl ?_); exact wpS_to hW (s10) (Cov.asg ⟨rfl, rfl, rfl, rfl, rfl, rfl, rfl, trivial⟩) (.refl _))
  have s15 : W 7 (lv 13 335) (asg [(4, .ptr c3 4 0 0), (5, D.i 0), (56, .own c12 2 pre13.length ((([] : List Text) ++ (lsub c.texts 0 n)) ++ ([t] : List Text)).length), (58, (encL 2 encText) c.texts), (59, D.i n), (62, .ptr c1 4 0 0), (64, .ptr c1 4 0 1)]) [(c12, .cells 2 (winL encText pre13 ((([] : List Text) ++ (lsub c.texts 0 n)) ++ ([t] : List Text)) ([] : List D))), (c3, .cells 4 [.agg ([D.i 0, D.i 0, .v (.slice none 0 0), .v (.slice none 0 0)])]), (c2, .cells 2 [encText t]), (c1, .cells 4 [encCorpus c])] := wpS_of hW (by refine wpS_step (rs := [4, 7, 9]) (by kernel_rfl) rfl ⟨?_, ?_, ?_, trivial⟩; refine wpS_op (i := 4) (li' := (lv 13 351)) rfl rfl rfl rfl (by kernel_rfl) (OpA.isliceV (enc := encText) rfl ts22 rfl (.some rfl) (.none _) q4_0 ?_); exact wpS_to hW (s11) (Cov.asg ⟨rfl, rfl, rfl, rfl, rfl, rfl, trivial⟩) (.refl _); refine wpS_op (i := 7) (li' := (lv 13 463)) rfl rfl rfl rfl (by kernel_rfl) (OpA.load rfl ti3 rfl (.tail (.tail (.tail .head))) rfl rfl ?_); exact wpS_to hW (s12) (Cov.asg ⟨rfl, rfl, rfl, rfl, rfl, rfl, rfl, trivial⟩) (.refl _); refine wpS_op (i := 9) (li' := (lv 13 847)) rfl rfl rfl rfl (by kernel_rfl) (OpA.load rfl ti3 rfl (.tail (.tail (.tail .head))) rfl rfl ?_); exact wpS_to hW (s13) (Cov.asg ⟨rfl, rfl, rfl, rfl, rfl, rfl, rfl, trivial⟩) (.refl _))
  have s16 : W 7 (lv 13 459) (asg [(4, .ptr c3 4 0 0), (5, D.i 0), (56, .own c12 2 pre13.length ((([] : List Text) ++ (lsub c.texts 0 n)) ++ ([t] : List Text)).length), (57, .ptr c1 4 0 2), (59, D.i n), (63, D.i c.k), (64, .ptr c1 4 0 1)]) [(c12, .cells 2 (winL encText pre13 ((([] : List Text) ++ (lsub c.texts 0 n)) ++ ([t] : List Text)) ([] : List D))), (c3, .cells 4 [.agg ([D.i 0, D.i 0, .v (.slice none 0 0), .v (.slice none 0 0)])]), (c2, .cells 2 [encText t]), (c1, .cells 4 [encCorpus c])] := wpS_of hW (by refine wpS_step (rs := [2, 9]) (by kernel_rfl) rfl ⟨?_, ?_, trivial⟩; refine wpS_op (i := 2) (li' := (lv 13 463)) rfl rfl rfl rfl (by kernel_rfl) (OpA.load rfl ti22 rfl (.tail (.tail (.tail .head))) rfl rfl ?_); exact wpS_to hW (s12) (Cov.asg ⟨rfl, rfl, rfl, rfl, rfl, rfl, rfl, trivial⟩) (.refl _); refine wpS_op (i := 9) (li' := (lv 13 971)) rfl rfl rfl rfl (by kernel_rfl) (OpA.load rfl ti3 rfl (.tail (.tail (.tail .head))) rfl rfl ?_); exact wpS_to hW (s14) (Cov.asg ⟨rfl, rfl, rfl, rfl, rfl, rfl, rfl, trivial⟩) (.refl _))
  have s17 : W 7 (lv 13 843) (asg [(4, .ptr c3 4 0 0), (5, D.i 0), (56, .own c12 2 pre13.length ((([] : List Text) ++ (lsub c.texts 0 n)) ++ ([t] : List Text)).length), (57, .ptr c1 4 0 2), (59, D.i n), (62, .ptr c1 4 0 0), (65, D.i c.w)]) [(c12, .cells 2 (winL encText pre13 ((([] : List Text) ++ (lsub c.texts 0 n)) ++ ([t] : List Text)) ([] : List D))), (c3, .cells 4 [.agg ([D.i 0, D.i 0, .v (.slice none 0 0), .v (.slice none 0 0)])]), (c2, .cells 2 [encText t]), (c1, .cells 4 [encCorpus c])] := wpS_of hW (by refine wpS_step (rs := [2, 7]) (by kernel_rfl) rfl ⟨?_, ?_, trivial⟩; refine wpS_op (i := 2) (li' := (lv 13 847)) rfl rfl rfl rfl (by kernel_rfl) (OpA.load rfl ti22 rfl (.tail (.tail (.tail .head))) rfl rfl ?_); exact wpS_to hW (s13) (Cov.asg ⟨rfl, rfl, rfl, rfl, rfl, rfl, rfl, trivial⟩) (.refl _); refine wpS_op (i := 7) (li' := (lv 13 971)) rfl rfl rfl rfl (by kernel_rfl) (OpA.load rfl ti3 rfl (.tail (.tail (.tail .head))) rfl rfl ?_); exact wpS_to hW (s14) (Cov.asg ⟨rfl, rfl, rfl, rfl, rfl, rfl, rfl, trivial⟩) (.refl _))
  have s18 : W 8 (lv 13 331) (asg [(4, .ptr c3 4 0 0), (5, D.i 0), (56, .own c12 2 pre13.length ((([] : List Text) ++ (lsub c.texts 0 n)) ++ ([t] : List Text)).length), (57, .ptr c1 4 0 2), (59, D.i n), (62, .ptr c1 4 0 0), (64, .ptr c1 4 0 1)]) [(c12, .cells 2 (winL encText pre13 ((([] : List Text) ++ (lsub c.texts 0 n)) ++ ([t] : List Text)) ([] : List D))), (c3, .cells 4 [.agg ([D.i 0, D.i 0, .v (.slice none 0 0), .v (.slice none 0 0)])]), (c2, .cells 2 [encText t]), (c1, .cells 4 [encCorpus c])] := wpS_of hW (by refine wpS_step (rs := [2, 7, 9]) (by kernel_rfl) rfl ⟨?_, ?_, ?_, trivial⟩; refine wpS_op (i := 2) (li' := (lv 13 335)) rfl rfl rfl rfl (by kernel_rfl) (OpA.load rfl ti22 rfl (.tail (.tail (.tail .head))) rfl rfl ?_); exact wpS_to hW (s15) (Cov.asg ⟨rfl, rfl, rfl, rfl, rfl, rfl, rfl, trivial⟩) (.refl _); refine wpS_op (i := 7) (li' := (lv 13 459)) rfl rfl rfl rfl (by kernel_rfl) (OpA.load rfl ti3 rfl (.tail (.tail (.tail .head))) rfl rfl ?_); exact wpS_to hW (s16) (Cov.asg ⟨rfl, rfl, rfl, rfl, rfl, rfl, rfl, trivial⟩) (.refl _); refine wpS_op (i := 9) (li' := (lv 13 843)) rfl rfl rfl rfl (by kernel_rfl) (OpA.load rfl ti3 rfl (.tail (.tail (.tail .head))) rfl rfl ?_); exact wpS_to hW (s17) (Cov.asg ⟨rfl, rfl, rfl, rfl, rfl, rfl, rfl, trivial⟩) (.refl _))
  refine wpS_of hW ?_
  refine wpS_firstY (fuel := 12) (i := 0) (li' := (lv 13 1)) rfl rfl (.move rfl) rfl rfl (by kernel_rfl) (by kernel_rfl) (by kernel_rfl) (fun _ _ _ hx => hx) rfl rfl (by kernel_rfl) ?_
  refine wpS_firstY (fuel := 11) (i := 1) (li' := (lv 13 3)) rfl rfl (.fieldAddr rfl tf25_2 rfl) rfl rfl (by kernel_rfl) (by kernel_rfl) (by kernel_rfl) (fun _ _ _ hx => hx) rfl rfl (by kernel_rfl) ?_
  refine wpS_firstY (fuel := 10) (i := 3) (li' := (lv 13 11)) rfl rfl (.move rfl) rfl rfl (by kernel_rfl) (by kernel_rfl) (by kernel_rfl) (fun _ _ _ hx => hx) rfl rfl (by kernel_rfl) ?_
  refine wpS_firstY (fuel := 9) (i := 6) (li' := (lv 13 75)) rfl rfl (.fieldAddr rfl tf25_0 rfl) rfl rfl (by kernel_rfl) (by kernel_rfl) (by kernel_rfl) (fun _ _ _ hx => hx) rfl rfl (by kernel_rfl) ?_
  refine wpS_firstY (fuel := 8) (i := 8) (li' := (lv 13 331)) rfl rfl (.fieldAddr rfl tf25_1 rfl) rfl rfl (by kernel_rfl) (by kernel_rfl) (by kernel_rfl) (fun _ _ _ hx => hx) rfl rfl (by kernel_rfl) ?_
  exact wpS_to hW s18 (Cov.asg ⟨rfl, rfl, rfl, rfl, rfl, rfl, rfl, trivial⟩) (.refl _)
  intro c74 pre75
  refine wpS_of hW (wpS_done (by kernel_rfl) ?_)
  refine wpA_ret ?_
  exact ⟨_, (.cell (.whole ti25 rfl rfl .head rfl ⟨_, rfl⟩) (.tmp (d := D.i 0) rfl .nil)), _, (.tup (.same rfl (.same rfl .nil)) .nil), ⟨((corpusOf (((([] : List Text) ++ (lsub c.texts 0 n)) ++ ([t] : List Text)) ++ (lsub c.texts n (c.texts.length : Int))) c.k c.w), 0), rfl, h⟩⟩
theorem c26add_c (c : Corpus) (t : Text)  (hp0 : okC c) (hp1 : okT t) : Fun false Tryz.prog 18 [encCorpus c, encText t] (fun d => d = .tup [encCorpus ((addF c t).1), D.i ((addF c t).2)]) :=
  Fun.at (enc := fun r => .tup [encCorpus (r.1), D.i (r.2)]) (v := addF c t) (c26add_w c t  (fun r => r = addF c t) (c26add_ok c t _ hp0 hp1 rfl))

abbrev c26drop_e0 (path : ByteArray) (c : Corpus) := (idxOf (fun t_ => decide (t_.path = path)) c.texts)
abbrev c26drop_e1 (c : Corpus) (path : ByteArray) := (lsub c.texts ((c26drop_e0 path c) + 1) (c.texts.length : Int))
set_option maxHeartbeats 2000000 in
set_option maxRecDepth 10000 in
theorem c26drop_w (c : Corpus) (path : ByteArray)  (Q : Corpus × Int → Prop) (h : c26drop_vc c path Q) : Fun false Tryz.prog 20 [encCorpus c, D.s path] (fun d => ∃ r, d = .tup [encCorpus (r.1), D.i (r.2)] ∧ Q r) := by
  unfold c26drop_vc at h
  refine Fun.of_body Tryz.func20 rfl Tryz.ntmps20 rfl ?_
  refine wpA_seq ?_
  refine wpA_region ?_
  refine wpL_op rfl rfl rfl (OpA.bx (sz := 4) rfl (by with_reducible conv => lhs; whnf) (.of rfl) (fun c1 _ => ?_))
  refine wpL_op rfl rfl rfl (OpA.alloc (sz := 4) (d := .agg ([D.i 0, D.i 0, .v (.slice none 0 0), .v (.slice none 0 0)])) rfl tz25 (fun _ _ => .agg (.cons (.v _) (.cons (.v _) (.cons (.v _) (.cons (.v _) .nil))))) (.of rfl) (fun c2 _ => ?_))
  refine wpL_op rfl rfl rfl (OpA.asn rfl (by with_reducible conv => lhs; whnf) ?_)
  refine wpL_nil ?_
  iterate 2 refine wpA_seq ?_
  obtain ⟨q1, h⟩ := h
  refine wpA_region ?_
  refine wpL_op rfl rfl rfl (OpA.load_whole rfl ti25 rfl rfl (.tail .head) rfl ⟨_, rfl⟩ ?_)
  refine wpL_op rfl rfl rfl (OpA.call rfl rfl rfl en14 (c26check_c c q1) ?_)
  rintro _ rfl
  refine wpL_op rfl rfl rfl (OpA.neq rfl rfl rfl ?_)
  refine wpL_nil ?_
  refine wpA_cond rfl (fun b3 => ?_) (fun b3 => ?_)
  have h := h.1 (bneT b3)
  refine wpA_seq ?_
  refine wpA_region ?_
  refine wpL_op rfl rfl rfl (OpA.buildO (zs := [.v (.int .i64 0), .v (.int .i64 0), .v (.slice none 0 0), .v (.slice none 0 0)]) rfl tp25 tz25 (fun _ _ => (.cons (.v _) (.cons (.v _) (.cons (.v _) (.cons (.v _) .nil))))) .nil rfl ?_)
  refine wpL_eff rfl rfl (OpA.storeW rfl ti25 rfl (by with_reducible conv => lhs; whnf) (.of rfl) rfl rfl .head ?_)
  refine wpL_op rfl rfl rfl (OpA.asn rfl (by with_reducible conv => lhs; whnf) ?_)
  refine wpL_nil ?_
  refine wpA_ret ?_
  exact ⟨_, (.cell (.whole ti25 rfl rfl .head rfl ⟨_, rfl⟩) (.tmp (d := D.i 1) rfl .nil)), _, (.tup (.agg (.same rfl (.same rfl (.nilv (sz := 2) (.nilv (sz := 3) .nil)))) (.same rfl .nil)) .nil), ⟨((Corpus.mk 0 0 [] []), 1), rfl, h⟩⟩
  have h := h.2 (bneF b3)
  refine wpA_skip ?_
  refine wpA_seq ?_
  obtain ⟨q1, h⟩ := h
  refine wpA_region ?_
  refine wpL_op rfl rfl rfl (OpA.load_whole rfl ti25 rfl rfl (.tail .head) rfl ⟨_, rfl⟩ ?_)
  refine wpL_op rfl rfl rfl (OpA.mv rfl (by with_reducible conv => lhs; whnf) ?_)
  refine wpL_op rfl rfl rfl (OpA.call rfl rfl rfl en54 (c26at_c c path q1) ?_)
  rintro _ rfl
  refine wpL_op rfl rfl rfl (OpA.asn rfl (by with_reducible conv => lhs; whnf) ?_)
  refine wpL_nil ?_
  iterate 2 refine wpA_seq ?_
  refine wpA_region ?_
  refine wpL_op rfl rfl rfl (OpA.mv rfl (by with_reducible conv => lhs; whnf) ?_)
  refine wpL_op rfl rfl rfl (OpA.lss rfl rfl rfl ?_)
  refine wpL_nil ?_
  refine wpA_cond rfl (fun b4 => ?_) (fun b4 => ?_)
  have h := h.1 (decT b4)
  refine wpA_seq ?_
  refine wpA_region ?_
  refine wpL_op rfl rfl rfl (OpA.buildO (zs := [.v (.int .i64 0), .v (.int .i64 0), .v (.slice none 0 0), .v (.slice none 0 0)]) rfl tp25 tz25 (fun _ _ => (.cons (.v _) (.cons (.v _) (.cons (.v _) (.cons (.v _) .nil))))) .nil rfl ?_)
  refine wpL_eff rfl rfl (OpA.storeW rfl ti25 rfl (by with_reducible conv => lhs; whnf) (.of rfl) rfl rfl .head ?_)
  refine wpL_op rfl rfl rfl (OpA.asn rfl (by with_reducible conv => lhs; whnf) ?_)
  refine wpL_nil ?_
  refine wpA_ret ?_
  exact ⟨_, (.cell (.whole ti25 rfl rfl .head rfl ⟨_, rfl⟩) (.tmp (d := D.i 7) rfl .nil)), _, (.tup (.agg (.same rfl (.same rfl (.nilv (sz := 2) (.nilv (sz := 3) .nil)))) (.same rfl .nil)) .nil), ⟨((Corpus.mk 0 0 [] []), 7), rfl, h⟩⟩
  have h := h.2 (decF b4)
  refine wpA_skip ?_
  refine wpA_seq ?_
  obtain ⟨q4_0, q5_0, q9_0, q10_0, q11_0, q16_0, h⟩ := h
  refine wpA_states mo (fun W hW => ?_)
  refine flip_goal (a := ∀ (c15 : Nat) (c65 : Nat) (pre66 : List D) (c125 : Nat) (pre126 : List D), W 0 (lv 19 524287) (asg [(4, .ptr c2 4 0 0), (5, D.i 0)]) [(c2, .cells 4 [encCorpus (corpusOf ((([] : List Text) ++ (lsub c.texts 0 (c26drop_e0 path c))) ++ (c26drop_e1 c path)) c.k c.w)]), (c1, .cells 4 [encCorpus c])]) (fun s0 => ?_) ?_
  have s1 : ∀ (c15 : Nat) (c65 : Nat) (pre66 : List D) (c125 : Nat) (pre126 : List D), W 1 (lv 19 262143) (asg [(4, .ptr c2 4 0 0), (5, D.i 0)]) [(c2, .cells 4 [encCorpus (corpusOf ((([] : List Text) ++ (lsub c.texts 0 (c26drop_e0 path c))) ++ (c26drop_e1 c path)) c.k c.w)]), (c1, .cells 4 [encCorpus c])] := fun c15 c65 pre66 c125 pre126 => wpS_of hW (by refine wpS_step (rs := [18]) (by kernel_rfl) rfl ⟨?_, trivial⟩; refine wpS_op (i := 18) (li' := (lv 19 524287)) rfl rfl rfl rfl (by kernel_rfl) (OpA.asn rfl (by with_reducible conv => lhs; whnf) ?_); exact wpS_to hW (s0 c15 c65 pre66 c125 pre126) (Cov.asg ⟨rfl, rfl, trivial⟩) (.refl _))
  have s2 : ∀ (c15 : Nat) (c65 : Nat) (pre66 : List D) (c125 : Nat) (pre126 : List D), W 2 (lv 19 131071) (asg [(4, .ptr c2 4 0 0), (5, D.i 0), (33, encCorpus (corpusOf ((([] : List Text) ++ (lsub c.texts 0 (c26drop_e0 path c))) ++ (c26drop_e1 c path)) c.k c.w))]) [(c2, .cells 4 [.agg ([D.i 0, D.i 0, .v (.slice none 0 0), .v (.slice none 0 0)])]), (c1, .cells 4 [encCorpus c])] := fun c15 c65 pre66 c125 pre126 => wpS_of hW (by refine wpS_step (rs := [17]) (by kernel_rfl) rfl ⟨?_, trivial⟩; refine wpS_eff (i := 17) (li' := (lv 19 262143)) rfl rfl rfl (by kernel_rfl) (OpA.storeW rfl ti25 rfl (by with_reducible conv => lhs; whnf) (.of rfl) rfl rfl .head ?_); exact wpS_to hW (s1 c15 c65 pre66 c125 pre126) (Cov.asg ⟨rfl, rfl, trivial⟩) (.refl _))
  have s3 : ∀ (c15 : Nat) (c65 : Nat) (pre66 : List D) (c125 : Nat) (pre126 : List D), W 3 (lv 19 65535) (asg [(4, .ptr c2 4 0 0), (5, D.i 0), (28, .own c125 2 pre126.length ((([] : List Text) ++ (lsub c.texts 0 (c26drop_e0 path c))) ++ (c26drop_e1 c path)).length), (30, D.i c.k), (32, D.i c.w)]) [(c125, .cells 2 (winL encText pre126 ((([] : List Text) ++ (lsub c.texts 0 (c26drop_e0 path c))) ++ (c26drop_e1 c path)) ([] : List D))), (c2, .cells 4 [.agg ([D.i 0, D.i 0, .v (.slice none 0 0), .v (.slice none 0 0)])]), (c1, .cells 4 [encCorpus c])] := fun c15 c65 pre66 c125 pre126 => wpS_of hW (by refine wpS_step (rs := [16]) (by kernel_rfl) rfl ⟨?_, trivial⟩; refine wpS_op (i := 16) (li' := (lv 19 131071)) rfl rfl rfl rfl (by kernel_rfl) (OpA.frz (s := 28) (d := .own c125 2 pre126.length ((([] : List Text) ++ (lsub c.texts 0 (c26drop_e0 path c))) ++ (c26drop_e1 c path)).length) (d' := (encL 2 encText) ((([] : List Text) ++ (lsub c.texts 0 (c26drop_e0 path c))) ++ (c26drop_e1 c path))) (.refl _) rfl (.win (enc := encText) .head (by intro hf; cases hf) .nil) (OpA.call rfl rfl rfl en55 (c26of_c ((([] : List Text) ++ (lsub c.texts 0 (c26drop_e0 path c))) ++ (c26drop_e1 c path)) c.k c.w q16_0) ?_)); rintro _ rfl; exact wpS_to hW (s2 c15 c65 pre66 c125 pre126) (Cov.asg ⟨rfl, rfl, rfl, trivial⟩) (.refl _))
  have s4 : ∀ (c15 : Nat) (c65 : Nat) (pre66 : List D) (c125 : Nat) (pre126 : List D), W 4 (lv 19 32767) (asg [(4, .ptr c2 4 0 0), (5, D.i 0), (28, .own c125 2 pre126.length ((([] : List Text) ++ (lsub c.texts 0 (c26drop_e0 path c))) ++ (c26drop_e1 c path)).length), (30, D.i c.k), (31, .ptr c1 4 0 1)]) [(c125, .cells 2 (winL encText pre126 ((([] : List Text) ++ (lsub c.texts 0 (c26drop_e0 path c))) ++ (c26drop_e1 c path)) ([] : List D))), (c2, .cells 4 [.agg ([D.i 0, D.i 0, .v (.slice none 0 0), .v (.slice none 0 0)])]), (c1, .cells 4 [encCorpus c])] := fun c15 c65 pre66 c125 pre126 => wpS_of hW (by refine wpS_step (rs := [15]) (by kernel_rfl) rfl ⟨?_, trivial⟩; refine wpS_op (i := 15) (li' := (lv 19 65535)) rfl rfl rfl rfl (by kernel_rfl) (OpA.load rfl ti3 rfl (.tail (.tail .head)) rfl rfl ?_); exact wpS_to hW (s3 c15 c65 pre66 c125 pre126) (Cov.asg ⟨rfl, rfl, rfl, rfl, rfl, trivial⟩) (.refl _))
  have s5 : ∀ (c15 : Nat) (c65 : Nat) (pre66 : List D) (c125 : Nat) (pre126 : List D), W 4 (lv 19 57343) (asg [(4, .ptr c2 4 0 0), (5, D.i 0), (28, .own c125 2 pre126.length ((([] : List Text) ++ (lsub c.texts 0 (c26drop_e0 path c))) ++ (c26drop_e1 c path)).length), (29, .ptr c1 4 0 0), (32, D.i c.w)]) [(c125, .cells 2 (winL encText pre126 ((([] : List Text) ++ (lsub c.texts 0 (c26drop_e0 path c))) ++ (c26drop_e1 c path)) ([] : List D))), (c2, .cells 4 [.agg ([D.i 0, D.i 0, .v (.slice none 0 0), .v (.slice none 0 0)])]), (c1, .cells 4 [encCorpus c])] := fun c15 c65 pre66 c125 pre126 => wpS_of hW (by refine wpS_step (rs := [13]) (by kernel_rfl) rfl ⟨?_, trivial⟩; refine wpS_op (i := 13) (li' := (lv 19 65535)) rfl rfl rfl rfl (by kernel_rfl) (OpA.load rfl ti3 rfl (.tail (.tail .head)) rfl rfl ?_); exact wpS_to hW (s3 c15 c65 pre66 c125 pre126) (Cov.asg ⟨rfl, rfl, rfl, rfl, rfl, trivial⟩) (.refl _))
  have s6 : ∀ (c15 : Nat) (c65 : Nat) (pre66 : List D), W 4 (lv 19 63487) (asg [(4, .ptr c2 4 0 0), (5, D.i 0), (22, .own c65 2 pre66.length (([] : List Text) ++ (lsub c.texts 0 (c26drop_e0 path c))).length), (27, (encL 2 encText) (c26drop_e1 c path)), (30, D.i c.k), (32, D.i c.w)]) [(c65, .cells 2 (winL encText pre66 (([] : List Text) ++ (lsub c.texts 0 (c26drop_e0 path c))) ([] : List D))), (c2, .cells 4 [.agg ([D.i 0, D.i 0, .v (.slice none 0 0), .v (.slice none 0 0)])]), (c1, .cells 4 [encCorpus c])] := fun c15 c65 pre66 => wpS_of hW (by refine wpS_step (rs := [11]) (by kernel_rfl) rfl ⟨?_, trivial⟩; refine wpS_op (i := 11) (li' := (lv 19 65535)) rfl rfl rfl rfl (by kernel_rfl) (OpA.appendW (enc := encText) rfl rfl rfl rfl ts22 rfl (fun _ _ => .head) (.list (ys := (c26drop_e1 c path))) q11_0 (fun c125 pre126 => ?_)); exact wpS_to hW (s3 c15 c65 pre66 c125 pre126) (Cov.asg ⟨rfl, rfl, rfl, rfl, rfl, trivial⟩) (.refl _))
  have s7 : ∀ (c15 : Nat) (c65 : Nat) (pre66 : List D) (c125 : Nat) (pre126 : List D), W 5 (lv 19 24575) (asg [(4, .ptr c2 4 0 0), (5, D.i 0), (28, .own c125 2 pre126.length ((([] : List Text) ++ (lsub c.texts 0 (c26drop_e0 path c))) ++ (c26drop_e1 c path)).length), (29, .ptr c1 4 0 0), (31, .ptr c1 4 0 1)]) [(c125, .cells 2 (winL encText pre126 ((([] : List Text) ++ (lsub c.texts 0 (c26drop_e0 path c))) ++ (c26drop_e1 c path)) ([] : List D))), (c2, .cells 4 [.agg ([D.i 0, D.i 0, .v (.slice none 0 0), .v (.slice none 0 0)])]), (c1, .cells 4 [encCorpus c])] := fun c15 c65 pre66 c125 pre126 => wpS_of hW (by refine wpS_step (rs := [13, 15]) (by kernel_rfl) rfl ⟨?_, ?_, trivial⟩; refine wpS_op (i := 13) (li' := (lv 19 32767)) rfl rfl rfl rfl (by kernel_rfl) (OpA.load rfl ti3 rfl (.tail (.tail .head)) rfl rfl ?_); exact wpS_to hW (s4 c15 c65 pre66 c125 pre126) (Cov.asg ⟨rfl, rfl, rfl, rfl, rfl, trivial⟩) (.refl _); refine wpS_op (i := 15) (li' := (lv 19 57343)) rfl rfl rfl rfl (by kernel_rfl) (OpA.load rfl ti3 rfl (.tail (.tail .head)) rfl rfl ?_); exact wpS_to hW (s5 c15 c65 pre66 c125 pre126) (Cov.asg ⟨rfl, rfl, rfl, rfl, rfl, trivial⟩) (.refl _))
  have s8 : ∀ (c15 : Nat) (c65 : Nat) (pre66 : List D), W 5 (lv 19 30719) (asg [(4, .ptr c2 4 0 0), (5, D.i 0), (22, .own c65 2 pre66.length (([] : List Text) ++ (lsub c.texts 0 (c26drop_e0 path c))).length), (27, (encL 2 encText) (c26drop_e1 c path)), (30, D.i c.k), (31, .ptr c1 4 0 1)]) [(c65, .cells 2 (winL encText pre66 (([] : List Text) ++ (lsub c.texts 0 (c26drop_e0 path c))) ([] : List D))), (c2, .cells 4 [.agg ([D.i 0, D.i 0, .v (.slice none 0 0), .v (.slice none 0 0)])]), (c1, .cells 4 [encCorpus c])] := fun c15 c65 pre66 => wpS_of hW (by refine wpS_step (rs := [11, 15]) (by kernel_rfl) rfl ⟨?_, ?_, trivial⟩; refine wpS_op (i := 11) (li' := (lv 19 32767)) rfl rfl rfl rfl (by kernel_rfl) (OpA.appendW (enc := encText) rfl rfl rfl rfl ts22 rfl (fun _ _ => .head) (.list (ys := (c26drop_e1 c path))) q11_0 (fun c125 pre126 => ?_)); exact wpS_to hW (s4 c15 c65 pre66 c125 pre126) (Cov.asg ⟨rfl, rfl, rfl, rfl, rfl, trivial⟩) (.refl _); refine wpS_op (i := 15) (li' := (lv 19 63487)) rfl rfl rfl rfl (by kernel_rfl) (OpA.load rfl ti3 rfl (.tail (.tail .head)) rfl rfl ?_); exact wpS_to hW (s6 c15 c65 pre66) (Cov.asg ⟨rfl, rfl, rfl, rfl, rfl, rfl, trivial⟩) (.refl _))
  have s9 : ∀ (c15 : Nat) (c65 : Nat) (pre66 : List D), W 5 (lv 19 55295) (asg [(4, .ptr c2 4 0 0), (5, D.i 0), (22, .own c65 2 pre66.length (([] : List Text) ++ (lsub c.texts 0 (c26drop_e0 path c))).length), (27, (encL 2 encText) (c26drop_e1 c path)), (29, .ptr c1 4 0 0), (32, D.i c.w)]) [(c65, .cells 2 (winL encText pre66 (([] : List Text) ++ (lsub c.texts 0 (c26drop_e0 path c))) ([] : List D))), (c2, .cells 4 [.agg ([D.i 0, D.i 0, .v (.slice none 0 0), .v (.slice none 0 0)])]), (c1, .cells 4 [encCorpus c])] := fun c15 c65 pre66 => wpS_of hW (by refine wpS_step (rs := [11, 13]) (by kernel_rfl) rfl ⟨?_, ?_, trivial⟩; refine wpS_op (i := 11) (li' := (lv 19 57343)) rfl rfl rfl rfl (by kernel_rfl) (OpA.appendW (enc := encText) rfl rfl rfl rfl ts22 rfl (fun _ _ => .head) (.list (ys := (c26drop_e1 c path))) q11_0 (fun c125 pre126 => ?_)); exact wpS_to hW (s5 c15 c65 pre66 c125 pre126) (Cov.asg ⟨rfl, rfl, rfl, rfl, rfl, trivial⟩) (.refl _); refine wpS_op (i := 13) (li' := (lv 19 63487)) rfl rfl rfl rfl (by kernel_rfl) (OpA.load rfl ti3 rfl (.tail (.tail .head)) rfl rfl ?_); exact wpS_to hW (s6 c15 c65 pre66) (Cov.asg ⟨rfl, rfl, rfl, rfl, rfl, rfl, trivial⟩) (.refl _))
  have s10 : ∀ (c15 : Nat) (c65 : Nat) (pre66 : List D), W 5 (lv 19 62463) (asg [(4, .ptr c2 4 0 0), (5, D.i 0), (22, .own c65 2 pre66.length (([] : List Text) ++ (lsub c.texts 0 (c26drop_e0 path c))).length), (24, (encL 2 encText) c.texts), (26, D.i ((c26drop_e0 path c) + 1)), (30, D.i c.k), (32, D.i c.w)]) [(c65, .cells 2 (winL encText pre66 (([] : List Text) ++ (lsub c.texts 0 (c26drop_e0 path c))) ([] : List D))), (c2, .cells 4 [.agg ([D.i 0, D.i 0, .v (.slice none 0 0), .v (.slice none 0 0)])]), (c1, .cells 4 [encCorpus c])] := fun c15 c65 pre66 => wpS_of hW (by refine wpS_step (rs := [10]) (by kernel_rfl) rfl ⟨?_, trivial⟩; refine wpS_op (i := 10) (li' := (lv 19 63487)) rfl rfl rfl rfl (by kernel_rfl) (OpA.isliceV (enc := encText) rfl ts22 rfl (.some rfl) (.none _) q10_0 ?_); exact wpS_to hW (s6 c15 c65 pre66) (Cov.asg ⟨rfl, rfl, rfl, rfl, rfl, rfl, trivial⟩) (.refl _))
  have s11 : ∀ (c15 : Nat), W 5 (lv 19 63455) (asg [(4, .ptr c2 4 0 0), (5, D.i 0), (17, .own c15 2 ([] : List D).length ([] : List Text).length), (21, (encL 2 encText) (lsub c.texts 0 (c26drop_e0 path c))), (27, (encL 2 encText) (c26drop_e1 c path)), (30, D.i c.k), (32, D.i c.w)]) [(c15, .cells 2 (winL encText ([] : List D) ([] : List Text) ([] : List D))), (c2, .cells 4 [.agg ([D.i 0, D.i 0, .v (.slice none 0 0), .v (.slice none 0 0)])]), (c1, .cells 4 [encCorpus c])] := fun c15 => wpS_of hW (by refine wpS_step (rs := [5]) (by kernel_rfl) rfl ⟨?_, trivial⟩; refine wpS_op (i := 5) (li' := (lv 19 63487)) rfl rfl rfl rfl (by kernel_rfl) (OpA.appendW (enc := encText) rfl rfl rfl rfl ts22 rfl (fun _ _ => .head) (.list (ys := (lsub c.texts 0 (c26drop_e0 path c)))) q5_0 (fun c65 pre66 => ?_)); exact wpS_to hW (s6 c15 c65 pre66) (Cov.asg ⟨rfl, rfl, rfl, rfl, rfl, rfl, trivial⟩) (.refl _))
  have s12 : ∀ (c15 : Nat) (c65 : Nat) (pre66 : List D), W 6 (lv 19 22527) (asg [(4, .ptr c2 4 0 0), (5, D.i 0), (22, .own c65 2 pre66.length (([] : List Text) ++ (lsub c.texts 0 (c26drop_e0 path c))).length), (27, (encL 2 encText) (c26drop_e1 c path)), (29, .ptr c1 4 0 0), (31, .ptr c1 4 0 1)]) [(c65, .cells 2 (winL encText pre66 (([] : List Text) ++ (lsub c.texts 0 (c26drop_e0 path c))) ([] : List D))), (c2, .cells 4 [.agg ([D.i 0, D.i 0, .v (.slice none 0 0), .v (.slice none 0 0)])]), (c1, .cells 4 [encCorpus c])] := fun c15 c65 pre66 => wpS_of hW (by refine wpS_step (rs := [11, 13, 15]) (by kernel_rfl) rfl ⟨?_, ?_, ?_, trivial⟩; refine wpS_op (i := 11) (li' := (lv 19 24575)) rfl rfl rfl rfl (by kernel_rfl) (OpA.appendW (enc := encText) rfl rfl rfl rfl ts22 rfl (fun _ _ => .head) (.list (ys := (c26drop_e1 c path))) q11_0 (fun c125 pre126 => ?_)); exact wpS_to hW (s7 c15 c65 pre66 c125 pre126) (Cov.asg ⟨rfl, rfl, rfl, rfl, rfl, trivial⟩) (.refl _); refine wpS_op (i := 13) (li' := (lv 19 30719)) rfl rfl rfl rfl (by kernel_rfl) (OpA.load rfl ti3 rfl (.tail (.tail .head)) rfl rfl ?_); exact wpS_to hW (s8 c15 c65 pre66) (Cov.asg ⟨rfl, rfl, rfl, rfl, rfl, rfl, trivial⟩) (.refl _); refine wpS_op (i := 15) (li' := (lv 19 55295)) rfl rfl rfl rfl (by kernel_rfl) (OpA.load rfl ti3 rfl (.tail (.tail .head)) rfl rfl ?_); exact wpS_to hW (s9 c15 c65 pre66) (Cov.asg ⟨rfl, rfl, rfl, rfl, rfl, rfl, trivial⟩) (.refl _))
  have s13 : ∀ (c15 : Nat) (c65 : Nat) (pre66 : List D), W 6 (lv 19 29695) (asg [(4, .ptr c2 4 0 0), (5, D.i 0), (22, .own c65 2 pre66.length (([] : List Text) ++ (lsub c.texts 0 (c26drop_e0 path c))).length), (24, (encL 2 encText) c.texts), (26, D.i ((c26drop_e0 path c) + 1)), (30, D.i c.k), (31, .ptr c1 4 0 1)]) [(c65, .cells 2 (winL encText pre66 (([] : List Text) ++ (lsub c.texts 0 (c26drop_e0 path c))) ([] : List D))), (c2, .cells 4 [.agg ([D.i 0, D.i 0, .v (.slice none 0 0), .v (.slice none 0 0)])]), (c1, .cells 4 [encCorpus c])] := fun c15 c65 pre66 => wpS_of hW (by refine wpS_step (rs := [10, 15]) (by kernel_rfl) rfl ⟨?_, ?_, trivial⟩; refine wpS_op (i := 10) (li' := (lv 19 30719)) rfl rfl rfl rfl (by kernel_rfl) (OpA.isliceV (enc := encText) rfl ts22 rfl (.some rfl) (.none _) q10_0 ?_); exact wpS_to hW (s8 c15 c65 pre66) (Cov.asg ⟨rfl, rfl, rfl, rfl, rfl, rfl, trivial⟩) (.refl _); refine wpS_op (i := 15) (li' := (lv 19 62463)) rfl rfl rfl rfl (by kernel_rfl) (OpA.load rfl ti3 rfl (.tail (.tail .head)) rfl rfl ?_); exact wpS_to hW (s10 c15 c65 pre66) (Cov.asg ⟨rfl, rfl, rfl, rfl, rfl, rfl, rfl, trivial⟩) (.refl _))
  have s14 : ∀ (c15 : Nat) (c65 : Nat) (pre66 : List D), W 6 (lv 19 54271) (asg [(4, .ptr c2 4 0 0), (5, D.i 0), (22, .own c65 2 pre66.length (([] : List Text) ++ (lsub c.texts 0 (c26drop_e0 path c))).length), (24, (encL 2 encText) c.texts), (26, D.i ((c26drop_e0 path c) + 1)), (29, .ptr c1 4 0 0), (32, D.i c.w)]) [(c65, .cells 2 (winL encText pre66 (([] : List Text) ++ (lsub c.texts 0 (c26drop_e0 path c))) ([] : List D))), (c2, .cells 4 [.agg ([D.i 0, D.i 0, .v (.slice none 0 0), .v (.slice none 0 0)])]), (c1, .cells 4 [encCorpus c])] := fun c15 c65 pre66 => wpS_of hW (by refine wpS_step (rs := [10, 13]) (by kernel_rfl) rfl ⟨?_, ?_, trivial⟩; refine wpS_op (i := 10) (li' := (lv 19 55295)) rfl rfl rfl rfl (by kernel_rfl) (OpA.isliceV (enc := encText) rfl ts22 rfl (.some rfl) (.none _) q10_0 ?_); exact wpS_to hW (s9 c15 c65 pre66) (Cov.asg ⟨rfl, rfl, rfl, rfl, rfl, rfl, trivial⟩) (.refl _); refine wpS_op (i := 13) (li' := (lv 19 62463)) rfl rfl rfl rfl (by kernel_rfl) (OpA.load rfl ti3 rfl (.tail (.tail .head)) rfl rfl ?_); exact wpS_to hW (s10 c15 c65 pre66) (Cov.asg ⟨rfl, rfl, rfl, rfl, rfl, rfl, rfl, trivial⟩) (.refl _))
  have s15 : ∀ (c15 : Nat) (c65 : Nat) (pre66 : List D), W 6 (lv 19 62335) (asg [(4, .ptr c2 4 0 0), (5, D.i 0), (22, .own c65 2 pre66.length (([] : List Text) ++ (lsub c.texts 0 (c26drop_e0 path c))).length), (23, .ptr c1 4 0 2), (26, D.i ((c26drop_e0 path c) + 1)), (30, D.i c.k), (32, D.i c.w)]) [(c65, .cells 2 (winL encText pre66 (([] : List Text) ++ (lsub c.texts 0 (c26drop_e0 path c))) ([] : List D))), (c2, .cells 4 [.agg ([D.i 0, D.i 0, .v (.slice none 0 0), .v (.slice none 0 0)])]), (c1, .cells 4 [encCorpus c])] := fun c15 c65 pre66 => wpS_of hW (by refine wpS_step (rs := [7]) (by kernel_rfl) rfl ⟨?_, trivial⟩; refine wpS_op (i := 7) (li' := (lv 19 62463)) rfl rfl rfl rfl (by kernel_rfl) (OpA.load rfl ti22 rfl (.tail (.tail .head)) rfl rfl ?_); exact wpS_to hW (s10 c15 c65 pre66) (Cov.asg ⟨rfl, rfl, rfl, rfl, rfl, rfl, rfl, trivial⟩) (.refl _))
  have s16 : ∀ (c15 : Nat), W 6 (lv 19 30687) (asg [(4, .ptr c2 4 0 0), (5, D.i 0), (17, .own c15 2 ([] : List D).length ([] : List Text).length), (21, (encL 2 encText) (lsub c.texts 0 (c26drop_e0 path c))), (27, (encL 2 encText) (c26drop_e1 c path)), (30, D.i c.k), (31, .ptr c1 4 0 1)]) [(c15, .cells 2 (winL encText ([] : List D) ([] : List Text) ([] : List D))), (c2, .cells 4 [.agg ([D.i 0, D.i 0, .v (.slice none 0 0), .v (.slice none 0 0)])]), (c1, .cells 4 [encCorpus c])] := fun c15 => wpS_of hW (by refine wpS_step (rs := [5, 15]) (by kernel_rfl) rfl ⟨?_, ?_, trivial⟩; refine wpS_op (i := 5) (li' := (lv 19 30719)) rfl rfl rfl rfl (by kernel_rfl) (OpA.appendW (enc := encText) rfl rfl rfl rfl ts22 rfl (fun _ _ => .head) (.list (ys := (lsub c.texts 0 (c26drop_e0 path c)))) q5_0 (fun c65 pre66 => ?_)); exact wpS_to hW (s8 c15 c65 pre66) (Cov.asg ⟨rfl, rfl, rfl, rfl, rfl, rfl, trivial⟩) (.refl _); refine wpS_op (i := 15) (li' := (lv 19 63455)) rfl rfl rfl rfl (by kernel_rfl) (OpA.load rfl ti3 rfl (.tail (.tail .head)) rfl rfl ?_); exact wpS_to hW (s11 c15) (Cov.asg ⟨rfl, rfl, rfl, rfl, rfl, rfl, rfl, trivial⟩) (.refl _))
  have s17 : ∀ (c15 : Nat), W 6 (lv 19 55263) (asg [(4, .ptr c2 4 0 0), (5, D.i 0), (17, .own c15 2 ([] : List D).length ([] : List Text).length), (21, (encL 2 encText) (lsub c.texts 0 (c26drop_e0 path c))), (27, (encL 2 encText) (c26drop_e1 c path)), (29, .ptr c1 4 0 0), (32, D.i c.w)]) [(c15, .cells 2 (winL encText ([] : List D) ([] : List Text) ([] : List D))), (c2, .cells 4 [.agg ([D.i 0, D.i 0, .v (.slice none 0 0), .v (.slice none 0 0)])]), (c1, .cells 4 [encCorpus c])] := fun c15 => wpS_of hW (by refine wpS_step (rs := [5, 13]) (by kernel_rfl) rfl ⟨?_, ?_, trivial⟩; refine wpS_op (i := 5) (li' := (lv 19 55295)) rfl rfl rfl rfl (by kernel_rfl) (OpA.appendW (enc := encText) rfl rfl rfl rfl ts22 rfl (fun _ _ => .head) (.list (ys := (lsub c.texts 0 (c26drop_e0 path c)))) q5_0 (fun c65 pre66 => ?_)); exact wpS_to hW (s9 c15 c65 pre66) (Cov.asg ⟨rfl, rfl, rfl, rfl, rfl, rfl, trivial⟩) (.refl _); refine wpS_op (i := 13) (li' := (lv 19 63455)) rfl rfl rfl rfl (by kernel_rfl) (OpA.load rfl ti3 rfl (.tail (.tail .head)) rfl rfl ?_); exact wpS_to hW (s11 c15) (Cov.asg ⟨rfl, rfl, rfl, rfl, rfl, rfl, rfl, trivial⟩) (.refl _))
  have s18 : ∀ (c15 : Nat), W 6 (lv 19 62431) (asg [(4, .ptr c2 4 0 0), (5, D.i 0), (17, .own c15 2 ([] : List D).length ([] : List Text).length), (21, (encL 2 encText) (lsub c.texts 0 (c26drop_e0 path c))), (24, (encL 2 encText) c.texts), (26, D.i ((c26drop_e0 path c) + 1)), (30, D.i c.k), (32, D.i c.w)]) [(c15, .cells 2 (winL encText ([] : List D) ([] : List Text) ([] : List D))), (c2, .cells 4 [.agg ([D.i 0, D.i 0, .v (.slice none 0 0), .v (.slice none 0 0)])]), (c1, .cells 4 [encCorpus c])] := fun c15 => wpS_of hW (by refine wpS_step (rs := [5, 10]) (by kernel_rfl) rfl ⟨?_, ?_, trivial⟩; refine wpS_op (i := 5) (li' := (lv 19 62463)) rfl rfl rfl rfl (by kernel_rfl) (OpA.appendW (enc := encText) rfl rfl rfl rfl ts22 rfl (fun _ _ => .head) (.list (ys := (lsub c.texts 0 (c26drop_e0 path c)))) q5_0 (fun c65 pre66 => ?_)); exact wpS_to hW (s10 c15 c65 pre66) (Cov.asg ⟨rfl, rfl, rfl, rfl, rfl, rfl, rfl, trivial⟩) (.refl _); refine wpS_op (i := 10) (li' := (lv 19 63455)) rfl rfl rfl rfl (by kernel_rfl) (OpA.isliceV (enc := encText) rfl ts22 rfl (.some rfl) (.none _) q10_0 ?_); exact wpS_to hW (s11 c15) (Cov.asg ⟨rfl, rfl, rfl, rfl, rfl, rfl, rfl, trivial⟩) (.refl _))
  have s19 : ∀ (c15 : Nat), W 6 (lv 19 63439) (asg [(4, .ptr c2 4 0 0), (5, D.i 0), (17, .own c15 2 ([] : List D).length ([] : List Text).length), (19, (encL 2 encText) c.texts), (20, D.i (c26drop_e0 path c)), (27, (encL 2 encText) (c26drop_e1 c path)), (30, D.i c.k), (32, D.i c.w)]) [(c15, .cells 2 (winL encText ([] : List D) ([] : List Text) ([] : List D))), (c2, .cells 4 [.agg ([D.i 0, D.i 0, .v (.slice none 0 0), .v (.slice none 0 0)])]), (c1, .cells 4 [encCorpus c])] := fun c15 => wpS_of hW (by refine wpS_step (rs := [4]) (by kernel_rfl) rfl ⟨?_, trivial⟩; refine wpS_op (i := 4) (li' := (lv 19 63455)) rfl rfl rfl rfl (by kernel_rfl) (OpA.isliceV (enc := encText) rfl ts22 rfl (.none _) (.some rfl) q4_0 ?_); exact wpS_to hW (s11 c15) (Cov.asg ⟨rfl, rfl, rfl, rfl, rfl, rfl, rfl, trivial⟩) (.refl _))
  have s20 : W 6 (lv 19 63454) (asg [(4, .ptr c2 4 0 0), (5, D.i 0), (21, (encL 2 encText) (lsub c.texts 0 (c26drop_e0 path c))), (27, (encL 2 encText) (c26drop_e1 c path)), (30, D.i c.k), (32, D.i c.w)]) [(c2, .cells 4 [.agg ([D.i 0, D.i 0, .v (.slice none 0 0), .v (.slice none 0 0)])]), (c1, .cells 4 [encCorpus c])] := wpS_of hW (by refine wpS_step (rs := [0]) (by kernel_rfl) rfl ⟨?_, trivial⟩; refine wpS_op (i := 0) (li' := (lv 19 63455)) rfl rfl rfl rfl (by kernel_rfl) (OpA.buildSliceV (enc := encText) (xs := ([] : List Text)) rfl ts22 rfl .nil (by decide) rfl (fun c15 => ?_)); exact wpS_to hW (s11 c15) (Cov.asg ⟨rfl, rfl, rfl, rfl, rfl, rfl, rfl, trivial⟩) (.refl _))
  have s21 : ∀ (c15 : Nat) (c65 : Nat) (pre66 : List D), W 7 (lv 19 21503) (asg [(4, .ptr c2 4 0 0), (5, D.i 0), (22, .own c65 2 pre66.length (([] : List Text) ++ (lsub c.texts 0 (c26drop_e0 path c))).length), (24, (encL 2 encText) c.texts), (26, D.i ((c26drop_e0 path c) + 1)), (29, .ptr c1 4 0 0), (31, .ptr c1 4 0 1)]) [(c65, .cells 2 (winL encText pre66 (([] : List Text) ++ (lsub c.texts 0 (c26drop_e0 path c))) ([] : List D))), (c2, .cells 4 [.agg ([D.i 0, D.i 0, .v (.slice none 0 0), .v (.slice none 0 0)])]), (c1, .cells 4 [encCorpus c])] := fun c15 c65 pre66 => wpS_of hW (by refine wpS_step (rs := [10, 13, 15]) (by kernel_rfl) rfl ⟨?_, ?_, ?_, trivial⟩; refine wpS_op (i := 10) (li' := (lv 19 22527)) rfl rfl rfl rfl (by kernel_rfl) (OpA.isliceV (enc := encText) rfl ts22 rfl (.some rfl) (.none _) q10_0 ?_); exact wpS_to hW (s12 c15 c65 pre66) (Cov.asg ⟨rfl, rfl, rfl, rfl, rfl, rfl, trivial⟩) (.refl _); refine wpS_op (i := 13) (li' := (lv 19 29695)) rfl rfl rfl rfl (by kernel_rfl) (OpA.load rfl ti3 rfl (.tail (.tail .head)) rfl rfl ?_); exact wpS_to hW (s13 c15 c65 pre66) (Cov.asg ⟨rfl, rfl, rfl, rfl, rfl, rfl, rfl, trivial⟩) (.refl _); refine wpS_op (i := 15) (li' := (lv 19 54271)) rfl rfl rfl rfl (by kernel_rfl) (OpA.load rfl ti3 rfl (.tail (.tail .head)) rfl rfl ?_); exact wpS_to hW (s14 c15 c65 pre66) (Cov.asg ⟨rfl, rfl, rfl, rfl, rfl, rfl, rfl, trivial⟩) (.refl _))
  have s22 : ∀ (c15 : Nat) (c65 : Nat) (pre66 : List D), W 7 (lv 19 29567) (asg [(4, .ptr c2 4 0 0), (5, D.i 0), (22, .own c65 2 pre66.length (([] : List Text) ++ (lsub c.texts 0 (c26drop_e0 path c))).length), (23, .ptr c1 4 0 2), (26, D.i ((c26drop_e0 path c) + 1)), (30, D.i c.k), (31, .ptr c1 4 0 1)]) [(c65, .cells 2 (winL encText pre66 (([] : List Text) ++ (lsub c.texts 0 (c26drop_e0 path c))) ([] : List D))), (c2, .cells 4 [.agg ([D.i 0, D.i 0, .v (.slice none 0 0), .v (.slice none 0 0)])]), (c1, .cells 4 [encCorpus c])] := fun c15 c65 pre66 => wpS_of hW (by refine wpS_step (rs := [7, 15]) (by kernel_rfl) rfl ⟨?_, ?_, trivial⟩; refine wpS_op (i := 7) (li' := (lv 19 29695)) rfl rfl rfl rfl (by kernel_rfl) (OpA.load rfl ti22 rfl (.tail (.tail .head)) rfl rfl ?_); exact wpS_to hW (s13 c15 c65 pre66) (Cov.asg ⟨rfl, rfl, rfl, rfl, rfl, rfl, rfl, trivial⟩) (.refl _); refine wpS_op (i := 15) (li' := (lv 19 62335)) rfl rfl rfl rfl (by kernel_rfl) (OpA.load rfl ti3 rfl (.tail (.tail .head)) rfl rfl ?_); exact wpS_to hW (s15 c15 c65 pre66) (Cov.asg ⟨rfl, rfl, rfl, rfl, rfl, rfl, rfl, trivial⟩) (.refl _))
  have s23 : ∀ (c15 : Nat) (c65 : Nat) (pre66 : List D), W 7 (lv 19 54143) (asg [(4, .ptr c2 4 0 0), (5, D.i 0), (22, .own c65 2 pre66.length (([] : List Text) ++ (lsub c.texts 0 (c26drop_e0 path c))).length), (23, .ptr c1 4 0 2), (26, D.i ((c26drop_e0 path c) + 1)), (29, .ptr c1 4 0 0), (32, D.i c.w)]) [(c65, .cells 2 (winL encText pre66 (([] : List Text) ++ (lsub c.texts 0 (c26drop_e0 path c))) ([] : List D))), (c2, .cells 4 [.agg ([D.i 0, D.i 0, .v (.slice none 0 0), .v (.slice none 0 0)])]), (c1, .cells 4 [encCorpus c])] := fun c15 c65 pre66 => wpS_of hW (by refine wpS_step (rs := [7, 13]) (by kernel_rfl) rfl ⟨?_, ?_, trivial⟩; refine wpS_op (i := 7) (li' := (lv 19 54271)) rfl rfl rfl rfl (by kernel_rfl) (OpA.load rfl ti22 rfl (.tail (.tail .head)) rfl rfl ?_); exact wpS_to hW (s14 c15 c65 pre66) (Cov.asg ⟨rfl, rfl, rfl, rfl, rfl, rfl, rfl, trivial⟩) (.refl _); refine wpS_op (i := 13) (li' := (lv 19 62335)) rfl rfl rfl rfl (by kernel_rfl) (OpA.load rfl ti3 rfl (.tail (.tail .head)) rfl rfl ?_); exact wpS_to hW (s15 c15 c65 pre66) (Cov.asg ⟨rfl, rfl, rfl, rfl, rfl, rfl, rfl, trivial⟩) (.refl _))
  have s24 : ∀ (c15 : Nat), W 7 (lv 19 22495) (asg [(4, .ptr c2 4 0 0), (5, D.i 0), (17, .own c15 2 ([] : List D).length ([] : List Text).length), (21, (encL 2 encText) (lsub c.texts 0 (c26drop_e0 path c))), (27, (encL 2 encText) (c26drop_e1 c path)), (29, .ptr c1 4 0 0), (31, .ptr c1 4 0 1)]) [(c15, .cells 2 (winL encText ([] : List D) ([] : List Text) ([] : List D))), (c2, .cells 4 [.agg ([D.i 0, D.i 0, .v (.slice none 0 0), .v (.slice none 0 0)])]), (c1, .cells 4 [encCorpus c])] := fun c15 => wpS_of hW (by refine wpS_step (rs := [5, 13, 15]) (by kernel_rfl) rfl ⟨?_, ?_, ?_, trivial⟩; refine wpS_op (i := 5) (li' := (lv 19 22527)) rfl rfl rfl rfl (by kernel_rfl) (OpA.appendW (enc := encText) rfl rfl rfl rfl ts22 rfl (fun _ _ => .head) (.list (ys := (lsub c.texts 0 (c26drop_e0 path c)))) q5_0 (fun c65 pre66 => ?_)); exact wpS_to hW (s12 c15 c65 pre66) (Cov.asg ⟨rfl, rfl, rfl, rfl, rfl, rfl, trivial⟩) (.refl _); refine wpS_op (i := 13) (li' := (lv 19 30687)) rfl rfl rfl rfl (by kernel_rfl) (OpA.load rfl ti3 rfl (.tail (.tail .head)) rfl rfl ?_); exact wpS_to hW (s16 c15) (Cov.asg ⟨rfl, rfl, rfl, rfl, rfl, rfl, rfl, trivial⟩) (.refl _); refine wpS_op (i := 15) (li' := (lv 19 55263)) rfl rfl rfl rfl (by kernel_rfl) (OpA.load rfl ti3 rfl (.tail (.tail .head)) rfl rfl ?_); exact wpS_to hW (s17 c15) (Cov.asg ⟨rfl, rfl, rfl, rfl, rfl, rfl, rfl, trivial⟩) (.refl _))
  have s25 : ∀ (c15 : Nat), W 7 (lv 19 29663) (asg [(4, .ptr c2 4 0 0), (5, D.i 0), (17, .own c15 2 ([] : List D).length ([] : List Text).length), (21, (encL 2 encText) (lsub c.texts 0 (c26drop_e0 path c))), (24, (encL 2 encText) c.texts), (26, D.i ((c26drop_e0 path c) + 1)), (30, D.i c.k), (31, .ptr c1 4 0 1)]) [(c15, .cells 2 (winL encText ([] : List D) ([] : List Text) ([] : List D))), (c2, .cells 4 [.agg ([D.i 0, D.i 0, .v (.slice none 0 0), .v (.slice none 0 0)])]), (c1, .cells 4 [encCorpus c])] := fun c15 => wpS_of hW (by refine wpS_step (rs := [5, 10, 15]) (by kernel_rfl) rfl ⟨?_, ?_, ?_, trivial⟩; refine wpS_op (i := 5) (li' := (lv 19 29695)) rfl rfl rfl rfl (by kernel_rfl) (OpA.appendW (enc := encText) rfl rfl rfl rfl ts22 rfl (fun _ _ => .head) (.list (ys := (lsub c.texts 0 (c26drop_e0 path c)))) q5_0 (fun c65 pre66 => ?_)); exact wpS_to hW (s13 c15 c65 pre66) (Cov.asg ⟨rfl, rfl, rfl, rfl, rfl, rfl, rfl, trivial⟩) (.refl _); refine wpS_op (i := 10) (li' := (lv 19 30687)) rfl rfl rfl rfl (by kernel_rfl) (OpA.isliceV (enc := encText) rfl ts22 rfl (.some rfl) (.none _) q10_0 ?_); exact wpS_to hW (s16 c15) (Cov.asg ⟨rfl, rfl, rfl, rfl, rfl, rfl, rfl, trivial⟩) (.refl _); refine wpS_op (i := 15) (li' := (lv 19 62431)) rfl rfl rfl rfl (by kernel_rfl) (OpA.load rfl ti3 rfl (.tail (.tail .head)) rfl rfl ?_); exact wpS_to hW (s18 c15) (Cov.asg ⟨rfl, rfl, rfl, rfl, rfl, rfl, rfl, rfl, trivial⟩) (.refl _))
  have s26 : ∀ (c15 : Nat), W 7 (lv 19 54239) (asg [(4, .ptr c2 4 0 0), (5, D.i 0), (17, .own c15 2 ([] : List D).length ([] : List Text).length), (21, (encL 2 encText) (lsub c.texts 0 (c26drop_e0 path c))), (24, (encL 2 encText) c.texts), (26, D.i ((c26drop_e0 path c) + 1)), (29, .ptr c1 4 0 0), (32, D.i c.w)]) [(c15, .cells 2 (winL encText ([] : List D) ([] : List Text) ([] : List D))), (c2, .cells 4 [.agg ([D.i 0, D.i 0, .v (.slice none 0 0), .v (.slice none 0 0)])]), (c1, .cells 4 [encCorpus c])] := fun c15 => wpS_of hW (by refine wpS_step (rs := [5, 10, 13]) (by kernel_rfl) rfl ⟨?_, ?_, ?_, trivial⟩; refine wpS_op (i := 5) (li' := (lv 19 54271)) rfl rfl rfl rfl (by kernel_rfl) (OpA.appendW (enc := encText) rfl rfl rfl rfl ts22 rfl (fun _ _ => .head) (.list (ys := (lsub c.texts 0 (c26drop_e0 path c)))) q5_0 (fun c65 pre66 => ?_)); exact wpS_to hW (s14 c15 c65 pre66) (Cov.asg ⟨rfl, rfl, rfl, rfl, rfl, rfl, rfl, trivial⟩) (.refl _); refine wpS_op (i := 10) (li' := (lv 19 55263)) rfl rfl rfl rfl (by kernel_rfl) (OpA.isliceV (enc := encText) rfl ts22 rfl (.some rfl) (.none _) q10_0 ?_); exact wpS_to hW (s17 c15) (Cov.asg ⟨rfl, rfl, rfl, rfl, rfl, rfl, rfl, trivial⟩) (.refl _); refine wpS_op (i := 13) (li' := (lv 19 62431)) rfl rfl rfl rfl (by kernel_rfl) (OpA.load rfl ti3 rfl (.tail (.tail .head)) rfl rfl ?_); exact wpS_to hW (s18 c15) (Cov.asg ⟨rfl, rfl, rfl, rfl, rfl, rfl, rfl, rfl, trivial⟩) (.refl _))
  have s27 : ∀ (c15 : Nat), W 7 (lv 19 62303) (asg [(4, .ptr c2 4 0 0), (5, D.i 0), (17, .own c15 2 ([] : List D).length ([] : List Text).length), (21, (encL 2 encText) (lsub c.texts 0 (c26drop_e0 path c))), (23, .ptr c1 4 0 2), (26, D.i ((c26drop_e0 path c) + 1)), (30, D.i c.k), (32, D.i c.w)]) [(c15, .cells 2 (winL encText ([] : List D) ([] : List Text) ([] : List D))), (c2, .cells 4 [.agg ([D.i 0, D.i 0, .v (.slice none 0 0), .v (.slice none 0 0)])]), (c1, .cells 4 [encCorpus c])] := fun c15 => wpS_of hW (by refine wpS_step (rs := [5, 7]) (by kernel_rfl) rfl ⟨?_, ?_, trivial⟩; refine wpS_op (i := 5) (li' := (lv 19 62335)) rfl rfl rfl rfl (by kernel_rfl) (OpA.appendW (enc := encText) rfl rfl rfl rfl ts22 rfl (fun _ _ => .head) (.list (ys := (lsub c.texts 0 (c26drop_e0 path c)))) q5_0 (fun c65 pre66 => ?_)); exact wpS_to hW (s15 c15 c65 pre66) (Cov.asg ⟨rfl, rfl, rfl, rfl, rfl, rfl, rfl, trivial⟩) (.refl _); refine wpS_op (i := 7) (li' := (lv 19 62431)) rfl rfl rfl rfl (by kernel_rfl) (OpA.load rfl ti22 rfl (.tail (.tail .head)) rfl rfl ?_); exact wpS_to hW (s18 c15) (Cov.asg ⟨rfl, rfl, rfl, rfl, rfl, rfl, rfl, rfl, trivial⟩) (.refl _))
  have s28 : ∀ (c15 : Nat), W 7 (lv 19 30671) (asg [(4, .ptr c2 4 0 0), (5, D.i 0), (17, .own c15 2 ([] : List D).length ([] : List Text).length), (19, (encL 2 encText) c.texts), (20, D.i (c26drop_e0 path c)), (27, (encL 2 encText) (c26drop_e1 c path)), (30, D.i c.k), (31, .ptr c1 4 0 1)]) [(c15, .cells 2 (winL encText ([] : List D) ([] : List Text) ([] : List D))), (c2, .cells 4 [.agg ([D.i 0, D.i 0, .v (.slice none 0 0), .v (.slice none 0 0)])]), (c1, .cells 4 [encCorpus c])] := fun c15 => wpS_of hW (by refine wpS_step (rs := [4, 15]) (by kernel_rfl) rfl ⟨?_, ?_, trivial⟩; refine wpS_op (i := 4) (li' := (lv 19 30687)) rfl rfl rfl rfl (by kernel_rfl) (OpA.isliceV (enc := encText) rfl ts22 rfl (.none _) (.some rfl) q4_0 ?_); exact wpS_to hW (s16 c15) (Cov.asg ⟨rfl, rfl, rfl, rfl, rfl, rfl, rfl, trivial⟩) (.refl _); refine wpS_op (i := 15) (li' := (lv 19 63439)) rfl rfl rfl rfl (by kernel_rfl) (OpA.load rfl ti3 rfl (.tail (.tail .head)) rfl rfl ?_); exact wpS_to hW (s19 c15) (Cov.asg ⟨rfl, rfl, rfl, rfl, rfl, rfl, rfl, rfl, trivial⟩) (.refl _))
  have s29 : ∀ (c15 : Nat), W 7 (lv 19 55247) (asg [(4, .ptr c2 4 0 0), (5, D.i 0), (17, .own c15 2 ([] : List D).length ([] : List Text).length), (19, (encL 2 encText) c.texts), (20, D.i (c26drop_e0 path c)), (27, (encL 2 encText) (c26drop_e1 c path)), (29, .ptr c1 4 0 0), (32, D.i c.w)]) [(c15, .cells 2 (winL encText ([] : List D) ([] : List Text) ([] : List D))), (c2, .cells 4 [.agg ([D.i 0, D.i 0, .v (.slice none 0 0), .v (.slice none 0 0)])]), (c1, .cells 4 [encCorpus c])] := fun c15 => wpS_of hW (by refine wpS_step (rs := [4, 13]) (by kernel_rfl) rfl ⟨?_, ?_, trivial⟩; refine wpS_op (i := 4) (li' := (lv 19 55263)) rfl rfl rfl rfl (by kernel_rfl) (OpA.isliceV (enc := encText) rfl ts22 rfl (.none _) (.some rfl) q4_0 ?_); exact wpS_to hW (s17 c15) (Cov.asg ⟨rfl, rfl, rfl, rfl, rfl, rfl, rfl, trivial⟩) (.refl _); refine wpS_op (i := 13) (li' := (lv 19 63439)) rfl rfl rfl rfl (by kernel_rfl) (OpA.load rfl ti3 rfl (.tail (.tail .head)) rfl rfl ?_); exact wpS_to hW (s19 c15) (Cov.asg ⟨rfl, rfl, rfl, rfl, rfl, rfl, rfl, rfl, trivial⟩) (.refl _))
  have s30 : ∀ (c15 : Nat), W 7 (lv 19 62415) (asg [(4, .ptr c2 4 0 0), (5, D.i 0), (17, .own c15 2 ([] : List D).length ([] : List Text).length), (19, (encL 2 encText) c.texts), (20, D.i (c26drop_e0 path c)), (24, (encL 2 encText) c.texts), (26, D.i ((c26drop_e0 path c) + 1)), (30, D.i c.k), (32, D.i c.w)]) [(c15, .cells 2 (winL encText ([] : List D) ([] : List Text) ([] : List D))), (c2, .cells 4 [.agg ([D.i 0, D.i 0, .v (.slice none 0 0), .v (.slice none 0 0)])]), (c1, .cells 4 [encCorpus c])] := fun c15 => wpS_of hW (by refine wpS_step (rs := [4, 10]) (by kernel_rfl) rfl ⟨?_, ?_, trivial⟩; refine wpS_op (i := 4) (li' := (lv 19 62431)) rfl rfl rfl rfl (by kernel_rfl) (OpA.isliceV (enc := encText) rfl ts22 rfl (.none _) (.some rfl) q4_0 ?_); exact wpS_to hW (s18 c15) (Cov.asg ⟨rfl, rfl, rfl, rfl, rfl, rfl, rfl, rfl, trivial⟩) (.refl _); refine wpS_op (i := 10) (li' := (lv 19 63439)) rfl rfl rfl rfl (by kernel_rfl) (OpA.isliceV (enc := encText) rfl ts22 rfl (.some rfl) (.none _) q10_0 ?_); exact wpS_to hW (s19 c15) (Cov.asg ⟨rfl, rfl, rfl, rfl, rfl, rfl, rfl, rfl, trivial⟩) (.refl _))
  have s31 : ∀ (c15 : Nat), W 7 (lv 19 63435) (asg [(4, .ptr c2 4 0 0), (5, D.i 0), (17, .own c15 2 ([] : List D).length ([] : List Text).length), (18, .ptr c1 4 0 2), (20, D.i (c26drop_e0 path c)), (27, (encL 2 encText) (c26drop_e1 c path)), (30, D.i c.k), (32, D.i c.w)]) [(c15, .cells 2 (winL encText ([] : List D) ([] : List Text) ([] : List D))), (c2, .cells 4 [.agg ([D.i 0, D.i 0, .v (.slice none 0 0), .v (.slice none 0 0)])]), (c1, .cells 4 [encCorpus c])] := fun c15 => wpS_of hW (by refine wpS_step (rs := [2]) (by kernel_rfl) rfl ⟨?_, trivial⟩; refine wpS_op (i := 2) (li' := (lv 19 63439)) rfl rfl rfl rfl (by kernel_rfl) (OpA.load rfl ti22 rfl (.tail (.tail .head)) rfl rfl ?_); exact wpS_to hW (s19 c15) (Cov.asg ⟨rfl, rfl, rfl, rfl, rfl, rfl, rfl, rfl, trivial⟩) (.refl _))
  have s32 : W 7 (lv 19 30686) (asg [(4, .ptr c2 4 0 0), (5, D.i 0), (21, (encL 2 encText) (lsub c.texts 0 (c26drop_e0 path c))), (27, (encL 2 encText) (c26drop_e1 c path)), (30, D.i c.k), (31, .ptr c1 4 0 1)]) [(c2, .cells 4 [.agg ([D.i 0, D.i 0, .v (.slice none 0 0), .v (.slice none 0 0)])]), (c1, .cells 4 [encCorpus c])] := wpS_of hW (by refine wpS_step (rs := [0, 15]) (by kernel_rfl) rfl ⟨?_, ?_, trivial⟩; refine wpS_op (i := 0) (li' := (lv 19 30687)) rfl rfl rfl rfl (by kernel_rfl) (OpA.buildSliceV (enc := encText) (xs := ([] : List Text)) rfl ts22 rfl .nil (by decide) rfl (fun c15 => ?_)); exact wpS_to hW (s16 c15) (Cov.asg ⟨rfl, rfl, rfl, rfl, rfl, rfl, rfl, trivial⟩) (.refl _); refine wpS_op (i := 15) (li' := (lv 19 63454)) rfl rfl rfl rfl (by kernel_rfl) (OpA.load rfl ti3 rfl (.tail .head) rfl rfl ?_); exact wpS_to hW (s20) (Cov.asg ⟨rfl, rfl, rfl, rfl, rfl, rfl, trivial⟩) (.refl _))
  have s33 : W 7 (lv 19 55262) (asg [(4, .ptr c2 4 0 0), (5, D.i 0), (21, (encL 2 encText) (lsub c.texts 0 (c26drop_e0 path c))), (27, (encL 2 encText) (c26drop_e1 c path)), (29, .ptr c1 4 0 0), (32, D.i c.w)]) [(c2, .cells 4 [.agg ([D.i 0, D.i 0, .v (.slice none 0 0), .v (.slice none 0 0)])]), (c1, .cells 4 [encCorpus c])] := wpS_of hW (by refine wpS_step (rs := [0, 13]) (by kernel_rfl) rfl ⟨?_, ?_, trivial⟩; refine wpS_op (i := 0) (li' := (lv 19 55263)) rfl rfl rfl rfl (by kernel_rfl) (OpA.buildSliceV (enc := encText) (xs := ([] : List Text)) rfl ts22 rfl .nil (by decide) rfl (fun c15 => ?_)); exact wpS_to hW (s17 c15) (Cov.asg ⟨rfl, rfl, rfl, rfl, rfl, rfl, rfl, trivial⟩) (.refl _); refine wpS_op (i := 13) (li' := (lv 19 63454)) rfl rfl rfl rfl (by kernel_rfl) (OpA.load rfl ti3 rfl (.tail .head) rfl rfl ?_); exact wpS_to hW (s20) (Cov.asg ⟨rfl, rfl, rfl, rfl, rfl, rfl, trivial⟩) (.refl _))
  have s34 : W 7 (lv 19 62430) (asg [(4, .ptr c2 4 0 0), (5, D.i 0), (21, (encL 2 encText) (lsub c.texts 0 (c26drop_e0 path c))), (24, (encL 2 encText) c.texts), (26, D.i ((c26drop_e0 path c) + 1)), (30, D.i c.k), (32, D.i c.w)]) [(c2, .cells 4 [.agg ([D.i 0, D.i 0, .v (.slice none 0 0), .v (.slice none 0 0)])]), (c1, .cells 4 [encCorpus c])] := wpS_of hW (by refine wpS_step (rs := [0, 10]) (by kernel_rfl) rfl ⟨?_, ?_, trivial⟩; refine wpS_op (i := 0) (li' := (lv 19 62431)) rfl rfl rfl rfl (by kernel_rfl) (OpA.buildSliceV (enc := encText) (xs := ([] : List Text)) rfl ts22 rfl .nil (by decide) rfl (fun c15 => ?_)); exact wpS_to hW (s18 c15) (Cov.asg ⟨rfl, rfl, rfl, rfl, rfl, rfl, rfl, rfl, trivial⟩) (.refl _); refine wpS_op (i := 10) (li' := (lv 19 63454)) rfl rfl rfl rfl (by kernel_rfl) (OpA.isliceV (enc := encText) rfl ts22 rfl (.some rfl) (.none _) q10_0 ?_); exact wpS_to hW (s20) (Cov.asg ⟨rfl, rfl, rfl, rfl, rfl, rfl, trivial⟩) (.refl _))
  have s35 : W 7 (lv 19 63438) (asg [(4, .ptr c2 4 0 0), (5, D.i 0), (19, (encL 2 encText) c.texts), (20, D.i (c26drop_e0 path c)), (27, (encL 2 encText) (c26drop_e1 c path)), (30, D.i c.k), (32, D.i c.w)]) [(c2, .cells 4 [.agg ([D.i 0, D.i 0, .v (.slice none 0 0), .v (.slice none 0 0)])]), (c1, .cells 4 [encCorpus c])] := wpS_of hW (by refine wpS_step (rs := [0, 4]) (by kernel_rfl) rfl ⟨?_, ?_, trivial⟩; refine wpS_op (i := 0) (li' := (lv 19 63439)) rfl rfl rfl rfl (by kernel_rfl) (OpA.buildSliceV (enc := encText) (xs := ([] : List Text)) rfl ts22 rfl .nil (by decide) rfl (fun c15 => ?_)); exact wpS_to hW (s19 c15) (Cov.asg ⟨rfl, rfl, rfl, rfl, rfl, rfl, rfl, rfl, trivial⟩) (.refl _); refine wpS_op (i := 4) (li' := (lv 19 63454)) rfl rfl rfl rfl (by kernel_rfl) (OpA.isliceV (enc := encText) rfl ts22 rfl (.none _) (.some rfl) q4_0 ?_); exact wpS_to hW (s20) (Cov.asg ⟨rfl, rfl, rfl, rfl, rfl, rfl, trivial⟩) (.refl _))
  have s36 : ∀ (c15 : Nat) (c65 : Nat) (pre66 : List D), W 8 (lv 19 21375) (asg [(4, .ptr c2 4 0 0), (5, D.i 0), (22, .own c65 2 pre66.length (([] : List Text) ++ (lsub c.texts 0 (c26drop_e0 path c))).length), (23, .ptr c1 4 0 2), (26, D.i ((c26drop_e0 path c) + 1)), (29, .ptr c1 4 0 0), (31, .ptr c1 4 0 1)]) [(c65, .cells 2 (winL encText pre66 (([] : List Text) ++ (lsub c.texts 0 (c26drop_e0 path c))) ([] : List D))), (c2, .cells 4 [.agg ([D.i 0, D.i 0, .v (.slice none 0 0), .v (.slice none 0 0)])]), (c1, .cells 4 [encCorpus c])] := fun c15 c65 pre66 => wpS_of hW (by refine wpS_step (rs := [7, 13, 15]) (by kernel_rfl) rfl ⟨?_, ?_, ?_, trivial⟩; refine wpS_op (i := 7) (li' := (lv 19 21503)) rfl rfl rfl rfl (by kernel_rfl) (OpA.load rfl ti22 rfl (.tail (.tail .head)) rfl rfl ?_); exact wpS_to hW (s21 c15 c65 pre66) (Cov.asg ⟨rfl, rfl, rfl, rfl, rfl, rfl, rfl, trivial⟩) (.refl _); refine wpS_op (i := 13) (li' := (lv 19 29567)) rfl rfl rfl rfl (by kernel_rfl) (OpA.load rfl ti3 rfl (.tail (.tail .head)) rfl rfl ?_); exact wpS_to hW (s22 c15 c65 pre66) (Cov.asg ⟨rfl, rfl, rfl, rfl, rfl, rfl, rfl, trivial⟩) (.refl _); refine wpS_op (i := 15) (li' := (lv 19 54143)) rfl rfl rfl rfl (by kernel_rfl) (OpA.load rfl ti3 rfl (.tail (.tail .head)) rfl rfl ?_); exact wpS_to hW (s23 c15 c65 pre66) (Cov.asg ⟨rfl, rfl, rfl, rfl, rfl, rfl, rfl, trivial⟩) (.refl _))
  have s37 : ∀ (c15 : Nat), W 8 (lv 19 21471) (asg [(4, .ptr c2 4 0 0), (5, D.i 0), (17, .own c15 2 ([] : List D).length ([] : List Text).length), (21, (encL 2 encText) (lsub c.texts 0 (c26drop_e0 path c))), (24, (encL 2 encText) c.texts), (26, D.i ((c26drop_e0 path c) + 1)), (29, .ptr c1 4 0 0), (31, .ptr c1 4 0 1)]) [(c15, .cells 2 (winL encText ([] : List D) ([] : List Text) ([] : List D))), (c2, .cells 4 [.agg ([D.i 0, D.i 0, .v (.slice none 0 0), .v (.slice none 0 0)])]), (c1, .cells 4 [encCorpus c])] := fun c15 => wpS_of hW (by refine wpS_step (rs := [5, 10, 13, 15]) (by kernel_rfl) rfl ⟨?_, ?_, ?_, ?_, trivial⟩; refine wpS_op (i := 5) (li' := (lv 19 21503)) rfl rfl rfl rfl (by kernel_rfl) (OpA.appendW (enc := encText) rfl rfl rfl rfl ts22 rfl (fun _ _ => .head) (.list (ys := (lsub c.texts 0 (c26drop_e0 path c)))) q5_0 (fun c65 pre66 => ?_)); exact wpS_to hW (s21 c15 c65 pre66) (Cov.asg ⟨rfl, rfl, rfl, rfl, rfl, rfl, rfl, trivial⟩) (.refl _); refine wpS_op (i := 10) (li' := (lv 19 22495)) rfl rfl rfl rfl (by kernel_rfl) (OpA.isliceV (enc := encText) rfl ts22 rfl (.some rfl) (.none _) q10_0 ?_); exact wpS_to hW (s24 c15) (Cov.asg ⟨rfl, rfl, rfl, rfl, rfl, rfl, rfl, trivial⟩) (.refl _); refine wpS_op (i := 13) (li' := (lv 19 29663)) rfl rfl rfl rfl (by kernel_rfl) (OpA.load rfl ti3 rfl (.tail (.tail .head)) rfl rfl ?_); exact wpS_to hW (s25 c15) (Cov.asg ⟨rfl, rfl, rfl, rfl, rfl, rfl, rfl, rfl, trivial⟩) (.refl _); refine wpS_op (i := 15) (li' := (lv 19 54239)) rfl rfl rfl rfl (by kernel_rfl) (OpA.load rfl ti3 rfl (.tail (.tail .head)) rfl rfl ?_); exact wpS_to hW (s26 c15) (Cov.asg ⟨rfl, rfl, rfl, rfl, rfl, rfl, rfl, rfl, trivial⟩) (.refl _))
  have s38 : ∀ (c15 : Nat), W 8 (lv 19 29535) (asg [(4, .ptr c2 4 0 0), (5, D.i 0), (17, .own c15 2 ([] : List D).length ([] : List Text).length), (21, (encL 2 encText) (lsub c.texts 0 (c26drop_e0 path c))), (23, .ptr c1 4 0 2), (26, D.i ((c26drop_e0 path c) + 1)), (30, D.i c.k), (31, .ptr c1 4 0 1)]) [(c15, .cells 2 (winL encText ([] : List D) ([] : List Text) ([] : List D))), (c2, .cells 4 [.agg ([D.i 0, D.i 0, .v (.slice none 0 0), .v (.slice none 0 0)])]), (c1, .cells 4 [encCorpus c])] := fun c15 => wpS_of hW (by refine wpS_step (rs := [5, 7, 15]) (by kernel_rfl) rfl ⟨?_, ?_, ?_, trivial⟩; refine wpS_op (i := 5) (li' := (lv 19 29567)) rfl rfl rfl rfl (by kernel_rfl) (OpA.appendW (enc := encText) rfl rfl rfl rfl ts22 rfl (fun _ _ => .head) (.list (ys := (lsub c.texts 0 (c26drop_e0 path c)))) q5_0 (fun c65 pre66 => ?_)); exact wpS_to hW (s22 c15 c65 pre66) (Cov.asg ⟨rfl, rfl, rfl, rfl, rfl, rfl, rfl, trivial⟩) (.refl _); refine wpS_op (i := 7) (li' := (lv 19 29663)) rfl rfl rfl rfl (by kernel_rfl) (OpA.load rfl ti22 rfl (.tail (.tail .head)) rfl rfl ?_); exact wpS_to hW (s25 c15) (Cov.asg ⟨rfl, rfl, rfl, rfl, rfl, rfl, rfl, rfl, trivial⟩) (.refl _); refine wpS_op (i := 15) (li' := (lv 19 62303)) rfl rfl rfl rfl (by kernel_rfl) (OpA.load rfl ti3 rfl (.tail (.tail .head)) rfl rfl ?_); exact wpS_to hW (s27 c15) (Cov.asg ⟨rfl, rfl, rfl, rfl, rfl, rfl, rfl, rfl, trivial⟩) (.refl _))
  have s39 : ∀ (c15 : Nat), W 8 (lv 19 54111) (asg [(4, .ptr c2 4 0 0), (5, D.i 0), (17, .own c15 2 ([] : List D).length ([] : List Text).length), (21, (encL 2 encText) (lsub c.texts 0 (c26drop_e0 path c))), (23, .ptr c1 4 0 2), (26, D.i ((c26drop_e0 path c) + 1)), (29, .ptr c1 4 0 0), (32, D.i c.w)]) [(c15, .cells 2 (winL encText ([] : List D) ([] : List Text) ([] : List D))), (c2, .cells 4 [.agg ([D.i 0, D.i 0, .v (.slice none 0 0), .v (.slice none 0 0)])]), (c1, .cells 4 [encCorpus c])] := fun c15 => wpS_of hW (by refine wpS_step (rs := [5, 7, 13]) (by kernel_rfl) rfl ⟨?_, ?_, ?_, trivial⟩; refine wpS_op (i := 5) (li' := (lv 19 54143)) rfl rfl rfl rfl (by kernel_rfl) (OpA.appendW (enc := encText) rfl rfl rfl rfl ts22 rfl (fun _ _ => .head) (.list (ys := (lsub c.texts 0 (c26drop_e0 path c)))) q5_0 (fun c65 pre66 => ?_)); exact wpS_to hW (s23 c15 c65 pre66) (Cov.asg ⟨rfl, rfl, rfl, rfl, rfl, rfl, rfl, trivial⟩) (.refl _); refine wpS_op (i := 7) (li' := (lv 19 54239)) rfl rfl rfl rfl (by kernel_rfl) (OpA.load rfl ti22 rfl (.tail (.tail .head)) rfl rfl ?_); exact wpS_to hW (s26 c15) (Cov.asg ⟨rfl, rfl, rfl, rfl, rfl, rfl, rfl, rfl, trivial⟩) (.refl _); refine wpS_op (i := 13) (li' := (lv 19 62303)) rfl rfl rfl rfl (by kernel_rfl) (OpA.load rfl ti3 rfl (.tail (.tail .head)) rfl rfl ?_); exact wpS_to hW (s27 c15) (Cov.asg ⟨rfl, rfl, rfl, rfl, rfl, rfl, rfl, rfl, trivial⟩) (.refl _))
  have s40 : ∀ (c15 : Nat), W 8 (lv 19 22479) (asg [(4, .ptr c2 4 0 0), (5, D.i 0), (17, .own c15 2 ([] : List D).length ([] : List Text).length), (19, (encL 2 encText) c.texts), (20, D.i (c26drop_e0 path c)), (27, (encL 2 encText) (c26drop_e1 c path)), (29, .ptr c1 4 0 0), (31, .ptr c1 4 0 1)]) [(c15, .cells 2 (winL encText ([] : List D) ([] : List Text) ([] : List D))), (c2, .cells 4 [.agg ([D.i 0, D.i 0, .v (.slice none 0 0), .v (.slice none 0 0)])]), (c1, .cells 4 [encCorpus c])] := fun c15 => wpS_of hW (by refine wpS_step (rs := [4, 13, 15]) (by kernel_rfl) rfl ⟨?_, ?_, ?_, trivial⟩; refine wpS_op (i := 4) (li' := (lv 19 22495)) rfl rfl rfl rfl (by kernel_rfl) (OpA.isliceV (enc := encText) rfl ts22 rfl (.none _) (.some rfl) q4_0 ?_); exact wpS_to hW (s24 c15) (Cov.asg ⟨rfl, rfl, rfl, rfl, rfl, rfl, rfl, trivial⟩) (.refl _); refine wpS_op (i := 13) (li' := (lv 19 30671)) rfl rfl rfl rfl (by kernel_rfl) (OpA.load rfl ti3 rfl (.tail (.tail .head)) rfl rfl ?_); exact wpS_to hW (s28 c15) (Cov.asg ⟨rfl, rfl, rfl, rfl, rfl, rfl, rfl, rfl, trivial⟩) (.refl _); refine wpS_op (i := 15) (li' := (lv 19 55247)) rfl rfl rfl rfl (by kernel_rfl) (OpA.load rfl ti3 rfl (.tail (.tail .head)) rfl rfl ?_); exact wpS_to hW (s29 c15) (Cov.asg ⟨rfl, rfl, rfl, rfl, rfl, rfl, rfl, rfl, trivial⟩) (.refl _))
  have s41 : ∀ (c15 : Nat), W 8 (lv 19 29647) (asg [(4, .ptr c2 4 0 0), (5, D.i 0), (17, .own c15 2 ([] : List D).length ([] : List Text).length), (19, (encL 2 encText) c.texts), (20, D.i (c26drop_e0 path c)), (24, (encL 2 encText) c.texts), (26, D.i ((c26drop_e0 path c) + 1)), (30, D.i c.k), (31, .ptr c1 4 0 1)]) [(c15, .cells 2 (winL encText ([] : List D) ([] : List Text) ([] : List D))), (c2, .cells 4 [.agg ([D.i 0, D.i 0, .v (.slice none 0 0), .v (.slice none 0 0)])]), (c1, .cells 4 [encCorpus c])] := fun c15 => wpS_of hW (by refine wpS_step (rs := [4, 10, 15]) (by kernel_rfl) rfl ⟨?_, ?_, ?_, trivial⟩; refine wpS_op (i := 4) (li' := (lv 19 29663)) rfl rfl rfl rfl (by kernel_rfl) (OpA.isliceV (enc := encText) rfl ts22 rfl (.none _) (.some rfl) q4_0 ?_); exact wpS_to hW (s25 c15) (Cov.asg ⟨rfl, rfl, rfl, rfl, rfl, rfl, rfl, rfl, trivial⟩) (.refl _); refine wpS_op (i := 10) (li' := (lv 19 30671)) rfl rfl rfl rfl (by kernel_rfl) (OpA.isliceV (enc := encText) rfl ts22 rfl (.some rfl) (.none _) q10_0 ?_); exact wpS_to hW (s28 c15) (Cov.asg ⟨rfl, rfl, rfl, rfl, rfl, rfl, rfl, rfl, trivial⟩) (.refl _); refine wpS_op (i := 15) (li' := (lv 19 62415)) rfl rfl rfl rfl (by kernel_rfl) (OpA.load rfl ti3 rfl (.tail (.tail .head)) rfl rfl ?_); exact wpS_to hW (s30 c15) (Cov.asg ⟨rfl, rfl, rfl, rfl, rfl, rfl, rfl, rfl, rfl, trivial⟩) (.refl _))
  have s42 : ∀ (c15 : Nat), W 8 (lv 19 54223) (asg [(4, .ptr c2 4 0 0), (5, D.i 0), (17, .own c15 2 ([] : List D).length ([] : List Text).length), (19, (encL 2 encText) c.texts), (20, D.i (c26drop_e0 path c)), (24, (encL 2 encText) c.texts), (26, D.i ((c26drop_e0 path c) + 1)), (29, .ptr c1 4 0 0), (32, D.i c.w)]) [(c15, .cells 2 (winL encText ([] : List D) ([] : List Text) ([] : List D))), (c2, .cells 4 [.agg ([D.i 0, D.i 0, .v (.slice none 0 0), .v (.slice none 0 0)])]), (c1, .cells 4 [encCorpus c])] := fun c15 => wpS_of hW (by refine wpS_step (rs := [4, 10, 13]) (by kernel_rfl) rfl ⟨?_, ?_, ?_, trivial⟩; refine wpS_op (i := 4) (li' := (lv 19 54239)) rfl rfl rfl rfl (by kernel_rfl) (OpA.isliceV (enc := encText) rfl ts22 rfl (.none _) (.some rfl) q4_0 ?_); exact wpS_to hW (s26 c15) (Cov.asg ⟨rfl, rfl, rfl, rfl, rfl, rfl, rfl, rfl, trivial⟩) (.refl _); refine wpS_op (i := 10) (li' := (lv 19 55247)) rfl rfl rfl rfl (by kernel_rfl) (OpA.isliceV (enc := encText) rfl ts22 rfl (.some rfl) (.none _) q10_0 ?_); exact wpS_to hW (s29 c15) (Cov.asg ⟨rfl, rfl, rfl, rfl, rfl, rfl, rfl, rfl, trivial⟩) (.refl _); refine wpS_op (i := 13) (li' := (lv 19 62415)) rfl rfl rfl rfl (by kernel_rfl) (OpA.load rfl ti3 rfl (.tail (.tail .head)) rfl rfl ?_); exact wpS_to hW (s30 c15) (Cov.asg ⟨rfl, rfl, rfl, rfl, rfl, rfl, rfl, rfl, rfl, trivial⟩) (.refl _))
  have s43 : ∀ (c15 : Nat), W 8 (lv 19 62287) (asg [(4, .ptr c2 4 0 0), (5, D.i 0), (17, .own c15 2 ([] : List D).length ([] : List Text).length), (19, (encL 2 encText) c.texts), (20, D.i (c26drop_e0 path c)), (23, .ptr c1 4 0 2), (26, D.i ((c26drop_e0 path c) + 1)), (30, D.i c.k), (32, D.i c.w)]) [(c15, .cells 2 (winL encText ([] : List D) ([] : List Text) ([] : List D))), (c2, .cells 4 [.agg ([D.i 0, D.i 0, .v (.slice none 0 0), .v (.slice none 0 0)])]), (c1, .cells 4 [encCorpus c])] := fun c15 => wpS_of hW (by refine wpS_step (rs := [4, 7]) (by kernel_rfl) rfl ⟨?_, ?_, trivial⟩; refine wpS_op (i := 4) (li' := (lv 19 62303)) rfl rfl rfl rfl (by kernel_rfl) (OpA.isliceV (enc := encText) rfl ts22 rfl (.none _) (.some rfl) q4_0 ?_); exact wpS_to hW (s27 c15) (Cov.asg ⟨rfl, rfl, rfl, rfl, rfl, rfl, rfl, rfl, trivial⟩) (.refl _); refine wpS_op (i := 7) (li' := (lv 19 62415)) rfl rfl rfl rfl (by kernel_rfl) (OpA.load rfl ti22 rfl (.tail (.tail .head)) rfl rfl ?_); exact wpS_to hW (s30 c15) (Cov.asg ⟨rfl, rfl, rfl, rfl, rfl, rfl, rfl, rfl, rfl, trivial⟩) (.refl _))
  have s44 : ∀ (c15 : Nat), W 8 (lv 19 30667) (asg [(4, .ptr c2 4 0 0), (5, D.i 0), (17, .own c15 2 ([] : List D).length ([] : List Text).length), (18, .ptr c1 4 0 2), (20, D.i (c26drop_e0 path c)), (27, (encL 2 encText) (c26drop_e1 c path)), (30, D.i c.k), (31, .ptr c1 4 0 1)]) [(c15, .cells 2 (winL encText ([] : List D) ([] : List Text) ([] : List D))), (c2, .cells 4 [.agg ([D.i 0, D.i 0, .v (.slice none 0 0), .v (.slice none 0 0)])]), (c1, .cells 4 [encCorpus c])] := fun c15 => wpS_of hW (by refine wpS_step (rs := [2, 15]) (by kernel_rfl) rfl ⟨?_, ?_, trivial⟩; refine wpS_op (i := 2) (li' := (lv 19 30671)) rfl rfl rfl rfl (by kernel_rfl) (OpA.load rfl ti22 rfl (.tail (.tail .head)) rfl rfl ?_); exact wpS_to hW (s28 c15) (Cov.asg ⟨rfl, rfl, rfl, rfl, rfl, rfl, rfl, rfl, trivial⟩) (.refl _); refine wpS_op (i := 15) (li' := (lv 19 63435)) rfl rfl rfl rfl (by kernel_rfl) (OpA.load rfl ti3 rfl (.tail (.tail .head)) rfl rfl ?_); exact wpS_to hW (s31 c15) (Cov.asg ⟨rfl, rfl, rfl, rfl, rfl, rfl, rfl, rfl, trivial⟩) (.refl _))
  have s45 : ∀ (c15 : Nat), W 8 (lv 19 55243) (asg [(4, .ptr c2 4 0 0), (5, D.i 0), (17, .own c15 2 ([] : List D).length ([] : List Text).length), (18, .ptr c1 4 0 2), (20, D.i (c26drop_e0 path c)), (27, (encL 2 encText) (c26drop_e1 c path)), (29, .ptr c1 4 0 0), (32, D.i c.w)]) [(c15, .cells 2 (winL encText ([] : List D) ([] : List Text) ([] : List D))), (c2, .cells 4 [.agg ([D.i 0, D.i 0, .v (.slice none 0 0), .v (.slice none 0 0)])]), (c1, .cells 4 [encCorpus c])] := fun c15 => wpS_of hW (by refine wpS_step (rs := [2, 13]) (by kernel_rfl) rfl ⟨?_, ?_, trivial⟩; refine wpS_op (i := 2) (li' := (lv 19 55247)) rfl rfl rfl rfl (by kernel_rfl) (OpA.load rfl ti22 rfl (.tail (.tail .head)) rfl rfl ?_); exact wpS_to hW (s29 c15) (Cov.asg ⟨rfl, rfl, rfl, rfl, rfl, rfl, rfl, rfl, trivial⟩) (.refl _); refine wpS_op (i := 13) (li' := (lv 19 63435)) rfl rfl rfl rfl (by kernel_rfl) (OpA.load rfl ti3 rfl (.tail (.tail .head)) rfl rfl ?_); exact wpS_to hW (s31 c15) (Cov.asg ⟨rfl, rfl, rfl, rfl, rfl, rfl, rfl, rfl, trivial⟩) (.refl _))
  have s46 : ∀ (c15 : Nat), W 8 (lv 19 62411) (asg [(4, .ptr c2 4 0 0), (5, D.i 0), (17, .own c15 2 ([] : List D).length ([] : List Text).length), (18, .ptr c1 4 0 2), (20, D.i (c26drop_e0 path c)), (24, (encL 2 encText) c.texts), (26, D.i ((c26drop_e0 path c) + 1)), (30, D.i c.k), (32, D.i c.w)]) [(c15, .cells 2 (winL encText ([] : List D) ([] : List Text) ([] : List D))), (c2, .cells 4 [.agg ([D.i 0, D.i 0, .v (.slice none 0 0), .v (.slice none 0 0)])]), (c1, .cells 4 [encCorpus c])] := fun c15 => wpS_of hW (by refine wpS_step (rs := [2, 10]) (by kernel_rfl) rfl ⟨?_, ?_, trivial⟩; refine wpS_op (i := 2) (li' := (lv 19 62415)) rfl rfl rfl rfl (by kernel_rfl) (OpA.load rfl ti22 rfl (.tail (.tail .head)) rfl rfl ?_); exact wpS_to hW (s30 c15) (Cov.asg ⟨rfl, rfl, rfl, rfl, rfl, rfl, rfl, rfl, rfl, trivial⟩) (.refl _); refine wpS_op (i := 10) (li' := (lv 19 63435)) rfl rfl rfl rfl (by kernel_rfl) (OpA.isliceV (enc := encText) rfl ts22 rfl (.some rfl) (.none _) q10_0 ?_); exact wpS_to hW (s31 c15) (Cov.asg ⟨rfl, rfl, rfl, rfl, rfl, rfl, rfl, rfl, trivial⟩) (.refl _))
  have s47 : W 8 (lv 19 22494) (asg [(4, .ptr c2 4 0 0), (5, D.i 0), (21, (encL 2 encText) (lsub c.texts 0 (c26drop_e0 path c))), (27, (encL 2 encText) (c26drop_e1 c path)), (29, .ptr c1 4 0 0), (31, .ptr c1 4 0 1)]) [(c2, .cells 4 [.agg ([D.i 0, D.i 0, .v (.slice none 0 0), .v (.slice none 0 0)])]), (c1, .cells 4 [encCorpus c])] := wpS_of hW (by refine wpS_step (rs := [0, 13, 15]) (by kernel_rfl) rfl ⟨?_, ?_, ?_, trivial⟩; refine wpS_op (i := 0) (li' := (lv 19 22495)) rfl rfl rfl rfl (by kernel_rfl) (OpA.buildSliceV (enc := encText) (xs := ([] : List Text)) rfl ts22 rfl .nil (by decide) rfl (fun c15 => ?_)); exact wpS_to hW (s24 c15) (Cov.asg ⟨rfl, rfl, rfl, rfl, rfl, rfl, rfl, trivial⟩) (.refl _); refine wpS_op (i := 13) (li' := (lv 19 30686)) rfl rfl rfl rfl (by kernel_rfl) (OpA.load rfl ti3 rfl (.tail .head) rfl rfl ?_); exact wpS_to hW (s32) (Cov.asg ⟨rfl, rfl, rfl, rfl, rfl, rfl, trivial⟩) (.refl _); refine wpS_op (i := 15) (li' := (lv 19 55262)) rfl rfl rfl rfl (by kernel_rfl) (OpA.load rfl ti3 rfl (.tail .head) rfl rfl ?_); exact wpS_to hW (s33) (Cov.asg ⟨rfl, rfl, rfl, rfl, rfl, rfl, trivial⟩) (.refl _))
  have s48 : W 8 (lv 19 29662) (asg [(4, .ptr c2 4 0 0), (5, D.i 0), (21, (encL 2 encText) (lsub c.texts 0 (c26drop_e0 path c))), (24, (encL 2 encText) c.texts), (26, D.i ((c26drop_e0 path c) + 1)), (30, D.i c.k), (31, .ptr c1 4 0 1)]) [(c2, .cells 4 [.agg ([D.i 0, D.i 0, .v (.slice none 0 0), .v (.slice none 0 0)])]), (c1, .cells 4 [encCorpus c])] := wpS_of hW (by refine wpS_step (rs := [0, 10, 15]) (by kernel_rfl) rfl ⟨?_, ?_, ?_, trivial⟩; refine wpS_op (i := 0) (li' := (lv 19 29663)) rfl rfl rfl rfl (by kernel_rfl) (OpA.buildSliceV (enc := encText) (xs := ([] : List Text)) rfl ts22 rfl .nil (by decide) rfl (fun c15 => ?_)); exact wpS_to hW (s25 c15) (Cov.asg ⟨rfl, rfl, rfl, rfl, rfl, rfl, rfl, rfl, trivial⟩) (.refl _); refine wpS_op (i := 10) (li' := (lv 19 30686)) rfl rfl rfl rfl (by kernel_rfl) (OpA.isliceV (enc := encText) rfl ts22 rfl (.some rfl) (.none _) q10_0 ?_); exact wpS_to hW (s32) (Cov.asg ⟨rfl, rfl, rfl, rfl, rfl, rfl, trivial⟩) (.refl _); refine wpS_op (i := 15) (li' := (lv 19 62430)) rfl rfl rfl rfl (by kernel_rfl) (OpA.load rfl ti3 rfl (.tail .head) rfl rfl ?_); exact wpS_to hW (s34) (Cov.asg ⟨rfl, rfl, rfl, rfl, rfl, rfl, rfl, trivial⟩) (.refl _))
  have s49 : W 8 (lv 19 54238) (asg [(4, .ptr c2 4 0 0), (5, D.i 0), (21, (encL 2 encText) (lsub c.texts 0 (c26drop_e0 path c))), (24, (encL 2 encText) c.texts), (26, D.i ((c26drop_e0 path c) + 1)), (29, .ptr c1 4 0 0), (32, D.i c.w)]) [(c2, .cells 4 [.agg ([D.i 0, D.i 0, .v (.slice none 0 0), .v (.slice none 0 0)])]), (c1, .cells 4 [encCorpus c])] := wpS_of hW (by refine wpS_step (rs := [0, 10, 13]) (by kernel_rfl) rfl ⟨?_, ?_, ?_, trivial⟩; refine wpS_op (i := 0) (li' := (lv 19 54239)) rfl rfl rfl rfl (by kernel_rfl) (OpA.buildSliceV (enc := encText) (xs := ([] : List Text)) rfl ts22 rfl .nil (by decide) rfl (fun c15 => ?_)); exact wpS_to hW (s26 c15) (Cov.asg ⟨rfl, rfl, rfl, rfl, rfl, rfl, rfl, rfl, trivial⟩) (.refl _); refine wpS_op (i := 10) (li' := (lv 19 55262)) rfl rfl rfl rfl (by kernel_rfl) (OpA.isliceV (enc := encText) rfl ts22 rfl (.some rfl) (.none _) q10_0 ?_); exact wpS_to hW (s33) (Cov.asg ⟨rfl, rfl, rfl, rfl, rfl, rfl, trivial⟩) (.refl _); refine wpS_op (i := 13) (li' := (lv 19 62430)) rfl rfl rfl rfl (by kernel_rfl) (OpA.load rfl ti3 rfl (.tail .head) rfl rfl ?_); exact wpS_to hW (s34) (Cov.asg ⟨rfl, rfl, rfl, rfl, rfl, rfl, rfl, trivial⟩) (.refl _))
  have s50 : W 8 (lv 19 62302) (asg [(4, .ptr c2 4 0 0), (5, D.i 0), (21, (encL 2 encText) (lsub c.texts 0 (c26drop_e0 path c))), (23, .ptr c1 4 0 2), (26, D.i ((c26drop_e0 path c) + 1)), (30, D.i c.k), (32, D.i c.w)]) [(c2, .cells 4 [.agg ([D.i 0, D.i 0, .v (.slice none 0 0), .v (.slice none 0 0)])]), (c1, .cells 4 [encCorpus c])] := wpS_of hW (by refine wpS_step (rs := [0, 7]) (by kernel_rfl) rfl ⟨?_, ?_, trivial⟩; refine wpS_op (i := 0) (li' := (lv 19 62303)) rfl rfl rfl rfl (by kernel_rfl) (OpA.buildSliceV (enc := encText) (xs := ([] : List Text)) rfl ts22 rfl .nil (by decide) rfl (fun c15 => ?_)); exact wpS_to hW (s27 c15) (Cov.asg ⟨rfl, rfl, rfl, rfl, rfl, rfl, rfl, rfl, trivial⟩) (.refl _); refine wpS_op (i := 7) (li' := (lv 19 62430)) rfl rfl rfl rfl (by kernel_rfl) (OpA.load rfl ti22 rfl (.tail .head) rfl rfl ?_); exact wpS_to hW (s34) (Cov.asg ⟨rfl, rfl, rfl, rfl, rfl, rfl, rfl, trivial⟩) (.refl _))
  have s51 : W 8 (lv 19 30670) (asg [(4, .ptr c2 4 0 0), (5, D.i 0), (19, (encL 2 encText) c.texts), (20, D.i (c26drop_e0 path c)), (27, (encL 2 encText) (c26drop_e1 c path)), (30, D.i c.k), (31, .ptr c1 4 0 1)]) [(c2, .cells 4 [.agg ([D.i 0, D.i 0, .v (.slice none 0 0), .v (.slice none 0 0)])]), (c1, .cells 4 [encCorpus c])] := wpS_of hW (by refine wpS_step (rs := [0, 4, 15]) (by kernel_rfl) rfl ⟨?_, ?_, ?_, trivial⟩; refine wpS_op (i := 0) (li' := (lv 19 30671)) rfl rfl rfl rfl (by kernel_rfl) (OpA.buildSliceV (enc := encText) (xs := ([] : List Text)) rfl ts22 rfl .nil (by decide) rfl (fun c15 => ?_)); exact wpS_to hW (s28 c15) (Cov.asg ⟨rfl, rfl, rfl, rfl, rfl, rfl, rfl, rfl, trivial⟩) (.refl _); refine wpS_op (i := 4) (li' := (lv 19 30686)) rfl rfl rfl rfl (by kernel_rfl) (OpA.isliceV (enc := encText) rfl ts22 rfl (.none _) (.some rfl) q4_0 ?_); exact wpS_to hW (s32) (Cov.asg ⟨rfl, rfl, rfl, rfl, rfl, rfl, trivial⟩) (.refl _); refine wpS_op (i := 15) (li' := (lv 19 63438)) rfl rfl rfl rfl (by kernel_rfl) (OpA.load rfl ti3 rfl (.tail .head) rfl rfl ?_); exact wpS_to hW (s35) (Cov.asg ⟨rfl, rfl, rfl, rfl, rfl, rfl, rfl, trivial⟩) (.refl _))
  have s52 : W 8 (lv 19 55246) (asg [(4, .ptr c2 4 0 0), (5, D.i 0), (19, (encL 2 encText) c.texts), (20, D.i (c26drop_e0 path c)), (27, (encL 2 encText) (c26drop_e1 c path)), (29, .ptr c1 4 0 0), (32, D.i c.w)]) [(c2, .cells 4 [.agg ([D.i 0, D.i 0, .v (.slice none 0 0), .v (.slice none 0 0)])]), (c1, .cells 4 [encCorpus c])] := wpS_of hW (by refine wpS_step (rs := [0, 4, 13]) (by kernel_rfl) rfl ⟨?_, ?_, ?_, trivial⟩; refine wpS_op (i := 0) (li' := (lv 19 55247)) rfl rfl rfl rfl (by kernel_rfl) (OpA.buildSliceV (enc := encText) (xs := ([] : List Text)) rfl ts22 rfl .nil (by decide) rfl (fun c15 => ?_)); exact wpS_to hW (s29 c15) (Cov.asg ⟨rfl, rfl, rfl, rfl, rfl, rfl, rfl, rfl, trivial⟩) (.refl _); refine wpS_op (i := 4) (li' := (lv 19 55262)) rfl rfl rfl rfl (by kernel_rfl) (OpA.isliceV (enc := encText) rfl ts22 rfl (.none _) (.some rfl) q4_0 ?_); exact wpS_to hW (s33) (Cov.asg ⟨rfl, rfl, rfl, rfl, rfl, rfl, trivial⟩) (.refl _); refine wpS_op (i := 13) (li' := (lv 19 63438)) rfl rfl rfl rfl (by kernel_rfl) (OpA.load rfl ti3 rfl (.tail .head) rfl rfl ?_); exact wpS_to hW (s35) (Cov.asg ⟨rfl, rfl, rfl, rfl, rfl, rfl, rfl, trivial⟩) (.refl _))
  have s53 : W 8 (lv 19 62414) (asg [(4, .ptr c2 4 0 0), (5, D.i 0), (19, (encL 2 encText) c.texts), (20, D.i (c26drop_e0 path c)), (24, (encL 2 encText) c.texts), (26, D.i ((c26drop_e0 path c) + 1)), (30, D.i c.k), (32, D.i c.w)]) [(c2, .cells 4 [.agg ([D.i 0, D.i 0, .v (.slice none 0 0), .v (.slice none 0 0)])]), (c1, .cells 4 [encCorpus c])] := wpS_of hW (by refine wpS_step (rs := [0, 4, 10]) (by kernel_rfl) rfl ⟨?_, ?_, ?_, trivial⟩; refine wpS_op (i := 0) (li' := (lv 19 62415)) rfl rfl rfl rfl (by kernel_rfl) (OpA.buildSliceV (enc := encText) (xs := ([] : List Text)) rfl ts22 rfl .nil (by decide) rfl (fun c15 => ?_)); exact wpS_to hW (s30 c15) (Cov.asg ⟨rfl, rfl, rfl, rfl, rfl, rfl, rfl, rfl, rfl, trivial⟩) (.refl _); refine wpS_op (i := 4) (li' := (lv 19 62430)) rfl rfl rfl rfl (by kernel_rfl) (OpA.isliceV (enc := encText) rfl ts22 rfl (.none _) (.some rfl) q4_0 ?_); exact wpS_to hW (s34) (Cov.asg ⟨rfl, rfl, rfl, rfl, rfl, rfl, rfl, trivial⟩) (.refl _); refine wpS_op (i := 10) (li' := (lv 19 63438)) rfl rfl rfl rfl (by kernel_rfl) (OpA.isliceV (enc := encText) rfl ts22 rfl (.some rfl) (.none _) q10_0 ?_); exact wpS_to hW (s35) (Cov.asg ⟨rfl, rfl, rfl, rfl, rfl, rfl, rfl, trivial⟩) (.refl _))
  have s54 : W 8 (lv 19 63434) (asg [(4, .ptr c2 4 0 0), (5, D.i 0), (18, .ptr c1 4 0 2), (20, D.i (c26drop_e0 path c)), (27, (encL 2 encText) (c26drop_e1 c path)), (30, D.i c.k), (32, D.i c.w)]) [(c2, .cells 4 [.agg ([D.i 0, D.i 0, .v (.slice none 0 0), .v (.slice none 0 0)])]), (c1, .cells 4 [encCorpus c])] := wpS_of hW (by refine wpS_step (rs := [0, 2]) (by kernel_rfl) rfl ⟨?_, ?_, trivial⟩; refine wpS_op (i := 0) (li' := (lv 19 63435)) rfl rfl rfl rfl (by kernel_rfl) (OpA.buildSliceV (enc := encText) (xs := ([] : List Text)) rfl ts22 rfl .nil (by decide) rfl (fun c15 => ?_)); exact wpS_to hW (s31 c15) (Cov.asg ⟨rfl, rfl, rfl, rfl, rfl, rfl, rfl, rfl, trivial⟩) (.refl _); refine wpS_op (i := 2) (li' := (lv 19 63438)) rfl rfl rfl rfl (by kernel_rfl) (OpA.load rfl ti22 rfl (.tail .head) rfl rfl ?_); exact wpS_to hW (s35) (Cov.asg ⟨rfl, rfl, rfl, rfl, rfl, rfl, rfl, trivial⟩) (.refl _))
  have s55 : ∀ (c15 : Nat), W 9 (lv 19 21343) (asg [(4, .ptr c2 4 0 0), (5, D.i 0), (17, .own c15 2 ([] : List D).length ([] : List Text).length), (21, (encL 2 encText) (lsub c.texts 0 (c26drop_e0 path c))), (23, .ptr c1 4 0 2), (26, D.i ((c26drop_e0 path c) + 1)), (29, .ptr c1 4 0 0), (31, .ptr c1 4 0 1)]) [(c15, .cells 2 (winL encText ([] : List D) ([] : List Text) ([] : List D))), (c2, .cells 4 [.agg ([D.i 0, D.i 0, .v (.slice none 0 0), .v (.slice none 0 0)])]), (c1, .cells 4 [encCorpus c])] := fun c15 => wpS_of hW (by refine wpS_step (rs := [5, 7, 13, 15]) (by kernel_rfl) rfl ⟨?_, ?_, ?_, ?_, trivial⟩; refine wpS_op (i := 5) (li' := (lv 19 21375)) rfl rfl rfl rfl (by kernel_rfl) (OpA.appendW (enc := encText) rfl rfl rfl rfl ts22 rfl (fun _ _ => .head) (.list (ys := (lsub c.texts 0 (c26drop_e0 path c)))) q5_0 (fun c65 pre66 => ?_)); exact wpS_to hW (s36 c15 c65 pre66) (Cov.asg ⟨rfl, rfl, rfl, rfl, rfl, rfl, rfl, trivial⟩) (.refl _); refine wpS_op (i := 7) (li' := (lv 19 21471)) rfl rfl rfl rfl (by kernel_rfl) (OpA.load rfl ti22 rfl (.tail (.tail .head)) rfl rfl ?_); exact wpS_to hW (s37 c15) (Cov.asg ⟨rfl, rfl, rfl, rfl, rfl, rfl, rfl, rfl, trivial⟩) (.refl _); refine wpS_op (i := 13) (li' := (lv 19 29535)) rfl rfl rfl rfl (by kernel_rfl) (OpA.load rfl ti3 rfl (.tail (.tail .head)) rfl rfl ?_); exact wpS_to hW (s38 c15) (Cov.asg ⟨rfl, rfl, rfl, rfl, rfl, rfl, rfl, rfl, trivial⟩) (.refl _); refine wpS_op (i := 15) (li' := (lv 19 54111)) rfl rfl rfl rfl (by kernel_rfl) (OpA.load rfl ti3 rfl (.tail (.tail .head)) rfl rfl ?_); exact wpS_to hW (s39 c15) (Cov.asg ⟨rfl, rfl, rfl, rfl, rfl, rfl, rfl, rfl, trivial⟩) (.refl _))
  have s56 : ∀ (c15 : Nat), W 9 (lv 19 21455) (asg [(4, .ptr c2 4 0 0), (5, D.i 0), (17, .own c15 2 ([] : List D).length ([] : List Text).length), (19, (encL 2 encText) c.texts), (20, D.i (c26drop_e0 path c)), (24, (encL 2 encText) c.texts), (26, D.i ((c26drop_e0 path c) + 1)), (29, .ptr c1 4 0 0), (31, .ptr c1 4 0 1)]) [(c15, .cells 2 (winL encText ([] : List D) ([] : List Text) ([] : List D))), (c2, .cells 4 [.agg ([D.i 0, D.i 0, .v (.slice none 0 0), .v (.slice none 0 0)])]), (c1, .cells 4 [encCorpus c])] := fun c15 => wpS_of hW (by refine wpS_step (rs := [4, 10, 13, 15]) (by kernel_rfl) rfl ⟨?_, ?_, ?_, ?_, trivial⟩; refine wpS_op (i := 4) (li' := (lv 19 21471)) rfl rfl rfl rfl (by kernel_rfl) (OpA.isliceV (enc := encText) rfl ts22 rfl (.none _) (.some rfl) q4_0 ?_); exact wpS_to hW (s37 c15) (Cov.asg ⟨rfl, rfl, rfl, rfl, rfl, rfl, rfl, rfl, trivial⟩) (.refl _); refine wpS_op (i := 10) (li' := (lv 19 22479)) rfl rfl rfl rfl (by kernel_rfl) (OpA.isliceV (enc := encText) rfl ts22 rfl (.some rfl) (.none _) q10_0 ?_); exact wpS_to hW (s40 c15) (Cov.asg ⟨rfl, rfl, rfl, rfl, rfl, rfl, rfl, rfl, trivial⟩) (.refl _); refine wpS_op (i := 13) (li' := (lv 19 29647)) rfl rfl rfl rfl (by kernel_rfl) (OpA.load rfl ti3 rfl (.tail (.tail .head)) rfl rfl ?_); exact wpS_to hW (s41 c15) (Cov.asg ⟨rfl, rfl, rfl, rfl, rfl, rfl, rfl, rfl, rfl, trivial⟩) (.refl _); refine wpS_op (i := 15) (li' := (lv 19 54223)) rfl rfl rfl rfl (by kernel_rfl) (OpA.load rfl ti3 rfl (.tail (.tail .head)) rfl rfl ?_); exact wpS_to hW (s42 c15) (Cov.asg ⟨rfl, rfl, rfl, rfl, rfl, rfl, rfl, rfl, rfl, trivial⟩) (.refl _))
  have s57 : ∀ (c15 : Nat), W 9 (lv 19 29519) (asg [(4, .ptr c2 4 0 0), (5, D.i 0), (17, .own c15 2 ([] : List D).length ([] : List Text).length), (19, (encL 2 encText) c.texts), (20, D.i (c26drop_e0 path c)), (23, .ptr c1 4 0 2), (26, D.i ((c26drop_e0 path c) + 1)), (30, D.i c.k), (31, .ptr c1 4 0 1)]) [(c15, .cells 2 (winL encText ([] : List D) ([] : List Text) ([] : List D))), (c2, .cells 4 [.agg ([D.i 0, D.i 0, .v (.slice none 0 0), .v (.slice none 0 0)])]), (c1, .cells 4 [encCorpus c])] := fun c15 => wpS_of hW (by refine wpS_step (rs := [4, 7, 15]) (by kernel_rfl) rfl ⟨?_, ?_, ?_, trivial⟩; refine wpS_op (i := 4) (li' := (lv 19 29535)) rfl rfl rfl rfl (by kernel_rfl) (OpA.isliceV (enc := encText) rfl ts22 rfl (.none _) (.some rfl) q4_0 ?_); exact wpS_to hW (s38 c15) (Cov.asg ⟨rfl, rfl, rfl, rfl, rfl, rfl, rfl, rfl, trivial⟩) (.refl _); refine wpS_op (i := 7) (li' := (lv 19 29647)) rfl rfl rfl rfl (by kernel_rfl) (OpA.load rfl ti22 rfl (.tail (.tail .head)) rfl rfl ?_); exact wpS_to hW (s41 c15) (Cov.asg ⟨rfl, rfl, rfl, rfl, rfl, rfl, rfl, rfl, rfl, trivial⟩) (.refl _); refine wpS_op (i := 15) (li' := (lv 19 62287)) rfl rfl rfl rfl (by kernel_rfl) (OpA.load rfl ti3 rfl (.tail (.tail .head)) rfl rfl ?_); exact wpS_to hW (s43 c15) (Cov.asg ⟨rfl, rfl, rfl, rfl, rfl, rfl, rfl, rfl, rfl, trivial⟩) (.refl _))
  have s58 : ∀ (c15 : Nat), W 9 (lv 19 54095) (asg [(4, .ptr c2 4 0 0), (5, D.i 0), (17, .own c15 2 ([] : List D).length ([] : List Text).length), (19, (encL 2 encText) c.texts), (20, D.i (c26drop_e0 path c)), (23, .ptr c1 4 0 2), (26, D.i ((c26drop_e0 path c) + 1)), (29, .ptr c1 4 0 0), (32, D.i c.w)]) [(c15, .cells 2 (winL encText ([] : List D) ([] : List Text) ([] : List D))), (c2, .cells 4 [.agg ([D.i 0, D.i 0, .v (.slice none 0 0), .v (.slice none 0 0)])]), (c1, .cells 4 [encCorpus c])] := fun c15 => wpS_of hW (by refine wpS_step (rs := [4, 7, 13]) (by kernel_rfl) rfl ⟨?_, ?_, ?_, trivial⟩; refine wpS_op (i := 4) (li' := (lv 19 54111)) rfl rfl rfl rfl (by kernel_rfl) (OpA.isliceV (enc := encText) rfl ts22 rfl (.none _) (.some rfl) q4_0 ?_); exact wpS_to hW (s39 c15) (Cov.asg ⟨rfl, rfl, rfl, rfl, rfl, rfl, rfl, rfl, trivial⟩) (.refl _); refine wpS_op (i := 7) (li' := (lv 19 54223)) rfl rfl rfl rfl (by kernel_rfl) (OpA.load rfl ti22 rfl (.tail (.tail .head)) rfl rfl ?_); exact wpS_to hW (s42 c15) (Cov.asg ⟨rfl, rfl, rfl, rfl, rfl, rfl, rfl, rfl, rfl, trivial⟩) (.refl _); refine wpS_op (i := 13) (li' := (lv 19 62287)) rfl rfl rfl rfl (by kernel_rfl) (OpA.load rfl ti3 rfl (.tail (.tail .head)) rfl rfl ?_); exact wpS_to hW (s43 c15) (Cov.asg ⟨rfl, rfl, rfl, rfl, rfl, rfl, rfl, rfl, rfl, trivial⟩) (.refl _))
  have s59 : ∀ (c15 : Nat), W 9 (lv 19 22475) (asg [(4, .ptr c2 4 0 0), (5, D.i 0), (17, .own c15 2 ([] : List D).length ([] : List Text).length), (18, .ptr c1 4 0 2), (20, D.i (c26drop_e0 path c)), (27, (encL 2 encText) (c26drop_e1 c path)), (29, .ptr c1 4 0 0), (31, .ptr c1 4 0 1)]) [(c15, .cells 2 (winL encText ([] : List D) ([] : List Text) ([] : List D))), (c2, .cells 4 [.agg ([D.i 0, D.i 0, .v (.slice none 0 0), .v (.slice none 0 0)])]), (c1, .cells 4 [encCorpus c])] := fun c15 => wpS_of hW (by refine wpS_step (rs := [2, 13, 15]) (by kernel_rfl) rfl ⟨?_, ?_, ?_, trivial⟩; refine wpS_op (i := 2) (li' := (lv 19 22479)) rfl rfl rfl rfl (by kernel_rfl) (OpA.load rfl ti22 rfl (.tail (.tail .head)) rfl rfl ?_); exact wpS_to hW (s40 c15) (Cov.asg ⟨rfl, rfl, rfl, rfl, rfl, rfl, rfl, rfl, trivial⟩) (.refl _); refine wpS_op (i := 13) (li' := (lv 19 30667)) rfl rfl rfl rfl (by kernel_rfl) (OpA.load rfl ti3 rfl (.tail (.tail .head)) rfl rfl ?_); exact wpS_to hW (s44 c15) (Cov.asg ⟨rfl, rfl, rfl, rfl, rfl, rfl, rfl, rfl, trivial⟩) (.refl _); refine wpS_op (i := 15) (li' := (lv 19 55243)) rfl rfl rfl rfl (by kernel_rfl) (OpA.load rfl ti3 rfl (.tail (.tail .head)) rfl rfl ?_); exact wpS_to hW (s45 c15) (Cov.asg ⟨rfl, rfl, rfl, rfl, rfl, rfl, rfl, rfl, trivial⟩) (.refl _))
  have s60 : ∀ (c15 : Nat), W 9 (lv 19 29643) (asg [(4, .ptr c2 4 0 0), (5, D.i 0), (17, .own c15 2 ([] : List D).length ([] : List Text).length), (18, .ptr c1 4 0 2), (20, D.i (c26drop_e0 path c)), (24, (encL 2 encText) c.texts), (26, D.i ((c26drop_e0 path c) + 1)), (30, D.i c.k), (31, .ptr c1 4 0 1)]) [(c15, .cells 2 (winL encText ([] : List D) ([] : List Text) ([] : List D))), (c2, .cells 4 [.agg ([D.i 0, D.i 0, .v (.slice none 0 0), .v (.slice none 0 0)])]), (c1, .cells 4 [encCorpus c])] := fun c15 => wpS_of hW (by refine wpS_step (rs := [2, 10, 15]) (by kernel_rfl) rfl ⟨?_, ?_, ?_, trivial⟩; refine wpS_op (i := 2) (li' := (lv 19 29647)) rfl rfl rfl rfl (by kernel_rfl) (OpA.load rfl ti22 rfl (.tail (.tail .head)) rfl rfl ?_); exact wpS_to hW (s41 c15) (Cov.asg ⟨rfl, rfl, rfl, rfl, rfl, rfl, rfl, rfl, rfl, trivial⟩) (.refl _); refine wpS_op (i := 10) (li' := (lv 19 30667)) rfl rfl rfl rfl (by kernel_rfl) (OpA.isliceV (enc := encText) rfl ts22 rfl (.some rfl) (.none _) q10_0 ?_); exact wpS_to hW (s44 c15) (Cov.asg ⟨rfl, rfl, rfl, rfl, rfl, rfl, rfl, rfl, trivial⟩) (.refl _); refine wpS_op (i := 15) (li' := (lv 19 62411)) rfl rfl rfl rfl (by kernel_rfl) (OpA.load rfl ti3 rfl (.tail (.tail .head)) rfl rfl ?_); exact wpS_to hW (s46 c15) (Cov.asg ⟨rfl, rfl, rfl, rfl, rfl, rfl, rfl, rfl, rfl, trivial⟩) (.refl _))
  have s61 : ∀ (c15 : Nat), W 9 (lv 19 54219) (asg [(4, .ptr c2 4 0 0), (5, D.i 0), (17, .own c15 2 ([] : List D).length ([] : List Text).length), (18, .ptr c1 4 0 2), (20, D.i (c26drop_e0 path c)), (24, (encL 2 encText) c.texts), (26, D.i ((c26drop_e0 path c) + 1)), (29, .ptr c1 4 0 0), (32, D.i c.w)]) [(c15, .cells 2 (winL encText ([] : List D) ([] : List Text) ([] : List D))), (c2, .cells 4 [.agg ([D.i 0, D.i 0, .v (.slice none 0 0), .v (.slice none 0 0)])]), (c1, .cells 4 [encCorpus c])] := fun c15 => wpS_of hW (by refine wpS_step (rs := [2, 10, 13]) (by kernel_rfl) rfl ⟨?_, ?_, ?_, trivial⟩; refine wpS_op (i := 2) (li' := (lv 19 54223)) rfl rfl rfl rfl (by kernel_rfl) (OpA.load rfl ti22 rfl (.tail (.tail .head)) rfl rfl ?_); exact wpS_to hW (s42 c15) (Cov.asg ⟨rfl, rfl, rfl, rfl, rfl, rfl, rfl, rfl, rfl, trivial⟩) (.refl _); refine wpS_op (i := 10) (li' := (lv 19 55243)) rfl rfl rfl rfl (by kernel_rfl) (OpA.isliceV (enc := encText) rfl ts22 rfl (.some rfl) (.none _) q10_0 ?_); exact wpS_to hW (s45 c15) (Cov.asg ⟨rfl, rfl, rfl, rfl, rfl, rfl, rfl, rfl, trivial⟩) (.refl _); refine wpS_op (i := 13) (li' := (lv 19 62411)) rfl rfl rfl rfl (by kernel_rfl) (OpA.load rfl ti3 rfl (.tail (.tail .head)) rfl rfl ?_); exact wpS_to hW (s46 c15) (Cov.asg ⟨rfl, rfl, rfl, rfl, rfl, rfl, rfl, rfl, rfl, trivial⟩) (.refl _))
  have s62 : ∀ (c15 : Nat), W 9 (lv 19 62283) (asg [(4, .ptr c2 4 0 0), (5, D.i 0), (17, .own c15 2 ([] : List D).length ([] : List Text).length), (18, .ptr c1 4 0 2), (20, D.i (c26drop_e0 path c)), (23, .ptr c1 4 0 2), (26, D.i ((c26drop_e0 path c) + 1)), (30, D.i c.k), (32, D.i c.w)]) [(c15, .cells 2 (winL encText ([] : List D) ([] : List Text) ([] : List D))), (c2, .cells 4 [.agg ([D.i 0, D.i 0, .v (.slice none 0 0), .v (.slice none 0 0)])]), (c1, .cells 4 [encCorpus c])] := fun c15 => wpS_of hW (by refine wpS_step (rs := [2, 7]) (by kernel_rfl) rfl ⟨?_, ?_, trivial⟩; refine wpS_op (i := 2) (li' := (lv 19 62287)) rfl rfl rfl rfl (by kernel_rfl) (OpA.load rfl ti22 rfl (.tail (.tail .head)) rfl rfl ?_); exact wpS_to hW (s43 c15) (Cov.asg ⟨rfl, rfl, rfl, rfl, rfl, rfl, rfl, rfl, rfl, trivial⟩) (.refl _); refine wpS_op (i := 7) (li' := (lv 19 62411)) rfl rfl rfl rfl (by kernel_rfl) (OpA.load rfl ti22 rfl (.tail (.tail .head)) rfl rfl ?_); exact wpS_to hW (s46 c15) (Cov.asg ⟨rfl, rfl, rfl, rfl, rfl, rfl, rfl, rfl, rfl, trivial⟩) (.refl _))
  have s63 : W 9 (lv 19 21470) (asg [(4, .ptr c2 4 0 0), (5, D.i 0), (21, (encL 2 encText) (lsub c.texts 0 (c26drop_e0 path c))), (24, (encL 2 encText) c.texts), (26, D.i ((c26drop_e0 path c) + 1)), (29, .ptr c1 4 0 0), (31, .ptr c1 4 0 1)]) [(c2, .cells 4 [.agg ([D.i 0, D.i 0, .v (.slice none 0 0), .v (.slice none 0 0)])]), (c1, .cells 4 [encCorpus c])] := wpS_of hW (by refine wpS_step (rs := [0, 10, 13, 15]) (by kernel_rfl) rfl ⟨?_, ?_, ?_, ?_, trivial⟩; refine wpS_op (i := 0) (li' := (lv 19 21471)) rfl rfl rfl rfl (by kernel_rfl) (OpA.buildSliceV (enc := encText) (xs := ([] : List Text)) rfl ts22 rfl .nil (by decide) rfl (fun c15 => ?_)); exact wpS_to hW (s37 c15) (Cov.asg ⟨rfl, rfl, rfl, rfl, rfl, rfl, rfl, rfl, trivial⟩) (.refl _); refine wpS_op (i := 10) (li' := (lv 19 22494)) rfl rfl rfl rfl (by kernel_rfl) (OpA.isliceV (enc := encText) rfl ts22 rfl (.some rfl) (.none _) q10_0 ?_); exact wpS_to hW (s47) (Cov.asg ⟨rfl, rfl, rfl, rfl, rfl, rfl, trivial⟩) (.refl _); refine wpS_op (i := 13) (li' := (lv 19 29662)) rfl rfl rfl rfl (by kernel_rfl) (OpA.load rfl ti3 rfl (.tail .head) rfl rfl ?_); exact wpS_to hW (s48) (Cov.asg ⟨rfl, rfl, rfl, rfl, rfl, rfl, rfl, trivial⟩) (.refl _); refine wpS_op (i := 15) (li' := (lv 19 54238)) rfl rfl rfl rfl (by kernel_rfl) (OpA.load rfl ti3 rfl (.tail .head) rfl rfl ?_); exact wpS_to hW (s49) (Cov.asg ⟨rfl, rfl, rfl, rfl, rfl, rfl, rfl, trivial⟩) (.refl _))
  have s64 : W 9 (lv 19 29534) (asg [(4, .ptr c2 4 0 0), (5, D.i 0), (21, (encL 2 encText) (lsub c.texts 0 (c26drop_e0 path c))), (23, .ptr c1 4 0 2), (26, D.i ((c26drop_e0 path c) + 1)), (30, D.i c.k), (31, .ptr c1 4 0 1)]) [(c2, .cells 4 [.agg ([D.i 0, D.i 0, .v (.slice none 0 0), .v (.slice none 0 0)])]), (c1, .cells 4 [encCorpus c])] := wpS_of hW (by refine wpS_step (rs := [0, 7, 15]) (by kernel_rfl) rfl ⟨?_, ?_, ?_, trivial⟩; refine wpS_op (i := 0) (li' := (lv 19 29535)) rfl rfl rfl rfl (by kernel_rfl) (OpA.buildSliceV (enc := encText) (xs := ([] : List Text)) rfl ts22 rfl .nil (by decide) rfl (fun c15 => ?_)); exact wpS_to hW (s38 c15) (Cov.asg ⟨rfl, rfl, rfl, rfl, rfl, rfl, rfl, rfl, trivial⟩) (.refl _); refine wpS_op (i := 7) (li' := (lv 19 29662)) rfl rfl rfl rfl (by kernel_rfl) (OpA.load rfl ti22 rfl (.tail .head) rfl rfl ?_); exact wpS_to hW (s48) (Cov.asg ⟨rfl, rfl, rfl, rfl, rfl, rfl, rfl, trivial⟩) (.refl _); refine wpS_op (i := 15) (li' := (lv 19 62302)) rfl rfl rfl rfl (by kernel_rfl) (OpA.load rfl ti3 rfl (.tail .head) rfl rfl ?_); exact wpS_to hW (s50) (Cov.asg ⟨rfl, rfl, rfl, rfl, rfl, rfl, rfl, trivial⟩) (.refl _))
  have s65 : W 9 (lv 19 54110) (asg [(4, .ptr c2 4 0 0), (5, D.i 0), (21, (encL 2 encText) (lsub c.texts 0 (c26drop_e0 path c))), (23, .ptr c1 4 0 2), (26, D.i ((c26drop_e0 path c) + 1)), (29, .ptr c1 4 0 0), (32, D.i c.w)]) [(c2, .cells 4 [.agg ([D.i 0, D.i 0, .v (.slice none 0 0), .v (.slice none 0 0)])]), (c1, .cells 4 [encCorpus c])] := wpS_of hW (by refine wpS_step (rs := [0, 7, 13]) (by kernel_rfl) rfl ⟨?_, ?_, ?_, trivial⟩; refine wpS_op (i := 0) (li' := (lv 19 54111)) rfl rfl rfl rfl (by kernel_rfl) (OpA.buildSliceV (enc := encText) (xs := ([] : List Text)) rfl ts22 rfl .nil (by decide) rfl (fun c15 => ?_)); exact wpS_to hW (s39 c15) (Cov.asg ⟨rfl, rfl, rfl, rfl, rfl, rfl, rfl, rfl, trivial⟩) (.refl _); refine wpS_op (i := 7) (li' := (lv 19 54238)) rfl rfl rfl rfl (by kernel_rfl) (OpA.load rfl ti22 rfl (.tail .head) rfl rfl ?_); exact wpS_to hW (s49) (Cov.asg ⟨rfl, rfl, rfl, rfl, rfl, rfl, rfl, trivial⟩) (.refl _); refine wpS_op (i := 13) (li' := (lv 19 62302)) rfl rfl rfl rfl (by kernel_rfl) (OpA.load rfl ti3 rfl (.tail .head) rfl rfl ?_); exact wpS_to hW (s50) (Cov.asg ⟨rfl, rfl, rfl, rfl, rfl, rfl, rfl, trivial⟩) (.refl _))
  have s66 : W 9 (lv 19 22478) (asg [(4, .ptr c2 4 0 0), (5, D.i 0), (19, (encL 2 encText) c.texts), (20, D.i (c26drop_e0 path c)), (27, (encL 2 encText) (c26drop_e1 c path)), (29, .ptr c1 4 0 0), (31, .ptr c1 4 0 1)]) [(c2, .cells 4 [.agg ([D.i 0, D.i 0, .v (.slice none 0 0), .v (.slice none 0 0)])]), (c1, .cells 4 [encCorpus c])] := wpS_of hW (by refine wpS_step (rs := [0, 4, 13, 15]) (by kernel_rfl) rfl ⟨?_, ?_, ?_, ?_, trivial⟩; refine wpS_op (i := 0) (li' := (lv 19 22479)) rfl rfl rfl rfl (by kernel_rfl) (OpA.buildSliceV (enc := encText) (xs := ([] : List Text)) rfl ts22 rfl .nil (by decide) rfl (fun c15 => ?_)); exact wpS_to hW (s40 c15) (Cov.asg ⟨rfl, rfl, rfl, rfl, rfl, rfl, rfl, rfl, trivial⟩) (.refl _); refine wpS_op (i := 4) (li' := (lv 19 22494)) rfl rfl rfl rfl (by kernel_rfl) (OpA.isliceV (enc := encText) rfl ts22 rfl (.none _) (.some rfl) q4_0 ?_); exact wpS_to hW (s47) (Cov.asg ⟨rfl, rfl, rfl, rfl, rfl, rfl, trivial⟩) (.refl _); refine wpS_op (i := 13) (li' := (lv 19 30670)) rfl rfl rfl rfl (by kernel_rfl) (OpA.load rfl ti3 rfl (.tail .head) rfl rfl ?_); exact wpS_to hW (s51) (Cov.asg ⟨rfl, rfl, rfl, rfl, rfl, rfl, rfl, trivial⟩) (.refl _); refine wpS_op (i := 15) (li' := (lv 19 55246)) rfl rfl rfl rfl (by kernel_rfl) (OpA.load rfl ti3 rfl (.tail .head) rfl rfl ?_); exact wpS_to hW (s52) (Cov.asg ⟨rfl, rfl, rfl, rfl, rfl, rfl, rfl, trivial⟩) (.refl _))
  have s67 : W 9 (lv 19 29646) (asg [(4, .ptr c2 4 0 0), (5, D.i 0), (19, (encL 2 encText) c.texts), (20, D.i (c26drop_e0 path c)), (24, (encL 2 encText) c.texts), (26, D.i ((c26drop_e0 path c) + 1)), (30, D.i c.k), (31, .ptr c1 4 0 1)]) [(c2, .cells 4 [.agg ([D.i 0, D.i 0, .v (.slice none 0 0), .v (.slice none 0 0)])]), (c1, .cells 4 [encCorpus c])] := wpS_of hW (by refine wpS_step (rs := [0, 4, 10, 15]) (by kernel_rfl) rfl ⟨?_, ?_, ?_, ?_, trivial⟩; refine wpS_op (i := 0) (li' := (lv 19 29647)) rfl rfl rfl rfl (by kernel_rfl) (OpA.buildSliceV (enc := encText) (xs := ([] : List Text)) rfl ts22 rfl .nil (by decide) rfl (fun c15 => ?_)); exact wpS_to hW (s41 c15) (Cov.asg ⟨rfl, rfl, rfl, rfl, rfl, rfl, rfl, rfl, rfl, trivial⟩) (.refl _); refine wpS_op (i := 4) (li' := (lv 19 29662)) rfl rfl rfl rfl (by kernel_rfl) (OpA.isliceV (enc := encText) rfl ts22 rfl (.none _) (.some rfl) q4_0 ?_); exact wpS_to hW (s48) (Cov.asg ⟨rfl, rfl, rfl, rfl, rfl, rfl, rfl, trivial⟩) (.refl _); refine wpS_op (i := 10) (li' := (lv 19 30670)) rfl rfl rfl rfl (by kernel_rfl) (OpA.isliceV (enc := encText) rfl ts22 rfl (.some rfl) (.none _) q10_0 ?_); exact wpS_to hW (s51) (Cov.asg ⟨rfl, rfl, rfl, rfl, rfl, rfl, rfl, trivial⟩) (.refl _); refine wpS_op (i := 15) (li' := (lv 19 62414)) rfl rfl rfl rfl (by kernel_rfl) (OpA.load rfl ti3 rfl (.tail .head) rfl rfl ?_); exact wpS_to hW (s53) (Cov.asg ⟨rfl, rfl, rfl, rfl, rfl, rfl, rfl, rfl, trivial⟩) (.refl _))
  have s68 : W 9 (lv 19 54222) (asg [(4, .ptr c2 4 0 0), (5, D.i 0), (19, (encL 2 encText) c.texts), (20, D.i (c26drop_e0 path c)), (24, (encL 2 encText) c.texts), (26, D.i ((c26drop_e0 path c) + 1)), (29, .ptr c1 4 0 0), (32, D.i c.w)]) [(c2, .cells 4 [.agg ([D.i 0, D.i 0, .v (.slice none 0 0), .v (.slice none 0 0)])]), (c1, .cells 4 [encCorpus c])] := wpS_of hW (by refine wpS_step (rs := [0, 4, 10, 13]) (by kernel_rfl) rfl ⟨?_, ?_, ?_, ?_, trivial⟩; refine wpS_op (i := 0) (li' := (lv 19 54223)) rfl rfl rfl rfl (by kernel_rfl) (OpA.buildSliceV (enc := encText) (xs := ([] : List Text)) rfl ts22 rfl .nil (by decide) rfl (fun c15 => ?_)); exact wpS_to hW (s42 c15) (Cov.asg ⟨rfl, rfl, rfl, rfl, rfl, rfl, rfl, rfl, rfl, trivial⟩) (.refl _); refine wpS_op (i := 4) (li' := (lv 19 54238)) rfl rfl rfl rfl (by kernel_rfl) (OpA.isliceV (enc := encText) rfl ts22 rfl (.none _) (.some rfl) q4_0 ?_); exact wpS_to hW (s49) (Cov.asg ⟨rfl, rfl, rfl, rfl, rfl, rfl, rfl, trivial⟩) (.refl _); refine wpS_op (i := 10) (li' := (lv 19 55246)) rfl rfl rfl rfl (by kernel_rfl) (OpA.isliceV (enc := encText) rfl ts22 rfl (.some rfl) (.none _) q10_0 ?_); exact wpS_to hW (s52) (Cov.asg ⟨rfl, rfl, rfl, rfl, rfl, rfl, rfl, trivial⟩) (.refl _); refine wpS_op (i := 13) (li' := (lv 19 62414)) rfl rfl rfl rfl (by kernel_rfl) (OpA.load rfl ti3 rfl (.tail .head) rfl rfl ?_); exact wpS_to hW (s53) (Cov.asg ⟨rfl, rfl, rfl, rfl, rfl, rfl, rfl, rfl, trivial⟩) (.refl _))
  have s69 : W 9 (lv 19 62286) (asg [(4, .ptr c2 4 0 0), (5, D.i 0), (19, (encL 2 encText) c.texts), (20, D.i (c26drop_e0 path c)), (23, .ptr c1 4 0 2), (26, D.i ((c26drop_e0 path c) + 1)), (30, D.i c.k), (32, D.i c.w)]) [(c2, .cells 4 [.agg ([D.i 0, D.i 0, .v (.slice none 0 0), .v (.slice none 0 0)])]), (c1, .cells 4 [encCorpus c])] := wpS_of hW (by refine wpS_step (rs := [0, 4, 7]) (by kernel_rfl) rfl ⟨?_, ?_, ?_, trivial⟩; refine wpS_op (i := 0) (li' := (lv 19 62287)) rfl rfl rfl rfl (by kernel_rfl) (OpA.buildSliceV (enc := encText) (xs := ([] : List Text)) rfl ts22 rfl .nil (by decide) rfl (fun c15 => ?_)); exact wpS_to hW (s43 c15) (Cov.asg ⟨rfl, rfl, rfl, rfl, rfl, rfl, rfl, rfl, rfl, trivial⟩) (.refl _); refine wpS_op (i := 4) (li' := (lv 19 62302)) rfl rfl rfl rfl (by kernel_rfl) (OpA.isliceV (enc := encText) rfl ts22 rfl (.none _) (.some rfl) q4_0 ?_); exact wpS_to hW (s50) (Cov.asg ⟨rfl, rfl, rfl, rfl, rfl, rfl, rfl, trivial⟩) (.refl _); refine wpS_op (i := 7) (li' := (lv 19 62414)) rfl rfl rfl rfl (by kernel_rfl) (OpA.load rfl ti22 rfl (.tail .head) rfl rfl ?_); exact wpS_to hW (s53) (Cov.asg ⟨rfl, rfl, rfl, rfl, rfl, rfl, rfl, rfl, trivial⟩) (.refl _))
  have s70 : W 9 (lv 19 30666) (asg [(4, .ptr c2 4 0 0), (5, D.i 0), (18, .ptr c1 4 0 2), (20, D.i (c26drop_e0 path c)), (27, (encL 2 encText) (c26drop_e1 c path)), (30, D.i c.k), (31, .ptr c1 4 0 1)]) [(c2, .cells 4 [.agg ([D.i 0, D.i 0, .v (.slice none 0 0), .v (.slice none 0 0)])]), (c1, .cells 4 [encCorpus c])] := wpS_of hW (by refine wpS_step (rs := [0, 2, 15]) (by kernel_rfl) rfl ⟨?_, ?_, ?_, trivial⟩; refine wpS_op (i := 0) (li' := (lv 19 30667)) rfl rfl rfl rfl (by kernel_rfl) (OpA.buildSliceV (enc := encText) (xs := ([] : List Text)) rfl ts22 rfl .nil (by decide) rfl (fun c15 => ?_)); exact wpS_to hW (s44 c15) (Cov.asg ⟨rfl, rfl, rfl, rfl, rfl, rfl, rfl, rfl, trivial⟩) (.refl _); refine wpS_op (i := 2) (li' := (lv 19 30670)) rfl rfl rfl rfl (by kernel_rfl) (OpA.load rfl ti22 rfl (.tail .head) rfl rfl ?_); exact wpS_to hW (s51) (Cov.asg ⟨rfl, rfl, rfl, rfl, rfl, rfl, rfl, trivial⟩) (.refl _); refine wpS_op (i := 15) (li' := (lv 19 63434)) rfl rfl rfl rfl (by kernel_rfl) (OpA.load rfl ti3 rfl (.tail .head) rfl rfl ?_); exact wpS_to hW (s54) (Cov.asg ⟨rfl, rfl, rfl, rfl, rfl, rfl, rfl, trivial⟩) (.refl _))
  have s71 : W 9 (lv 19 55242) (asg [(4, .ptr c2 4 0 0), (5, D.i 0), (18, .ptr c1 4 0 2), (20, D.i (c26drop_e0 path c)), (27, (encL 2 encText) (c26drop_e1 c path)), (29, .ptr c1 4 0 0), (32, D.i c.w)]) [(c2, .cells 4 [.agg ([D.i 0, D.i 0, .v (.slice none 0 0), .v (.slice none 0 0)])]), (c1, .cells 4 [encCorpus c])] := wpS_of hW (by refine wpS_step (rs := [0, 2, 13]) (by kernel_rfl) rfl ⟨?_, ?_, ?_, trivial⟩; refine wpS_op (i := 0) (li' := (lv 19 55243)) rfl rfl rfl rfl (by kernel_rfl) (OpA.buildSliceV (enc := encText) (xs := ([] : List Text)) rfl ts22 rfl .nil (by decide) rfl (fun c15 => ?_)); exact wpS_to hW (s45 c15) (Cov.asg ⟨rfl, rfl, rfl, rfl, rfl, rfl, rfl, rfl, trivial⟩) (.refl _); refine wpS_op (i := 2) (li' := (lv 19 55246)) rfl rfl rfl rfl (by kernel_rfl) (OpA.load rfl ti22 rfl (.tail .head) rfl rfl ?_); exact wpS_to hW (s52) (Cov.asg ⟨rfl, rfl, rfl, rfl, rfl, rfl, rfl, trivial⟩) (.refl _); refine wpS_op (i := 13) (li' := (lv 19 63434)) rfl rfl rfl rfl (by kernel_rfl) (OpA.load rfl ti3 rfl (.tail .head) rfl rfl ?_); exact wpS_to hW (s54) (Cov.asg ⟨rfl, rfl, rfl, rfl, rfl, rfl, rfl, trivial⟩) (.refl _))
  have s72 : W 9 (lv 19 62410) (asg [(4, .ptr c2 4 0 0), (5, D.i 0), (18, .ptr c1 4 0 2), (20, D.i (c26drop_e0 path c)), (24, (encL 2 encText) c.texts), (26, D.i ((c26drop_e0 path c) + 1)), (30, D.i c.k), (32, D.i c.w)]) [(c2, .cells 4 [.agg ([D.i 0, D.i 0, .v (.slice none 0 0), .v (.slice none 0 0)])]), (c1, .cells 4 [encCorpus c])] := wpS_of hW (by refine wpS_step (rs := [0, 2, 10]) (by kernel_rfl) rfl ⟨?_, ?_, ?_, trivial⟩; refine wpS_op (i := 0) (li' := (lv 19 62411)) rfl rfl rfl rfl (by kernel_rfl) (OpA.buildSliceV (enc := encText) (xs := ([] : List Text)) rfl ts22 rfl .nil (by decide) rfl (fun c15 => ?_)); exact wpS_to hW (s46 c15) (Cov.asg ⟨rfl, rfl, rfl, rfl, rfl, rfl, rfl, rfl, rfl, trivial⟩) (.refl _); refine wpS_op (i := 2) (li' := (lv 19 62414)) rfl rfl rfl rfl (by kernel_rfl) (OpA.load rfl ti22 rfl (.tail .head) rfl rfl ?_); exact wpS_to hW (s53) (Cov.asg ⟨rfl, rfl, rfl, rfl, rfl, rfl, rfl, rfl, trivial⟩) (.refl _); refine wpS_op (i := 10) (li' := (lv 19 63434)) rfl rfl rfl rfl (by kernel_rfl) (OpA.isliceV (enc := encText) rfl ts22 rfl (.some rfl) (.none _) q10_0 ?_); exact wpS_to hW (s54) (Cov.asg ⟨rfl, rfl, rfl, rfl, rfl, rfl, rfl, trivial⟩) (.refl _))
  have s73 : ∀ (c15 : Nat), W 10 (lv 19 21327) (asg [(4, .ptr c2 4 0 0), (5, D.i 0), (17, .own c15 2 ([] : List D).length ([] : List Text).length), (19, (encL 2 encText) c.texts), (20, D.i (c26drop_e0 path c)), (23, .ptr c1 4 0 2), (26, D.i ((c26drop_e0 path c) + 1)), (29, .ptr c1 4 0 0), (31, .ptr c1 4 0 1)]) [(c15, .cells 2 (winL encText ([] : List D) ([] : List Text) ([] : List D))), (c2, .cells 4 [.agg ([D.i 0, D.i 0, .v (.slice none 0 0), .v (.slice none 0 0)])]), (c1, .cells 4 [encCorpus c])] := fun c15 => wpS_of hW (by refine wpS_step (rs := [4, 7, 13, 15]) (by kernel_rfl) rfl ⟨?_, ?_, ?_, ?_, trivial⟩; refine wpS_op (i := 4) (li' := (lv 19 21343)) rfl rfl rfl rfl (by kernel_rfl) (OpA.isliceV (enc := encText) rfl ts22 rfl (.none _) (.some rfl) q4_0 ?_); exact wpS_to hW (s55 c15) (Cov.asg ⟨rfl, rfl, rfl, rfl, rfl, rfl, rfl, rfl, trivial⟩) (.refl _); refine wpS_op (i := 7) (li' := (lv 19 21455)) rfl rfl rfl rfl (by kernel_rfl) (OpA.load rfl ti22 rfl (.tail (.tail .head)) rfl rfl ?_); exact wpS_to hW (s56 c15) (Cov.asg ⟨rfl, rfl, rfl, rfl, rfl, rfl, rfl, rfl, rfl, trivial⟩) (.refl _); refine wpS_op (i := 13) (li' := (lv 19 29519)) rfl rfl rfl rfl (by kernel_rfl) (OpA.load rfl ti3 rfl (.tail (.tail .head)) rfl rfl ?_); exact wpS_to hW (s57 c15) (Cov.asg ⟨rfl, rfl, rfl, rfl, rfl, rfl, rfl, rfl, rfl, trivial⟩) (.refl _); refine wpS_op (i := 15) (li' := (lv 19 54095)) rfl rfl rfl rfl (by kernel_rfl) (OpA.load rfl ti3 rfl (.tail (.tail .head)) rfl rfl ?_); exact wpS_to hW (s58 c15) (Cov.asg ⟨rfl, rfl, rfl, rfl, rfl, rfl, rfl, rfl, rfl, trivial⟩) (.refl _))
  have s74 : ∀ (c15 : Nat), W 10 (lv 19 21451) (asg [(4, .ptr c2 4 0 0), (5, D.i 0), (17, .own c15 2 ([] : List D).length ([] : List Text).length), (18, .ptr c1 4 0 2), (20, D.i (c26drop_e0 path c)), (24, (encL 2 encText) c.texts), (26, D.i ((c26drop_e0 path c) + 1)), (29, .ptr c1 4 0 0), (31, .ptr c1 4 0 1)]) [(c15, .cells 2 (winL encText ([] : List D) ([] : List Text) ([] : List D))), (c2, .cells 4 [.agg ([D.i 0, D.i 0, .v (.slice none 0 0), .v (.slice none 0 0)])]), (c1, .cells 4 [encCorpus c])] := fun c15 => wpS_of hW (by refine wpS_step (rs := [2, 10, 13, 15]) (by kernel_rfl) rfl ⟨?_, ?_, ?_, ?_, trivial⟩; refine wpS_op (i := 2) (li' := (lv 19 21455)) rfl rfl rfl rfl (by kernel_rfl) (OpA.load rfl ti22 rfl (.tail (.tail .head)) rfl rfl ?_); exact wpS_to hW (s56 c15) (Cov.asg ⟨rfl, rfl, rfl, rfl, rfl, rfl, rfl, rfl, rfl, trivial⟩) (.refl _); refine wpS_op (i := 10) (li' := (lv 19 22475)) rfl rfl rfl rfl (by kernel_rfl) (OpA.isliceV (enc := encText) rfl ts22 rfl (.some rfl) (.none _) q10_0 ?_); exact wpS_to hW (s59 c15) (Cov.asg ⟨rfl, rfl, rfl, rfl, rfl, rfl, rfl, rfl, trivial⟩) (.refl _); refine wpS_op (i := 13) (li' := (lv 19 29643)) rfl rfl rfl rfl (by kernel_rfl) (OpA.load rfl ti3 rfl (.tail (.tail .head)) rfl rfl ?_); exact wpS_to hW (s60 c15) (Cov.asg ⟨rfl, rfl, rfl, rfl, rfl, rfl, rfl, rfl, rfl, trivial⟩) (.refl _); refine wpS_op (i := 15) (li' := (lv 19 54219)) rfl rfl rfl rfl (by kernel_rfl) (OpA.load rfl ti3 rfl (.tail (.tail .head)) rfl rfl ?_); exact wpS_to hW (s61 c15) (Cov.asg ⟨rfl, rfl, rfl, rfl, rfl, rfl, rfl, rfl, rfl, trivial⟩) (.refl _))
  have s75 : ∀ (c15 : Nat), W 10 (lv 19 29515) (asg [(4, .ptr c2 4 0 0), (5, D.i 0), (17, .own c15 2 ([] : List D).length ([] : List Text).length), (18, .ptr c1 4 0 2), (20, D.i (c26drop_e0 path c)), (23, .ptr c1 4 0 2), (26, D.i ((c26drop_e0 path c) + 1)), (30, D.i c.k), (31, .ptr c1 4 0 1)]) [(c15, .cells 2 (winL encText ([] : List D) ([] : List Text) ([] : List D))), (c2, .cells 4 [.agg ([D.i 0, D.i 0, .v (.slice none 0 0), .v (.slice none 0 0)])]), (c1, .cells 4 [encCorpus c])] := fun c15 => wpS_of hW (by refine wpS_step (rs := [2, 7, 15]) (by kernel_rfl) rfl ⟨?_, ?_, ?_, trivial⟩; refine wpS_op (i := 2) (li' := (lv 19 29519)) rfl rfl rfl rfl (by kernel_rfl) (OpA.load rfl ti22 rfl (.tail (.tail .head)) rfl rfl ?_); exact wpS_to hW (s57 c15) (Cov.asg ⟨rfl, rfl, rfl, rfl, rfl, rfl, rfl, rfl, rfl, trivial⟩) (.refl _); refine wpS_op (i := 7) (li' := (lv 19 29643)) rfl rfl rfl rfl (by kernel_rfl) (OpA.load rfl ti22 rfl (.tail (.tail .head)) rfl rfl ?_); exact wpS_to hW (s60 c15) (Cov.asg ⟨rfl, rfl, rfl, rfl, rfl, rfl, rfl, rfl, rfl, trivial⟩) (.refl _); refine wpS_op (i := 15) (li' := (lv 19 62283)) rfl rfl rfl rfl (by kernel_rfl) (OpA.load rfl ti3 rfl (.tail (.tail .head)) rfl rfl ?_); exact wpS_to hW (s62 c15) (Cov.asg ⟨rfl, rfl, rfl, rfl, rfl, rfl, rfl, rfl, rfl, trivial⟩) (.refl _))
  have s76 : ∀ (c15 : Nat), W 10 (lv 19 54091) (asg [(4, .ptr c2 4 0 0), (5, D.i 0), (17, .own c15 2 ([] : List D).length ([] : List Text).length), (18, .ptr c1 4 0 2), (20, D.i (c26drop_e0 path c)), (23, .ptr c1 4 0 2), (26, D.i ((c26drop_e0 path c) + 1)), (29, .ptr c1 4 0 0), (32, D.i c.w)]) [(c15, .cells 2 (winL encText ([] : List D) ([] : List Text) ([] : List D))), (c2, .cells 4 [.agg ([D.i 0, D.i 0, .v (.slice none 0 0), .v (.slice none 0 0)])]), (c1, .cells 4 [encCorpus c])] := fun c15 => wpS_of hW (by refine wpS_step (rs := [2, 7, 13]) (by kernel_rfl) rfl ⟨?_, ?_, ?_, trivial⟩; refine wpS_op (i := 2) (li' := (lv 19 54095)) rfl rfl rfl rfl (by kernel_rfl) (OpA.load rfl ti22 rfl (.tail (.tail .head)) rfl rfl ?_); exact wpS_to hW (s58 c15) (Cov.asg ⟨rfl, rfl, rfl, rfl, rfl, rfl, rfl, rfl, rfl, trivial⟩) (.refl _); refine wpS_op (i := 7) (li' := (lv 19 54219)) rfl rfl rfl rfl (by kernel_rfl) (OpA.load rfl ti22 rfl (.tail (.tail .head)) rfl rfl ?_); exact wpS_to hW (s61 c15) (Cov.asg ⟨rfl, rfl, rfl, rfl, rfl, rfl, rfl, rfl, rfl, trivial⟩) (.refl _); refine wpS_op (i := 13) (li' := (lv 19 62283)) rfl rfl rfl rfl (by kernel_rfl) (OpA.load rfl ti3 rfl (.tail (.tail .head)) rfl rfl ?_); exact wpS_to hW (s62 c15) (Cov.asg ⟨rfl, rfl, rfl, rfl, rfl, rfl, rfl, rfl, rfl, trivial⟩) (.refl _))
  have s77 : W 10 (lv 19 21342) (asg [(4, .ptr c2 4 0 0), (5, D.i 0), (21, (encL 2 encText) (lsub c.texts 0 (c26drop_e0 path c))), (23, .ptr c1 4 0 2), (26, D.i ((c26drop_e0 path c) + 1)), (29, .ptr c1 4 0 0), (31, .ptr c1 4 0 1)]) [(c2, .cells 4 [.agg ([D.i 0, D.i 0, .v (.slice none 0 0), .v (.slice none 0 0)])]), (c1, .cells 4 [encCorpus c])] := wpS_of hW (by refine wpS_step (rs := [0, 7, 13, 15]) (by kernel_rfl) rfl ⟨?_, ?_, ?_, ?_, trivial⟩; refine wpS_op (i := 0) (li' := (lv 19 21343)) rfl rfl rfl rfl (by kernel_rfl) (OpA.buildSliceV (enc := encText) (xs := ([] : List Text)) rfl ts22 rfl .nil (by decide) rfl (fun c15 => ?_)); exact wpS_to hW (s55 c15) (Cov.asg ⟨rfl, rfl, rfl, rfl, rfl, rfl, rfl, rfl, trivial⟩) (.refl _); refine wpS_op (i := 7) (li' := (lv 19 21470)) rfl rfl rfl rfl (by kernel_rfl) (OpA.load rfl ti22 rfl (.tail .head) rfl rfl ?_); exact wpS_to hW (s63) (Cov.asg ⟨rfl, rfl, rfl, rfl, rfl, rfl, rfl, trivial⟩) (.refl _); refine wpS_op (i := 13) (li' := (lv 19 29534)) rfl rfl rfl rfl (by kernel_rfl) (OpA.load rfl ti3 rfl (.tail .head) rfl rfl ?_); exact wpS_to hW (s64) (Cov.asg ⟨rfl, rfl, rfl, rfl, rfl, rfl, rfl, trivial⟩) (.refl _); refine wpS_op (i := 15) (li' := (lv 19 54110)) rfl rfl rfl rfl (by kernel_rfl) (OpA.load rfl ti3 rfl (.tail .head) rfl rfl ?_); exact wpS_to hW (s65) (Cov.asg ⟨rfl, rfl, rfl, rfl, rfl, rfl, rfl, trivial⟩) (.refl _))
  have s78 : W 10 (lv 19 21454) (asg [(4, .ptr c2 4 0 0), (5, D.i 0), (19, (encL 2 encText) c.texts), (20, D.i (c26drop_e0 path c)), (24, (encL 2 encText) c.texts), (26, D.i ((c26drop_e0 path c) + 1)), (29, .ptr c1 4 0 0), (31, .ptr c1 4 0 1)]) [(c2, .cells 4 [.agg ([D.i 0, D.i 0, .v (.slice none 0 0), .v (.slice none 0 0)])]), (c1, .cells 4 [encCorpus c])] := wpS_of hW (by refine wpS_step (rs := [0, 4, 10, 13, 15]) (by kernel_rfl) rfl ⟨?_, ?_, ?_, ?_, ?_, trivial⟩; refine wpS_op (i := 0) (li' := (lv 19 21455)) rfl rfl rfl rfl (by kernel_rfl) (OpA.buildSliceV (enc := encText) (xs := ([] : List Text)) rfl ts22 rfl .nil (by decide) rfl (fun c15 => ?_)); exact wpS_to hW (s56 c15) (Cov.asg ⟨rfl, rfl, rfl, rfl, rfl, rfl, rfl, rfl, rfl, trivial⟩) (.refl _); refine wpS_op (i := 4) (li' := (lv 19 21470)) rfl rfl rfl rfl (by kernel_rfl) (OpA.isliceV (enc := encText) rfl ts22 rfl (.none _) (.some rfl) q4_0 ?_); exact wpS_to hW (s63) (Cov.asg ⟨rfl, rfl, rfl, rfl, rfl, rfl, rfl, trivial⟩) (.refl _); refine wpS_op (i := 10) (li' := (lv 19 22478)) rfl rfl rfl rfl (by kernel_rfl) (OpA.isliceV (enc := encText) rfl ts22 rfl (.some rfl) (.none _) q10_0 ?_); exact wpS_to hW (s66) (Cov.asg ⟨rfl, rfl, rfl, rfl, rfl, rfl, rfl, trivial⟩) (.refl _); refine wpS_op (i := 13) (li' := (lv 19 29646)) rfl rfl rfl rfl (by kernel_rfl) (OpA.load rfl ti3 rfl (.tail .head) rfl rfl ?_); exact wpS_to hW (s67) (Cov.asg ⟨rfl, rfl, rfl, rfl, rfl, rfl, rfl, rfl, trivial⟩) (.refl _); refine wpS_op (i := 15) (li' := (lv 19 54222)) rfl rfl rfl rfl (by kernel_rfl) (OpA.load rfl ti3 rfl (.tail .head) rfl rfl ?_); exact wpS_to hW (s68) (Cov.asg ⟨rfl, rfl, rfl, rfl, rfl, rfl, rfl, rfl, trivial⟩) (.refl _))
  have s79 : W 10 (lv 19 29518) (asg [(4, .ptr c2 4 0 0), (5, D.i 0), (19, (encL 2 encText) c.texts), (20, D.i (c26drop_e0 path c)), (23, .ptr c1 4 0 2), (26, D.i ((c26drop_e0 path c) + 1)), (30, D.i c.k), (31, .ptr c1 4 0 1)]) [(c2, .cells 4 [.agg ([D.i 0, D.i 0, .v (.slice none 0 0), .v (.slice none 0 0)])]), (c1, .cells 4 [encCorpus c])] := wpS_of hW (by refine wpS_step (rs := [0, 4, 7, 15]) (by kernel_rfl) rfl ⟨?_, ?_, ?_, ?_, trivial⟩; refine wpS_op (i := 0) (li' := (lv 19 29519)) rfl rfl rfl rfl (by kernel_rfl) (OpA.buildSliceV (enc := encText) (xs := ([] : List Text)) rfl ts22 rfl .nil (by decide) rfl (fun c15 => ?_)); exact wpS_to hW (s57 c15) (Cov.asg ⟨rfl, rfl, rfl, rfl, rfl, rfl, rfl, rfl, rfl, trivial⟩) (.refl _); refine wpS_op (i := 4) (li' := (lv 19 29534)) rfl rfl rfl rfl (by kernel_rfl) (OpA.isliceV (enc := encText) rfl ts22 rfl (.none _) (.some rfl) q4_0 ?_); exact wpS_to hW (s64) (Cov.asg ⟨rfl, rfl, rfl, rfl, rfl, rfl, rfl, trivial⟩) (.refl _); refine wpS_op (i := 7) (li' := (lv 19 29646)) rfl rfl rfl rfl (by kernel_rfl) (OpA.load rfl ti22 rfl (.tail .head) rfl rfl ?_); exact wpS_to hW (s67) (Cov.asg ⟨rfl, rfl, rfl, rfl, rfl, rfl, rfl, rfl, trivial⟩) (.refl _); refine wpS_op (i := 15) (li' := (lv 19 62286)) rfl rfl rfl rfl (by kernel_rfl) (OpA.load rfl ti3 rfl (.tail .head) rfl rfl ?_); exact wpS_to hW (s69) (Cov.asg ⟨rfl, rfl, rfl, rfl, rfl, rfl, rfl, rfl, trivial⟩) (.refl _))
  have s80 : W 10 (lv 19 54094) (asg [(4, .ptr c2 4 0 0), (5, D.i 0), (19, (encL 2 encText) c.texts), (20, D.i (c26drop_e0 path c)), (23, .ptr c1 4 0 2), (26, D.i ((c26drop_e0 path c) + 1)), (29, .ptr c1 4 0 0), (32, D.i c.w)]) [(c2, .cells 4 [.agg ([D.i 0, D.i 0, .v (.slice none 0 0), .v (.slice none 0 0)])]), (c1, .cells 4 [encCorpus c])] := wpS_of hW (by refine wpS_step (rs := [0, 4, 7, 13]) (by kernel_rfl) rfl ⟨?_, ?_, ?_, ?_, trivial⟩; refine wpS_op (i := 0) (li' := (lv 19 54095)) rfl rfl rfl rfl (by kernel_rfl) (OpA.buildSliceV (enc := encText) (xs := ([] : List Text)) rfl ts22 rfl .nil (by decide) rfl (fun c15 => ?_)); exact wpS_to hW (s58 c15) (Cov.asg ⟨rfl, rfl, rfl, rfl, rfl, rfl, rfl, rfl, rfl, trivial⟩) (.refl _); refine wpS_op (i := 4) (li' := (lv 19 54110)) rfl rfl rfl rfl (by kernel_rfl) (OpA.isliceV (enc := encText) rfl ts22 rfl (.none _) (.some rfl) q4_0 ?_); exact wpS_to hW (s65) (Cov.asg ⟨rfl, rfl, rfl, rfl, rfl, rfl, rfl, trivial⟩) (.refl _); refine wpS_op (i := 7) (li' := (lv 19 54222)) rfl rfl rfl rfl (by kernel_rfl) (OpA.load rfl ti22 rfl (.tail .head) rfl rfl ?_); exact wpS_to hW (s68) (Cov.asg ⟨rfl, rfl, rfl, rfl, rfl, rfl, rfl, rfl, trivial⟩) (.refl _); refine wpS_op (i := 13) (li' := (lv 19 62286)) rfl rfl rfl rfl (by kernel_rfl) (OpA.load rfl ti3 rfl (.tail .head) rfl rfl ?_); exact wpS_to hW (s69) (Cov.asg ⟨rfl, rfl, rfl, rfl, rfl, rfl, rfl, rfl, trivial⟩) (.refl _))
  have s81 : W 10 (lv 19 22474) (asg [(4, .ptr c2 4 0 0), (5, D.i 0), (18, .ptr c1 4 0 2), (20, D.i (c26drop_e0 path c)), (27, (encL 2 encText) (c26drop_e1 c path)), (29, .ptr c1 4 0 0), (31, .ptr c1 4 0 1)]) [(c2, .cells 4 [.agg ([D.i 0, D.i 0, .v (.slice none 0 0), .v (.slice none 0 0)])]), (c1, .cells 4 [encCorpus c])] := wpS_of hW (by refine wpS_step (rs := [0, 2, 13, 15]) (by kernel_rfl) rfl ⟨?_, ?_, ?_, ?_, trivial⟩; refine wpS_op (i := 0) (li' := (lv 19 22475)) rfl rfl rfl rfl (by kernel_rfl) (OpA.buildSliceV (enc := encText) (xs := ([] : List Text)) rfl ts22 rfl .nil (by decide) rfl (fun c15 => ?_)); exact wpS_to hW (s59 c15) (Cov.asg ⟨rfl, rfl, rfl, rfl, rfl, rfl, rfl, rfl, trivial⟩) (.refl _); refine wpS_op (i := 2) (li' := (lv 19 22478)) rfl rfl rfl rfl (by kernel_rfl) (OpA.load rfl ti22 rfl (.tail .head) rfl rfl ?_); exact wpS_to hW (s66) (Cov.asg ⟨rfl, rfl, rfl, rfl, rfl, rfl, rfl, trivial⟩) (.refl _); refine wpS_op (i := 13) (li' := (lv 19 30666)) rfl rfl rfl rfl (by kernel_rfl) (OpA.load rfl ti3 rfl (.tail .head) rfl rfl ?_); exact wpS_to hW (s70) (Cov.asg ⟨rfl, rfl, rfl, rfl, rfl, rfl, rfl, trivial⟩) (.refl _); refine wpS_op (i := 15) (li' := (lv 19 55242)) rfl rfl rfl rfl (by kernel_rfl) (OpA.load rfl ti3 rfl (.tail .head) rfl rfl ?_); exact wpS_to hW (s71) (Cov.asg ⟨rfl, rfl, rfl, rfl, rfl, rfl, rfl, trivial⟩) (.refl _))
  have s82 : W 10 (lv 19 29642) (asg [(4, .ptr c2 4 0 0), (5, D.i 0), (18, .ptr c1 4 0 2), (20, D.i (c26drop_e0 path c)), (24, (encL 2 encText) c.texts), (26, D.i ((c26drop_e0 path c) + 1)), (30, D.i c.k), (31, .ptr c1 4 0 1)]) [(c2, .cells 4 [.agg ([D.i 0, D.i 0, .v (.slice none 0 0), .v (.slice none 0 0)])]), (c1, .cells 4 [encCorpus c])] := wpS_of hW (by refine wpS_step (rs := [0, 2, 10, 15]) (by kernel_rfl) rfl ⟨?_, ?_, ?_, ?_, trivial⟩; refine wpS_op (i := 0) (li' := (lv 19 29643)) rfl rfl rfl rfl (by kernel_rfl) (OpA.buildSliceV (enc := encText) (xs := ([] : List Text)) rfl ts22 rfl .nil (by decide) rfl (fun c15 => ?_)); exact wpS_to hW (s60 c15) (Cov.asg ⟨rfl, rfl, rfl, rfl, rfl, rfl, rfl, rfl, rfl, trivial⟩) (.refl _); refine wpS_op (i := 2) (li' := (lv 19 29646)) rfl rfl rfl rfl (by kernel_rfl) (OpA.load rfl ti22 rfl (.tail .head) rfl rfl ?_); exact wpS_to hW (s67) (Cov.asg ⟨rfl, rfl, rfl, rfl, rfl, rfl, rfl, rfl, trivial⟩) (.refl _); refine wpS_op (i := 10) (li' := (lv 19 30666)) rfl rfl rfl rfl (by kernel_rfl) (OpA.isliceV (enc := encText) rfl ts22 rfl (.some rfl) (.none _) q10_0 ?_); exact wpS_to hW (s70) (Cov.asg ⟨rfl, rfl, rfl, rfl, rfl, rfl, rfl, trivial⟩) (.refl _); refine wpS_op (i := 15) (li' := (lv 19 62410)) rfl rfl rfl rfl (by kernel_rfl) (OpA.load rfl ti3 rfl (.tail .head) rfl rfl ?_); exact wpS_to hW (s72) (Cov.asg ⟨rfl, rfl, rfl, rfl, rfl, rfl, rfl, rfl, trivial⟩) (.refl _))
  have s83 : W 10 (lv 19 54218) (asg [(4, .ptr c2 4 0 0), (5, D.i 0), (18, .ptr c1 4 0 2), (20, D.i (c26drop_e0 path c)), (24, (encL 2 encText) c.texts), (26, D.i ((c26drop_e0 path c) + 1)), (29, .ptr c1 4 0 0), (32, D.i c.w)]) [(c2, .cells 4 [.agg ([D.i 0, D.i 0, .v (.slice none 0 0), .v (.slice none 0 0)])]), (c1, .cells 4 [encCorpus c])] := wpS_of hW (by refine wpS_step (rs := [0, 2, 10, 13]) (by kernel_rfl) rfl ⟨?_, ?_, ?_, ?_, trivial⟩; refine wpS_op (i := 0) (li' := (lv 19 54219)) rfl rfl rfl rfl (by kernel_rfl) (OpA.buildSliceV (enc := encText) (xs := ([] : List Text)) rfl ts22 rfl .nil (by decide) rfl (fun c15 => ?_)); exact wpS_to hW (s61 c15) (Cov.asg ⟨rfl, rfl, rfl, rfl, rfl, rfl, rfl, rfl, rfl, trivial⟩) (.refl _); refine wpS_op (i := 2) (li' := (lv 19 54222)) rfl rfl rfl rfl (by kernel_rfl) (OpA.load rfl ti22 rfl (.tail .head) rfl rfl ?_); exact wpS_to hW (s68) (Cov.asg ⟨rfl, rfl, rfl, rfl, rfl, rfl, rfl, rfl, trivial⟩) (.refl _); refine wpS_op (i := 10) (li' := (lv 19 55242)) rfl rfl rfl rfl (by kernel_rfl) (OpA.isliceV (enc := encText) rfl ts22 rfl (.some rfl) (.none _) q10_0 ?_); exact wpS_to hW (s71) (Cov.asg ⟨rfl, rfl, rfl, rfl, rfl, rfl, rfl, trivial⟩) (.refl _); refine wpS_op (i := 13) (li' := (lv 19 62410)) rfl rfl rfl rfl (by kernel_rfl) (OpA.load rfl ti3 rfl (.tail .head) rfl rfl ?_); exact wpS_to hW (s72) (Cov.asg ⟨rfl, rfl, rfl, rfl, rfl, rfl, rfl, rfl, trivial⟩) (.refl _))
  have s84 : W 10 (lv 19 62282) (asg [(4, .ptr c2 4 0 0), (5, D.i 0), (18, .ptr c1 4 0 2), (20, D.i (c26drop_e0 path c)), (23, .ptr c1 4 0 2), (26, D.i ((c26drop_e0 path c) + 1)), (30, D.i c.k), (32, D.i c.w)]) [(c2, .cells 4 [.agg ([D.i 0, D.i 0, .v (.slice none 0 0), .v (.slice none 0 0)])]), (c1, .cells 4 [encCorpus c])] := wpS_of hW (by refine wpS_step (rs := [0, 2, 7]) (by kernel_rfl) rfl ⟨?_, ?_, ?_, trivial⟩; refine wpS_op (i := 0) (li' := (lv 19 62283)) rfl rfl rfl rfl (by kernel_rfl) (OpA.buildSliceV (enc := encText) (xs := ([] : List Text)) rfl ts22 rfl .nil (by decide) rfl (fun c15 => ?_)); exact wpS_to hW (s62 c15) (Cov.asg ⟨rfl, rfl, rfl, rfl, rfl, rfl, rfl, rfl, rfl, trivial⟩) (.refl _); refine wpS_op (i := 2) (li' := (lv 19 62286)) rfl rfl rfl rfl (by kernel_rfl) (OpA.load rfl ti22 rfl (.tail .head) rfl rfl ?_); exact wpS_to hW (s69) (Cov.asg ⟨rfl, rfl, rfl, rfl, rfl, rfl, rfl, rfl, trivial⟩) (.refl _); refine wpS_op (i := 7) (li' := (lv 19 62410)) rfl rfl rfl rfl (by kernel_rfl) (OpA.load rfl ti22 rfl (.tail .head) rfl rfl ?_); exact wpS_to hW (s72) (Cov.asg ⟨rfl, rfl, rfl, rfl, rfl, rfl, rfl, rfl, trivial⟩) (.refl _))
  have s85 : ∀ (c15 : Nat), W 11 (lv 19 21323) (asg [(4, .ptr c2 4 0 0), (5, D.i 0), (17, .own c15 2 ([] : List D).length ([] : List Text).length), (18, .ptr c1 4 0 2), (20, D.i (c26drop_e0 path c)), (23, .ptr c1 4 0 2), (26, D.i ((c26drop_e0 path c) + 1)), (29, .ptr c1 4 0 0), (31, .ptr c1 4 0 1)]) [(c15, .cells 2 (winL encText ([] : List D) ([] : List Text) ([] : List D))), (c2, .cells 4 [.agg ([D.i 0, D.i 0, .v (.slice none 0 0), .v (.slice none 0 0)])]), (c1, .cells 4 [encCorpus c])] := fun c15 => wpS_of hW (by refine wpS_step (rs := [2, 7, 13, 15]) (by kernel_rfl) rfl ⟨?_, ?_, ?_, ?_, trivial⟩; refine wpS_op (i := 2) (li' := (lv 19 21327)) rfl rfl rfl rfl (by kernel_rfl) (OpA.load rfl ti22 rfl (.tail (.tail .head)) rfl rfl ?_); exact wpS_to hW (s73 c15) (Cov.asg ⟨rfl, rfl, rfl, rfl, rfl, rfl, rfl, rfl, rfl, trivial⟩) (.refl _); refine wpS_op (i := 7) (li' := (lv 19 21451)) rfl rfl rfl rfl (by kernel_rfl) (OpA.load rfl ti22 rfl (.tail (.tail .head)) rfl rfl ?_); exact wpS_to hW (s74 c15) (Cov.asg ⟨rfl, rfl, rfl, rfl, rfl, rfl, rfl, rfl, rfl, trivial⟩) (.refl _); refine wpS_op (i := 13) (li' := (lv 19 29515)) rfl rfl rfl rfl (by kernel_rfl) (OpA.load rfl ti3 rfl (.tail (.tail .head)) rfl rfl ?_); exact wpS_to hW (s75 c15) (Cov.asg ⟨rfl, rfl, rfl, rfl, rfl, rfl, rfl, rfl, rfl, trivial⟩) (.refl _); refine wpS_op (i := 15) (li' := (lv 19 54091)) rfl rfl rfl rfl (by kernel_rfl) (OpA.load rfl ti3 rfl (.tail (.tail .head)) rfl rfl ?_); exact wpS_to hW (s76 c15) (Cov.asg ⟨rfl, rfl, rfl, rfl, rfl, rfl, rfl, rfl, rfl, trivial⟩) (.refl _))
  have s86 : W 11 (lv 19 21326) (asg [(4, .ptr c2 4 0 0), (5, D.i 0), (19, (encL 2 encText) c.texts), (20, D.i (c26drop_e0 path c)), (23, .ptr c1 4 0 2), (26, D.i ((c26drop_e0 path c) + 1)), (29, .ptr c1 4 0 0), (31, .ptr c1 4 0 1)]) [(c2, .cells 4 [.agg ([D.i 0, D.i 0, .v (.slice none 0 0), .v (.slice none 0 0)])]), (c1, .cells 4 [encCorpus c])] := wpS_of hW (by refine wpS_step (rs := [0, 4, 7, 13, 15]) (by kernel_rfl) rfl ⟨?_, ?_, ?_, ?_, ?_, trivial⟩; refine wpS_op (i := 0) (li' := (lv 19 21327)) rfl rfl rfl rfl (by kernel_rfl) (OpA.buildSliceV (enc := encText) (xs := ([] : List Text)) rfl ts22 rfl .nil (by decide) rfl (fun c15 => ?_)); exact wpS_to hW (s73 c15) (Cov.asg ⟨rfl, rfl, rfl, rfl, rfl, rfl, rfl, rfl, rfl, trivial⟩) (.refl _); refine wpS_op (i := 4) (li' := (lv 19 21342)) rfl rfl rfl rfl (by kernel_rfl) (OpA.isliceV (enc := encText) rfl ts22 rfl (.none _) (.some rfl) q4_0 ?_); exact wpS_to hW (s77) (Cov.asg ⟨rfl, rfl, rfl, rfl, rfl, rfl, rfl, trivial⟩) (.refl _); refine wpS_op (i := 7) (li' := (lv 19 21454)) rfl rfl rfl rfl (by kernel_rfl) (OpA.load rfl ti22 rfl (.tail .head) rfl rfl ?_); exact wpS_to hW (s78) (Cov.asg ⟨rfl, rfl, rfl, rfl, rfl, rfl, rfl, rfl, trivial⟩) (.refl _); refine wpS_op (i := 13) (li' := (lv 19 29518)) rfl rfl rfl rfl (by kernel_rfl) (OpA.load rfl ti3 rfl (.tail .head) rfl rfl ?_); exact wpS_to hW (s79) (Cov.asg ⟨rfl, rfl, rfl, rfl, rfl, rfl, rfl, rfl, trivial⟩) (.refl _); refine wpS_op (i := 15) (li' := (lv 19 54094)) rfl rfl rfl rfl (by kernel_rfl) (OpA.load rfl ti3 rfl (.tail .head) rfl rfl ?_); exact wpS_to hW (s80) (Cov.asg ⟨rfl, rfl, rfl, rfl, rfl, rfl, rfl, rfl, trivial⟩) (.refl _))
  have s87 : W 11 (lv 19 21450) (asg [(4, .ptr c2 4 0 0), (5, D.i 0), (18, .ptr c1 4 0 2), (20, D.i (c26drop_e0 path c)), (24, (encL 2 encText) c.texts), (26, D.i ((c26drop_e0 path c) + 1)), (29, .ptr c1 4 0 0), (31, .ptr c1 4 0 1)]) [(c2, .cells 4 [.agg ([D.i 0, D.i 0, .v (.slice none 0 0), .v (.slice none 0 0)])]), (c1, .cells 4 [encCorpus c])] := wpS_of hW (by refine wpS_step (rs := [0, 2, 10, 13, 15]) (by kernel_rfl) rfl ⟨?_, ?_, ?_, ?_, ?_, trivial⟩; refine wpS_op (i := 0) (li' := (lv 19 21451)) rfl rfl rfl rfl (by kernel_rfl) (OpA.buildSliceV (enc := encText) (xs := ([] : List Text)) rfl ts22 rfl .nil (by decide) rfl (fun c15 => ?_)); exact wpS_to hW (s74 c15) (Cov.asg ⟨rfl, rfl, rfl, rfl, rfl, rfl, rfl, rfl, rfl, trivial⟩) (.refl _); refine wpS_op (i := 2) (li' := (lv 19 21454)) rfl rfl rfl rfl (by kernel_rfl) (OpA.load rfl ti22 rfl (.tail .head) rfl rfl ?_); exact wpS_to hW (s78) (Cov.asg ⟨rfl, rfl, rfl, rfl, rfl, rfl, rfl, rfl, trivial⟩) (.refl _); refine wpS_op (i := 10) (li' := (lv 19 22474)) rfl rfl rfl rfl (by kernel_rfl) (OpA.isliceV (enc := encText) rfl ts22 rfl (.some rfl) (.none _) q10_0 ?_); exact wpS_to hW (s81) (Cov.asg ⟨rfl, rfl, rfl, rfl, rfl, rfl, rfl, trivial⟩) (.refl _); refine wpS_op (i := 13) (li' := (lv 19 29642)) rfl rfl rfl rfl (by kernel_rfl) (OpA.load rfl ti3 rfl (.tail .head) rfl rfl ?_); exact wpS_to hW (s82) (Cov.asg ⟨rfl, rfl, rfl, rfl, rfl, rfl, rfl, rfl, trivial⟩) (.refl _); refine wpS_op (i := 15) (li' := (lv 19 54218)) rfl rfl rfl rfl (by kernel_rfl) (OpA.load rfl ti3 rfl (.tail .head) rfl rfl ?_); exact wpS_to hW (s83) (Cov.asg ⟨rfl, rfl, rfl, rfl, rfl, rfl, rfl, rfl, trivial⟩) (.refl _))
  have s88 : W 11 (lv 19 29514) (asg [(4, .ptr c2 4 0 0), (5, D.i 0), (18, .ptr c1 4 0 2), (20, D.i (c26drop_e0 path c)), (23, .ptr c1 4 0 2), (26, D.i ((c26drop_e0 path c) + 1)), (30, D.i c.k), (31, .ptr c1 4 0 1)]) [(c2, .cells 4 [.agg ([D.i 0, D.i 0, .v (.slice none 0 0), .v (.slice none 0 0)])]), (c1, .cells 4 [encCorpus c])] := wpS_of hW (by refine wpS_step (rs := [0, 2, 7, 15]) (by kernel_rfl) rfl ⟨?_, ?_, ?_, ?_, trivial⟩; refine wpS_op (i := 0) (li' := (lv 19 29515)) rfl rfl rfl rfl (by kernel_rfl) (OpA.buildSliceV (enc := encText) (xs := ([] : List Text)) rfl ts22 rfl .nil (by decide) rfl (fun c15 => ?_)); exact wpS_to hW (s75 c15) (Cov.asg ⟨rfl, rfl, rfl, rfl, rfl, rfl, rfl, rfl, rfl, trivial⟩) (.refl _); refine wpS_op (i := 2) (li' := (lv 19 29518)) rfl rfl rfl rfl (by kernel_rfl) (OpA.load rfl ti22 rfl (.tail .head) rfl rfl ?_); exact wpS_to hW (s79) (Cov.asg ⟨rfl, rfl, rfl, rfl, rfl, rfl, rfl, rfl, trivial⟩) (.refl _); refine wpS_op (i := 7) (li' := (lv 19 29642)) rfl rfl rfl rfl (by kernel_rfl) (OpA.load rfl ti22 rfl (.tail .head) rfl rfl ?_); exact wpS_to hW (s82) (Cov.asg ⟨rfl, rfl, rfl, rfl, rfl, rfl, rfl, rfl, trivial⟩) (.refl _); refine wpS_op (i := 15) (li' := (lv 19 62282)) rfl rfl rfl rfl (by kernel_rfl) (OpA.load rfl ti3 rfl (.tail .head) rfl rfl ?_); exact wpS_to hW (s84) (Cov.asg ⟨rfl, rfl, rfl, rfl, rfl, rfl, rfl, rfl, trivial⟩) (.refl _))
  have s89 : W 11 (lv 19 54090) (asg [(4, .ptr c2 4 0 0), (5, D.i 0), (18, .ptr c1 4 0 2), (20, D.i (c26drop_e0 path c)), (23, .ptr c1 4 0 2), (26, D.i ((c26drop_e0 path c) + 1)), (29, .ptr c1 4 0 0), (32, D.i c.w)]) [(c2, .cells 4 [.agg ([D.i 0, D.i 0, .v (.slice none 0 0), .v (.slice none 0 0)])]), (c1, .cells 4 [encCorpus c])] := wpS_of hW (by refine wpS_step (rs := [0, 2, 7, 13]) (by kernel_rfl) rfl ⟨?_, ?_, ?_, ?_, trivial⟩; refine wpS_op (i := 0) (li' := (lv 19 54091)) rfl rfl rfl rfl (by kernel_rfl) (OpA.buildSliceV (enc := encText) (xs := ([] : List Text)) rfl ts22 rfl .nil (by decide) rfl (fun c15 => ?_)); exact wpS_to hW (s76 c15) (Cov.asg ⟨rfl, rfl, rfl, rfl, rfl, rfl, rfl, rfl, rfl, trivial⟩) (.refl _); refine wpS_op (i := 2) (li' := (lv 19 54094)) rfl rfl rfl rfl (by kernel_rfl) (OpA.load rfl ti22 rfl (.tail .head) rfl rfl ?_); exact wpS_to hW (s80) (Cov.asg ⟨rfl, rfl, rfl, rfl, rfl, rfl, rfl, rfl, trivial⟩) (.refl _); refine wpS_op (i := 7) (li' := (lv 19 54218)) rfl rfl rfl rfl (by kernel_rfl) (OpA.load rfl ti22 rfl (.tail .head) rfl rfl ?_); exact wpS_to hW (s83) (Cov.asg ⟨rfl, rfl, rfl, rfl, rfl, rfl, rfl, rfl, trivial⟩) (.refl _); refine wpS_op (i := 13) (li' := (lv 19 62282)) rfl rfl rfl rfl (by kernel_rfl) (OpA.load rfl ti3 rfl (.tail .head) rfl rfl ?_); exact wpS_to hW (s84) (Cov.asg ⟨rfl, rfl, rfl, rfl, rfl, rfl, rfl, rfl, trivial⟩) (.refl _))
  have s90 : W 12 (lv 19 21322) (asg [(4, .ptr c2 4 0 0), (5, D.i 0), (18, .ptr c1 4 0 2), (20, D.i (c26drop_e0 path c)), (23, .ptr c1 4 0 2), (26, D.i ((c26drop_e0 path c) + 1)), (29, .ptr c1 4 0 0), (31, .ptr c1 4 0 1)]) [(c2, .cells 4 [.agg ([D.i 0, D.i 0, .v (.slice none 0 0), .v (.slice none 0 0)])]), (c1, .cells 4 [encCorpus c])] := wpS_of hW (by refine wpS_step (rs := [0, 2, 7, 13, 15]) (by kernel_rfl) rfl ⟨?_, ?_, ?_, ?_, ?_, trivial⟩; refine wpS_op (i := 0) (li' := (lv 19 21323)) rfl rfl rfl rfl (by kernel_rfl) (OpA.buildSliceV (enc := encText) (xs := ([] : List Text)) rfl ts22 rfl .nil (by decide) rfl (fun c15 => ?_)); exact wpS_to hW (s85 c15) (Cov.asg ⟨rfl, rfl, rfl, rfl, rfl, rfl, rfl, rfl, rfl, trivial⟩) (.refl _); refine wpS_op (i := 2) (li' := (lv 19 21326)) rfl rfl rfl rfl (by kernel_rfl) (OpA.load rfl ti22 rfl (.tail .head) rfl rfl ?_); exact wpS_to hW (s86) (Cov.asg ⟨rfl, rfl, rfl, rfl, rfl, rfl, rfl, rfl, trivial⟩) (.refl _); refine wpS_op (i := 7) (li' := (lv 19 21450)) rfl rfl rfl rfl (by kernel_rfl) (OpA.load rfl ti22 rfl (.tail .head) rfl rfl ?_); exact wpS_to hW (s87) (Cov.asg ⟨rfl, rfl, rfl, rfl, rfl, rfl, rfl, rfl, trivial⟩) (.refl _); refine wpS_op (i := 13) (li' := (lv 19 29514)) rfl rfl rfl rfl (by kernel_rfl) (OpA.load rfl ti3 rfl (.tail .head) rfl rfl ?_); exact wpS_to hW (s88) (Cov.asg ⟨rfl, rfl, rfl, rfl, rfl, rfl, rfl, rfl, trivial⟩) (.refl _); refine wpS_op (i := 15) (li' := (lv 19 54090)) rfl rfl rfl rfl (by kernel_rfl) (OpA.load rfl ti3 rfl (.tail .head) rfl rfl ?_); exact wpS_to hW (s89) (Cov.asg ⟨rfl, rfl, rfl, rfl, rfl, rfl, rfl, rfl, trivial⟩) (.refl _))
  refine wpS_of hW ?_
  refine wpS_firstY (fuel := 18) (i := 1) (li' := (lv 19 2)) rfl rfl (.fieldAddr rfl tf25_2 rfl) rfl rfl (by kernel_rfl) (by kernel_rfl) (by kernel_rfl) (fun _ _ _ hx => hx) rfl rfl (by kernel_rfl) ?_
  refine wpS_firstY (fuel := 17) (i := 3) (li' := (lv 19 10)) rfl rfl (.move rfl) rfl rfl (by kernel_rfl) (by kernel_rfl) (by kernel_rfl) (fun _ _ _ hx => hx) rfl rfl (by kernel_rfl) ?_
  refine wpS_firstY (fuel := 16) (i := 6) (li' := (lv 19 74)) rfl rfl (.fieldAddr rfl tf25_2 rfl) rfl rfl (by kernel_rfl) (by kernel_rfl) (by kernel_rfl) (fun _ _ _ hx => hx) rfl rfl (by kernel_rfl) ?_
  refine wpS_firstY (fuel := 15) (i := 8) (li' := (lv 19 330)) rfl rfl (.move rfl) rfl rfl (by kernel_rfl) (by kernel_rfl) (by kernel_rfl) (fun _ _ _ hx => hx) rfl rfl (by kernel_rfl) ?_
  refine wpS_firstY (fuel := 14) (i := 9) (li' := (lv 19 842)) rfl rfl (.addi rfl rfl rfl q9_0) rfl rfl (by kernel_rfl) (by kernel_rfl) (by kernel_rfl) (fun _ _ _ hx => hx) rfl rfl (by kernel_rfl) ?_
  refine wpS_firstY (fuel := 13) (i := 12) (li' := (lv 19 4938)) rfl rfl (.fieldAddr rfl tf25_0 rfl) rfl rfl (by kernel_rfl) (by kernel_rfl) (by kernel_rfl) (fun _ _ _ hx => hx) rfl rfl (by kernel_rfl) ?_
  refine wpS_firstY (fuel := 12) (i := 14) (li' := (lv 19 21322)) rfl rfl (.fieldAddr rfl tf25_1 rfl) rfl rfl (by kernel_rfl) (by kernel_rfl) (by kernel_rfl) (fun _ _ _ hx => hx) rfl rfl (by kernel_rfl) ?_
  exact wpS_to hW s90 (Cov.asg ⟨rfl, rfl, rfl, rfl, rfl, rfl, rfl, rfl, trivial⟩) (.refl _)
  intro c15 c65 pre66 c125 pre126
  refine wpS_of hW (wpS_done (by kernel_rfl) ?_)
  refine wpA_ret ?_
  exact ⟨_, (.cell (.whole ti25 rfl rfl .head rfl ⟨_, rfl⟩) (.tmp (d := D.i 0) rfl .nil)), _, (.tup (.same rfl (.same rfl .nil)) .nil), ⟨((corpusOf ((([] : List Text) ++ (lsub c.texts 0 (c26drop_e0 path c))) ++ (c26drop_e1 c path)) c.k c.w), 0), rfl, h⟩⟩
theorem c26drop_c (c : Corpus) (path : ByteArray)  (hp0 : okC c) (hp1 : path.size ≤ 1000000) : Fun false Tryz.prog 20 [encCorpus c, D.s path] (fun d => d = .tup [encCorpus ((dropF c path).1), D.i ((dropF c path).2)]) :=
  Fun.at (enc := fun r => .tup [encCorpus (r.1), D.i (r.2)]) (v := dropF c path) (c26drop_w c path  (fun r => r = dropF c path) (c26drop_ok c path _ hp0 hp1 rfl))

set_option maxHeartbeats 2000000 in
set_option maxRecDepth 10000 in
theorem cfindp_w (c : Corpus) (hash : Int)  (Q : (List Pst) → Prop) (h : cfindp_vc c hash Q) : Fun false Tryz.prog 24 [encCorpus c, D.i hash] (fun d => ∃ r, d = (encL 3 encPst) r ∧ Q r) := by
  unfold cfindp_vc at h
  refine Fun.of_body Tryz.func24 rfl Tryz.ntmps24 rfl ?_
  refine wpA_seq ?_
  refine wpA_region ?_
  refine wpL_op rfl rfl rfl (OpA.bx (sz := 4) rfl (by with_reducible conv => lhs; whnf) (.of rfl) (fun c1 _ => ?_))
  refine wpL_op rfl rfl rfl (OpA.asn rfl (by with_reducible conv => lhs; whnf) ?_)
  refine wpL_nil ?_
  iterate 2 refine wpA_seq ?_
  obtain ⟨q1, h⟩ := h
  refine wpA_region ?_
  refine wpL_op rfl rfl rfl (OpA.load_whole rfl ti25 rfl rfl .head rfl ⟨_, rfl⟩ ?_)
  refine wpL_op rfl rfl rfl (OpA.call rfl rfl rfl en13 (ccheck_c c q1) ?_)
  rintro _ rfl
  refine wpL_op rfl rfl rfl (OpA.neq rfl rfl rfl ?_)
  refine wpL_nil ?_
  refine wpA_cond rfl (fun b2 => ?_) (fun b2 => ?_)
  have h := h.1 (bneT b2)
  refine wpA_seq ?_
  refine wpA_region ?_
  refine wpL_op rfl rfl rfl (OpA.asn rfl (by with_reducible conv => lhs; whnf) ?_)
  refine wpL_nil ?_
  refine wpA_ret ?_
  exact ⟨_, (.tmp (d := .v (.slice none 0 0)) rfl .nil), _, (.nilv (sz := 3) .nil), ⟨[], rfl, h⟩⟩
  have h := h.2 (bneF b2)
  refine wpA_skip ?_
  refine wpA_seq ?_
  refine wpA_region ?_
  refine wpL_op rfl rfl rfl (OpA.asnG (T := Pst) (enc := encPst) (sz := 3) rfl rfl (fun c5_g3 => ?_))
  refine wpL_nil ?_
  iterate 2 refine wpA_seq ?_
  refine wpA_region ?_
  refine wpL_op rfl rfl rfl (OpA.fieldAddr rfl tf25_3 rfl ?_)
  refine wpL_op rfl rfl rfl (OpA.load rfl ti23 rfl (.tail .head) rfl rfl ?_)
  refine wpL_op rfl rfl rfl (OpA.len rfl rfl rfl rfl ts23.desc (.inl ⟨_, _, rfl, (List.length_map _).symm⟩) ?_)
  refine wpL_op rfl rfl rfl (OpA.mv rfl (by with_reducible conv => lhs; whnf) ?_)
  refine wpL_nil ?_
  refine wpA_block ?_
  refine wpA_lfp (S := (List Pst) × Int) (G := Nat × List D × List D) (c5_g3, ([] : List D), ([] : List D)) (fun gg ss => asg [(1, D.i hash), (4, .v (.slice none 0 0)), (5, .own gg.1 3 gg.2.1.length ss.1.length), (12, (encL 3 encPst) c.posts), (13, D.i (c.posts.length : Int)), (14, D.i ss.2)]) (fun gg ss => [(gg.1, .cells 3 (winL encPst gg.2.1 ss.1 gg.2.2)), (c1, .cells 4 [encCorpus c])]) h (Cov.asg ⟨rfl, rfl, rfl, rfl, rfl, rfl, trivial⟩) (.refl _) ?_
  rintro again4 ⟨cb5, pre5, post5⟩ ⟨out, x⟩ h
  have h : cfindp_L1 c hash Q again4 out x := h
  unfold cfindp_L1 at h
  show wpA _ _ _ _ (asg [(1, D.i hash), (4, .v (.slice none 0 0)), (5, .own cb5 3 pre5.length out.length), (12, (encL 3 encPst) c.posts), (13, D.i (c.posts.length : Int)), (14, D.i x)]) [(cb5, .cells 3 (winL encPst pre5 out post5)), (c1, .cells 4 [encCorpus c])]
  refine wpA_seq ?_
  refine wpA_region ?_
  refine wpL_op rfl rfl rfl (OpA.lss rfl rfl rfl ?_)
  refine wpL_nil ?_
  refine wpA_seq ?_
  refine wpA_cond rfl (fun b5 => ?_) (fun b5 => ?_)
  have h := h.1 (decT b5)
  refine wpA_skip ?_
  refine wpA_seq ?_
  refine wpA_block ?_
  refine wpA_seq ?_
  obtain ⟨q1, h⟩ := h
  refine wpA_region ?_
  refine wpL_op rfl rfl rfl (OpA.iixV (enc := encPst) rfl ts23 rfl rfl rfl q1 ?_)
  refine wpL_op rfl rfl rfl (OpA.iload_whole rfl ti46 rfl ⟨_, rfl, rfl⟩ ?_)
  refine wpL_op rfl rfl rfl (OpA.alloc (sz := 3) (d := encPst (Pst.mk 0 0 0)) rfl tz46 (fun _ _ => .agg (.cons (.v _) (.cons (.v _) (.cons (.v _) .nil)))) (.of rfl) (fun c6 _ => ?_))
  refine wpL_eff rfl rfl (OpA.storeW rfl ti46 rfl (by with_reducible conv => lhs; whnf) (.of rfl) rfl rfl .head ?_)
  refine wpL_nil ?_
  refine wpA_seq ?_
  refine wpA_region ?_
  refine wpL_op rfl rfl rfl (OpA.fieldAddr rfl tf46_0 rfl ?_)
  refine wpL_op rfl rfl rfl (OpA.load rfl ti3 rfl .head rfl rfl ?_)
  refine wpL_op rfl rfl rfl (OpA.mv rfl (by with_reducible conv => lhs; whnf) ?_)
  refine wpL_op rfl rfl rfl (OpA.eql rfl rfl rfl ?_)
  refine wpL_nil ?_
  refine wpA_cond rfl (fun b7 => ?_) (fun b7 => ?_)
  have h := h.1 (beqT b7)
  obtain ⟨q1, h⟩ := h
  refine wpA_region ?_
  refine wpL_op rfl rfl rfl (OpA.mv rfl (by with_reducible conv => lhs; whnf) ?_)
  refine wpL_op rfl rfl rfl (OpA.load_whole rfl ti46 rfl rfl .head rfl ⟨_, rfl⟩ ?_)
  refine wpL_op rfl rfl rfl (OpA.ibuildSliceO rfl ts23 rfl (.cons (.of (sz := 3) rfl) .nil) (by decide) ?_)
  refine wpL_op rfl rfl rfl (OpA.appendW (enc := encPst) rfl rfl rfl rfl ts23 rfl (fun _ _ => (.tail .head)) (.list (ys := ([(gi c.posts x)] : List Pst))) q1 (fun c8 pre9 => ?_))
  refine wpL_op rfl rfl rfl (OpA.asn rfl (by with_reducible conv => lhs; whnf) ?_)
  refine wpL_nil ?_
  obtain ⟨q1, h⟩ := h
  refine wpA_region ?_
  refine wpL_op rfl rfl rfl (OpA.addi rfl rfl rfl q1 ?_)
  refine wpL_op rfl rfl rfl (OpA.mv rfl (by with_reducible conv => lhs; whnf) ?_)
  refine wpL_nil ?_
  exact ⟨(c8, pre9, ([] : List D)), ((out ++ ([(gi c.posts x)] : List Pst)), (x + 1)), h, (Cov.asg ⟨rfl, rfl, rfl, rfl, rfl, rfl, trivial⟩), (.cons _ (.refl _))⟩
  have h := h.2 (beqF b7)
  refine wpA_skip ?_
  obtain ⟨q1, h⟩ := h
  refine wpA_region ?_
  refine wpL_op rfl rfl rfl (OpA.addi rfl rfl rfl q1 ?_)
  refine wpL_op rfl rfl rfl (OpA.mv rfl (by with_reducible conv => lhs; whnf) ?_)
  refine wpL_nil ?_
  exact ⟨(cb5, pre5, post5), (out, (x + 1)), h, (Cov.asg ⟨rfl, rfl, rfl, rfl, rfl, rfl, trivial⟩), (.cons _ (.refl _))⟩
  have h := h.2 (decF b5)
  refine wpA_exit ?_
  refine wpA_seq ?_
  refine wpA_region ?_
  refine wpL_op rfl rfl rfl (OpA.mv rfl (by with_reducible conv => lhs; whnf) ?_)
  refine wpL_op rfl rfl rfl (OpA.asn rfl (by with_reducible conv => lhs; whnf) ?_)
  refine wpL_nil ?_
  refine wpA_ret ?_
  exact ⟨_, (.tmp (d := .own cb5 3 pre5.length out.length) rfl .nil), _, (.win .head (by intro hf; cases hf) .nil), ⟨out, rfl, h⟩⟩
theorem cfindp_c (c : Corpus) (hash : Int)  (hp0 : okC c) : Fun false Tryz.prog 24 [encCorpus c, D.i hash] (fun d => d = (encL 3 encPst) (findP c hash)) :=
  Fun.at (enc := fun r => (encL 3 encPst) r) (v := findP c hash) (cfindp_w c hash  (fun r => r = findP c hash) (cfindp_ok c hash _ hp0 rfl))

set_option maxHeartbeats 2000000 in
set_option maxRecDepth 10000 in
theorem c26find_w (c : Corpus) (hash : Int)  (Q : (List Pst) → Prop) (h : c26find_vc c hash Q) : Fun false Tryz.prog 25 [encCorpus c, D.i hash] (fun d => ∃ r, d = (encL 3 encPst) r ∧ Q r) := by
  unfold c26find_vc at h
  refine Fun.of_body Tryz.func25 rfl Tryz.ntmps25 rfl ?_
  refine wpA_seq ?_
  refine wpA_region ?_
  refine wpL_op rfl rfl rfl (OpA.bx (sz := 4) rfl (by with_reducible conv => lhs; whnf) (.of rfl) (fun c1 _ => ?_))
  refine wpL_op rfl rfl rfl (OpA.asn rfl (by with_reducible conv => lhs; whnf) ?_)
  refine wpL_nil ?_
  refine wpA_seq ?_
  refine wpA_region ?_
  refine wpL_op rfl rfl rfl (OpA.buildSliceV (enc := encPst) (xs := ([] : List Pst)) rfl ts23 rfl .nil (by decide) rfl (fun c2 => ?_))
  refine wpL_op rfl rfl rfl (OpA.asn rfl (by with_reducible conv => lhs; whnf) ?_)
  refine wpL_nil ?_
  iterate 2 refine wpA_seq ?_
  obtain ⟨q1, h⟩ := h
  refine wpA_region ?_
  refine wpL_op rfl rfl rfl (OpA.load_whole rfl ti25 rfl rfl (.tail .head) rfl ⟨_, rfl⟩ ?_)
  refine wpL_op rfl rfl rfl (OpA.call rfl rfl rfl en14 (c26check_c c q1) ?_)
  rintro _ rfl
  refine wpL_op rfl rfl rfl (OpA.neq rfl rfl rfl ?_)
  refine wpL_nil ?_
  refine wpA_cond rfl (fun b3 => ?_) (fun b3 => ?_)
  have h := h.1 (bneT b3)
  refine wpA_seq ?_
  refine wpA_region ?_
  refine wpL_op rfl rfl rfl (OpA.mv rfl (by with_reducible conv => lhs; whnf) ?_)
  refine wpL_op rfl rfl rfl (OpA.asn rfl (by with_reducible conv => lhs; whnf) ?_)
  refine wpL_nil ?_
  refine wpA_ret ?_
  exact ⟨_, (.tmp (d := .own c2 3 ([] : List D).length ([] : List Pst).length) rfl .nil), _, (.win .head (by intro hf; cases hf) .nil), ⟨([] : List Pst), rfl, h⟩⟩
  have h := h.2 (bneF b3)
  refine wpA_skip ?_
  iterate 2 refine wpA_seq ?_
  refine wpA_region ?_
  refine wpL_op rfl rfl rfl (OpA.asn rfl (by with_reducible conv => lhs; whnf) ?_)
  refine wpL_nil ?_
  refine wpA_block ?_
  refine wpA_lfp (S := (List Pst) × Int) (G := Nat × List D × List D) (c2, ([] : List D), ([] : List D)) (fun gg ss => asg [(1, D.i hash), (2, .ptr c1 4 0 0), (4, .v (.slice none 0 0)), (5, .own gg.1 3 gg.2.1.length ss.1.length), (6, D.i ss.2)]) (fun gg ss => [(gg.1, .cells 3 (winL encPst gg.2.1 ss.1 gg.2.2)), (c1, .cells 4 [encCorpus c])]) h (Cov.asg ⟨rfl, rfl, rfl, rfl, rfl, trivial⟩) (.refl _) ?_
  rintro again4 ⟨cb7, pre7, post7⟩ ⟨out, i⟩ h
  have h : c26find_L1 c hash Q again4 out i := h
  unfold c26find_L1 at h
  show wpA _ _ _ _ (asg [(1, D.i hash), (2, .ptr c1 4 0 0), (4, .v (.slice none 0 0)), (5, .own cb7 3 pre7.length out.length), (6, D.i i)]) [(cb7, .cells 3 (winL encPst pre7 out post7)), (c1, .cells 4 [encCorpus c])]
  iterate 2 refine wpA_seq ?_
  refine wpA_region ?_
  refine wpL_op rfl rfl rfl (OpA.mv rfl (by with_reducible conv => lhs; whnf) ?_)
  refine wpL_op rfl rfl rfl (OpA.fieldAddr rfl tf25_3 rfl ?_)
  refine wpL_op rfl rfl rfl (OpA.load rfl ti23 rfl (.tail .head) rfl rfl ?_)
  refine wpL_op rfl rfl rfl (OpA.len rfl rfl rfl rfl ts23.desc (.inl ⟨_, _, rfl, (List.length_map _).symm⟩) ?_)
  refine wpL_op rfl rfl rfl (OpA.lss rfl rfl rfl ?_)
  refine wpL_nil ?_
  refine wpA_cond rfl (fun b5 => ?_) (fun b5 => ?_)
  have h := h.1 (decT b5)
  refine wpA_skip ?_
  refine wpA_seq ?_
  refine wpA_block ?_
  refine wpA_seq ?_
  obtain ⟨q1, h⟩ := h
  refine wpA_region ?_
  refine wpL_op rfl rfl rfl (OpA.fieldAddr rfl tf25_3 rfl ?_)
  refine wpL_op rfl rfl rfl (OpA.load rfl ti23 rfl (.tail .head) rfl rfl ?_)
  refine wpL_op rfl rfl rfl (OpA.mv rfl (by with_reducible conv => lhs; whnf) ?_)
  refine wpL_op rfl rfl rfl (OpA.iixV (enc := encPst) rfl ts23 rfl rfl rfl q1 ?_)
  refine wpL_op rfl rfl rfl (OpA.ifieldAddr rfl tf46_0 rfl ?_)
  refine wpL_op rfl rfl rfl (OpA.iload rfl ti3 rfl rfl ?_)
  refine wpL_op rfl rfl rfl (OpA.mv rfl (by with_reducible conv => lhs; whnf) ?_)
  refine wpL_op rfl rfl rfl (OpA.eql rfl rfl rfl ?_)
  refine wpL_nil ?_
  refine wpA_cond rfl (fun b6 => ?_) (fun b6 => ?_)
  have h := h.1 (beqT b6)
  obtain ⟨q1, q2, h⟩ := h
  refine wpA_region ?_
  refine wpL_op rfl rfl rfl (OpA.mv rfl (by with_reducible conv => lhs; whnf) ?_)
  refine wpL_op rfl rfl rfl (OpA.fieldAddr rfl tf25_3 rfl ?_)
  refine wpL_op rfl rfl rfl (OpA.load rfl ti23 rfl (.tail .head) rfl rfl ?_)
  refine wpL_op rfl rfl rfl (OpA.mv rfl (by with_reducible conv => lhs; whnf) ?_)
  refine wpL_op rfl rfl rfl (OpA.iixV (enc := encPst) rfl ts23 rfl rfl rfl q1 ?_)
  refine wpL_op rfl rfl rfl (OpA.iload_whole rfl ti46 rfl ⟨_, rfl, rfl⟩ ?_)
  refine wpL_op rfl rfl rfl (OpA.ibuildSliceO rfl ts23 rfl (.cons (.of (sz := 3) rfl) .nil) (by decide) ?_)
  refine wpL_op rfl rfl rfl (OpA.appendW (enc := encPst) rfl rfl rfl rfl ts23 rfl (fun _ _ => .head) (.list (ys := ([(gi c.posts i)] : List Pst))) q2 (fun c7 pre8 => ?_))
  refine wpL_op rfl rfl rfl (OpA.asn rfl (by with_reducible conv => lhs; whnf) ?_)
  refine wpL_nil ?_
  obtain ⟨q1, h⟩ := h
  refine wpA_region ?_
  refine wpL_op rfl rfl rfl (OpA.mv rfl (by with_reducible conv => lhs; whnf) ?_)
  refine wpL_op rfl rfl rfl (OpA.addi rfl rfl rfl q1 ?_)
  refine wpL_op rfl rfl rfl (OpA.asn rfl (by with_reducible conv => lhs; whnf) ?_)
  refine wpL_nil ?_
  exact ⟨(c7, pre8, ([] : List D)), ((out ++ ([(gi c.posts i)] : List Pst)), (i + 1)), h, (Cov.asg ⟨rfl, rfl, rfl, rfl, rfl, trivial⟩), (.refl _)⟩
  have h := h.2 (beqF b6)
  refine wpA_skip ?_
  obtain ⟨q1, h⟩ := h
  refine wpA_region ?_
  refine wpL_op rfl rfl rfl (OpA.mv rfl (by with_reducible conv => lhs; whnf) ?_)
  refine wpL_op rfl rfl rfl (OpA.addi rfl rfl rfl q1 ?_)
  refine wpL_op rfl rfl rfl (OpA.asn rfl (by with_reducible conv => lhs; whnf) ?_)
  refine wpL_nil ?_
  exact ⟨(cb7, pre7, post7), (out, (i + 1)), h, (Cov.asg ⟨rfl, rfl, rfl, rfl, rfl, trivial⟩), (.refl _)⟩
  have h := h.2 (decF b5)
  refine wpA_exit ?_
  refine wpA_seq ?_
  refine wpA_region ?_
  refine wpL_op rfl rfl rfl (OpA.mv rfl (by with_reducible conv => lhs; whnf) ?_)
  refine wpL_op rfl rfl rfl (OpA.asn rfl (by with_reducible conv => lhs; whnf) ?_)
  refine wpL_nil ?_
  refine wpA_ret ?_
  exact ⟨_, (.tmp (d := .own cb7 3 pre7.length out.length) rfl .nil), _, (.win .head (by intro hf; cases hf) .nil), ⟨out, rfl, h⟩⟩
theorem c26find_c (c : Corpus) (hash : Int)  (hp0 : okC c) : Fun false Tryz.prog 25 [encCorpus c, D.i hash] (fun d => d = (encL 3 encPst) (findP c hash)) :=
  Fun.at (enc := fun r => (encL 3 encPst) r) (v := findP c hash) (c26find_w c hash  (fun r => r = findP c hash) (c26find_ok c hash _ hp0 rfl))

set_option maxHeartbeats 2000000 in
set_option maxRecDepth 10000 in
theorem n23same_w (a : Text) (b : Text)  (Q : Bool → Prop) (h : n23same_vc a b Q) : Fun false Tryz.prog 49 [encText a, encText b] (fun d => ∃ r, d = D.b r ∧ Q r) := by
  unfold n23same_vc at h
  refine Fun.of_body Tryz.func49 rfl Tryz.ntmps49 rfl ?_
  refine wpA_seq ?_
  refine wpA_region ?_
  refine wpL_op rfl rfl rfl (OpA.bx (sz := 2) rfl (by with_reducible conv => lhs; whnf) (.of rfl) (fun c1 _ => ?_))
  refine wpL_op rfl rfl rfl (OpA.bx (sz := 2) rfl (by with_reducible conv => lhs; whnf) (.of rfl) (fun c2 _ => ?_))
  refine wpL_op rfl rfl rfl (OpA.asn rfl (by with_reducible conv => lhs; whnf) ?_)
  refine wpL_nil ?_
  iterate 2 refine wpA_seq ?_
  refine wpA_mid (asg [(2, .ptr c1 2 0 0), (3, .ptr c2 2 0 0), (4, D.b false), (19, D.b ((!decide (a.path = b.path)) || ((a.words.length : Int) != (b.words.length : Int))))]) [(c2, .cells 2 [encText b]), (c1, .cells 2 [encText a])] ?_ ?_
  refine wpA_region ?_
  refine wpL_op rfl rfl rfl (OpA.fieldAddr rfl tf36_0 rfl ?_)
  refine wpL_op rfl rfl rfl (OpA.load rfl ti9 rfl (.tail .head) rfl rfl ?_)
  refine wpL_op rfl rfl rfl (OpA.fieldAddr rfl tf36_0 rfl ?_)
  refine wpL_op rfl rfl rfl (OpA.load rfl ti9 rfl .head rfl rfl ?_)
  refine wpL_op rfl rfl rfl (OpA.sneq rfl rfl rfl ?_)
  refine wpL_op rfl rfl rfl (OpA.mv rfl (by with_reducible conv => lhs; whnf) ?_)
  refine wpL_split (s := 11) rfl (fun b7 => ?_) (fun b7 => ?_)
  iterate 7 refine wpL_skip rfl rfl rfl rfl rfl rfl ?_
  refine wpL_op rfl rfl rfl (OpA.pck rfl rfl (by with_reducible conv => lhs; whnf) ?_)
  refine wpL_nil ?_
  exact ⟨(Cov.asg ⟨rfl, rfl, rfl, (congrArg D.b (Eq.symm (orS b7))), trivial⟩), (.refl _)⟩
  refine wpL_opg rfl rfl rfl rfl rfl rfl (OpA.fieldAddr rfl tf36_1 rfl ?_)
  refine wpL_opg rfl rfl rfl rfl rfl rfl (OpA.load rfl ti34 rfl (.tail .head) rfl rfl ?_)
  refine wpL_opg rfl rfl rfl rfl rfl rfl (OpA.len rfl rfl rfl rfl ts34.desc (.inl ⟨_, _, rfl, (List.length_map _).symm⟩) ?_)
  refine wpL_opg rfl rfl rfl rfl rfl rfl (OpA.fieldAddr rfl tf36_1 rfl ?_)
  refine wpL_opg rfl rfl rfl rfl rfl rfl (OpA.load rfl ti34 rfl .head rfl rfl ?_)
  refine wpL_opg rfl rfl rfl rfl rfl rfl (OpA.len rfl rfl rfl rfl ts34.desc (.inl ⟨_, _, rfl, (List.length_map _).symm⟩) ?_)
  refine wpL_opg rfl rfl rfl rfl rfl rfl (OpA.neq rfl rfl rfl ?_)
  refine wpL_op rfl rfl rfl (OpA.pck rfl rfl (by with_reducible conv => lhs; whnf) ?_)
  refine wpL_nil ?_
  exact ⟨(Cov.asg ⟨rfl, rfl, rfl, (congrArg D.b (Eq.symm (orN b7 rfl))), trivial⟩), (.refl _)⟩
  show wpA _ _ _ _ (asg [(2, .ptr c1 2 0 0), (3, .ptr c2 2 0 0), (4, D.b false), (19, D.b ((!decide (a.path = b.path)) || ((a.words.length : Int) != (b.words.length : Int))))]) [(c2, .cells 2 [encText b]), (c1, .cells 2 [encText a])]
  refine wpA_cond rfl (fun b3 => ?_) (fun b3 => ?_)
  have h := h.1 ((or0 b3).imp (fun hh => (ndecT hh)) (fun hh => (bneT hh)))
  refine wpA_seq ?_
  refine wpA_region ?_
  refine wpL_op rfl rfl rfl (OpA.asn rfl (by with_reducible conv => lhs; whnf) ?_)
  refine wpL_nil ?_
  refine wpA_ret ?_
  exact ⟨_, (.tmp (d := D.b false) rfl .nil), _, (.same rfl .nil), ⟨false, rfl, h⟩⟩
  have h := h.2 ⟨(ndecF (or1 b3)), (bneF (or2 b3))⟩
  refine wpA_skip ?_
  iterate 2 refine wpA_seq ?_
  refine wpA_region ?_
  refine wpL_op rfl rfl rfl (OpA.asn rfl (by with_reducible conv => lhs; whnf) ?_)
  refine wpL_nil ?_
  refine wpA_block ?_
  refine wpA_lfp (S := Int) (G := Unit) () (fun gg ss => asg [(2, .ptr c1 2 0 0), (3, .ptr c2 2 0 0), (4, D.b false), (5, D.i ss)]) (fun gg ss => [(c2, .cells 2 [encText b]), (c1, .cells 2 [encText a])]) h (Cov.asg ⟨rfl, rfl, rfl, rfl, trivial⟩) (.refl _) ?_
  rintro again4 _ i h
  have h : n23same_L1 a b Q again4 i := h
  unfold n23same_L1 at h
  show wpA _ _ _ _ (asg [(2, .ptr c1 2 0 0), (3, .ptr c2 2 0 0), (4, D.b false), (5, D.i i)]) [(c2, .cells 2 [encText b]), (c1, .cells 2 [encText a])]
  iterate 2 refine wpA_seq ?_
  refine wpA_region ?_
  refine wpL_op rfl rfl rfl (OpA.mv rfl (by with_reducible conv => lhs; whnf) ?_)
  refine wpL_op rfl rfl rfl (OpA.fieldAddr rfl tf36_1 rfl ?_)
  refine wpL_op rfl rfl rfl (OpA.load rfl ti34 rfl (.tail .head) rfl rfl ?_)
  refine wpL_op rfl rfl rfl (OpA.len rfl rfl rfl rfl ts34.desc (.inl ⟨_, _, rfl, (List.length_map _).symm⟩) ?_)
  refine wpL_op rfl rfl rfl (OpA.lss rfl rfl rfl ?_)
  refine wpL_nil ?_
  refine wpA_cond rfl (fun b5 => ?_) (fun b5 => ?_)
  have h := h.1 (decT b5)
  refine wpA_skip ?_
  refine wpA_seq ?_
  refine wpA_block ?_
  refine wpA_seq ?_
  obtain ⟨q1, q2, h⟩ := h
  refine wpA_draw (m := 11) mo (by kernel_rfl) rfl ?_
  refine DetK.op rfl (OpA.fieldAddr rfl tf36_1 rfl ⟨rfl, rfl⟩) ?_
  refine DetK.op rfl (OpA.load rfl ti34 rfl (.tail .head) rfl rfl ⟨rfl, rfl⟩) ?_
  refine DetK.op rfl (OpA.mv rfl (by with_reducible conv => lhs; whnf) ⟨rfl, rfl⟩) ?_
  refine DetK.op rfl (OpA.iixV (enc := encLex) rfl ts34 rfl rfl rfl q1 ⟨rfl, rfl⟩) ?_
  refine DetK.op rfl (OpA.iload_whole rfl ti72 rfl ⟨_, rfl, rfl⟩ ⟨rfl, rfl⟩) ?_
  refine DetK.op rfl (OpA.fieldAddr rfl tf36_1 rfl ⟨rfl, rfl⟩) ?_
  refine DetK.op rfl (OpA.load rfl ti34 rfl .head rfl rfl ⟨rfl, rfl⟩) ?_
  refine DetK.op rfl (OpA.mv rfl (by with_reducible conv => lhs; whnf) ⟨rfl, rfl⟩) ?_
  refine DetK.op rfl (OpA.iixV (enc := encLex) rfl ts34 rfl rfl rfl q2 ⟨rfl, rfl⟩) ?_
  refine DetK.op rfl (OpA.iload_whole rfl ti72 rfl ⟨_, rfl, rfl⟩ ⟨rfl, rfl⟩) ?_
  refine DetK.op rfl (OpA.structcmp (xs := [.string ((gi a.words i).text), .int .i64 ((gi a.words i).line)]) (ys := [.string ((gi b.words i).text), .int .i64 ((gi b.words i).line)]) (r := (eqLexeme (gi a.words i) (gi b.words i))) rfl eg72 su72.1 su72.2.1 su72.2.2 rfl rfl (.str td9 ti9 rfl rfl (.int td3 ti3 rfl rfl .nil)) (.inr ⟨rfl, rfl⟩) ⟨rfl, rfl⟩) ?_
  refine DetK.nil ?_
  refine wpL_nil ?_
  refine wpA_cond rfl (fun b6 => ?_) (fun b6 => ?_)
  have h := h.1 (notT b6)
  refine wpA_seq ?_
  refine wpA_region ?_
  refine wpL_op rfl rfl rfl (OpA.asn rfl (by with_reducible conv => lhs; whnf) ?_)
  refine wpL_nil ?_
  refine wpA_ret ?_
  exact ⟨_, (.tmp (d := D.b false) rfl .nil), _, (.same rfl .nil), ⟨false, rfl, h⟩⟩
  have h := h.2 (notF b6)
  refine wpA_skip ?_
  obtain ⟨q1, h⟩ := h
  refine wpA_region ?_
  refine wpL_op rfl rfl rfl (OpA.mv rfl (by with_reducible conv => lhs; whnf) ?_)
  refine wpL_op rfl rfl rfl (OpA.addi rfl rfl rfl q1 ?_)
  refine wpL_op rfl rfl rfl (OpA.asn rfl (by with_reducible conv => lhs; whnf) ?_)
  refine wpL_nil ?_
  exact ⟨(), (i + 1), h, (Cov.asg ⟨rfl, rfl, rfl, rfl, trivial⟩), (.refl _)⟩
  have h := h.2 (decF b5)
  refine wpA_exit ?_
  refine wpA_seq ?_
  refine wpA_region ?_
  refine wpL_op rfl rfl rfl (OpA.asn rfl (by with_reducible conv => lhs; whnf) ?_)
  refine wpL_nil ?_
  refine wpA_ret ?_
  exact ⟨_, (.tmp (d := D.b true) rfl .nil), _, (.same rfl .nil), ⟨true, rfl, h⟩⟩
theorem n23same_c (a : Text) (b : Text)  (hp0 : okT a) : Fun false Tryz.prog 49 [encText a, encText b] (fun d => d = D.b ((decide (a = b)))) :=
  Fun.at (enc := fun r => D.b r) (v := (decide (a = b))) (n23same_w a b  (fun r => r = (decide (a = b))) (n23same_ok a b _ hp0 rfl))

set_option maxHeartbeats 2000000 in
set_option maxRecDepth 10000 in
theorem c26samec_w (a : Corpus) (b : Corpus)  (Q : Bool → Prop) (h : c26samec_vc a b Q) : Fun false Tryz.prog 15 [encCorpus a, encCorpus b] (fun d => ∃ r, d = D.b r ∧ Q r) := by
  unfold c26samec_vc at h
  refine Fun.of_body Tryz.func15 rfl Tryz.ntmps15 rfl ?_
  refine wpA_seq ?_
  refine wpA_region ?_
  refine wpL_op rfl rfl rfl (OpA.bx (sz := 4) rfl (by with_reducible conv => lhs; whnf) (.of rfl) (fun c1 _ => ?_))
  refine wpL_op rfl rfl rfl (OpA.bx (sz := 4) rfl (by with_reducible conv => lhs; whnf) (.of rfl) (fun c2 _ => ?_))
  refine wpL_op rfl rfl rfl (OpA.asn rfl (by with_reducible conv => lhs; whnf) ?_)
  refine wpL_nil ?_
  iterate 2 refine wpA_seq ?_
  obtain ⟨q1, h⟩ := h
  refine wpA_mid (asg [(2, .ptr c1 4 0 0), (3, .ptr c2 4 0 0), (4, D.b false), (34, D.b ((((a.k != b.k) || (a.w != b.w)) || ((a.texts.length : Int) != (b.texts.length : Int))) || (!(decide (a.posts = b.posts)))))]) [(c2, .cells 4 [encCorpus b]), (c1, .cells 4 [encCorpus a])] ?_ ?_
  refine wpA_region ?_
  refine wpL_op rfl rfl rfl (OpA.fieldAddr rfl tf25_0 rfl ?_)
  refine wpL_op rfl rfl rfl (OpA.load rfl ti3 rfl (.tail .head) rfl rfl ?_)
  refine wpL_op rfl rfl rfl (OpA.fieldAddr rfl tf25_0 rfl ?_)
  refine wpL_op rfl rfl rfl (OpA.load rfl ti3 rfl .head rfl rfl ?_)
  refine wpL_op rfl rfl rfl (OpA.neq rfl rfl rfl ?_)
  refine wpL_op rfl rfl rfl (OpA.mv rfl (by with_reducible conv => lhs; whnf) ?_)
  refine wpL_split (s := 11) rfl (fun b7 => ?_) (fun b7 => ?_)
  iterate 5 refine wpL_skip rfl rfl rfl rfl rfl rfl ?_
  refine wpL_op rfl rfl rfl (OpA.pck rfl rfl (by with_reducible conv => lhs; whnf) ?_)
  refine wpL_op rfl rfl rfl (OpA.mv rfl (by with_reducible conv => lhs; whnf) ?_)
  iterate 7 refine wpL_skip rfl rfl rfl rfl rfl rfl ?_
  refine wpL_op rfl rfl rfl (OpA.pck rfl rfl (by with_reducible conv => lhs; whnf) ?_)
  refine wpL_op rfl rfl rfl (OpA.mv rfl (by with_reducible conv => lhs; whnf) ?_)
  iterate 6 refine wpL_skip rfl rfl rfl rfl rfl rfl ?_
  refine wpL_op rfl rfl rfl (OpA.pck rfl rfl (by with_reducible conv => lhs; whnf) ?_)
  refine wpL_nil ?_
  exact ⟨(Cov.asg ⟨rfl, rfl, rfl, (congrArg D.b (Eq.symm (orS (orS (orS b7))))), trivial⟩), (.refl _)⟩
  refine wpL_opg rfl rfl rfl rfl rfl rfl (OpA.fieldAddr rfl tf25_1 rfl ?_)
  refine wpL_opg rfl rfl rfl rfl rfl rfl (OpA.load rfl ti3 rfl (.tail .head) rfl rfl ?_)
  refine wpL_opg rfl rfl rfl rfl rfl rfl (OpA.fieldAddr rfl tf25_1 rfl ?_)
  refine wpL_opg rfl rfl rfl rfl rfl rfl (OpA.load rfl ti3 rfl .head rfl rfl ?_)
  refine wpL_opg rfl rfl rfl rfl rfl rfl (OpA.neq rfl rfl rfl ?_)
  refine wpL_op rfl rfl rfl (OpA.pck rfl rfl (by with_reducible conv => lhs; whnf) ?_)
  refine wpL_op rfl rfl rfl (OpA.mv rfl (by with_reducible conv => lhs; whnf) ?_)
  refine wpL_split (s := 18) rfl (fun b8 => ?_) (fun b8 => ?_)
  iterate 7 refine wpL_skip rfl rfl rfl rfl rfl rfl ?_
  refine wpL_op rfl rfl rfl (OpA.pck rfl rfl (by with_reducible conv => lhs; whnf) ?_)
  refine wpL_op rfl rfl rfl (OpA.mv rfl (by with_reducible conv => lhs; whnf) ?_)
  iterate 6 refine wpL_skip rfl rfl rfl rfl rfl rfl ?_
  refine wpL_op rfl rfl rfl (OpA.pck rfl rfl (by with_reducible conv => lhs; whnf) ?_)
  refine wpL_nil ?_
  exact ⟨(Cov.asg ⟨rfl, rfl, rfl, (congrArg D.b (Eq.symm (orS (orS (orN b7 b8))))), trivial⟩), (.refl _)⟩
  refine wpL_opg rfl rfl rfl rfl rfl rfl (OpA.fieldAddr rfl tf25_2 rfl ?_)
  refine wpL_opg rfl rfl rfl rfl rfl rfl (OpA.load rfl ti22 rfl (.tail .head) rfl rfl ?_)
  refine wpL_opg rfl rfl rfl rfl rfl rfl (OpA.len rfl rfl rfl rfl ts22.desc (.inl ⟨_, _, rfl, (List.length_map _).symm⟩) ?_)
  refine wpL_opg rfl rfl rfl rfl rfl rfl (OpA.fieldAddr rfl tf25_2 rfl ?_)
  refine wpL_opg rfl rfl rfl rfl rfl rfl (OpA.load rfl ti22 rfl .head rfl rfl ?_)
  refine wpL_opg rfl rfl rfl rfl rfl rfl (OpA.len rfl rfl rfl rfl ts22.desc (.inl ⟨_, _, rfl, (List.length_map _).symm⟩) ?_)
  refine wpL_opg rfl rfl rfl rfl rfl rfl (OpA.neq rfl rfl rfl ?_)
  refine wpL_op rfl rfl rfl (OpA.pck rfl rfl (by with_reducible conv => lhs; whnf) ?_)
  refine wpL_op rfl rfl rfl (OpA.mv rfl (by with_reducible conv => lhs; whnf) ?_)
  refine wpL_split (s := 27) rfl (fun b9 => ?_) (fun b9 => ?_)
  iterate 6 refine wpL_skip rfl rfl rfl rfl rfl rfl ?_
  refine wpL_op rfl rfl rfl (OpA.pck rfl rfl (by with_reducible conv => lhs; whnf) ?_)
  refine wpL_nil ?_
  exact ⟨(Cov.asg ⟨rfl, rfl, rfl, (congrArg D.b (Eq.symm (orS (orN (orN b7 b8) b9)))), trivial⟩), (.refl _)⟩
  refine wpL_opg rfl rfl rfl rfl rfl rfl (OpA.fieldAddr rfl tf25_3 rfl ?_)
  refine wpL_opg rfl rfl rfl rfl rfl rfl (OpA.load rfl ti23 rfl (.tail .head) rfl rfl ?_)
  refine wpL_opg rfl rfl rfl rfl rfl rfl (OpA.fieldAddr rfl tf25_3 rfl ?_)
  refine wpL_opg rfl rfl rfl rfl rfl rfl (OpA.load rfl ti23 rfl .head rfl rfl ?_)
  refine wpL_opg rfl rfl rfl rfl rfl rfl (OpA.call rfl rfl rfl en47 (c26same_c a.posts b.posts (q1 ⟨⟨(bneF b7), (bneF b8)⟩, (bneF b9)⟩)) ?_)
  rintro _ rfl
  refine wpL_opg rfl rfl rfl rfl rfl rfl (OpA.not rfl rfl ?_)
  refine wpL_op rfl rfl rfl (OpA.pck rfl rfl (by with_reducible conv => lhs; whnf) ?_)
  refine wpL_nil ?_
  exact ⟨(Cov.asg ⟨rfl, rfl, rfl, (congrArg D.b (Eq.symm (orN (orN (orN b7 b8) b9) rfl))), trivial⟩), (.refl _)⟩
  show wpA _ _ _ _ (asg [(2, .ptr c1 4 0 0), (3, .ptr c2 4 0 0), (4, D.b false), (34, D.b ((((a.k != b.k) || (a.w != b.w)) || ((a.texts.length : Int) != (b.texts.length : Int))) || (!(decide (a.posts = b.posts)))))]) [(c2, .cells 4 [encCorpus b]), (c1, .cells 4 [encCorpus a])]
  refine wpA_cond rfl (fun b3 => ?_) (fun b3 => ?_)
  have h := h.1 ((or0 b3).imp (fun hh => ((or0 hh).imp (fun hh => ((or0 hh).imp (fun hh => (bneT hh)) (fun hh => (bneT hh)))) (fun hh => (bneT hh)))) (fun hh => (notT hh)))
  refine wpA_seq ?_
  refine wpA_region ?_
  refine wpL_op rfl rfl rfl (OpA.asn rfl (by with_reducible conv => lhs; whnf) ?_)
  refine wpL_nil ?_
  refine wpA_ret ?_
  exact ⟨_, (.tmp (d := D.b false) rfl .nil), _, (.same rfl .nil), ⟨false, rfl, h⟩⟩
  have h := h.2 ⟨⟨⟨(bneF (or1 (or1 (or1 b3)))), (bneF (or2 (or1 (or1 b3))))⟩, (bneF (or2 (or1 b3)))⟩, (notF (or2 b3))⟩
  refine wpA_skip ?_
  iterate 2 refine wpA_seq ?_
  refine wpA_region ?_
  refine wpL_op rfl rfl rfl (OpA.asn rfl (by with_reducible conv => lhs; whnf) ?_)
  refine wpL_nil ?_
  refine wpA_block ?_
  refine wpA_lfp (S := Int) (G := Unit) () (fun gg ss => asg [(2, .ptr c1 4 0 0), (3, .ptr c2 4 0 0), (4, D.b false), (5, D.i ss)]) (fun gg ss => [(c2, .cells 4 [encCorpus b]), (c1, .cells 4 [encCorpus a])]) h (Cov.asg ⟨rfl, rfl, rfl, rfl, trivial⟩) (.refl _) ?_
  rintro again4 _ i h
  have h : c26samec_L1 a b Q again4 i := h
  unfold c26samec_L1 at h
  show wpA _ _ _ _ (asg [(2, .ptr c1 4 0 0), (3, .ptr c2 4 0 0), (4, D.b false), (5, D.i i)]) [(c2, .cells 4 [encCorpus b]), (c1, .cells 4 [encCorpus a])]
  iterate 2 refine wpA_seq ?_
  refine wpA_region ?_
  refine wpL_op rfl rfl rfl (OpA.mv rfl (by with_reducible conv => lhs; whnf) ?_)
  refine wpL_op rfl rfl rfl (OpA.fieldAddr rfl tf25_2 rfl ?_)
  refine wpL_op rfl rfl rfl (OpA.load rfl ti22 rfl (.tail .head) rfl rfl ?_)
  refine wpL_op rfl rfl rfl (OpA.len rfl rfl rfl rfl ts22.desc (.inl ⟨_, _, rfl, (List.length_map _).symm⟩) ?_)
  refine wpL_op rfl rfl rfl (OpA.lss rfl rfl rfl ?_)
  refine wpL_nil ?_
  refine wpA_cond rfl (fun b5 => ?_) (fun b5 => ?_)
  have h := h.1 (decT b5)
  refine wpA_skip ?_
  refine wpA_seq ?_
  refine wpA_block ?_
  refine wpA_seq ?_
  obtain ⟨q1, q2, q3, h⟩ := h
  refine wpA_draw (m := 12) mo (by kernel_rfl) rfl ?_
  refine DetK.op rfl (OpA.fieldAddr rfl tf25_2 rfl ⟨rfl, rfl⟩) ?_
  refine DetK.op rfl (OpA.load rfl ti22 rfl (.tail .head) rfl rfl ⟨rfl, rfl⟩) ?_
  refine DetK.op rfl (OpA.mv rfl (by with_reducible conv => lhs; whnf) ⟨rfl, rfl⟩) ?_
  refine DetK.op rfl (OpA.iixV (enc := encText) rfl ts22 rfl rfl rfl q1 ⟨rfl, rfl⟩) ?_
  refine DetK.op rfl (OpA.iload_whole rfl ti36 rfl ⟨_, rfl, rfl⟩ ⟨rfl, rfl⟩) ?_
  refine DetK.op rfl (OpA.fieldAddr rfl tf25_2 rfl ⟨rfl, rfl⟩) ?_
  refine DetK.op rfl (OpA.load rfl ti22 rfl .head rfl rfl ⟨rfl, rfl⟩) ?_
  refine DetK.op rfl (OpA.mv rfl (by with_reducible conv => lhs; whnf) ⟨rfl, rfl⟩) ?_
  refine DetK.op rfl (OpA.iixV (enc := encText) rfl ts22 rfl rfl rfl q2 ⟨rfl, rfl⟩) ?_
  refine DetK.op rfl (OpA.iload_whole rfl ti36 rfl ⟨_, rfl, rfl⟩ ⟨rfl, rfl⟩) ?_
  refine DetK.op rfl (OpA.call rfl rfl rfl en49 (n23same_c (gi a.texts i) (gi b.texts i) q3) (by rintro _ rfl; exact ⟨rfl, rfl⟩)) ?_
  refine DetK.op rfl (OpA.not rfl rfl ⟨rfl, rfl⟩) ?_
  refine DetK.nil ?_
  refine wpL_nil ?_
  refine wpA_cond rfl (fun b6 => ?_) (fun b6 => ?_)
  have h := h.1 (notT b6)
  refine wpA_seq ?_
  refine wpA_region ?_
  refine wpL_op rfl rfl rfl (OpA.asn rfl (by with_reducible conv => lhs; whnf) ?_)
  refine wpL_nil ?_
  refine wpA_ret ?_
  exact ⟨_, (.tmp (d := D.b false) rfl .nil), _, (.same rfl .nil), ⟨false, rfl, h⟩⟩
  have h := h.2 (notF b6)
  refine wpA_skip ?_
  obtain ⟨q1, h⟩ := h
  refine wpA_region ?_
  refine wpL_op rfl rfl rfl (OpA.mv rfl (by with_reducible conv => lhs; whnf) ?_)
  refine wpL_op rfl rfl rfl (OpA.addi rfl rfl rfl q1 ?_)
  refine wpL_op rfl rfl rfl (OpA.asn rfl (by with_reducible conv => lhs; whnf) ?_)
  refine wpL_nil ?_
  exact ⟨(), (i + 1), h, (Cov.asg ⟨rfl, rfl, rfl, rfl, trivial⟩), (.refl _)⟩
  have h := h.2 (decF b5)
  refine wpA_exit ?_
  refine wpA_seq ?_
  refine wpA_region ?_
  refine wpL_op rfl rfl rfl (OpA.asn rfl (by with_reducible conv => lhs; whnf) ?_)
  refine wpL_nil ?_
  refine wpA_ret ?_
  exact ⟨_, (.tmp (d := D.b true) rfl .nil), _, (.same rfl .nil), ⟨true, rfl, h⟩⟩
theorem c26samec_c (a : Corpus) (b : Corpus)  (hp0 : okC a) : Fun false Tryz.prog 15 [encCorpus a, encCorpus b] (fun d => d = D.b ((decide (a = b)))) :=
  Fun.at (enc := fun r => D.b r) (v := (decide (a = b))) (c26samec_w a b  (fun r => r = (decide (a = b))) (c26samec_ok a b _ hp0 rfl))

set_option maxHeartbeats 2000000 in
set_option maxRecDepth 10000 in
theorem c26fewt_w (l : (List Text))  (Q : Bool → Prop) (h : c26fewt_vc l Q) : Fun false Tryz.prog 16 [(encL 2 encText) l] (fun d => ∃ r, d = D.b r ∧ Q r) := by
  unfold c26fewt_vc at h
  refine Fun.of_body Tryz.func16 rfl Tryz.ntmps16 rfl ?_
  refine wpA_seq ?_
  refine wpA_region ?_
  refine wpL_op rfl rfl rfl (OpA.asn rfl (by with_reducible conv => lhs; whnf) ?_)
  refine wpL_nil ?_
  iterate 2 refine wpA_seq ?_
  refine wpA_region ?_
  refine wpL_op rfl rfl rfl (OpA.mv rfl (by with_reducible conv => lhs; whnf) ?_)
  refine wpL_op rfl rfl rfl (OpA.len rfl rfl rfl rfl ts22.desc (.inl ⟨_, _, rfl, (List.length_map _).symm⟩) ?_)
  refine wpL_op rfl rfl rfl (OpA.gtr rfl rfl rfl ?_)
  refine wpL_nil ?_
  refine wpA_cond rfl (fun b1 => ?_) (fun b1 => ?_)
  have h := h.1 (decT b1)
  refine wpA_seq ?_
  refine wpA_region ?_
  refine wpL_op rfl rfl rfl (OpA.asn rfl (by with_reducible conv => lhs; whnf) ?_)
  refine wpL_nil ?_
  refine wpA_ret ?_
  exact ⟨_, (.tmp (d := D.b false) rfl .nil), _, (.same rfl .nil), ⟨false, rfl, h⟩⟩
  have h := h.2 (decF b1)
  refine wpA_skip ?_
  iterate 2 refine wpA_seq ?_
  refine wpA_region ?_
  refine wpL_op rfl rfl rfl (OpA.asn rfl (by with_reducible conv => lhs; whnf) ?_)
  refine wpL_nil ?_
  refine wpA_block ?_
  refine wpA_lfp (S := Int) (G := Unit) () (fun gg ss => asg [(0, (encL 2 encText) l), (2, D.b false), (3, D.i ss)]) (fun gg ss => []) h (Cov.asg ⟨rfl, rfl, rfl, trivial⟩) (.refl _) ?_
  rintro again2 _ i h
  have h : c26fewt_L1 l Q again2 i := h
  unfold c26fewt_L1 at h
  show wpA _ _ _ _ (asg [(0, (encL 2 encText) l), (2, D.b false), (3, D.i i)]) []
  iterate 2 refine wpA_seq ?_
  refine wpA_region ?_
  refine wpL_op rfl rfl rfl (OpA.mv rfl (by with_reducible conv => lhs; whnf) ?_)
  refine wpL_op rfl rfl rfl (OpA.mv rfl (by with_reducible conv => lhs; whnf) ?_)
  refine wpL_op rfl rfl rfl (OpA.len rfl rfl rfl rfl ts22.desc (.inl ⟨_, _, rfl, (List.length_map _).symm⟩) ?_)
  refine wpL_op rfl rfl rfl (OpA.lss rfl rfl rfl ?_)
  refine wpL_nil ?_
  refine wpA_cond rfl (fun b3 => ?_) (fun b3 => ?_)
  have h := h.1 (decT b3)
  refine wpA_skip ?_
  refine wpA_seq ?_
  refine wpA_block ?_
  refine wpA_seq ?_
  obtain ⟨q1, h⟩ := h
  refine wpA_mid (asg [(0, (encL 2 encText) l), (2, D.b false), (3, D.i i), (28, D.b ((!(fewW ((gi l i).words))) || (decide ((((gi l i).path).size : Int) > 200))))]) [] ?_ ?_
  refine wpA_region ?_
  refine wpL_op rfl rfl rfl (OpA.mv rfl (by with_reducible conv => lhs; whnf) ?_)
  refine wpL_op rfl rfl rfl (OpA.mv rfl (by with_reducible conv => lhs; whnf) ?_)
  refine wpL_op rfl rfl rfl (OpA.iixV (enc := encText) rfl ts22 rfl rfl rfl q1 ?_)
  refine wpL_op rfl rfl rfl (OpA.ifieldAddr rfl tf36_1 rfl ?_)
  refine wpL_op rfl rfl rfl (OpA.iload rfl ti34 rfl rfl ?_)
  refine wpL_op rfl rfl rfl (OpA.call rfl rfl rfl en50 (g24few_c ((gi l i).words) ) ?_)
  rintro _ rfl
  refine wpL_op rfl rfl rfl (OpA.not rfl rfl ?_)
  refine wpL_op rfl rfl rfl (OpA.mv rfl (by with_reducible conv => lhs; whnf) ?_)
  refine wpL_split (s := 20) rfl (fun b5 => ?_) (fun b5 => ?_)
  iterate 7 refine wpL_skip rfl rfl rfl rfl rfl rfl ?_
  refine wpL_op rfl rfl rfl (OpA.pck rfl rfl (by with_reducible conv => lhs; whnf) ?_)
  refine wpL_nil ?_
  exact ⟨(Cov.asg ⟨rfl, rfl, rfl, (congrArg D.b (Eq.symm (orS b5))), trivial⟩), (.refl _)⟩
  refine wpL_opg rfl rfl rfl rfl rfl rfl (OpA.mv rfl (by with_reducible conv => lhs; whnf) ?_)
  refine wpL_opg rfl rfl rfl rfl rfl rfl (OpA.mv rfl (by with_reducible conv => lhs; whnf) ?_)
  refine wpL_opg rfl rfl rfl rfl rfl rfl (OpA.iixV (enc := encText) rfl ts22 rfl rfl rfl q1 ?_)
  refine wpL_opg rfl rfl rfl rfl rfl rfl (OpA.ifieldAddr rfl tf36_0 rfl ?_)
  refine wpL_opg rfl rfl rfl rfl rfl rfl (OpA.iload rfl ti9 rfl rfl ?_)
  refine wpL_opg rfl rfl rfl rfl rfl rfl (OpA.slen rfl rfl rfl rfl td9 rfl ?_)
  refine wpL_opg rfl rfl rfl rfl rfl rfl (OpA.gtr rfl rfl rfl ?_)
  refine wpL_op rfl rfl rfl (OpA.pck rfl rfl (by with_reducible conv => lhs; whnf) ?_)
  refine wpL_nil ?_
  exact ⟨(Cov.asg ⟨rfl, rfl, rfl, (congrArg D.b (Eq.symm (orN b5 rfl))), trivial⟩), (.refl _)⟩
  show wpA _ _ _ _ (asg [(0, (encL 2 encText) l), (2, D.b false), (3, D.i i), (28, D.b ((!(fewW ((gi l i).words))) || (decide ((((gi l i).path).size : Int) > 200))))]) []
  refine wpA_cond rfl (fun b4 => ?_) (fun b4 => ?_)
  have h := h.1 ((or0 b4).imp (fun hh => (notT hh)) (fun hh => (decT hh)))
  refine wpA_seq ?_
  refine wpA_region ?_
  refine wpL_op rfl rfl rfl (OpA.asn rfl (by with_reducible conv => lhs; whnf) ?_)
  refine wpL_nil ?_
  refine wpA_ret ?_
  exact ⟨_, (.tmp (d := D.b false) rfl .nil), _, (.same rfl .nil), ⟨false, rfl, h⟩⟩
  have h := h.2 ⟨(notF (or1 b4)), (decF (or2 b4))⟩
  refine wpA_skip ?_
  obtain ⟨q1, h⟩ := h
  refine wpA_region ?_
  refine wpL_op rfl rfl rfl (OpA.mv rfl (by with_reducible conv => lhs; whnf) ?_)
  refine wpL_op rfl rfl rfl (OpA.addi rfl rfl rfl q1 ?_)
  refine wpL_op rfl rfl rfl (OpA.asn rfl (by with_reducible conv => lhs; whnf) ?_)
  refine wpL_nil ?_
  exact ⟨(), (i + 1), h, (Cov.asg ⟨rfl, rfl, rfl, trivial⟩), (.refl _)⟩
  have h := h.2 (decF b3)
  refine wpA_exit ?_
  refine wpA_seq ?_
  refine wpA_region ?_
  refine wpL_op rfl rfl rfl (OpA.asn rfl (by with_reducible conv => lhs; whnf) ?_)
  refine wpL_nil ?_
  refine wpA_ret ?_
  exact ⟨_, (.tmp (d := D.b true) rfl .nil), _, (.same rfl .nil), ⟨true, rfl, h⟩⟩
theorem c26fewt_c (l : (List Text))   : Fun false Tryz.prog 16 [(encL 2 encText) l] (fun d => d = D.b (fewTs l)) :=
  Fun.at (enc := fun r => D.b r) (v := fewTs l) (c26fewt_w l  (fun r => r = fewTs l) (c26fewt_ok l _  rfl))

set_option maxHeartbeats 2000000 in
set_option maxRecDepth 10000 in
theorem c26few_w (c : Corpus)  (Q : Bool → Prop) (h : c26few_vc c Q) : Fun false Tryz.prog 10 [encCorpus c] (fun d => ∃ r, d = D.b r ∧ Q r) := by
  unfold c26few_vc at h
  refine Fun.of_body Tryz.func10 rfl Tryz.ntmps10 rfl ?_
  refine wpA_seq ?_
  refine wpA_region ?_
  refine wpL_op rfl rfl rfl (OpA.bx (sz := 4) rfl (by with_reducible conv => lhs; whnf) (.of rfl) (fun c1 _ => ?_))
  refine wpL_op rfl rfl rfl (OpA.asn rfl (by with_reducible conv => lhs; whnf) ?_)
  refine wpL_nil ?_
  refine wpA_seq ?_
  refine wpA_mid (asg [(2, D.b ((fewTs c.texts) && (decide ((c.posts.length : Int) ≤ 300))))]) [(c1, .cells 4 [encCorpus c])] ?_ ?_
  refine wpA_region ?_
  refine wpL_op rfl rfl rfl (OpA.fieldAddr rfl tf25_2 rfl ?_)
  refine wpL_op rfl rfl rfl (OpA.load rfl ti22 rfl .head rfl rfl ?_)
  refine wpL_op rfl rfl rfl (OpA.call rfl rfl rfl en16 (c26fewt_c c.texts ) ?_)
  rintro _ rfl
  refine wpL_op rfl rfl rfl (OpA.mv rfl (by with_reducible conv => lhs; whnf) ?_)
  refine wpL_split (s := 6) rfl (fun b2 => ?_) (fun b2 => ?_)
  refine wpL_opg rfl rfl rfl rfl rfl rfl (OpA.fieldAddr rfl tf25_3 rfl ?_)
  refine wpL_opg rfl rfl rfl rfl rfl rfl (OpA.load rfl ti23 rfl .head rfl rfl ?_)
  refine wpL_opg rfl rfl rfl rfl rfl rfl (OpA.len rfl rfl rfl rfl ts23.desc (.inl ⟨_, _, rfl, (List.length_map _).symm⟩) ?_)
  refine wpL_opg rfl rfl rfl rfl rfl rfl (OpA.leq rfl rfl rfl ?_)
  refine wpL_op rfl rfl rfl (OpA.pck rfl rfl (by with_reducible conv => lhs; whnf) ?_)
  refine wpL_op rfl rfl rfl (OpA.asn rfl (by with_reducible conv => lhs; whnf) ?_)
  refine wpL_nil ?_
  exact ⟨(Cov.asg ⟨(congrArg D.b (Eq.symm (andN b2 rfl))), trivial⟩), (.refl _)⟩
  iterate 4 refine wpL_skip rfl rfl rfl rfl rfl rfl ?_
  refine wpL_op rfl rfl rfl (OpA.pck rfl rfl (by with_reducible conv => lhs; whnf) ?_)
  refine wpL_op rfl rfl rfl (OpA.asn rfl (by with_reducible conv => lhs; whnf) ?_)
  refine wpL_nil ?_
  exact ⟨(Cov.asg ⟨(congrArg D.b (Eq.symm (andS b2))), trivial⟩), (.refl _)⟩
  show wpA _ _ _ _ (asg [(2, D.b ((fewTs c.texts) && (decide ((c.posts.length : Int) ≤ 300))))]) [(c1, .cells 4 [encCorpus c])]
  refine wpA_ret ?_
  exact ⟨_, (.tmp (d := D.b ((fewTs c.texts) && (decide ((c.posts.length : Int) ≤ 300)))) rfl .nil), _, (.same rfl .nil), ⟨((fewTs c.texts) && (decide ((c.posts.length : Int) ≤ 300))), rfl, h⟩⟩
theorem c26few_c (c : Corpus)   : Fun false Tryz.prog 10 [encCorpus c] (fun d => d = D.b (fewC c)) :=
  Fun.at (enc := fun r => D.b r) (v := fewC c) (c26few_w c  (fun r => r = fewC c) (c26few_ok c _  rfl))
end Go.Proofs.YtkoomieafmjjfaaGreatDoor
