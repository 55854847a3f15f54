/-
  walks and contracts
-/
import Derived.Test.YtkoomieafmjjfaaGreatDoorV8
import Derived.Test.YtkoomieafmjjfaaGreatDoorV13
import Derived.Test.YtkoomieafmjjfaaGreatDoorCi
set_option linter.all false
namespace Go.Proofs.YtkoomieafmjjfaaGreatDoor
open Go Go.Lic Go.Sort Go.Proofs
attribute [local irreducible] addF addP badR blankF checkF cmpB cmpI codeF commonF4 corpusOf countF dropF fewC fewTs fewW findP findT gramsF growTF guarF hashF indexF itoaF leastF lenF mul64F mulP nameR nearC nearF newF orF partF pathB pathF postCmp postLt postsF powF printsF pushF rollF selectF sizeF splitF splitG validT

attribute [local irreducible] sumF


abbrev nprint_e0 (t : Text) (x : Int) (xs1 : (List Int)) := ((((((itoaF ((gi t.words x).line)) ++ (⟨#[58]⟩ : ByteArray))).size : Int), xs1 ++ sbytes ((itoaF ((gi t.words x).line)) ++ (⟨#[58]⟩ : ByteArray))).2)
set_option maxHeartbeats 2000000 in
set_option maxRecDepth 10000 in
theorem nprint_w (t : Text)  (Q : ByteArray × Int → Prop) (h : nprint_vc t Q) : Fun false Tryz.prog 71 [encText t] (fun d => ∃ r, d = .tup [D.s (r.1), D.i (r.2)] ∧ Q r) := by
  unfold nprint_vc at h
  refine Fun.of_body Tryz.func71 rfl Tryz.ntmps71 rfl ?_
  refine wpA_seq ?_
  refine wpA_region ?_
  refine wL (OpA.bx (sz := 2) rfl (by with_reducible conv => lhs; whnf) (.of rfl) (fun c1 _ => ?_))
  iterate 2 refine wL (OpA.a ?_)
  refine wpL_nil ?_
  iterate 2 refine wpA_seq ?_
  obtain ⟨q1, h⟩ := h
  refine wpA_region ?_
  refine wL (OpA.load_whole rfl ti36 rfl rfl .head rfl ⟨_, rfl⟩ ?_)
  refine wL (OpA.call rfl rfl rfl en27 (nvalid_c t q1) ?_)
  rintro _ rfl
  refine wL (OpA.not rfl rfl ?_)
  refine wpL_nil ?_
  refine wpA_cond rfl (fun b2 => ?_) (fun b2 => ?_)
  have h := h.1 (notT b2)
  refine wpA_seq ?_
  refine wpA_region ?_
  iterate 2 refine wL (OpA.a ?_)
  refine wpL_nil ?_
  refine wpA_ret ?_
  exact ⟨_, (.tmp (d := D.s (⟨#[]⟩ : ByteArray)) rfl (.tmp (d := D.i 1) rfl .nil)), _, (.tup (.same rfl (.same rfl .nil)) .nil), ⟨((⟨#[]⟩ : ByteArray), 1), rfl, h⟩⟩
  have h := h.2 (notF b2)
  refine wpA_skip ?_
  refine wpA_seq ?_
  refine wpA_region ?_
  refine wL (OpA.allocB (e := 5) rfl tz98 (fun c3 c4 => ?_))
  refine wpL_nil ?_
  iterate 2 refine wpA_seq ?_
  refine wpA_region ?_
  refine wL (OpA.fieldAddr rfl tf36_1 rfl ?_)
  refine wL (OpA.load rfl ti34 rfl (.tail (.tail .head)) rfl rfl ?_)
  refine wL (OpA.len rfl rfl rfl rfl ts34.desc (.inl ⟨_, _, rfl, (List.length_map _).symm⟩) ?_)
  refine wL (OpA.m ?_)
  refine wpL_nil ?_
  refine wpA_block ?_
  refine wpA_lfp (S := (List Int) × Int) (G := Bool × Nat × List D) (false, c4, ([] : List D)) (fun gg ss => asg [(1, .ptr c1 2 0 0), (2, D.s (⟨#[]⟩ : ByteArray)), (3, D.i 0), (4, .ptr c3 2 0 0), (11, (encL 2 encLex) t.words), (12, D.i (t.words.length : Int)), (13, D.i ss.2)]) (fun gg ss => [(c3, .cells 2 [bldD 98 5 c3 gg.1 gg.2.1 ss.1]), (gg.2.1, .cells 1 (winL (D.k .u8) ([] : List D) ss.1 gg.2.2)), (c1, .cells 2 [encText t])]) h (Cov.asg ⟨rfl, rfl, rfl, rfl, rfl, rfl, rfl, trivial⟩) (.refl _) ?_
  rintro again5 ⟨u, cb4b, post4b⟩ ⟨xs, x⟩ h
  have h : nprint_L1 t Q again5 xs x := h
  unfold nprint_L1 at h
  show wpA _ _ _ _ (asg [(1, .ptr c1 2 0 0), (2, D.s (⟨#[]⟩ : ByteArray)), (3, D.i 0), (4, .ptr c3 2 0 0), (11, (encL 2 encLex) t.words), (12, D.i (t.words.length : Int)), (13, D.i x)]) [(c3, .cells 2 [bldD 98 5 c3 u cb4b xs]), (cb4b, .cells 1 (winL (D.k .u8) ([] : List D) xs post4b)), (c1, .cells 2 [encText t])]
  refine wpA_seq ?_
  refine wpA_region ?_
  refine wL (OpA.lss rfl rfl rfl ?_)
  refine wpL_nil ?_
  refine wpA_seq ?_
  refine wpA_cond rfl (fun b6 => ?_) (fun b6 => ?_)
  have h := h.1 (decT b6)
  refine wpA_skip ?_
  refine wpA_seq ?_
  refine wpA_block ?_
  refine wpA_seq ?_
  obtain ⟨q1, h⟩ := h
  refine wpA_region ?_
  refine wL (OpA.m ?_)
  refine wL (OpA.iixV (enc := encLex) rfl ts34 rfl rfl rfl q1 ?_)
  refine wL (OpA.iload_whole rfl ti72 rfl ⟨_, rfl, rfl⟩ ?_)
  refine wL (OpA.alloc (sz := 2) (d := encLex (Lexeme.mk ByteArray.empty 0)) rfl tz72 (fun _ _ => .agg (.cons (.v _) (.cons (.v _) .nil))) (.of rfl) (fun c7 _ => ?_))
  refine wL (OpA.a ?_)
  refine wE (OpA.storeW rfl ti72 rfl (by with_reducible conv => lhs; whnf) (.of rfl) rfl rfl .head ?_)
  refine wpL_nil ?_
  iterate 2 refine wpA_seq ?_
  obtain ⟨q1, h⟩ := h
  refine wpA_mid (asg [(1, .ptr c1 2 0 0), (2, D.s (⟨#[]⟩ : ByteArray)), (3, D.i 0), (4, .ptr c3 2 0 0), (5, D.i x), (6, .ptr c7 2 0 0), (11, (encL 2 encLex) t.words), (12, D.i (t.words.length : Int)), (13, D.i x), (31, D.b ((x == 0) || (((gi t.words x).line) != ((gi t.words (x - 1)).line))))]) [(c7, .cells 2 [encLex (gi t.words x)]), (c3, .cells 2 [bldD 98 5 c3 u cb4b xs]), (cb4b, .cells 1 (winL (D.k .u8) ([] : List D) xs post4b)), (c1, .cells 2 [encText t])] ?_ ?_
  refine wpA_draw (m := 14) mo (by kernel_rfl) rfl ?_
  refine dL (OpA.m ⟨rfl, rfl⟩) ?_
  refine dL (OpA.eql rfl rfl rfl ⟨rfl, rfl⟩) ?_
  refine dL (OpA.m ⟨rfl, rfl⟩) ?_
  refine DetK_split (s := 20) rfl (fun b22 => ?_) (fun b22 => ?_)
  iterate 10 refine dS ?_
  refine dL (OpA.p ⟨rfl, rfl⟩) ?_
  refine DetK.nil ?_
  refine wpL_nil ?_
  exact ⟨(Cov.asg ⟨rfl, rfl, rfl, rfl, rfl, rfl, rfl, rfl, rfl, (congrArg D.b (Eq.symm (orS b22))), trivial⟩), (.refl _)⟩
  refine dG (OpA.fieldAddr rfl tf72_1 rfl ⟨rfl, rfl⟩) ?_
  refine dG (OpA.load rfl ti3 rfl .head rfl rfl ⟨rfl, rfl⟩) ?_
  refine dG (OpA.fieldAddr rfl tf36_1 rfl ⟨rfl, rfl⟩) ?_
  refine dG (OpA.load rfl ti34 rfl (.tail (.tail (.tail .head))) rfl rfl ⟨rfl, rfl⟩) ?_
  refine dG (OpA.m ⟨rfl, rfl⟩) ?_
  refine dG (OpA.subi rfl rfl rfl (q1 (beqF b22)).1 ⟨rfl, rfl⟩) ?_
  refine dG (OpA.iixV (enc := encLex) rfl ts34 rfl rfl rfl (q1 (beqF b22)).2 ⟨rfl, rfl⟩) ?_
  refine dG (OpA.ifieldAddr rfl tf72_1 rfl ⟨rfl, rfl⟩) ?_
  refine dG (OpA.iload rfl ti3 rfl rfl ⟨rfl, rfl⟩) ?_
  refine dG (OpA.neq rfl rfl rfl ⟨rfl, rfl⟩) ?_
  refine dL (OpA.p ⟨rfl, rfl⟩) ?_
  refine DetK.nil ?_
  refine wpL_nil ?_
  exact ⟨(Cov.asg ⟨rfl, rfl, rfl, rfl, rfl, rfl, rfl, rfl, rfl, (congrArg D.b (Eq.symm (orN b22 rfl))), trivial⟩), (.refl _)⟩
  show wpA _ _ _ _ (asg [(1, .ptr c1 2 0 0), (2, D.s (⟨#[]⟩ : ByteArray)), (3, D.i 0), (4, .ptr c3 2 0 0), (5, D.i x), (6, .ptr c7 2 0 0), (11, (encL 2 encLex) t.words), (12, D.i (t.words.length : Int)), (13, D.i x), (31, D.b ((x == 0) || (((gi t.words x).line) != ((gi t.words (x - 1)).line))))]) [(c7, .cells 2 [encLex (gi t.words x)]), (c3, .cells 2 [bldD 98 5 c3 u cb4b xs]), (cb4b, .cells 1 (winL (D.k .u8) ([] : List D) xs post4b)), (c1, .cells 2 [encText t])]
  refine wpA_cond rfl (fun b8 => ?_) (fun b8 => ?_)
  have h := h.1 ((or0 b8).imp (fun hh => (beqT hh)) (fun hh => (bneT hh)))
  iterate 2 refine wpA_seq ?_
  refine wpA_region ?_
  refine wL (OpA.m ?_)
  refine wL (OpA.gtr rfl rfl rfl ?_)
  refine wpL_nil ?_
  refine wpA_join (S := (List Int)) (G := Bool × Nat × List D) (fun gg ss => asg [(1, .ptr c1 2 0 0), (2, D.s (⟨#[]⟩ : ByteArray)), (3, D.i 0), (4, .ptr c3 2 0 0), (6, .ptr c7 2 0 0), (11, (encL 2 encLex) t.words), (12, D.i (t.words.length : Int)), (13, D.i x)]) (fun gg ss => [(c7, .cells 2 [encLex (gi t.words x)]), (c3, .cells 2 [bldD 98 5 c3 gg.1 gg.2.1 ss]), (gg.2.1, .cells 1 (winL (D.k .u8) ([] : List D) ss gg.2.2)), (c1, .cells 2 [encText t])]) (fun ss => nprint_J1 t x again5 ss) ?_ ?_
  refine wpA_cond rfl (fun b15 => ?_) (fun b15 => ?_)
  have h := h.1 (decT b15)
  obtain ⟨q1, h⟩ := h
  refine wpA_region ?_
  refine wL (OpA.callH rfl rfl rfl en101 (h1 := [(c3, .cells 2 [bldD 98 5 c3 u cb4b xs]), (cb4b, .cells 1 (winL (D.k .u8) ([] : List D) xs post4b))]) (h2 := [(c7, .cells 2 [encLex (gi t.words x)]), (c1, .cells 2 [encText t])]) (pull1.trans (.cons _ pull1)) (bldWB_c xs c3 u cb4b post4b 10 q1) ?_)
  rintro _ _ ⟨⟨u16, c17, post18⟩, rfl, rfl⟩
  refine wpL_perm (h' := [(c7, .cells 2 [encLex (gi t.words x)]), (c3, .cells 2 [bldD 98 5 c3 u16 c17 (xs ++ [10])]), (c17, .cells 1 (winL (D.k .u8) ([] : List D) (xs ++ [10]) post18)), (c1, .cells 2 [encText t])]) pull2 ?_
  refine wpL_nil ?_
  exact ⟨(u16, c17, post18), (xs ++ [10]), h, (Cov.asg ⟨rfl, rfl, rfl, rfl, rfl, rfl, rfl, rfl, trivial⟩), (.refl _)⟩
  have h := h.2 (decF b15)
  refine wpA_skip ?_
  exact ⟨(u, cb4b, post4b), xs, h, (Cov.asg ⟨rfl, rfl, rfl, rfl, rfl, rfl, rfl, rfl, trivial⟩), (.refl _)⟩
  rintro ⟨u1, cb4b1, post4b1⟩ xs1 h
  have h : nprint_J1 t x again5 xs1 := h
  unfold nprint_J1 at h
  show wpA _ _ _ _ (asg [(1, .ptr c1 2 0 0), (2, D.s (⟨#[]⟩ : ByteArray)), (3, D.i 0), (4, .ptr c3 2 0 0), (6, .ptr c7 2 0 0), (11, (encL 2 encLex) t.words), (12, D.i (t.words.length : Int)), (13, D.i x)]) [(c7, .cells 2 [encLex (gi t.words x)]), (c3, .cells 2 [bldD 98 5 c3 u1 cb4b1 xs1]), (cb4b1, .cells 1 (winL (D.k .u8) ([] : List D) xs1 post4b1)), (c1, .cells 2 [encText t])]
  obtain ⟨q1, q2, q3, q4, h⟩ := h
  refine wpA_region ?_
  refine wL (OpA.fieldAddr rfl tf72_1 rfl ?_)
  refine wL (OpA.load rfl ti3 rfl .head rfl rfl ?_)
  refine wL (OpA.call rfl rfl rfl en70 (itoa_c ((gi t.words x).line) q1 q2) ?_)
  rintro _ rfl
  refine wL (OpA.sadd rfl rfl rfl q3 ?_)
  refine wL (OpA.callH rfl rfl rfl en69 (h1 := [(c3, .cells 2 [bldD 98 5 c3 u1 cb4b1 xs1]), (cb4b1, .cells 1 (winL (D.k .u8) ([] : List D) xs1 post4b1))]) (h2 := [(c7, .cells 2 [encLex (gi t.words x)]), (c1, .cells 2 [encText t])]) (pull1.trans (.cons _ pull1)) (bldWS_c xs1 c3 u1 cb4b1 post4b1 ((itoaF ((gi t.words x).line)) ++ (⟨#[58]⟩ : ByteArray)) q4) ?_)
  rintro _ _ ⟨⟨u9, c10, post11⟩, rfl, rfl⟩
  refine wpL_perm (h' := [(c7, .cells 2 [encLex (gi t.words x)]), (c3, .cells 2 [bldD 98 5 c3 u9 c10 (nprint_e0 t x xs1)]), (c10, .cells 1 (winL (D.k .u8) ([] : List D) (nprint_e0 t x xs1) post11)), (c1, .cells 2 [encText t])]) pull2 ?_
  refine wpL_nil ?_
  obtain ⟨q1, q2, h⟩ := h
  refine wpA_region ?_
  refine wL (OpA.fieldAddr rfl tf72_0 rfl ?_)
  refine wL (OpA.load rfl ti9 rfl .head rfl rfl ?_)
  refine wL (OpA.sadd rfl rfl rfl q1 ?_)
  refine wL (OpA.callH rfl rfl rfl en69 (h1 := [(c3, .cells 2 [bldD 98 5 c3 u9 c10 (nprint_e0 t x xs1)]), (c10, .cells 1 (winL (D.k .u8) ([] : List D) (nprint_e0 t x xs1) post11))]) (h2 := [(c7, .cells 2 [encLex (gi t.words x)]), (c1, .cells 2 [encText t])]) (pull1.trans (.cons _ pull1)) (bldWS_c (nprint_e0 t x xs1) c3 u9 c10 post11 ((⟨#[32]⟩ : ByteArray) ++ ((gi t.words x).text)) q2) ?_)
  rintro _ _ ⟨⟨u12, c13, post14⟩, rfl, rfl⟩
  refine wpL_perm (h' := [(c7, .cells 2 [encLex (gi t.words x)]), (c3, .cells 2 [bldD 98 5 c3 u12 c13 ((((((⟨#[32]⟩ : ByteArray) ++ ((gi t.words x).text))).size : Int), (nprint_e0 t x xs1) ++ sbytes ((⟨#[32]⟩ : ByteArray) ++ ((gi t.words x).text))).2)]), (c13, .cells 1 (winL (D.k .u8) ([] : List D) ((((((⟨#[32]⟩ : ByteArray) ++ ((gi t.words x).text))).size : Int), (nprint_e0 t x xs1) ++ sbytes ((⟨#[32]⟩ : ByteArray) ++ ((gi t.words x).text))).2) post14)), (c1, .cells 2 [encText t])]) pull2 ?_
  refine wpL_nil ?_
  obtain ⟨q1, h⟩ := h
  refine wpA_region ?_
  refine wL (OpA.addi rfl rfl rfl q1 ?_)
  refine wL (OpA.m ?_)
  refine wpL_nil ?_
  exact ⟨(u12, c13, post14), (((((((⟨#[32]⟩ : ByteArray) ++ ((gi t.words x).text))).size : Int), (nprint_e0 t x xs1) ++ sbytes ((⟨#[32]⟩ : ByteArray) ++ ((gi t.words x).text))).2), (x + 1)), h, (Cov.asg ⟨rfl, rfl, rfl, rfl, rfl, rfl, rfl, trivial⟩), (.cons _ (.refl _))⟩
  have h := h.2 ⟨(beqF (or1 b8)), (bneF (or2 b8))⟩
  refine wpA_skip ?_
  obtain ⟨q1, q2, h⟩ := h
  refine wpA_region ?_
  refine wL (OpA.fieldAddr rfl tf72_0 rfl ?_)
  refine wL (OpA.load rfl ti9 rfl .head rfl rfl ?_)
  refine wL (OpA.sadd rfl rfl rfl q1 ?_)
  refine wL (OpA.callH rfl rfl rfl en69 (h1 := [(c3, .cells 2 [bldD 98 5 c3 u cb4b xs]), (cb4b, .cells 1 (winL (D.k .u8) ([] : List D) xs post4b))]) (h2 := [(c7, .cells 2 [encLex (gi t.words x)]), (c1, .cells 2 [encText t])]) (pull1.trans (.cons _ pull1)) (bldWS_c xs c3 u cb4b post4b ((⟨#[32]⟩ : ByteArray) ++ ((gi t.words x).text)) q2) ?_)
  rintro _ _ ⟨⟨u19, c20, post21⟩, rfl, rfl⟩
  refine wpL_perm (h' := [(c7, .cells 2 [encLex (gi t.words x)]), (c3, .cells 2 [bldD 98 5 c3 u19 c20 ((((((⟨#[32]⟩ : ByteArray) ++ ((gi t.words x).text))).size : Int), xs ++ sbytes ((⟨#[32]⟩ : ByteArray) ++ ((gi t.words x).text))).2)]), (c20, .cells 1 (winL (D.k .u8) ([] : List D) ((((((⟨#[32]⟩ : ByteArray) ++ ((gi t.words x).text))).size : Int), xs ++ sbytes ((⟨#[32]⟩ : ByteArray) ++ ((gi t.words x).text))).2) post21)), (c1, .cells 2 [encText t])]) pull2 ?_
  refine wpL_nil ?_
  obtain ⟨q1, h⟩ := h
  refine wpA_region ?_
  refine wL (OpA.addi rfl rfl rfl q1 ?_)
  refine wL (OpA.m ?_)
  refine wpL_nil ?_
  exact ⟨(u19, c20, post21), (((((((⟨#[32]⟩ : ByteArray) ++ ((gi t.words x).text))).size : Int), xs ++ sbytes ((⟨#[32]⟩ : ByteArray) ++ ((gi t.words x).text))).2), (x + 1)), h, (Cov.asg ⟨rfl, rfl, rfl, rfl, rfl, rfl, rfl, trivial⟩), (.cons _ (.refl _))⟩
  have h := h.2 (decF b6)
  refine wpA_exit ?_
  iterate 2 refine wpA_seq ?_
  refine wpA_region ?_
  refine wL (OpA.fieldAddr rfl tf36_1 rfl ?_)
  refine wL (OpA.load rfl ti34 rfl (.tail (.tail .head)) rfl rfl ?_)
  refine wL (OpA.len rfl rfl rfl rfl ts34.desc (.inl ⟨_, _, rfl, (List.length_map _).symm⟩) ?_)
  refine wL (OpA.gtr rfl rfl rfl ?_)
  refine wpL_nil ?_
  refine wpA_cond rfl (fun b23 => ?_) (fun b23 => ?_)
  have h := h.1 (decT b23)
  obtain ⟨q1, h⟩ := h
  refine wpA_region ?_
  refine wL (OpA.callH rfl rfl rfl en101 (h1 := [(c3, .cells 2 [bldD 98 5 c3 u cb4b xs]), (cb4b, .cells 1 (winL (D.k .u8) ([] : List D) xs post4b))]) (h2 := [(c1, .cells 2 [encText t])]) (.refl _) (bldWB_c xs c3 u cb4b post4b 10 q1) ?_)
  rintro _ _ ⟨⟨u24, c25, post26⟩, rfl, rfl⟩
  refine wpL_nil ?_
  refine wpA_seq ?_
  obtain ⟨q1, h⟩ := h
  refine wpA_region ?_
  refine wL (OpA.callH rfl rfl rfl en73 (h1 := [(c3, .cells 2 [bldD 98 5 c3 u24 c25 (xs ++ [10])]), (c25, .cells 1 (winL (D.k .u8) ([] : List D) (xs ++ [10]) post26))]) (h2 := [(c1, .cells 2 [encText t])]) (.refl _) (bldStr_c (xs ++ [10]) c3 u24 c25 post26 q1) ?_)
  rintro _ _ ⟨_, rfl, rfl⟩
  iterate 2 refine wL (OpA.a ?_)
  refine wpL_nil ?_
  refine wpA_ret ?_
  exact ⟨_, (.tmp (d := D.s (bstr (xs ++ [10]))) rfl (.tmp (d := D.i 0) rfl .nil)), _, (.tup (.same rfl (.same rfl .nil)) .nil), ⟨((bstr (xs ++ [10])), 0), rfl, h⟩⟩
  have h := h.2 (decF b23)
  refine wpA_skip ?_
  refine wpA_seq ?_
  obtain ⟨q1, h⟩ := h
  refine wpA_region ?_
  refine wL (OpA.callH rfl rfl rfl en73 (h1 := [(c3, .cells 2 [bldD 98 5 c3 u cb4b xs]), (cb4b, .cells 1 (winL (D.k .u8) ([] : List D) xs post4b))]) (h2 := [(c1, .cells 2 [encText t])]) (.refl _) (bldStr_c xs c3 u cb4b post4b q1) ?_)
  rintro _ _ ⟨_, rfl, rfl⟩
  iterate 2 refine wL (OpA.a ?_)
  refine wpL_nil ?_
  refine wpA_ret ?_
  exact ⟨_, (.tmp (d := D.s (bstr xs)) rfl (.tmp (d := D.i 0) rfl .nil)), _, (.tup (.same rfl (.same rfl .nil)) .nil), ⟨((bstr xs), 0), rfl, h⟩⟩
theorem nprint_c (t : Text)  (hp0 : okT t) : Fun false Tryz.prog 71 [encText t] (fun d => d = .tup [D.s ((printT t).1), D.i ((printT t).2)]) :=
  Fun.at (enc := fun r => .tup [D.s (r.1), D.i (r.2)]) (v := printT t) (nprint_w t  (fun r => r = printT t) (nprint_ok t _ hp0 rfl))

set_option maxHeartbeats 2000000 in
set_option maxRecDepth 10000 in
theorem cid_w (c : Corpus)  (Q : ByteArray × Int → Prop) (h : cid_vc c Q) : Fun false Tryz.prog 35 [encCorpus c] (fun d => ∃ r, d = .tup [D.s (r.1), D.i (r.2)] ∧ Q r) := by
  unfold cid_vc at h
  refine Fun.of_body Tryz.func35 rfl Tryz.ntmps35 rfl ?_
  refine wpA_seq ?_
  refine wpA_region ?_
  refine wL (OpA.bx (sz := 4) rfl (by with_reducible conv => lhs; whnf) (.of rfl) (fun c1 _ => ?_))
  iterate 2 refine wL (OpA.a ?_)
  refine wpL_nil ?_
  iterate 2 refine wpA_seq ?_
  obtain ⟨q1, h⟩ := h
  refine wpA_region ?_
  refine wL (OpA.load_whole rfl ti25 rfl rfl .head rfl ⟨_, rfl⟩ ?_)
  refine wL (OpA.call rfl rfl rfl en13 (ccheck_c c q1) ?_)
  rintro _ rfl
  refine wL (OpA.neq rfl rfl rfl ?_)
  refine wpL_nil ?_
  refine wpA_cond rfl (fun b2 => ?_) (fun b2 => ?_)
  have h := h.1 (bneT b2)
  refine wpA_seq ?_
  refine wpA_region ?_
  iterate 2 refine wL (OpA.a ?_)
  refine wpL_nil ?_
  refine wpA_ret ?_
  exact ⟨_, (.tmp (d := D.s (⟨#[]⟩ : ByteArray)) rfl (.tmp (d := D.i 1) rfl .nil)), _, (.tup (.same rfl (.same rfl .nil)) .nil), ⟨((⟨#[]⟩ : ByteArray), 1), rfl, h⟩⟩
  have h := h.2 (bneF b2)
  refine wpA_skip ?_
  refine wpA_seq ?_
  refine wpA_region ?_
  refine wL (OpA.allocB (e := 5) rfl tz98 (fun c3 c4 => ?_))
  refine wpL_nil ?_
  refine wpA_seq ?_
  obtain ⟨q1, q2, q3, q4, q5, q6, q7, q8, h⟩ := h
  refine wpA_draw (m := 9) mo (by kernel_rfl) rfl ?_
  refine dL (OpA.fieldAddr rfl tf25_0 rfl ⟨rfl, rfl⟩) ?_
  refine dL (OpA.load rfl ti3 rfl (.tail (.tail .head)) rfl rfl ⟨rfl, rfl⟩) ?_
  refine dL (OpA.call rfl rfl rfl en70 (itoa_c c.k q1 q2) (by rintro _ rfl; exact ⟨rfl, rfl⟩)) ?_
  refine dL (OpA.sadd rfl rfl rfl q3 ⟨rfl, rfl⟩) ?_
  refine dL (OpA.fieldAddr rfl tf25_1 rfl ⟨rfl, rfl⟩) ?_
  refine dL (OpA.load rfl ti3 rfl (.tail (.tail .head)) rfl rfl ⟨rfl, rfl⟩) ?_
  refine dL (OpA.call rfl rfl rfl en70 (itoa_c c.w q4 q5) (by rintro _ rfl; exact ⟨rfl, rfl⟩)) ?_
  refine dL (OpA.sadd rfl rfl rfl q6 ⟨rfl, rfl⟩) ?_
  refine dL (OpA.sadd rfl rfl rfl q7 ⟨rfl, rfl⟩) ?_
  refine DetK.nil ?_
  refine wL (OpA.callH rfl rfl rfl en69 (h1 := [(c3, .cells 2 [bldD 98 5 c3 false c4 ([] : List Int)]), (c4, .cells 1 (winL (D.k .u8) ([] : List D) ([] : List Int) ([] : List D)))]) (h2 := [(c1, .cells 4 [encCorpus c])]) (.refl _) (bldWS_c ([] : List Int) c3 false c4 ([] : List D) ((((itoaF c.k) ++ (⟨#[32]⟩ : ByteArray)) ++ (itoaF c.w)) ++ (⟨#[10]⟩ : ByteArray)) q8) ?_)
  rintro _ _ ⟨⟨u5, c6, post7⟩, rfl, rfl⟩
  refine wpL_nil ?_
  iterate 2 refine wpA_seq ?_
  refine wpA_region ?_
  refine wL (OpA.fieldAddr rfl tf25_2 rfl ?_)
  refine wL (OpA.load rfl ti22 rfl (.tail (.tail .head)) rfl rfl ?_)
  refine wL (OpA.len rfl rfl rfl rfl ts22.desc (.inl ⟨_, _, rfl, (List.length_map _).symm⟩) ?_)
  refine wL (OpA.m ?_)
  refine wpL_nil ?_
  refine wpA_block ?_
  refine wpA_lfp (S := (List Int) × Int) (G := Bool × Nat × List D) (u5, c6, post7) (fun gg ss => asg [(2, D.s (⟨#[]⟩ : ByteArray)), (3, D.i 0), (4, .ptr c3 2 0 0), (23, (encL 2 encText) c.texts), (24, D.i (c.texts.length : Int)), (25, D.i ss.2)]) (fun gg ss => [(c3, .cells 2 [bldD 98 5 c3 gg.1 gg.2.1 ss.1]), (gg.2.1, .cells 1 (winL (D.k .u8) ([] : List D) ss.1 gg.2.2)), (c1, .cells 4 [encCorpus c])]) h (Cov.asg ⟨rfl, rfl, rfl, rfl, rfl, rfl, trivial⟩) (.refl _) ?_
  rintro again8 ⟨u, cb4b, post4b⟩ ⟨xs, x⟩ h
  have h : cid_L1 c Q again8 xs x := h
  unfold cid_L1 at h
  show wpA _ _ _ _ (asg [(2, D.s (⟨#[]⟩ : ByteArray)), (3, D.i 0), (4, .ptr c3 2 0 0), (23, (encL 2 encText) c.texts), (24, D.i (c.texts.length : Int)), (25, D.i x)]) [(c3, .cells 2 [bldD 98 5 c3 u cb4b xs]), (cb4b, .cells 1 (winL (D.k .u8) ([] : List D) xs post4b)), (c1, .cells 4 [encCorpus c])]
  refine wpA_seq ?_
  refine wpA_region ?_
  refine wL (OpA.lss rfl rfl rfl ?_)
  refine wpL_nil ?_
  refine wpA_seq ?_
  refine wpA_cond rfl (fun b9 => ?_) (fun b9 => ?_)
  have h := h.1 (decT b9)
  refine wpA_skip ?_
  refine wpA_seq ?_
  refine wpA_block ?_
  refine wpA_seq ?_
  obtain ⟨q1, h⟩ := h
  refine wpA_region ?_
  refine wL (OpA.iixV (enc := encText) rfl ts22 rfl rfl rfl q1 ?_)
  refine wL (OpA.iload_whole rfl ti36 rfl ⟨_, rfl, rfl⟩ ?_)
  refine wL (OpA.alloc (sz := 2) (d := .agg ([D.s ByteArray.empty, .v (.slice none 0 0)])) rfl tz36 (fun _ _ => .agg (.cons (.v _) (.cons (.v _) .nil))) (.of rfl) (fun c10 _ => ?_))
  refine wE (OpA.storeW rfl ti36 rfl (by with_reducible conv => lhs; whnf) (.of rfl) rfl rfl .head ?_)
  refine wpL_nil ?_
  refine wpA_seq ?_
  obtain ⟨q1, h⟩ := h
  refine wpA_region ?_
  refine wL (OpA.load_whole rfl ti36 rfl rfl .head rfl ⟨_, rfl⟩ ?_)
  refine wL (OpA.call rfl rfl rfl en71 (nprint_c (gi c.texts x) q1) ?_)
  rintro _ rfl
  refine wL (OpA.m ?_)
  iterate 2 refine wL (OpA.extract rfl rfl rfl ?_)
  iterate 2 refine wL (OpA.a ?_)
  refine wpL_nil ?_
  obtain ⟨q1, q2, q3, h⟩ := h
  refine wpA_region ?_
  refine wL (OpA.fieldAddr rfl tf36_0 rfl ?_)
  refine wL (OpA.load rfl ti9 rfl .head rfl rfl ?_)
  refine wL (OpA.sadd rfl rfl rfl q1 ?_)
  refine wL (OpA.m ?_)
  refine wL (OpA.sadd rfl rfl rfl q2 ?_)
  refine wL (OpA.callH rfl rfl rfl en69 (h1 := [(c3, .cells 2 [bldD 98 5 c3 u cb4b xs]), (cb4b, .cells 1 (winL (D.k .u8) ([] : List D) xs post4b))]) (h2 := [(c10, .cells 2 [encText (gi c.texts x)]), (c1, .cells 4 [encCorpus c])]) (pull1.trans (.cons _ pull1)) (bldWS_c xs c3 u cb4b post4b ((((gi c.texts x).path) ++ (⟨#[10]⟩ : ByteArray)) ++ ((printT (gi c.texts x)).1)) q3) ?_)
  rintro _ _ ⟨⟨u11, c12, post13⟩, rfl, rfl⟩
  refine wpL_perm (h' := [(c10, .cells 2 [encText (gi c.texts x)]), (c3, .cells 2 [bldD 98 5 c3 u11 c12 ((((((((gi c.texts x).path) ++ (⟨#[10]⟩ : ByteArray)) ++ ((printT (gi c.texts x)).1))).size : Int), xs ++ sbytes ((((gi c.texts x).path) ++ (⟨#[10]⟩ : ByteArray)) ++ ((printT (gi c.texts x)).1))).2)]), (c12, .cells 1 (winL (D.k .u8) ([] : List D) ((((((((gi c.texts x).path) ++ (⟨#[10]⟩ : ByteArray)) ++ ((printT (gi c.texts x)).1))).size : Int), xs ++ sbytes ((((gi c.texts x).path) ++ (⟨#[10]⟩ : ByteArray)) ++ ((printT (gi c.texts x)).1))).2) post13)), (c1, .cells 4 [encCorpus c])]) pull2 ?_
  refine wpL_nil ?_
  obtain ⟨q1, h⟩ := h
  refine wpA_region ?_
  refine wL (OpA.addi rfl rfl rfl q1 ?_)
  refine wL (OpA.m ?_)
  refine wpL_nil ?_
  exact ⟨(u11, c12, post13), (((((((((gi c.texts x).path) ++ (⟨#[10]⟩ : ByteArray)) ++ ((printT (gi c.texts x)).1))).size : Int), xs ++ sbytes ((((gi c.texts x).path) ++ (⟨#[10]⟩ : ByteArray)) ++ ((printT (gi c.texts x)).1))).2), (x + 1)), h, (Cov.asg ⟨rfl, rfl, rfl, rfl, rfl, rfl, trivial⟩), (.cons _ (.refl _))⟩
  have h := h.2 (decF b9)
  refine wpA_exit ?_
  refine wpA_seq ?_
  obtain ⟨q1, q2, h⟩ := h
  refine wpA_region ?_
  refine wL (OpA.callH rfl rfl rfl en73 (h1 := [(c3, .cells 2 [bldD 98 5 c3 u cb4b xs]), (cb4b, .cells 1 (winL (D.k .u8) ([] : List D) xs post4b))]) (h2 := [(c1, .cells 4 [encCorpus c])]) (.refl _) (bldStr_c xs c3 u cb4b post4b q1) ?_)
  rintro _ _ ⟨_, rfl, rfl⟩
  refine wL (OpA.call rfl rfl rfl en72 (sum_c (bstr xs) q2) ?_)
  rintro _ rfl
  iterate 2 refine wL (OpA.a ?_)
  refine wpL_nil ?_
  refine wpA_ret ?_
  exact ⟨_, (.tmp (d := D.s (sumF (bstr xs))) rfl (.tmp (d := D.i 0) rfl .nil)), _, (.tup (.same rfl (.same rfl .nil)) .nil), ⟨((sumF (bstr xs)), 0), rfl, h⟩⟩
theorem cid_c (c : Corpus)  (hp0 : okC c) (hp1 : (checkF c = 0 → (idL c).length ≤ 1000000)) : Fun false Tryz.prog 35 [encCorpus c] (fun d => d = .tup [D.s ((idF c).1), D.i ((idF c).2)]) :=
  Fun.at (enc := fun r => .tup [D.s (r.1), D.i (r.2)]) (v := idF c) (cid_w c  (fun r => r = idF c) (cid_ok c _ hp0 hp1 rfl))

end Go.Proofs.YtkoomieafmjjfaaGreatDoor
