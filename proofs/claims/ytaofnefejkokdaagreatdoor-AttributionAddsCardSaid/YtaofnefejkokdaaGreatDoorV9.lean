/-
  walks and contracts
-/
import Derived.Test.YtaofnefejkokdaaGreatDoorV8
import Derived.Test.YtaofnefejkokdaaGreatDoorTw
set_option linter.all false
namespace Go.Proofs.YtaofnefejkokdaaGreatDoor
open Go Go.Lic Go.Sort Go.Proofs
attribute [local irreducible] addF addP attrF badR behindF betR betterP blankF checkA checkF cmpB cmpI cmpL codeF countF countL fewC fewTs fewW findT gramsF growTF has1F hasF hashF indexF insideF leastF lenF longAF mainF maxF mergeF mul64F mulP nameR newF ofF orF packF partF pathB pathF pieceOk postCmp postLt postsF powF printsF pushF rangedF rightA rightCT rollF sameF selectF shareF sizeF smallF spanCmp splitF splitG srcF srcR textF unknownF validF validT



set_option maxHeartbeats 2000000 in
set_option maxRecDepth 10000 in
theorem ltext_w (path : ByteArray) (s_ : ByteArray)  (Q : Text → Prop) (h : ltext_vc path s_ Q) : Fun false Tryz.prog 32 [D.s path, D.s s_] (fun d => ∃ r, d = encText r ∧ Q r) := by
  unfold ltext_vc at h
  refine Fun.of_body Tryz.func32 rfl Tryz.ntmps32 rfl ?_
  refine wpA_seq ?_
  refine wpA_region ?_
  refine wL (OpA.alloc (sz := 2) (d := .agg ([D.s ByteArray.empty, .v (.slice none 0 0)])) rfl tz28 (fun _ _ => .agg (.cons (.v _) (.cons (.v _) .nil))) (.of rfl) (fun c1 _ => ?_))
  refine wpL_nil ?_
  refine wpA_seq ?_
  refine wpA_region ?_
  refine wL (OpA.m ?_)
  refine wL (OpA.buildO (zs := [.v (.string ⟨#[]⟩), .v (.slice none 0 0)]) rfl tp28 tz28 (fun _ _ => (.cons (.v _) (.cons (.v _) .nil))) (.cons (.of (sz := 1) rfl) .nil) rfl ?_)
  refine wL (OpA.alloc (sz := 2) (d := .agg ([D.s ByteArray.empty, .v (.slice none 0 0)])) rfl tz28 (fun _ _ => .agg (.cons (.v _) (.cons (.v _) .nil))) (.of rfl) (fun c2 _ => ?_))
  refine wE (OpA.storeW rfl ti28 rfl (by with_reducible conv => lhs; whnf) (.of rfl) rfl rfl .head ?_)
  refine wpL_nil ?_
  iterate 2 refine wpA_seq ?_
  refine wpA_region ?_
  refine wL (OpA.m ?_)
  refine wL (OpA.slen rfl rfl rfl rfl td9 rfl ?_)
  refine wL (OpA.m ?_)
  refine wpL_nil ?_
  refine wpA_block ?_
  refine wpA_ghostM (c := c2) (sz1 := 2) (sz := 2) (es' := fun g3 => [.agg ([D.s path, .own g3 2 ([] : List D).length ([] : List Lexeme).length])]) (fun _ => .head) (fun _ => (.same (.turn .nil))) (fun _ => rfl) (fun _ => by rintro d (_ | ⟨_, hd⟩); exact .of rfl; cases hd) (fun g3 => ?_)
  refine wpA_lfp (S := (List Lexeme) × Int) (G := Nat × List D × List D) (g3, ([] : List D), ([] : List D)) (fun gg ss => asg [(1, D.s s_), (4, .ptr c1 2 0 0), (5, .ptr c2 2 0 0), (10, D.i (s_.size : Int)), (11, D.i ss.2)]) (fun gg ss => [(gg.1, .cells 2 (winL encLex gg.2.1 ss.1 gg.2.2)), (c2, .cells 2 [.agg ([D.s path, .own gg.1 2 gg.2.1.length ss.1.length])]), (c1, .cells 2 [.agg ([D.s ByteArray.empty, .v (.slice none 0 0)])])]) h (Cov.asg ⟨rfl, rfl, rfl, rfl, rfl, trivial⟩) (.refl _) ?_
  rintro again4 ⟨cbgh5, pregh5, postgh5⟩ ⟨xs, x⟩ h
  have h : ltext_L1 path s_ Q again4 xs x := h
  unfold ltext_L1 at h
  show wpA _ _ _ _ (asg [(1, D.s s_), (4, .ptr c1 2 0 0), (5, .ptr c2 2 0 0), (10, D.i (s_.size : Int)), (11, D.i x)]) [(cbgh5, .cells 2 (winL encLex pregh5 xs postgh5)), (c2, .cells 2 [.agg ([D.s path, .own cbgh5 2 pregh5.length xs.length])]), (c1, .cells 2 [.agg ([D.s ByteArray.empty, .v (.slice none 0 0)])])]
  refine wpA_seq ?_
  refine wpA_region ?_
  refine wL (OpA.lss rfl rfl rfl ?_)
  refine wpL_nil ?_
  refine wpA_seq ?_
  refine wpA_cond rfl (fun b5 => ?_) (fun b5 => ?_)
  have h := h.1 (decT b5)
  refine wpA_skip ?_
  refine wpA_seq ?_
  refine wpA_block ?_
  refine wpA_seq ?_
  refine wpA_region ?_
  refine wL (OpA.m ?_)
  refine wL (OpA.a ?_)
  refine wpL_nil ?_
  obtain ⟨q1, q2, q3, h⟩ := h
  refine wpA_draw (m := 9) mo (by kernel_rfl) rfl ?_
  refine dL (OpA.fieldAddr rfl tf28_1 rfl ⟨rfl, rfl⟩) ?_
  refine dL (OpA.load rfl ti26 rfl (.tail .head) rfl rfl ⟨rfl, rfl⟩) ?_
  iterate 3 refine dL (OpA.m ⟨rfl, rfl⟩) ?_
  refine dL (OpA.addi rfl rfl rfl q1 ⟨rfl, rfl⟩) ?_
  refine dL (OpA.ssliceV rfl td9 rfl (.some rfl) (.some rfl) q2 ⟨rfl, rfl⟩) ?_
  refine dL (OpA.buildO (zs := [.v (.string ⟨#[]⟩), .v (.int .i64 0)]) rfl tp50 tz50 (fun _ _ => (.cons (.v _) (.cons (.v _) .nil))) (.cons (.of (sz := 1) rfl) .nil) rfl ⟨rfl, rfl⟩) ?_
  refine dL (OpA.ibuildSliceO rfl ts26 rfl (.cons (.of (sz := 2) rfl) .nil) (by decide) ⟨rfl, rfl⟩) ?_
  refine DetK.nil ?_
  refine wL (OpA.appendW (enc := encLex) rfl rfl rfl rfl ts26 rfl (fun _ _ => .head) (.list (ys := ([(Lexeme.mk (ssub s_ x (x + 1)) 0)] : List Lexeme))) q3 (fun c6 pre7 => ?_))
  refine wL (OpA.fieldAddr rfl tf28_1 rfl ?_)
  refine wE (OpA.store (e' := .agg ([D.s path, .own c6 2 pre7.length (xs ++ ([(Lexeme.mk (ssub s_ x (x + 1)) 0)] : List Lexeme)).length])) rfl ti26 rfl (.of rfl) rfl (Nat.le_of_ble_eq_true rfl) rfl (.tail .head) ?_)
  refine wpL_nil ?_
  obtain ⟨q1, h⟩ := h
  refine wpA_region ?_
  refine wL (OpA.addi rfl rfl rfl q1 ?_)
  refine wL (OpA.m ?_)
  refine wpL_nil ?_
  exact ⟨(c6, pre7, ([] : List D)), ((xs ++ ([(Lexeme.mk (ssub s_ x (x + 1)) 0)] : List Lexeme)), (x + 1)), h, (Cov.asg ⟨rfl, rfl, rfl, rfl, rfl, trivial⟩), (.refl _)⟩
  have h := h.2 (decF b5)
  refine wpA_exit ?_
  refine wpA_seq ?_
  refine wpA_region ?_
  refine wL (OpA.load_whole rfl ti28 rfl rfl (.tail .head) rfl ⟨_, rfl⟩ ?_)
  refine wE (OpA.storeW rfl ti28 rfl (by with_reducible conv => lhs; whnf) (.of rfl) rfl rfl (.tail (.tail .head)) ?_)
  refine wpL_nil ?_
  refine wpA_ret ?_
  exact ⟨_, (.cell (.whole ti28 rfl rfl (.tail (.tail .head)) rfl ⟨_, rfl⟩) .nil), _, (.agg (.same rfl (.win .head (by intro hf; cases hf) .nil)) .nil), ⟨(Text.mk path xs), rfl, h⟩⟩
theorem ltext_c (path : ByteArray) (s_ : ByteArray)  (hp0 : s_.size ≤ 1000) : Fun false Tryz.prog 32 [D.s path, D.s s_] (fun d => d = encText (textF path s_)) :=
  Fun.at (enc := fun r => encText r) (v := textF path s_) (ltext_w path s_  (fun r => r = textF path s_) (ltext_ok path s_ _ hp0 rfl))

abbrev awake_e0  := (addF ((addF ((newF 1 1).1) (textF (⟨#[112]⟩ : ByteArray) (⟨#[97, 98, 99]⟩ : ByteArray))).1) (textF (⟨#[113]⟩ : ByteArray) (⟨#[99, 100]⟩ : ByteArray)))
abbrev awake_e1  := (textF (⟨#[116]⟩ : ByteArray) (⟨#[97, 98, 99, 100, 120]⟩ : ByteArray))
abbrev awake_e2  := (addF ((newF 1 1).1) (textF (⟨#[112]⟩ : ByteArray) (⟨#[97, 98, 99]⟩ : ByteArray)))
abbrev awake_e3  := ((((((((((((newF 1 1).2) == 0) && ((awake_e2.2) == 0)) && ((awake_e0.2) == 0)) && (((attrF (awake_e0.1) awake_e1 2).2) == 0)) && (decide (((attrF (awake_e0.1) awake_e1 2).1).path = (⟨#[116]⟩ : ByteArray)))) && (decide ((((attrF (awake_e0.1) awake_e1 2).1).pieces) = ([(Piece.mk 0 2 0 0), (Piece.mk 2 4 1 0)] : List Piece)))) && (decide ((mainF (awake_e0.1) awake_e1 ((attrF (awake_e0.1) awake_e1 2).1) 40).1 = (⟨#[112]⟩ : ByteArray)))) && (mainF (awake_e0.1) awake_e1 ((attrF (awake_e0.1) awake_e1 2).1) 40).2) && ((checkA (awake_e0.1) awake_e1 2 ((attrF (awake_e0.1) awake_e1 2).1)) == 0)) && ((checkA (awake_e0.1) awake_e1 3 ((attrF (awake_e0.1) awake_e1 2).1)) == 18))
set_option maxHeartbeats 2000000 in
set_option maxRecDepth 10000 in
theorem awake_w   (Q : Bool → Prop) (h : awake_vc  Q) : Fun false Tryz.prog 10 [] (fun d => ∃ r, d = D.b r ∧ Q r) := by
  unfold awake_vc at h
  refine Fun.of_body Tryz.func10 rfl Tryz.ntmps10 rfl ?_
  refine wpA_seq ?_
  refine wpA_region ?_
  refine wL (OpA.a ?_)
  refine wpL_nil ?_
  refine wpA_seq ?_
  refine wpA_region ?_
  refine wL (OpA.call rfl rfl rfl en30 (cnew_c 1 1 ) ?_)
  rintro _ rfl
  refine wL (OpA.m ?_)
  iterate 2 refine wL (OpA.extract rfl rfl rfl ?_)
  refine wL (OpA.alloc (sz := 4) (d := .agg ([D.i 0, D.i 0, .v (.slice none 0 0), .v (.slice none 0 0)])) rfl tz25 (fun _ _ => .agg (.cons (.v _) (.cons (.v _) (.cons (.v _) (.cons (.v _) .nil))))) (.of rfl) (fun c1 _ => ?_))
  refine wE (OpA.storeW rfl ti25 rfl (by with_reducible conv => lhs; whnf) (.of rfl) rfl rfl .head ?_)
  refine wL (OpA.a ?_)
  refine wpL_nil ?_
  refine wpA_seq ?_
  obtain ⟨q1_0, q2_0, q2_1, h⟩ := h
  refine wpA_states mo (fun W hW => ?_)
  refine flip_goal (a := W 0 (lv 8 255) (asg [(0, D.b false), (1, .ptr c1 4 0 0), (2, D.i ((newF 1 1).2)), (3, D.i (awake_e2.2))]) [(c1, .cells 4 [encCorpus (awake_e2.1)])]) (fun s0 => ?_) ?_
  have s1 : W 1 (lv 8 127) (asg [(0, D.b false), (1, .ptr c1 4 0 0), (2, D.i ((newF 1 1).2)), (19, D.i (awake_e2.2))]) [(c1, .cells 4 [encCorpus (awake_e2.1)])] := wpS_of hW (by refine wpS_step (rs := [7]) (by kernel_rfl) rfl ⟨?_, trivial⟩; refine wpS_op (i := 7) (li' := (lv 8 255)) rfl rfl rfl rfl (by kernel_rfl) (OpA.a ?_); exact wpS_to hW (s0) (Cov.asg ⟨rfl, rfl, rfl, rfl, trivial⟩) (.refl _))
  have s2 : W 2 (lv 8 63) (asg [(0, D.b false), (1, .ptr c1 4 0 0), (2, D.i ((newF 1 1).2)), (18, encCorpus (awake_e2.1)), (19, D.i (awake_e2.2))]) [(c1, .cells 4 [encCorpus ((newF 1 1).1)])] := wpS_of hW (by refine wpS_step (rs := [6]) (by kernel_rfl) rfl ⟨?_, trivial⟩; refine wpS_eff (i := 6) (li' := (lv 8 127)) rfl rfl rfl (by kernel_rfl) (OpA.storeW rfl ti25 rfl (by with_reducible conv => lhs; whnf) (.of rfl) rfl rfl .head ?_); exact wpS_to hW (s1) (Cov.asg ⟨rfl, rfl, rfl, rfl, trivial⟩) (.refl _))
  have s3 : W 2 (lv 8 95) (asg [(0, D.b false), (1, .ptr c1 4 0 0), (2, D.i ((newF 1 1).2)), (14, .tup [encCorpus (awake_e2.1), D.i (awake_e2.2)])]) [(c1, .cells 4 [encCorpus (awake_e2.1)])] := wpS_of hW (by refine wpS_step (rs := [5]) (by kernel_rfl) rfl ⟨?_, trivial⟩; refine wpS_op (i := 5) (li' := (lv 8 127)) rfl rfl rfl rfl (by kernel_rfl) (OpA.extract rfl rfl rfl ?_); exact wpS_to hW (s1) (Cov.asg ⟨rfl, rfl, rfl, rfl, trivial⟩) (.refl _))
  have s4 : W 3 (lv 8 31) (asg [(0, D.b false), (1, .ptr c1 4 0 0), (2, D.i ((newF 1 1).2)), (14, .tup [encCorpus (awake_e2.1), D.i (awake_e2.2)]), (18, encCorpus (awake_e2.1))]) [(c1, .cells 4 [encCorpus ((newF 1 1).1)])] := wpS_of hW (by refine wpS_step (rs := [5, 6]) (by kernel_rfl) rfl ⟨?_, ?_, trivial⟩; refine wpS_op (i := 5) (li' := (lv 8 63)) rfl rfl rfl rfl (by kernel_rfl) (OpA.extract rfl rfl rfl ?_); exact wpS_to hW (s2) (Cov.asg ⟨rfl, rfl, rfl, rfl, rfl, trivial⟩) (.refl _); refine wpS_eff (i := 6) (li' := (lv 8 95)) rfl rfl rfl (by kernel_rfl) (OpA.storeW rfl ti25 rfl (by with_reducible conv => lhs; whnf) (.of rfl) rfl rfl .head ?_); exact wpS_to hW (s3) (Cov.asg ⟨rfl, rfl, rfl, rfl, trivial⟩) (.refl _))
  have s5 : W 3 (lv 8 47) (asg [(0, D.b false), (1, .ptr c1 4 0 0), (2, D.i ((newF 1 1).2)), (14, .tup [encCorpus (awake_e2.1), D.i (awake_e2.2)]), (19, D.i (awake_e2.2))]) [(c1, .cells 4 [encCorpus ((newF 1 1).1)])] := wpS_of hW (by refine wpS_step (rs := [4]) (by kernel_rfl) rfl ⟨?_, trivial⟩; refine wpS_op (i := 4) (li' := (lv 8 63)) rfl rfl rfl rfl (by kernel_rfl) (OpA.extract rfl rfl rfl ?_); exact wpS_to hW (s2) (Cov.asg ⟨rfl, rfl, rfl, rfl, rfl, trivial⟩) (.refl _))
  have s6 : W 4 (lv 8 15) (asg [(0, D.b false), (1, .ptr c1 4 0 0), (2, D.i ((newF 1 1).2)), (14, .tup [encCorpus (awake_e2.1), D.i (awake_e2.2)])]) [(c1, .cells 4 [encCorpus ((newF 1 1).1)])] := wpS_of hW (by refine wpS_step (rs := [4, 5]) (by kernel_rfl) rfl ⟨?_, ?_, trivial⟩; refine wpS_op (i := 4) (li' := (lv 8 31)) rfl rfl rfl rfl (by kernel_rfl) (OpA.extract rfl rfl rfl ?_); exact wpS_to hW (s4) (Cov.asg ⟨rfl, rfl, rfl, rfl, rfl, trivial⟩) (.refl _); refine wpS_op (i := 5) (li' := (lv 8 47)) rfl rfl rfl rfl (by kernel_rfl) (OpA.extract rfl rfl rfl ?_); exact wpS_to hW (s5) (Cov.asg ⟨rfl, rfl, rfl, rfl, rfl, trivial⟩) (.refl _))
  have s7 : W 5 (lv 8 7) (asg [(0, D.b false), (1, .ptr c1 4 0 0), (2, D.i ((newF 1 1).2)), (17, .tup [encCorpus (awake_e2.1), D.i (awake_e2.2)])]) [(c1, .cells 4 [encCorpus ((newF 1 1).1)])] := wpS_of hW (by refine wpS_step (rs := [3]) (by kernel_rfl) rfl ⟨?_, trivial⟩; refine wpS_op (i := 3) (li' := (lv 8 15)) rfl rfl rfl rfl (by kernel_rfl) (OpA.m ?_); exact wpS_to hW (s6) (Cov.asg ⟨rfl, rfl, rfl, rfl, trivial⟩) (.refl _))
  have s8 : W 6 (lv 8 3) (asg [(0, D.b false), (1, .ptr c1 4 0 0), (2, D.i ((newF 1 1).2)), (15, encCorpus ((newF 1 1).1)), (16, encText (textF (⟨#[112]⟩ : ByteArray) (⟨#[97, 98, 99]⟩ : ByteArray)))]) [(c1, .cells 4 [encCorpus ((newF 1 1).1)])] := wpS_of hW (by refine wpS_step (rs := [2]) (by kernel_rfl) rfl ⟨?_, trivial⟩; refine wpS_op (i := 2) (li' := (lv 8 7)) rfl rfl rfl rfl (by kernel_rfl) (OpA.call rfl rfl rfl en31 (cadd_c ((newF 1 1).1) (textF (⟨#[112]⟩ : ByteArray) (⟨#[97, 98, 99]⟩ : ByteArray)) q2_0 q2_1) ?_); rintro _ rfl; exact wpS_to hW (s7) (Cov.asg ⟨rfl, rfl, rfl, rfl, trivial⟩) (.refl _))
  have s9 : W 7 (lv 8 1) (asg [(0, D.b false), (1, .ptr c1 4 0 0), (2, D.i ((newF 1 1).2)), (15, encCorpus ((newF 1 1).1))]) [(c1, .cells 4 [encCorpus ((newF 1 1).1)])] := wpS_of hW (by refine wpS_step (rs := [1]) (by kernel_rfl) rfl ⟨?_, trivial⟩; refine wpS_op (i := 1) (li' := (lv 8 3)) rfl rfl rfl rfl (by kernel_rfl) (OpA.call rfl rfl rfl en32 (ltext_c (⟨#[112]⟩ : ByteArray) (⟨#[97, 98, 99]⟩ : ByteArray) q1_0) ?_); rintro _ rfl; exact wpS_to hW (s8) (Cov.asg ⟨rfl, rfl, rfl, rfl, rfl, trivial⟩) (.refl _))
  have s10 : W 7 (lv 8 2) (asg [(0, D.b false), (1, .ptr c1 4 0 0), (2, D.i ((newF 1 1).2)), (16, encText (textF (⟨#[112]⟩ : ByteArray) (⟨#[97, 98, 99]⟩ : ByteArray)))]) [(c1, .cells 4 [encCorpus ((newF 1 1).1)])] := wpS_of hW (by refine wpS_step (rs := [0]) (by kernel_rfl) rfl ⟨?_, trivial⟩; refine wpS_op (i := 0) (li' := (lv 8 3)) rfl rfl rfl rfl (by kernel_rfl) (OpA.load_whole rfl ti25 rfl rfl .head rfl ⟨_, rfl⟩ ?_); exact wpS_to hW (s8) (Cov.asg ⟨rfl, rfl, rfl, rfl, rfl, trivial⟩) (.refl _))
  have s11 : W 8 (lv 8 0) (asg [(0, D.b false), (1, .ptr c1 4 0 0), (2, D.i ((newF 1 1).2))]) [(c1, .cells 4 [encCorpus ((newF 1 1).1)])] := wpS_of hW (by refine wpS_step (rs := [0, 1]) (by kernel_rfl) rfl ⟨?_, ?_, trivial⟩; refine wpS_op (i := 0) (li' := (lv 8 1)) rfl rfl rfl rfl (by kernel_rfl) (OpA.load_whole rfl ti25 rfl rfl .head rfl ⟨_, rfl⟩ ?_); exact wpS_to hW (s9) (Cov.asg ⟨rfl, rfl, rfl, rfl, trivial⟩) (.refl _); refine wpS_op (i := 1) (li' := (lv 8 2)) rfl rfl rfl rfl (by kernel_rfl) (OpA.call rfl rfl rfl en32 (ltext_c (⟨#[112]⟩ : ByteArray) (⟨#[97, 98, 99]⟩ : ByteArray) q1_0) ?_); rintro _ rfl; exact wpS_to hW (s10) (Cov.asg ⟨rfl, rfl, rfl, rfl, trivial⟩) (.refl _))
  refine wpS_of hW ?_
  exact wpS_to hW s11 (Cov.asg ⟨rfl, rfl, rfl, trivial⟩) (.refl _)
  refine wpS_of hW (wpS_done (by kernel_rfl) ?_)
  refine wpA_seq ?_
  obtain ⟨q1_0, q2_0, q2_1, h⟩ := h
  refine wpA_states mo (fun W hW => ?_)
  refine flip_goal (a := W 0 (lv 8 255) (asg [(0, D.b false), (1, .ptr c1 4 0 0), (2, D.i ((newF 1 1).2)), (3, D.i (awake_e2.2)), (4, D.i (awake_e0.2))]) [(c1, .cells 4 [encCorpus (awake_e0.1)])]) (fun s0 => ?_) ?_
  have s1 : W 1 (lv 8 127) (asg [(0, D.b false), (1, .ptr c1 4 0 0), (2, D.i ((newF 1 1).2)), (3, D.i (awake_e2.2)), (25, D.i (awake_e0.2))]) [(c1, .cells 4 [encCorpus (awake_e0.1)])] := wpS_of hW (by refine wpS_step (rs := [7]) (by kernel_rfl) rfl ⟨?_, trivial⟩; refine wpS_op (i := 7) (li' := (lv 8 255)) rfl rfl rfl rfl (by kernel_rfl) (OpA.a ?_); exact wpS_to hW (s0) (Cov.asg ⟨rfl, rfl, rfl, rfl, rfl, trivial⟩) (.refl _))
  have s2 : W 2 (lv 8 63) (asg [(0, D.b false), (1, .ptr c1 4 0 0), (2, D.i ((newF 1 1).2)), (3, D.i (awake_e2.2)), (24, encCorpus (awake_e0.1)), (25, D.i (awake_e0.2))]) [(c1, .cells 4 [encCorpus (awake_e2.1)])] := wpS_of hW (by refine wpS_step (rs := [6]) (by kernel_rfl) rfl ⟨?_, trivial⟩; refine wpS_eff (i := 6) (li' := (lv 8 127)) rfl rfl rfl (by kernel_rfl) (OpA.storeW rfl ti25 rfl (by with_reducible conv => lhs; whnf) (.of rfl) rfl rfl .head ?_); exact wpS_to hW (s1) (Cov.asg ⟨rfl, rfl, rfl, rfl, rfl, trivial⟩) (.refl _))
  have s3 : W 2 (lv 8 95) (asg [(0, D.b false), (1, .ptr c1 4 0 0), (2, D.i ((newF 1 1).2)), (3, D.i (awake_e2.2)), (20, .tup [encCorpus (awake_e0.1), D.i (awake_e0.2)])]) [(c1, .cells 4 [encCorpus (awake_e0.1)])] := wpS_of hW (by refine wpS_step (rs := [5]) (by kernel_rfl) rfl ⟨?_, trivial⟩; refine wpS_op (i := 5) (li' := (lv 8 127)) rfl rfl rfl rfl (by kernel_rfl) (OpA.extract rfl rfl rfl ?_); exact wpS_to hW (s1) (Cov.asg ⟨rfl, rfl, rfl, rfl, rfl, trivial⟩) (.refl _))
  have s4 : W 3 (lv 8 31) (asg [(0, D.b false), (1, .ptr c1 4 0 0), (2, D.i ((newF 1 1).2)), (3, D.i (awake_e2.2)), (20, .tup [encCorpus (awake_e0.1), D.i (awake_e0.2)]), (24, encCorpus (awake_e0.1))]) [(c1, .cells 4 [encCorpus (awake_e2.1)])] := wpS_of hW (by refine wpS_step (rs := [5, 6]) (by kernel_rfl) rfl ⟨?_, ?_, trivial⟩; refine wpS_op (i := 5) (li' := (lv 8 63)) rfl rfl rfl rfl (by kernel_rfl) (OpA.extract rfl rfl rfl ?_); exact wpS_to hW (s2) (Cov.asg ⟨rfl, rfl, rfl, rfl, rfl, rfl, trivial⟩) (.refl _); refine wpS_eff (i := 6) (li' := (lv 8 95)) rfl rfl rfl (by kernel_rfl) (OpA.storeW rfl ti25 rfl (by with_reducible conv => lhs; whnf) (.of rfl) rfl rfl .head ?_); exact wpS_to hW (s3) (Cov.asg ⟨rfl, rfl, rfl, rfl, rfl, trivial⟩) (.refl _))
  have s5 : W 3 (lv 8 47) (asg [(0, D.b false), (1, .ptr c1 4 0 0), (2, D.i ((newF 1 1).2)), (3, D.i (awake_e2.2)), (20, .tup [encCorpus (awake_e0.1), D.i (awake_e0.2)]), (25, D.i (awake_e0.2))]) [(c1, .cells 4 [encCorpus (awake_e2.1)])] := wpS_of hW (by refine wpS_step (rs := [4]) (by kernel_rfl) rfl ⟨?_, trivial⟩; refine wpS_op (i := 4) (li' := (lv 8 63)) rfl rfl rfl rfl (by kernel_rfl) (OpA.extract rfl rfl rfl ?_); exact wpS_to hW (s2) (Cov.asg ⟨rfl, rfl, rfl, rfl, rfl, rfl, trivial⟩) (.refl _))
  have s6 : W 4 (lv 8 15) (asg [(0, D.b false), (1, .ptr c1 4 0 0), (2, D.i ((newF 1 1).2)), (3, D.i (awake_e2.2)), (20, .tup [encCorpus (awake_e0.1), D.i (awake_e0.2)])]) [(c1, .cells 4 [encCorpus (awake_e2.1)])] := wpS_of hW (by refine wpS_step (rs := [4, 5]) (by kernel_rfl) rfl ⟨?_, ?_, trivial⟩; refine wpS_op (i := 4) (li' := (lv 8 31)) rfl rfl rfl rfl (by kernel_rfl) (OpA.extract rfl rfl rfl ?_); exact wpS_to hW (s4) (Cov.asg ⟨rfl, rfl, rfl, rfl, rfl, rfl, trivial⟩) (.refl _); refine wpS_op (i := 5) (li' := (lv 8 47)) rfl rfl rfl rfl (by kernel_rfl) (OpA.extract rfl rfl rfl ?_); exact wpS_to hW (s5) (Cov.asg ⟨rfl, rfl, rfl, rfl, rfl, rfl, trivial⟩) (.refl _))
  have s7 : W 5 (lv 8 7) (asg [(0, D.b false), (1, .ptr c1 4 0 0), (2, D.i ((newF 1 1).2)), (3, D.i (awake_e2.2)), (23, .tup [encCorpus (awake_e0.1), D.i (awake_e0.2)])]) [(c1, .cells 4 [encCorpus (awake_e2.1)])] := wpS_of hW (by refine wpS_step (rs := [3]) (by kernel_rfl) rfl ⟨?_, trivial⟩; refine wpS_op (i := 3) (li' := (lv 8 15)) rfl rfl rfl rfl (by kernel_rfl) (OpA.m ?_); exact wpS_to hW (s6) (Cov.asg ⟨rfl, rfl, rfl, rfl, rfl, trivial⟩) (.refl _))
  have s8 : W 6 (lv 8 3) (asg [(0, D.b false), (1, .ptr c1 4 0 0), (2, D.i ((newF 1 1).2)), (3, D.i (awake_e2.2)), (21, encCorpus (awake_e2.1)), (22, encText (textF (⟨#[113]⟩ : ByteArray) (⟨#[99, 100]⟩ : ByteArray)))]) [(c1, .cells 4 [encCorpus (awake_e2.1)])] := wpS_of hW (by refine wpS_step (rs := [2]) (by kernel_rfl) rfl ⟨?_, trivial⟩; refine wpS_op (i := 2) (li' := (lv 8 7)) rfl rfl rfl rfl (by kernel_rfl) (OpA.call rfl rfl rfl en31 (cadd_c (awake_e2.1) (textF (⟨#[113]⟩ : ByteArray) (⟨#[99, 100]⟩ : ByteArray)) q2_0 q2_1) ?_); rintro _ rfl; exact wpS_to hW (s7) (Cov.asg ⟨rfl, rfl, rfl, rfl, rfl, trivial⟩) (.refl _))
  have s9 : W 7 (lv 8 1) (asg [(0, D.b false), (1, .ptr c1 4 0 0), (2, D.i ((newF 1 1).2)), (3, D.i (awake_e2.2)), (21, encCorpus (awake_e2.1))]) [(c1, .cells 4 [encCorpus (awake_e2.1)])] := wpS_of hW (by refine wpS_step (rs := [1]) (by kernel_rfl) rfl ⟨?_, trivial⟩; refine wpS_op (i := 1) (li' := (lv 8 3)) rfl rfl rfl rfl (by kernel_rfl) (OpA.call rfl rfl rfl en32 (ltext_c (⟨#[113]⟩ : ByteArray) (⟨#[99, 100]⟩ : ByteArray) q1_0) ?_); rintro _ rfl; exact wpS_to hW (s8) (Cov.asg ⟨rfl, rfl, rfl, rfl, rfl, rfl, trivial⟩) (.refl _))
  have s10 : W 7 (lv 8 2) (asg [(0, D.b false), (1, .ptr c1 4 0 0), (2, D.i ((newF 1 1).2)), (3, D.i (awake_e2.2)), (22, encText (textF (⟨#[113]⟩ : ByteArray) (⟨#[99, 100]⟩ : ByteArray)))]) [(c1, .cells 4 [encCorpus (awake_e2.1)])] := wpS_of hW (by refine wpS_step (rs := [0]) (by kernel_rfl) rfl ⟨?_, trivial⟩; refine wpS_op (i := 0) (li' := (lv 8 3)) rfl rfl rfl rfl (by kernel_rfl) (OpA.load_whole rfl ti25 rfl rfl .head rfl ⟨_, rfl⟩ ?_); exact wpS_to hW (s8) (Cov.asg ⟨rfl, rfl, rfl, rfl, rfl, rfl, trivial⟩) (.refl _))
  have s11 : W 8 (lv 8 0) (asg [(0, D.b false), (1, .ptr c1 4 0 0), (2, D.i ((newF 1 1).2)), (3, D.i (awake_e2.2))]) [(c1, .cells 4 [encCorpus (awake_e2.1)])] := wpS_of hW (by refine wpS_step (rs := [0, 1]) (by kernel_rfl) rfl ⟨?_, ?_, trivial⟩; refine wpS_op (i := 0) (li' := (lv 8 1)) rfl rfl rfl rfl (by kernel_rfl) (OpA.load_whole rfl ti25 rfl rfl .head rfl ⟨_, rfl⟩ ?_); exact wpS_to hW (s9) (Cov.asg ⟨rfl, rfl, rfl, rfl, rfl, trivial⟩) (.refl _); refine wpS_op (i := 1) (li' := (lv 8 2)) rfl rfl rfl rfl (by kernel_rfl) (OpA.call rfl rfl rfl en32 (ltext_c (⟨#[113]⟩ : ByteArray) (⟨#[99, 100]⟩ : ByteArray) q1_0) ?_); rintro _ rfl; exact wpS_to hW (s10) (Cov.asg ⟨rfl, rfl, rfl, rfl, rfl, trivial⟩) (.refl _))
  refine wpS_of hW ?_
  exact wpS_to hW s11 (Cov.asg ⟨rfl, rfl, rfl, rfl, trivial⟩) (.refl _)
  refine wpS_of hW (wpS_done (by kernel_rfl) ?_)
  refine wpA_seq ?_
  obtain ⟨q1, h⟩ := h
  refine wpA_region ?_
  refine wL (OpA.call rfl rfl rfl en32 (ltext_c (⟨#[116]⟩ : ByteArray) (⟨#[97, 98, 99, 100, 120]⟩ : ByteArray) q1) ?_)
  rintro _ rfl
  refine wL (OpA.alloc (sz := 2) (d := .agg ([D.s ByteArray.empty, .v (.slice none 0 0)])) rfl tz28 (fun _ _ => .agg (.cons (.v _) (.cons (.v _) .nil))) (.of rfl) (fun c202 _ => ?_))
  refine wE (OpA.storeW rfl ti28 rfl (by with_reducible conv => lhs; whnf) (.of rfl) rfl rfl .head ?_)
  refine wpL_nil ?_
  refine wpA_seq ?_
  obtain ⟨q1, q2, h⟩ := h
  refine wpA_region ?_
  refine wL (OpA.load_whole rfl ti25 rfl rfl (.tail .head) rfl ⟨_, rfl⟩ ?_)
  refine wL (OpA.load_whole rfl ti28 rfl rfl .head rfl ⟨_, rfl⟩ ?_)
  refine wL (OpA.call rfl rfl rfl en12 (tof_c (awake_e0.1) awake_e1 2 q1 q2) ?_)
  rintro _ rfl
  refine wL (OpA.m ?_)
  iterate 2 refine wL (OpA.extract rfl rfl rfl ?_)
  refine wL (OpA.alloc (sz := 2) (d := .agg ([D.s ByteArray.empty, .v (.slice none 0 0)])) rfl tz33 (fun _ _ => .agg (.cons (.v _) (.cons (.v _) .nil))) (.of rfl) (fun c203 _ => ?_))
  refine wE (OpA.storeW rfl ti33 rfl (by with_reducible conv => lhs; whnf) (.of rfl) rfl rfl .head ?_)
  refine wL (OpA.a ?_)
  refine wpL_nil ?_
  refine wpA_seq ?_
  obtain ⟨q1, q2, q3, h⟩ := h
  refine wpA_region ?_
  refine wL (OpA.load_whole rfl ti25 rfl rfl (.tail (.tail .head)) rfl ⟨_, rfl⟩ ?_)
  refine wL (OpA.load_whole rfl ti28 rfl rfl (.tail .head) rfl ⟨_, rfl⟩ ?_)
  refine wL (OpA.load_whole rfl ti33 rfl rfl .head rfl ⟨_, rfl⟩ ?_)
  refine wL (OpA.call rfl rfl rfl en15 (tmain_c (awake_e0.1) awake_e1 ((attrF (awake_e0.1) awake_e1 2).1) 40 q1 q2 q3) ?_)
  rintro _ rfl
  refine wL (OpA.m ?_)
  iterate 2 refine wL (OpA.extract rfl rfl rfl ?_)
  iterate 2 refine wL (OpA.a ?_)
  refine wpL_nil ?_
  refine wpA_seq ?_
  obtain ⟨q1, q2, q3, h⟩ := h
  refine wpA_mid (asg [(0, D.b awake_e3)]) [(c203, .cells 2 [encAttribution ((attrF (awake_e0.1) awake_e1 2).1)]), (c202, .cells 2 [encText awake_e1]), (c1, .cells 4 [encCorpus (awake_e0.1)])] ?_ ?_
  refine wpA_region ?_
  refine wL (OpA.m ?_)
  refine wL (OpA.eql rfl rfl rfl ?_)
  refine wL (OpA.m ?_)
  refine wpL_split (s := 42) rfl (fun b204 => ?_) (fun b204 => ?_)
  refine wG (OpA.m ?_)
  refine wG (OpA.eql rfl rfl rfl ?_)
  refine wL (OpA.p ?_)
  refine wL (OpA.m ?_)
  refine wpL_split (s := 46) rfl (fun b205 => ?_) (fun b205 => ?_)
  refine wG (OpA.m ?_)
  refine wG (OpA.eql rfl rfl rfl ?_)
  refine wL (OpA.p ?_)
  refine wL (OpA.m ?_)
  refine wpL_split (s := 50) rfl (fun b206 => ?_) (fun b206 => ?_)
  refine wG (OpA.m ?_)
  refine wG (OpA.eql rfl rfl rfl ?_)
  refine wL (OpA.p ?_)
  refine wL (OpA.m ?_)
  refine wpL_split (s := 54) rfl (fun b207 => ?_) (fun b207 => ?_)
  refine wG (OpA.fieldAddr rfl tf33_0 rfl ?_)
  refine wG (OpA.load rfl ti9 rfl .head rfl rfl ?_)
  refine wG (OpA.seql rfl rfl rfl ?_)
  refine wL (OpA.p ?_)
  refine wL (OpA.m ?_)
  refine wpL_split (s := 59) rfl (fun b208 => ?_) (fun b208 => ?_)
  refine wG (OpA.fieldAddr rfl tf33_1 rfl ?_)
  refine wG (OpA.load rfl ti31 rfl .head rfl rfl ?_)
  refine wG (OpA.buildO (zs := [.v (.int .i64 0), .v (.int .i64 0), .v (.int .i64 0), .v (.int .i64 0)]) rfl tp48 tz48 (fun _ _ => (.cons (.v _) (.cons (.v _) (.cons (.v _) (.cons (.v _) .nil))))) (.cons (.of (sz := 1) rfl) .nil) rfl ?_)
  refine wG (OpA.buildO (zs := [.v (.int .i64 0), .v (.int .i64 0), .v (.int .i64 0), .v (.int .i64 0)]) rfl tp48 tz48 (fun _ _ => (.cons (.v _) (.cons (.v _) (.cons (.v _) (.cons (.v _) .nil))))) (.cons (.of (sz := 1) rfl) (.cons (.of (sz := 1) rfl) (.cons (.of (sz := 1) rfl) .nil))) rfl ?_)
  refine wG (OpA.ibuildSliceO rfl ts31 rfl (.cons (.of (sz := 4) rfl) (.cons (.of (sz := 4) rfl) .nil)) (by decide) ?_)
  refine wG (OpA.call rfl rfl rfl en33 (eqPieces_c (((attrF (awake_e0.1) awake_e1 2).1).pieces) ([(Piece.mk 0 2 0 0), (Piece.mk 2 4 1 0)] : List Piece) (q1 ⟨⟨⟨⟨(beqT b204), (beqT b205)⟩, (beqT b206)⟩, (beqT b207)⟩, (decT b208)⟩)) ?_)
  rintro _ rfl
  refine wL (OpA.p ?_)
  refine wL (OpA.m ?_)
  refine wpL_split (s := 67) rfl (fun b209 => ?_) (fun b209 => ?_)
  refine wG (OpA.m ?_)
  refine wG (OpA.seql rfl rfl rfl ?_)
  refine wL (OpA.p ?_)
  refine wL (OpA.m ?_)
  refine wpL_split (s := 71) rfl (fun b210 => ?_) (fun b210 => ?_)
  refine wG (OpA.m ?_)
  refine wL (OpA.p ?_)
  refine wL (OpA.m ?_)
  refine wpL_split (s := 74) rfl (fun b211 => ?_) (fun b211 => ?_)
  refine wG (OpA.load_whole rfl ti25 rfl rfl (.tail (.tail .head)) rfl ⟨_, rfl⟩ ?_)
  refine wG (OpA.load_whole rfl ti28 rfl rfl (.tail .head) rfl ⟨_, rfl⟩ ?_)
  refine wG (OpA.load_whole rfl ti33 rfl rfl .head rfl ⟨_, rfl⟩ ?_)
  refine wG (OpA.call rfl rfl rfl en17 (tcheck_c (awake_e0.1) awake_e1 2 ((attrF (awake_e0.1) awake_e1 2).1) (q2 ⟨⟨⟨⟨⟨⟨⟨(beqT b204), (beqT b205)⟩, (beqT b206)⟩, (beqT b207)⟩, (decT b208)⟩, b209⟩, (decT b210)⟩, b211⟩).1 (q2 ⟨⟨⟨⟨⟨⟨⟨(beqT b204), (beqT b205)⟩, (beqT b206)⟩, (beqT b207)⟩, (decT b208)⟩, b209⟩, (decT b210)⟩, b211⟩).2.1 (q2 ⟨⟨⟨⟨⟨⟨⟨(beqT b204), (beqT b205)⟩, (beqT b206)⟩, (beqT b207)⟩, (decT b208)⟩, b209⟩, (decT b210)⟩, b211⟩).2.2) ?_)
  rintro _ rfl
  refine wG (OpA.eql rfl rfl rfl ?_)
  refine wL (OpA.p ?_)
  refine wL (OpA.m ?_)
  refine wpL_split (s := 81) rfl (fun b212 => ?_) (fun b212 => ?_)
  refine wG (OpA.load_whole rfl ti25 rfl rfl (.tail (.tail .head)) rfl ⟨_, rfl⟩ ?_)
  refine wG (OpA.load_whole rfl ti28 rfl rfl (.tail .head) rfl ⟨_, rfl⟩ ?_)
  refine wG (OpA.load_whole rfl ti33 rfl rfl .head rfl ⟨_, rfl⟩ ?_)
  refine wG (OpA.call rfl rfl rfl en17 (tcheck_c (awake_e0.1) awake_e1 3 ((attrF (awake_e0.1) awake_e1 2).1) (q3 ⟨⟨⟨⟨⟨⟨⟨⟨(beqT b204), (beqT b205)⟩, (beqT b206)⟩, (beqT b207)⟩, (decT b208)⟩, b209⟩, (decT b210)⟩, b211⟩, (beqT b212)⟩).1 (q3 ⟨⟨⟨⟨⟨⟨⟨⟨(beqT b204), (beqT b205)⟩, (beqT b206)⟩, (beqT b207)⟩, (decT b208)⟩, b209⟩, (decT b210)⟩, b211⟩, (beqT b212)⟩).2.1 (q3 ⟨⟨⟨⟨⟨⟨⟨⟨(beqT b204), (beqT b205)⟩, (beqT b206)⟩, (beqT b207)⟩, (decT b208)⟩, b209⟩, (decT b210)⟩, b211⟩, (beqT b212)⟩).2.2) ?_)
  rintro _ rfl
  refine wG (OpA.eql rfl rfl rfl ?_)
  refine wL (OpA.p ?_)
  refine wL (OpA.a ?_)
  refine wpL_nil ?_
  exact ⟨(Cov.asg ⟨(congrArg D.b (Eq.symm (andN (andN (andN (andN (andN (andN (andN (andN (andN b204 b205) b206) b207) b208) b209) b210) b211) b212) rfl))), trivial⟩), (.refl _)⟩
  iterate 5 refine wS ?_
  refine wL (OpA.p ?_)
  refine wL (OpA.a ?_)
  refine wpL_nil ?_
  exact ⟨(Cov.asg ⟨(congrArg D.b (Eq.symm (andS (andN (andN (andN (andN (andN (andN (andN (andN b204 b205) b206) b207) b208) b209) b210) b211) b212)))), trivial⟩), (.refl _)⟩
  iterate 5 refine wS ?_
  refine wL (OpA.p ?_)
  refine wL (OpA.m ?_)
  iterate 5 refine wS ?_
  refine wL (OpA.p ?_)
  refine wL (OpA.a ?_)
  refine wpL_nil ?_
  exact ⟨(Cov.asg ⟨(congrArg D.b (Eq.symm (andS (andS (andN (andN (andN (andN (andN (andN (andN b204 b205) b206) b207) b208) b209) b210) b211))))), trivial⟩), (.refl _)⟩
  refine wS ?_
  refine wL (OpA.p ?_)
  refine wL (OpA.m ?_)
  iterate 5 refine wS ?_
  refine wL (OpA.p ?_)
  refine wL (OpA.m ?_)
  iterate 5 refine wS ?_
  refine wL (OpA.p ?_)
  refine wL (OpA.a ?_)
  refine wpL_nil ?_
  exact ⟨(Cov.asg ⟨(congrArg D.b (Eq.symm (andS (andS (andS (andN (andN (andN (andN (andN (andN b204 b205) b206) b207) b208) b209) b210)))))), trivial⟩), (.refl _)⟩
  iterate 2 refine wS ?_
  refine wL (OpA.p ?_)
  refine wL (OpA.m ?_)
  refine wS ?_
  refine wL (OpA.p ?_)
  refine wL (OpA.m ?_)
  iterate 5 refine wS ?_
  refine wL (OpA.p ?_)
  refine wL (OpA.m ?_)
  iterate 5 refine wS ?_
  refine wL (OpA.p ?_)
  refine wL (OpA.a ?_)
  refine wpL_nil ?_
  exact ⟨(Cov.asg ⟨(congrArg D.b (Eq.symm (andS (andS (andS (andS (andN (andN (andN (andN (andN b204 b205) b206) b207) b208) b209))))))), trivial⟩), (.refl _)⟩
  iterate 6 refine wS ?_
  refine wL (OpA.p ?_)
  refine wL (OpA.m ?_)
  iterate 2 refine wS ?_
  refine wL (OpA.p ?_)
  refine wL (OpA.m ?_)
  refine wS ?_
  refine wL (OpA.p ?_)
  refine wL (OpA.m ?_)
  iterate 5 refine wS ?_
  refine wL (OpA.p ?_)
  refine wL (OpA.m ?_)
  iterate 5 refine wS ?_
  refine wL (OpA.p ?_)
  refine wL (OpA.a ?_)
  refine wpL_nil ?_
  exact ⟨(Cov.asg ⟨(congrArg D.b (Eq.symm (andS (andS (andS (andS (andS (andN (andN (andN (andN b204 b205) b206) b207) b208)))))))), trivial⟩), (.refl _)⟩
  iterate 3 refine wS ?_
  refine wL (OpA.p ?_)
  refine wL (OpA.m ?_)
  iterate 6 refine wS ?_
  refine wL (OpA.p ?_)
  refine wL (OpA.m ?_)
  iterate 2 refine wS ?_
  refine wL (OpA.p ?_)
  refine wL (OpA.m ?_)
  refine wS ?_
  refine wL (OpA.p ?_)
  refine wL (OpA.m ?_)
  iterate 5 refine wS ?_
  refine wL (OpA.p ?_)
  refine wL (OpA.m ?_)
  iterate 5 refine wS ?_
  refine wL (OpA.p ?_)
  refine wL (OpA.a ?_)
  refine wpL_nil ?_
  exact ⟨(Cov.asg ⟨(congrArg D.b (Eq.symm (andS (andS (andS (andS (andS (andS (andN (andN (andN b204 b205) b206) b207))))))))), trivial⟩), (.refl _)⟩
  iterate 2 refine wS ?_
  refine wL (OpA.p ?_)
  refine wL (OpA.m ?_)
  iterate 3 refine wS ?_
  refine wL (OpA.p ?_)
  refine wL (OpA.m ?_)
  iterate 6 refine wS ?_
  refine wL (OpA.p ?_)
  refine wL (OpA.m ?_)
  iterate 2 refine wS ?_
  refine wL (OpA.p ?_)
  refine wL (OpA.m ?_)
  refine wS ?_
  refine wL (OpA.p ?_)
  refine wL (OpA.m ?_)
  iterate 5 refine wS ?_
  refine wL (OpA.p ?_)
  refine wL (OpA.m ?_)
  iterate 5 refine wS ?_
  refine wL (OpA.p ?_)
  refine wL (OpA.a ?_)
  refine wpL_nil ?_
  exact ⟨(Cov.asg ⟨(congrArg D.b (Eq.symm (andS (andS (andS (andS (andS (andS (andS (andN (andN b204 b205) b206)))))))))), trivial⟩), (.refl _)⟩
  iterate 2 refine wS ?_
  refine wL (OpA.p ?_)
  refine wL (OpA.m ?_)
  iterate 2 refine wS ?_
  refine wL (OpA.p ?_)
  refine wL (OpA.m ?_)
  iterate 3 refine wS ?_
  refine wL (OpA.p ?_)
  refine wL (OpA.m ?_)
  iterate 6 refine wS ?_
  refine wL (OpA.p ?_)
  refine wL (OpA.m ?_)
  iterate 2 refine wS ?_
  refine wL (OpA.p ?_)
  refine wL (OpA.m ?_)
  refine wS ?_
  refine wL (OpA.p ?_)
  refine wL (OpA.m ?_)
  iterate 5 refine wS ?_
  refine wL (OpA.p ?_)
  refine wL (OpA.m ?_)
  iterate 5 refine wS ?_
  refine wL (OpA.p ?_)
  refine wL (OpA.a ?_)
  refine wpL_nil ?_
  exact ⟨(Cov.asg ⟨(congrArg D.b (Eq.symm (andS (andS (andS (andS (andS (andS (andS (andS (andN b204 b205))))))))))), trivial⟩), (.refl _)⟩
  iterate 2 refine wS ?_
  refine wL (OpA.p ?_)
  refine wL (OpA.m ?_)
  iterate 2 refine wS ?_
  refine wL (OpA.p ?_)
  refine wL (OpA.m ?_)
  iterate 2 refine wS ?_
  refine wL (OpA.p ?_)
  refine wL (OpA.m ?_)
  iterate 3 refine wS ?_
  refine wL (OpA.p ?_)
  refine wL (OpA.m ?_)
  iterate 6 refine wS ?_
  refine wL (OpA.p ?_)
  refine wL (OpA.m ?_)
  iterate 2 refine wS ?_
  refine wL (OpA.p ?_)
  refine wL (OpA.m ?_)
  refine wS ?_
  refine wL (OpA.p ?_)
  refine wL (OpA.m ?_)
  iterate 5 refine wS ?_
  refine wL (OpA.p ?_)
  refine wL (OpA.m ?_)
  iterate 5 refine wS ?_
  refine wL (OpA.p ?_)
  refine wL (OpA.a ?_)
  refine wpL_nil ?_
  exact ⟨(Cov.asg ⟨(congrArg D.b (Eq.symm (andS (andS (andS (andS (andS (andS (andS (andS (andS b204))))))))))), trivial⟩), (.refl _)⟩
  show wpA _ _ _ _ (asg [(0, D.b awake_e3)]) [(c203, .cells 2 [encAttribution ((attrF (awake_e0.1) awake_e1 2).1)]), (c202, .cells 2 [encText awake_e1]), (c1, .cells 4 [encCorpus (awake_e0.1)])]
  refine wpA_ret ?_
  exact ⟨_, (.tmp (d := D.b awake_e3) rfl .nil), _, (.same rfl .nil), ⟨awake_e3, rfl, h⟩⟩
theorem awake_c    : Fun false Tryz.prog 10 [] (fun d => d = D.b (true)) :=
  Fun.at (enc := fun r => D.b r) (v := true) (awake_w   (fun r => r = true) (awake_ok  _  rfl))

set_option maxHeartbeats 2000000 in
set_option maxRecDepth 10000 in
theorem lsmall_w (c : Corpus) (t : Text) (a : Attribution)  (Q : Bool → Prop) (h : lsmall_vc c t a Q) : Fun false Tryz.prog 11 [encCorpus c, encText t, encAttribution a] (fun d => ∃ r, d = D.b r ∧ Q r) := by
  unfold lsmall_vc at h
  refine Fun.of_body Tryz.func11 rfl Tryz.ntmps11 rfl ?_
  refine wpA_seq ?_
  refine wpA_region ?_
  refine wL (OpA.bx (sz := 4) rfl (by with_reducible conv => lhs; whnf) (.of rfl) (fun c1 _ => ?_))
  refine wL (OpA.bx (sz := 2) rfl (by with_reducible conv => lhs; whnf) (.of rfl) (fun c2 _ => ?_))
  refine wL (OpA.bx (sz := 2) rfl (by with_reducible conv => lhs; whnf) (.of rfl) (fun c3 _ => ?_))
  refine wL (OpA.a ?_)
  refine wpL_nil ?_
  refine wpA_seq ?_
  refine wpA_mid (asg [(6, D.b ((((fewC c) && (fewTs ([t] : List Text))) && (decide ((a.pieces.length : Int) ≤ 60))) && (decide ((a.path.size : Int) ≤ 200))))]) [(c3, .cells 2 [encAttribution a]), (c2, .cells 2 [encText t]), (c1, .cells 4 [encCorpus c])] ?_ ?_
  refine wpA_region ?_
  refine wL (OpA.load_whole rfl ti25 rfl rfl (.tail (.tail .head)) rfl ⟨_, rfl⟩ ?_)
  refine wL (OpA.call rfl rfl rfl en19 (c26few_c c ) ?_)
  rintro _ rfl
  refine wL (OpA.m ?_)
  refine wpL_split (s := 9) rfl (fun b4 => ?_) (fun b4 => ?_)
  refine wG (OpA.load_whole rfl ti28 rfl rfl (.tail .head) rfl ⟨_, rfl⟩ ?_)
  refine wG (OpA.ibuildSliceO rfl ts22 rfl (.cons (.of (sz := 2) rfl) .nil) (by decide) ?_)
  refine wG (OpA.call rfl rfl rfl en34 (c26fewt_c ([t] : List Text) ) ?_)
  rintro _ rfl
  refine wL (OpA.p ?_)
  refine wL (OpA.m ?_)
  refine wpL_split (s := 14) rfl (fun b5 => ?_) (fun b5 => ?_)
  refine wG (OpA.fieldAddr rfl tf33_1 rfl ?_)
  refine wG (OpA.load rfl ti31 rfl .head rfl rfl ?_)
  refine wG (OpA.len rfl rfl rfl rfl ts31.desc (.inl ⟨_, _, rfl, (List.length_map _).symm⟩) ?_)
  refine wG (OpA.leq rfl rfl rfl ?_)
  refine wL (OpA.p ?_)
  refine wL (OpA.m ?_)
  refine wpL_split (s := 20) rfl (fun b6 => ?_) (fun b6 => ?_)
  refine wG (OpA.fieldAddr rfl tf33_0 rfl ?_)
  refine wG (OpA.load rfl ti9 rfl .head rfl rfl ?_)
  refine wG (OpA.slen rfl rfl rfl rfl td9 rfl ?_)
  refine wG (OpA.leq rfl rfl rfl ?_)
  refine wL (OpA.p ?_)
  refine wL (OpA.a ?_)
  refine wpL_nil ?_
  exact ⟨(Cov.asg ⟨(congrArg D.b (Eq.symm (andN (andN (andN b4 b5) b6) rfl))), trivial⟩), (.refl _)⟩
  iterate 4 refine wS ?_
  refine wL (OpA.p ?_)
  refine wL (OpA.a ?_)
  refine wpL_nil ?_
  exact ⟨(Cov.asg ⟨(congrArg D.b (Eq.symm (andS (andN (andN b4 b5) b6)))), trivial⟩), (.refl _)⟩
  iterate 4 refine wS ?_
  refine wL (OpA.p ?_)
  refine wL (OpA.m ?_)
  iterate 4 refine wS ?_
  refine wL (OpA.p ?_)
  refine wL (OpA.a ?_)
  refine wpL_nil ?_
  exact ⟨(Cov.asg ⟨(congrArg D.b (Eq.symm (andS (andS (andN b4 b5))))), trivial⟩), (.refl _)⟩
  iterate 3 refine wS ?_
  refine wL (OpA.p ?_)
  refine wL (OpA.m ?_)
  iterate 4 refine wS ?_
  refine wL (OpA.p ?_)
  refine wL (OpA.m ?_)
  iterate 4 refine wS ?_
  refine wL (OpA.p ?_)
  refine wL (OpA.a ?_)
  refine wpL_nil ?_
  exact ⟨(Cov.asg ⟨(congrArg D.b (Eq.symm (andS (andS (andS b4))))), trivial⟩), (.refl _)⟩
  show wpA _ _ _ _ (asg [(6, D.b ((((fewC c) && (fewTs ([t] : List Text))) && (decide ((a.pieces.length : Int) ≤ 60))) && (decide ((a.path.size : Int) ≤ 200))))]) [(c3, .cells 2 [encAttribution a]), (c2, .cells 2 [encText t]), (c1, .cells 4 [encCorpus c])]
  refine wpA_ret ?_
  exact ⟨_, (.tmp (d := D.b ((((fewC c) && (fewTs ([t] : List Text))) && (decide ((a.pieces.length : Int) ≤ 60))) && (decide ((a.path.size : Int) ≤ 200)))) rfl .nil), _, (.same rfl .nil), ⟨((((fewC c) && (fewTs ([t] : List Text))) && (decide ((a.pieces.length : Int) ≤ 60))) && (decide ((a.path.size : Int) ≤ 200))), rfl, h⟩⟩
theorem lsmall_c (c : Corpus) (t : Text) (a : Attribution)   : Fun false Tryz.prog 11 [encCorpus c, encText t, encAttribution a] (fun d => d = D.b (smallF c t a)) :=
  Fun.at (enc := fun r => D.b r) (v := smallF c t a) (lsmall_w c t a  (fun r => r = smallF c t a) (lsmall_ok c t a _  rfl))

set_option maxHeartbeats 2000000 in
set_option maxRecDepth 10000 in
theorem lcover_w (a : Attribution)  (Q : Int → Prop) (h : lcover_vc a Q) : Fun false Tryz.prog 18 [encAttribution a] (fun d => ∃ r, d = D.i r ∧ Q r) := by
  unfold lcover_vc at h
  refine Fun.of_body Tryz.func18 rfl Tryz.ntmps18 rfl ?_
  refine wpA_seq ?_
  refine wpA_region ?_
  refine wL (OpA.bx (sz := 2) rfl (by with_reducible conv => lhs; whnf) (.of rfl) (fun c1 _ => ?_))
  refine wL (OpA.a ?_)
  refine wpL_nil ?_
  refine wpA_seq ?_
  refine wpA_region ?_
  refine wL (OpA.a ?_)
  refine wpL_nil ?_
  iterate 2 refine wpA_seq ?_
  refine wpA_region ?_
  refine wL (OpA.fieldAddr rfl tf33_1 rfl ?_)
  refine wL (OpA.load rfl ti31 rfl .head rfl rfl ?_)
  refine wL (OpA.len rfl rfl rfl rfl ts31.desc (.inl ⟨_, _, rfl, (List.length_map _).symm⟩) ?_)
  refine wL (OpA.m ?_)
  refine wpL_nil ?_
  refine wpA_block ?_
  refine wpA_lfp (S := Int × Int) (G := Unit) () (fun gg ss => asg [(2, D.i 0), (3, D.i ss.1), (7, (encL 4 encPiece) a.pieces), (8, D.i (a.pieces.length : Int)), (9, D.i ss.2)]) (fun gg ss => [(c1, .cells 2 [encAttribution a])]) h (Cov.asg ⟨rfl, rfl, rfl, rfl, rfl, trivial⟩) (.refl _) ?_
  rintro again2 _ ⟨out, x⟩ h
  have h : lcover_L1 a Q again2 out x := h
  unfold lcover_L1 at h
  show wpA _ _ _ _ (asg [(2, D.i 0), (3, D.i out), (7, (encL 4 encPiece) a.pieces), (8, D.i (a.pieces.length : Int)), (9, D.i x)]) [(c1, .cells 2 [encAttribution a])]
  refine wpA_seq ?_
  refine wpA_region ?_
  refine wL (OpA.lss rfl rfl rfl ?_)
  refine wpL_nil ?_
  refine wpA_seq ?_
  refine wpA_cond rfl (fun b3 => ?_) (fun b3 => ?_)
  have h := h.1 (decT b3)
  refine wpA_skip ?_
  refine wpA_seq ?_
  refine wpA_block ?_
  refine wpA_seq ?_
  obtain ⟨q1, h⟩ := h
  refine wpA_region ?_
  refine wL (OpA.iixV (enc := encPiece) rfl ts31 rfl rfl rfl q1 ?_)
  refine wL (OpA.iload_whole rfl ti48 rfl ⟨_, rfl, rfl⟩ ?_)
  refine wL (OpA.alloc (sz := 4) (d := encPiece (Piece.mk 0 0 0 0)) rfl tz48 (fun _ _ => .agg (.cons (.v _) (.cons (.v _) (.cons (.v _) (.cons (.v _) .nil))))) (.of rfl) (fun c4 _ => ?_))
  refine wE (OpA.storeW rfl ti48 rfl (by with_reducible conv => lhs; whnf) (.of rfl) rfl rfl .head ?_)
  refine wpL_nil ?_
  obtain ⟨q1, q2, h⟩ := h
  refine wpA_region ?_
  refine wL (OpA.m ?_)
  refine wL (OpA.fieldAddr rfl tf48_1 rfl ?_)
  refine wL (OpA.load rfl ti3 rfl .head rfl rfl ?_)
  refine wL (OpA.fieldAddr rfl tf48_0 rfl ?_)
  refine wL (OpA.load rfl ti3 rfl .head rfl rfl ?_)
  refine wL (OpA.subi rfl rfl rfl q1 ?_)
  refine wL (OpA.addi rfl rfl rfl q2 ?_)
  refine wL (OpA.a ?_)
  refine wpL_nil ?_
  obtain ⟨q1, h⟩ := h
  refine wpA_region ?_
  refine wL (OpA.addi rfl rfl rfl q1 ?_)
  refine wL (OpA.m ?_)
  refine wpL_nil ?_
  exact ⟨(), ((out + (((gi a.pieces x).to) - ((gi a.pieces x).from_))), (x + 1)), h, (Cov.asg ⟨rfl, rfl, rfl, rfl, rfl, trivial⟩), (.cons _ (.refl _))⟩
  have h := h.2 (decF b3)
  refine wpA_exit ?_
  refine wpA_seq ?_
  refine wpA_region ?_
  refine wL (OpA.m ?_)
  refine wL (OpA.a ?_)
  refine wpL_nil ?_
  refine wpA_ret ?_
  exact ⟨_, (.tmp (d := D.i out) rfl .nil), _, (.same rfl .nil), ⟨out, rfl, h⟩⟩
theorem lcover_c (a : Attribution)  (hp0 : okV a) : Fun false Tryz.prog 18 [encAttribution a] (fun d => d = D.i ((coverF a.pieces))) :=
  Fun.at (enc := fun r => D.i r) (v := (coverF a.pieces)) (lcover_w a  (fun r => r = (coverF a.pieces)) (lcover_ok a _ hp0 rfl))
end Go.Proofs.YtaofnefejkokdaaGreatDoor
