/-
  walks and contracts
-/
import Derived.Test.YtglclijalehcmaaGreatDoorV9
import Derived.Test.YtglclijalehcmaaGreatDoorKwZ
set_option maxRecDepth 10000
set_option maxHeartbeats 2000000
set_option linter.all false
namespace Go.Proofs.YtglclijalehcmaaGreatDoor
open Go Go.Lic Go.Sort Go.Proofs
attribute [local irreducible] addF addP againstC badR beforeF behindF blankF checkC checkF checkF29 cloneCmp clonesF cmpB cmpI codeF commonF4 countF countL coveredF famF fewC fewTs fewW findC findT gramsF growTF guarF has1F hasF hashF indexF insideF insideT leastF lenC lenF linesF listF lookF mergeF mul64F mulP nameR nearC nearF newF ofF orF packF pairF partF pathB pathF postCmp postLt postsF powF printsF pushF rightL rollF sameW selectF sizeF spanCmp spanR splitF splitG textF validF validT
theorem eqClones_w (s1 : (List Clone)) (s2 : (List Clone)) (Q : Bool → Prop) (h : eqClones_vc s1 s2 Q) : Fun false Tryz.prog 13 [(encL 5 encClone) s1, (encL 5 encClone) s2] (fun d => ∃ r, d = D.b r ∧ Q r) := by
 unfold eqClones_vc at h
 refine Fun.of_body Tryz.func13 rfl Tryz.ntmps13 rfl ?_
 refine wpA_seq ?_
 refine wpA_region ?_
 refine wL (OpA.a ?_)
 refine wpL_nil ?_
 iterate 2 refine wpA_seq ?_
 refine wpA_region ?_
 refine wL (OpA.m ?_)
 refine wL (OpA.len rfl rfl rfl rfl ts32.desc (.inl ⟨_, _, rfl, (List.length_map _).symm⟩) ?_)
 refine wL (OpA.m ?_)
 refine wL (OpA.len rfl rfl rfl rfl ts32.desc (.inl ⟨_, _, rfl, (List.length_map _).symm⟩) ?_)
 refine wL (OpA.neq rfl rfl rfl ?_)
 refine wpL_nil ?_
 refine wpA_cond rfl (fun b1 => ?_) (fun b1 => ?_)
 have h := h.1 (bneT b1)
 refine wpA_seq ?_
 refine wpA_region ?_
 refine wL (OpA.a ?_)
 refine wpL_nil ?_
 refine wpA_ret ?_
 exact ⟨_, (.tmp (d := D.b false) rfl .nil), _, (.same rfl .nil), ⟨false, rfl, h⟩⟩
 have h := h.2 (bneF b1)
 refine wpA_skip ?_
 iterate 2 refine wpA_seq ?_
 refine wpA_region ?_
 refine wL (OpA.m ?_)
 refine wL (OpA.len rfl rfl rfl rfl ts32.desc (.inl ⟨_, _, rfl, (List.length_map _).symm⟩) ?_)
 refine wL (OpA.m ?_)
 refine wpL_nil ?_
 refine wpA_block ?_
 refine wpA_lfp (S := Int) (G := Unit) () (fun gg ss => asg [(0, (encL 5 encClone) s1), (1, (encL 5 encClone) s2), (4, D.b false), (12, D.i (s1.length : Int)), (13, D.i ss)]) (fun gg ss => []) h (Cov.asg ⟨rfl, rfl, rfl, rfl, rfl, trivial⟩) (.refl _) ?_
 rintro again2 _ x h
 have h : eqClones_L1 s1 s2 Q again2 x := h
 unfold eqClones_L1 at h
 show wpA _ _ _ _ (asg [(0, (encL 5 encClone) s1), (1, (encL 5 encClone) s2), (4, D.b false), (12, D.i (s1.length : Int)), (13, D.i x)]) []
 refine wpA_seq ?_
 refine wpA_region ?_
 refine wL (OpA.lss rfl rfl rfl ?_)
 refine wpL_nil ?_
 refine wpA_seq ?_
 refine wpA_cond rfl (fun b3 => ?_) (fun b3 => ?_)
 have h := h.1 (decT b3)
 refine wpA_skip ?_
 refine wpA_seq ?_
 refine wpA_block ?_
 refine wpA_seq ?_
 refine wpA_region ?_
 refine wL (OpA.m ?_)
 refine wL (OpA.a ?_)
 refine wpL_nil ?_
 refine wpA_seq ?_
 obtain ⟨q1, q2, h⟩ := h
 refine wpA_draw (m := 9) mo (by kernel_rfl) rfl ?_
 iterate 2 refine dL (OpA.m ⟨rfl, rfl⟩) ?_
 refine dL (OpA.iixV (enc := encClone) rfl ts32 rfl rfl rfl q1 ⟨rfl, rfl⟩) ?_
 refine dL (OpA.iload_whole rfl ti38 rfl ⟨_, rfl, rfl⟩ ⟨rfl, rfl⟩) ?_
 iterate 2 refine dL (OpA.m ⟨rfl, rfl⟩) ?_
 refine dL (OpA.iixV (enc := encClone) rfl ts32 rfl rfl rfl q2 ⟨rfl, rfl⟩) ?_
 refine dL (OpA.iload_whole rfl ti38 rfl ⟨_, rfl, rfl⟩ ⟨rfl, rfl⟩) ?_
 refine dL (OpA.structcmp (xs := [.int .i64 ((gi s1 x).a), .int .i64 ((gi s1 x).atA), .int .i64 ((gi s1 x).b), .int .i64 ((gi s1 x).atB), .int .i64 ((gi s1 x).len)]) (ys := [.int .i64 ((gi s2 x).a), .int .i64 ((gi s2 x).atA), .int .i64 ((gi s2 x).b), .int .i64 ((gi s2 x).atB), .int .i64 ((gi s2 x).len)]) (r := (eqClone (gi s1 x) (gi s2 x))) rfl eg38 su38.1 su38.2.1 su38.2.2 rfl rfl (.int td3 ti3 rfl rfl (.int td3 ti3 rfl rfl (.int td3 ti3 rfl rfl (.int td3 ti3 rfl rfl (.int td3 ti3 rfl rfl .nil))))) (.inr ⟨rfl, rfl⟩) ⟨rfl, rfl⟩) ?_
 refine DetK.nil ?_
 refine wpL_nil ?_
 refine wpA_cond rfl (fun b4 => ?_) (fun b4 => ?_)
 have h := h.1 (notT b4)
 refine wpA_seq ?_
 refine wpA_region ?_
 refine wL (OpA.a ?_)
 refine wpL_nil ?_
 refine wpA_ret ?_
 exact ⟨_, (.tmp (d := D.b false) rfl .nil), _, (.same rfl .nil), ⟨false, rfl, h⟩⟩
 have h := h.2 (notF b4)
 refine wpA_skip ?_
 obtain ⟨q1, h⟩ := h
 refine wpA_region ?_
 refine wL (OpA.addi rfl rfl rfl q1 ?_)
 refine wL (OpA.m ?_)
 refine wpL_nil ?_
 exact ⟨(), (x + 1), h, (Cov.asg ⟨rfl, rfl, rfl, rfl, rfl, trivial⟩), (.refl _)⟩
 have h := h.2 (decF b3)
 refine wpA_exit ?_
 refine wpA_seq ?_
 refine wpA_region ?_
 refine wL (OpA.a ?_)
 refine wpL_nil ?_
 refine wpA_ret ?_
 exact ⟨_, (.tmp (d := D.b true) rfl .nil), _, (.same rfl .nil), ⟨true, rfl, h⟩⟩
theorem eqClones_c (s1 : (List Clone)) (s2 : (List Clone)) (hp0 : s1.length ≤ 9223372036854775807) : Fun false Tryz.prog 13 [(encL 5 encClone) s1, (encL 5 encClone) s2] (fun d => d = D.b ((decide (s1 = s2)))) :=
 Fun.at (enc := fun r => D.b r) (v := (decide (s1 = s2))) (eqClones_w s1 s2  (fun r => r = (decide (s1 = s2))) (eqClones_ok s1 s2 _ hp0 rfl))
theorem ixClone_w (s_ : (List Clone)) (g_p : Nat) (fs_p cs_p : List D) (p : Clone → Bool) (pD : Clone → Prop) (hen_p : entersB Tryz.prog g_p = true) (hg_p : ∀ x0_, pD x0_ → Fun false Tryz.prog g_p (fs_p ++ [encClone x0_] ++ cs_p) (fun d => d = D.b (p x0_))) (Q : Int → Prop) (h : ixClone_vc s_ p pD Q) : Fun false Tryz.prog 55 [(encL 5 encClone) s_, .fn (.func g_p) fs_p cs_p] (fun d => ∃ r, d = D.i r ∧ Q r) := by
 unfold ixClone_vc at h
 refine Fun.of_body Tryz.func55 rfl Tryz.ntmps55 rfl ?_
 refine wpA_seq ?_
 refine wpA_region ?_
 refine wL (OpA.a ?_)
 refine wpL_nil ?_
 iterate 2 refine wpA_seq ?_
 refine wpA_region ?_
 refine wL (OpA.m ?_)
 refine wL (OpA.len rfl rfl rfl rfl ts32.desc (.inl ⟨_, _, rfl, (List.length_map _).symm⟩) ?_)
 refine wL (OpA.m ?_)
 refine wpL_nil ?_
 refine wpA_block ?_
 refine wpA_lfp (S := Int) (G := Unit) () (fun gg ss => asg [(0, (encL 5 encClone) s_), (1, .fn (.func g_p) fs_p cs_p), (4, D.i 0), (7, D.i (s_.length : Int)), (8, D.i ss)]) (fun gg ss => []) h (Cov.asg ⟨rfl, rfl, rfl, rfl, rfl, trivial⟩) (.refl _) ?_
 rintro again1 _ x h
 have h : ixClone_L1 s_ p pD Q again1 x := h
 unfold ixClone_L1 at h
 show wpA _ _ _ _ (asg [(0, (encL 5 encClone) s_), (1, .fn (.func g_p) fs_p cs_p), (4, D.i 0), (7, D.i (s_.length : Int)), (8, D.i x)]) []
 refine wpA_seq ?_
 refine wpA_region ?_
 refine wL (OpA.lss rfl rfl rfl ?_)
 refine wpL_nil ?_
 refine wpA_seq ?_
 refine wpA_cond rfl (fun b2 => ?_) (fun b2 => ?_)
 have h := h.1 (decT b2)
 refine wpA_skip ?_
 refine wpA_seq ?_
 refine wpA_block ?_
 refine wpA_seq ?_
 refine wpA_region ?_
 refine wL (OpA.m ?_)
 refine wL (OpA.a ?_)
 refine wpL_nil ?_
 refine wpA_seq ?_
 obtain ⟨q1, q2, h⟩ := h
 refine wpA_region ?_
 iterate 3 refine wL (OpA.m ?_)
 refine wL (OpA.iixV (enc := encClone) rfl ts32 rfl rfl rfl q1 ?_)
 refine wL (OpA.iload_whole rfl ti38 rfl ⟨_, rfl, rfl⟩ ?_)
 refine wL (OpA.call rfl rfl rfl hen_p (hg_p (gi s_ x) q2) ?_)
 rintro _ rfl
 refine wpL_nil ?_
 refine wpA_cond rfl (fun b3 => ?_) (fun b3 => ?_)
 have h := h.1 b3
 refine wpA_seq ?_
 refine wpA_region ?_
 refine wL (OpA.m ?_)
 refine wL (OpA.a ?_)
 refine wpL_nil ?_
 refine wpA_ret ?_
 exact ⟨_, (.tmp (d := D.i x) rfl .nil), _, (.same rfl .nil), ⟨x, rfl, h⟩⟩
 have h := h.2 b3
 refine wpA_skip ?_
 obtain ⟨q1, h⟩ := h
 refine wpA_region ?_
 refine wL (OpA.addi rfl rfl rfl q1 ?_)
 refine wL (OpA.m ?_)
 refine wpL_nil ?_
 exact ⟨(), (x + 1), h, (Cov.asg ⟨rfl, rfl, rfl, rfl, rfl, trivial⟩), (.refl _)⟩
 have h := h.2 (decF b2)
 refine wpA_exit ?_
 refine wpA_seq ?_
 refine wpA_region ?_
 refine wL (OpA.a ?_)
 refine wpL_nil ?_
 refine wpA_ret ?_
 exact ⟨_, (.tmp (d := D.i (-1)) rfl .nil), _, (.same rfl .nil), ⟨(-1), rfl, h⟩⟩
theorem ixClone_c (s_ : (List Clone)) (g_p : Nat) (fs_p cs_p : List D) (p : Clone → Bool) (pD : Clone → Prop) (hen_p : entersB Tryz.prog g_p = true) (hg_p : ∀ x0_, pD x0_ → Fun false Tryz.prog g_p (fs_p ++ [encClone x0_] ++ cs_p) (fun d => d = D.b (p x0_))) (hp0 : s_.length ≤ 9223372036854775807) (hp1 : ∀ z_ ∈ s_, pD z_) : Fun false Tryz.prog 55 [(encL 5 encClone) s_, .fn (.func g_p) fs_p cs_p] (fun d => d = D.i ((idxOf p s_))) :=
 Fun.at (enc := fun r => D.i r) (v := (idxOf p s_)) (ixClone_w s_ g_p fs_p cs_p p pD hen_p hg_p (fun r => r = (idxOf p s_)) (ixClone_ok s_ p pD _ hp0 hp1 rfl))
theorem cfClone_w (s_ : (List Clone)) (g_p : Nat) (fs_p cs_p : List D) (p : Clone → Bool) (pD : Clone → Prop) (hen_p : entersB Tryz.prog g_p = true) (hg_p : ∀ x0_, pD x0_ → Fun false Tryz.prog g_p (fs_p ++ [encClone x0_] ++ cs_p) (fun d => d = D.b (p x0_))) (Q : Bool → Prop) (h : cfClone_vc s_ p pD Q) : Fun false Tryz.prog 33 [(encL 5 encClone) s_, .fn (.func g_p) fs_p cs_p] (fun d => ∃ r, d = D.b r ∧ Q r) := by
 unfold cfClone_vc at h
 refine Fun.of_body Tryz.func33 rfl Tryz.ntmps33 rfl ?_
 refine wpA_seq ?_
 refine wpA_region ?_
 refine wL (OpA.a ?_)
 refine wpL_nil ?_
 refine wpA_seq ?_
 obtain ⟨q1, q2, h⟩ := h
 refine wpA_region ?_
 iterate 2 refine wL (OpA.m ?_)
 refine wL (OpA.call rfl rfl rfl en55 (ixClone_c s_ g_p fs_p cs_p p pD hen_p hg_p q1 q2) ?_)
 rintro _ rfl
 refine wL (OpA.geq rfl rfl rfl ?_)
 refine wL (OpA.a ?_)
 refine wpL_nil ?_
 refine wpA_ret ?_
 exact ⟨_, (.tmp (d := D.b (decide ((idxOf p s_) ≥ 0))) rfl .nil), _, (.same rfl .nil), ⟨(decide ((idxOf p s_) ≥ 0)), rfl, h⟩⟩
theorem cfClone_c (s_ : (List Clone)) (g_p : Nat) (fs_p cs_p : List D) (p : Clone → Bool) (pD : Clone → Prop) (hen_p : entersB Tryz.prog g_p = true) (hg_p : ∀ x0_, pD x0_ → Fun false Tryz.prog g_p (fs_p ++ [encClone x0_] ++ cs_p) (fun d => d = D.b (p x0_))) (hp0 : s_.length ≤ 9223372036854775807) (hp1 : ∀ z_ ∈ s_, pD z_) : Fun false Tryz.prog 33 [(encL 5 encClone) s_, .fn (.func g_p) fs_p cs_p] (fun d => d = D.b ((s_.any p))) :=
 Fun.at (enc := fun r => D.b r) (v := (s_.any p)) (cfClone_w s_ g_p fs_p cs_p p pD hen_p hg_p (fun r => r = (s_.any p)) (cfClone_ok s_ p pD _ hp0 hp1 rfl))
theorem ltext_w (path : ByteArray) (s_ : ByteArray) (Q : Text → Prop) (h : ltext_vc path s_ Q) : Fun false Tryz.prog 46 [D.s path, D.s s_] (fun d => ∃ r, d = encText r ∧ Q r) := by
 unfold ltext_vc at h
 refine Fun.of_body Tryz.func46 rfl Tryz.ntmps46 rfl ?_
 refine wpA_seq ?_
 refine wpA_region ?_
 refine wL (OpA.alloc (sz := 2) (d := .agg ([D.s ByteArray.empty, .v (.slice none 0 0)])) rfl tz28 (fun _ _ => .agg (.cons (.v _) (.cons (.v _) .nil))) (.of rfl) (fun c1 _ => ?_))
 refine wpL_nil ?_
 refine wpA_seq ?_
 refine wpA_region ?_
 refine wL (OpA.m ?_)
 refine wL (OpA.buildO (zs := [.v (.string ⟨#[]⟩), .v (.slice none 0 0)]) rfl tp28 tz28 (fun _ _ => (.cons (.v _) (.cons (.v _) .nil))) (.cons (.of (sz := 1) rfl) .nil) rfl ?_)
 refine wL (OpA.alloc (sz := 2) (d := .agg ([D.s ByteArray.empty, .v (.slice none 0 0)])) rfl tz28 (fun _ _ => .agg (.cons (.v _) (.cons (.v _) .nil))) (.of rfl) (fun c2 _ => ?_))
 refine wE (OpA.storeW rfl ti28 rfl (by with_reducible conv => lhs; whnf) (.of rfl) rfl rfl .head ?_)
 refine wpL_nil ?_
 iterate 2 refine wpA_seq ?_
 refine wpA_region ?_
 refine wL (OpA.m ?_)
 refine wL (OpA.slen rfl rfl rfl rfl td9 rfl ?_)
 refine wL (OpA.m ?_)
 refine wpL_nil ?_
 refine wpA_block ?_
 refine wpA_ghostM (c := c2) (sz1 := 2) (sz := 2) (es' := fun g3 => [.agg ([D.s path, .own g3 2 ([] : List D).length ([] : List Lexeme).length])]) (fun _ => .head) (fun _ => (.same (.turn .nil))) (fun _ => rfl) (fun _ => by rintro d (_ | ⟨_, hd⟩); exact .of rfl; cases hd) (fun g3 => ?_)
 refine wpA_lfp (S := (List Lexeme) × Int) (G := Nat × List D × List D) (g3, ([] : List D), ([] : List D)) (fun gg ss => asg [(1, D.s s_), (4, .ptr c1 2 0 0), (5, .ptr c2 2 0 0), (10, D.i (s_.size : Int)), (11, D.i ss.2)]) (fun gg ss => [(gg.1, .cells 2 (winL encLex gg.2.1 ss.1 gg.2.2)), (c2, .cells 2 [.agg ([D.s path, .own gg.1 2 gg.2.1.length ss.1.length])]), (c1, .cells 2 [.agg ([D.s ByteArray.empty, .v (.slice none 0 0)])])]) h (Cov.asg ⟨rfl, rfl, rfl, rfl, rfl, trivial⟩) (.refl _) ?_
 rintro again4 ⟨cbgh5, pregh5, postgh5⟩ ⟨xs, x⟩ h
 have h : ltext_L1 path s_ Q again4 xs x := h
 unfold ltext_L1 at h
 show wpA _ _ _ _ (asg [(1, D.s s_), (4, .ptr c1 2 0 0), (5, .ptr c2 2 0 0), (10, D.i (s_.size : Int)), (11, D.i x)]) [(cbgh5, .cells 2 (winL encLex pregh5 xs postgh5)), (c2, .cells 2 [.agg ([D.s path, .own cbgh5 2 pregh5.length xs.length])]), (c1, .cells 2 [.agg ([D.s ByteArray.empty, .v (.slice none 0 0)])])]
 refine wpA_seq ?_
 refine wpA_region ?_
 refine wL (OpA.lss rfl rfl rfl ?_)
 refine wpL_nil ?_
 refine wpA_seq ?_
 refine wpA_cond rfl (fun b5 => ?_) (fun b5 => ?_)
 have h := h.1 (decT b5)
 refine wpA_skip ?_
 refine wpA_seq ?_
 refine wpA_block ?_
 refine wpA_seq ?_
 refine wpA_region ?_
 refine wL (OpA.m ?_)
 refine wL (OpA.a ?_)
 refine wpL_nil ?_
 obtain ⟨q1, q2, q3, h⟩ := h
 refine wpA_draw (m := 9) mo (by kernel_rfl) rfl ?_
 refine dL (OpA.fieldAddr rfl tf28_1 rfl ⟨rfl, rfl⟩) ?_
 refine dL (OpA.load rfl ti26 rfl (.tail .head) rfl rfl ⟨rfl, rfl⟩) ?_
 iterate 3 refine dL (OpA.m ⟨rfl, rfl⟩) ?_
 refine dL (OpA.addi rfl rfl rfl q1 ⟨rfl, rfl⟩) ?_
 refine dL (OpA.ssliceV rfl td9 rfl (.some rfl) (.some rfl) q2 ⟨rfl, rfl⟩) ?_
 refine dL (OpA.buildO (zs := [.v (.string ⟨#[]⟩), .v (.int .i64 0)]) rfl tp61 tz61 (fun _ _ => (.cons (.v _) (.cons (.v _) .nil))) (.cons (.of (sz := 1) rfl) .nil) rfl ⟨rfl, rfl⟩) ?_
 refine dL (OpA.ibuildSliceO rfl ts26 rfl (.cons (.of (sz := 2) rfl) .nil) (by decide) ⟨rfl, rfl⟩) ?_
 refine DetK.nil ?_
 refine wL (OpA.appendW (enc := encLex) rfl rfl rfl rfl ts26 rfl (fun _ _ => .head) (.list (ys := ([(Lexeme.mk (ssub s_ x (x + 1)) 0)] : List Lexeme))) q3 (fun c6 pre7 => ?_))
 refine wL (OpA.fieldAddr rfl tf28_1 rfl ?_)
 refine wE (OpA.store (e' := .agg ([D.s path, .own c6 2 pre7.length (xs ++ ([(Lexeme.mk (ssub s_ x (x + 1)) 0)] : List Lexeme)).length])) rfl ti26 rfl (.of rfl) rfl (Nat.le_of_ble_eq_true rfl) rfl (.tail .head) ?_)
 refine wpL_nil ?_
 obtain ⟨q1, h⟩ := h
 refine wpA_region ?_
 refine wL (OpA.addi rfl rfl rfl q1 ?_)
 refine wL (OpA.m ?_)
 refine wpL_nil ?_
 exact ⟨(c6, pre7, ([] : List D)), ((xs ++ ([(Lexeme.mk (ssub s_ x (x + 1)) 0)] : List Lexeme)), (x + 1)), h, (Cov.asg ⟨rfl, rfl, rfl, rfl, rfl, trivial⟩), (.refl _)⟩
 have h := h.2 (decF b5)
 refine wpA_exit ?_
 refine wpA_seq ?_
 refine wpA_region ?_
 refine wL (OpA.load_whole rfl ti28 rfl rfl (.tail .head) rfl ⟨_, rfl⟩ ?_)
 refine wE (OpA.storeW rfl ti28 rfl (by with_reducible conv => lhs; whnf) (.of rfl) rfl rfl (.tail (.tail .head)) ?_)
 refine wpL_nil ?_
 refine wpA_ret ?_
 exact ⟨_, (.cell (.whole ti28 rfl rfl (.tail (.tail .head)) rfl ⟨_, rfl⟩) .nil), _, (.agg (.same rfl (.win .head (by intro hf; cases hf) .nil)) .nil), ⟨(Text.mk path xs), rfl, h⟩⟩
theorem ltext_c (path : ByteArray) (s_ : ByteArray) (hp0 : s_.size ≤ 1000) : Fun false Tryz.prog 46 [D.s path, D.s s_] (fun d => d = encText (textF path s_)) :=
 Fun.at (enc := fun r => encText r) (v := textF path s_) (ltext_w path s_  (fun r => r = textF path s_) (ltext_ok path s_ _ hp0 rfl))
abbrev awake_e0 := ([(textF (⟨#[120]⟩ : ByteArray) (⟨#[97, 98, 99, 97, 98]⟩ : ByteArray)), (textF (⟨#[121]⟩ : ByteArray) (⟨#[98, 99, 97]⟩ : ByteArray))] : List Text)
abbrev awake_e1 := (((((((findC awake_e0 2 1).2) == 0) && ((((findC awake_e0 2 1).1).length : Int) == 2)) && (decide (((findC awake_e0 2 1).1) = ([(Clone.mk 0 0 0 3 2), (Clone.mk 0 1 1 0 3)] : List Clone)))) && ((checkF29 awake_e0 (gi ((findC awake_e0 2 1).1) 1) 3) == 0)) && ((checkF29 awake_e0 (gi ((findC awake_e0 2 1).1) 1) 4) == 13))
theorem awake_w  (Q : Bool → Prop) (h : awake_vc  Q) : Fun false Tryz.prog 8 [] (fun d => ∃ r, d = D.b r ∧ Q r) := by
 unfold awake_vc at h
 refine Fun.of_body Tryz.func8 rfl Tryz.ntmps8 rfl ?_
 refine wpA_seq ?_
 refine wpA_region ?_
 refine wL (OpA.a ?_)
 refine wpL_nil ?_
 refine wpA_seq ?_
 obtain ⟨q1, q2, h⟩ := h
 refine wpA_region ?_
 refine wL (OpA.call rfl rfl rfl en46 (ltext_c (⟨#[120]⟩ : ByteArray) (⟨#[97, 98, 99, 97, 98]⟩ : ByteArray) q1) ?_)
 rintro _ rfl
 refine wL (OpA.call rfl rfl rfl en46 (ltext_c (⟨#[121]⟩ : ByteArray) (⟨#[98, 99, 97]⟩ : ByteArray) q2) ?_)
 rintro _ rfl
 refine wL (OpA.ibuildSliceO rfl ts22 rfl (.cons (.of (sz := 2) rfl) (.cons (.of (sz := 2) rfl) .nil)) (by decide) ?_)
 refine wL (OpA.a ?_)
 refine wpL_nil ?_
 refine wpA_seq ?_
 obtain ⟨q1, h⟩ := h
 refine wpA_region ?_
 refine wL (OpA.m ?_)
 refine wL (OpA.call rfl rfl rfl en14 (kfind_c awake_e0 2 1 q1) ?_)
 rintro _ rfl
 refine wL (OpA.m ?_)
 iterate 2 refine wL (OpA.extract rfl rfl rfl ?_)
 iterate 2 refine wL (OpA.a ?_)
 refine wpL_nil ?_
 refine wpA_seq ?_
 obtain ⟨q1, q2, q3, h⟩ := h
 refine wpA_mid (asg [(0, D.b awake_e1)]) [] ?_ ?_
 refine wpA_region ?_
 refine wL (OpA.m ?_)
 refine wL (OpA.eql rfl rfl rfl ?_)
 refine wL (OpA.m ?_)
 refine wpL_split (s := 14) rfl (fun b1 => ?_) (fun b1 => ?_)
 refine wG (OpA.m ?_)
 refine wG (OpA.len rfl rfl rfl rfl ts32.desc (.inl ⟨_, _, rfl, (List.length_map _).symm⟩) ?_)
 refine wG (OpA.eql rfl rfl rfl ?_)
 refine wL (OpA.p ?_)
 refine wL (OpA.m ?_)
 refine wpL_split (s := 19) rfl (fun b2 => ?_) (fun b2 => ?_)
 refine wG (OpA.m ?_)
 refine wG (OpA.buildO (zs := [.v (.int .i64 0), .v (.int .i64 0), .v (.int .i64 0), .v (.int .i64 0), .v (.int .i64 0)]) rfl tp38 tz38 (fun _ _ => (.cons (.v _) (.cons (.v _) (.cons (.v _) (.cons (.v _) (.cons (.v _) .nil)))))) (.cons (.of (sz := 1) rfl) (.cons (.of (sz := 1) rfl) .nil)) rfl ?_)
 refine wG (OpA.buildO (zs := [.v (.int .i64 0), .v (.int .i64 0), .v (.int .i64 0), .v (.int .i64 0), .v (.int .i64 0)]) rfl tp38 tz38 (fun _ _ => (.cons (.v _) (.cons (.v _) (.cons (.v _) (.cons (.v _) (.cons (.v _) .nil)))))) (.cons (.of (sz := 1) rfl) (.cons (.of (sz := 1) rfl) (.cons (.of (sz := 1) rfl) .nil))) rfl ?_)
 refine wG (OpA.ibuildSliceO rfl ts32 rfl (.cons (.of (sz := 5) rfl) (.cons (.of (sz := 5) rfl) .nil)) (by decide) ?_)
 refine wG (OpA.call rfl rfl rfl en13 (eqClones_c ((findC awake_e0 2 1).1) ([(Clone.mk 0 0 0 3 2), (Clone.mk 0 1 1 0 3)] : List Clone) (q1 ⟨(beqT b1), (beqT b2)⟩)) ?_)
 rintro _ rfl
 refine wL (OpA.p ?_)
 refine wL (OpA.m ?_)
 refine wpL_split (s := 26) rfl (fun b3 => ?_) (fun b3 => ?_)
 iterate 2 refine wG (OpA.m ?_)
 refine wG (OpA.iixV (enc := encClone) rfl ts32 rfl rfl rfl (q2 ⟨⟨(beqT b1), (beqT b2)⟩, b3⟩).1 ?_)
 refine wG (OpA.iload_whole rfl ti38 rfl ⟨_, rfl, rfl⟩ ?_)
 refine wG (OpA.call rfl rfl rfl en20 (kcheck_c awake_e0 (gi ((findC awake_e0 2 1).1) 1) 3 (q2 ⟨⟨(beqT b1), (beqT b2)⟩, b3⟩).2) ?_)
 rintro _ rfl
 refine wG (OpA.eql rfl rfl rfl ?_)
 refine wL (OpA.p ?_)
 refine wL (OpA.m ?_)
 refine wpL_split (s := 34) rfl (fun b4 => ?_) (fun b4 => ?_)
 iterate 2 refine wG (OpA.m ?_)
 refine wG (OpA.iixV (enc := encClone) rfl ts32 rfl rfl rfl (q3 ⟨⟨⟨(beqT b1), (beqT b2)⟩, b3⟩, (beqT b4)⟩).1 ?_)
 refine wG (OpA.iload_whole rfl ti38 rfl ⟨_, rfl, rfl⟩ ?_)
 refine wG (OpA.call rfl rfl rfl en20 (kcheck_c awake_e0 (gi ((findC awake_e0 2 1).1) 1) 4 (q3 ⟨⟨⟨(beqT b1), (beqT b2)⟩, b3⟩, (beqT b4)⟩).2) ?_)
 rintro _ rfl
 refine wG (OpA.eql rfl rfl rfl ?_)
 refine wL (OpA.p ?_)
 refine wL (OpA.a ?_)
 refine wpL_nil ?_
 exact ⟨(Cov.asg ⟨(congrArg D.b (Eq.symm (andN (andN (andN (andN b1 b2) b3) b4) rfl))), trivial⟩), (.refl _)⟩
 iterate 6 refine wS ?_
 refine wL (OpA.p ?_)
 refine wL (OpA.a ?_)
 refine wpL_nil ?_
 exact ⟨(Cov.asg ⟨(congrArg D.b (Eq.symm (andS (andN (andN (andN b1 b2) b3) b4)))), trivial⟩), (.refl _)⟩
 iterate 6 refine wS ?_
 refine wL (OpA.p ?_)
 refine wL (OpA.m ?_)
 iterate 6 refine wS ?_
 refine wL (OpA.p ?_)
 refine wL (OpA.a ?_)
 refine wpL_nil ?_
 exact ⟨(Cov.asg ⟨(congrArg D.b (Eq.symm (andS (andS (andN (andN b1 b2) b3))))), trivial⟩), (.refl _)⟩
 iterate 5 refine wS ?_
 refine wL (OpA.p ?_)
 refine wL (OpA.m ?_)
 iterate 6 refine wS ?_
 refine wL (OpA.p ?_)
 refine wL (OpA.m ?_)
 iterate 6 refine wS ?_
 refine wL (OpA.p ?_)
 refine wL (OpA.a ?_)
 refine wpL_nil ?_
 exact ⟨(Cov.asg ⟨(congrArg D.b (Eq.symm (andS (andS (andS (andN b1 b2)))))), trivial⟩), (.refl _)⟩
 iterate 3 refine wS ?_
 refine wL (OpA.p ?_)
 refine wL (OpA.m ?_)
 iterate 5 refine wS ?_
 refine wL (OpA.p ?_)
 refine wL (OpA.m ?_)
 iterate 6 refine wS ?_
 refine wL (OpA.p ?_)
 refine wL (OpA.m ?_)
 iterate 6 refine wS ?_
 refine wL (OpA.p ?_)
 refine wL (OpA.a ?_)
 refine wpL_nil ?_
 exact ⟨(Cov.asg ⟨(congrArg D.b (Eq.symm (andS (andS (andS (andS b1)))))), trivial⟩), (.refl _)⟩
 show wpA _ _ _ _ (asg [(0, D.b awake_e1)]) []
 refine wpA_ret ?_
 exact ⟨_, (.tmp (d := D.b awake_e1) rfl .nil), _, (.same rfl .nil), ⟨awake_e1, rfl, h⟩⟩
theorem awake_c  : Fun false Tryz.prog 8 [] (fun d => d = D.b (true)) :=
 Fun.at (enc := fun r => D.b r) (v := true) (awake_w   (fun r => r = true) (awake_ok  _  rfl))
end Go.Proofs.YtglclijalehcmaaGreatDoor
