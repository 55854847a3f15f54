/-
  walks and contracts
-/
import Derived.Test.YtkifpidbpoghlaaGreatDoorV0
import Derived.Test.YtkifpidbpoghlaaGreatDoorKm
import Derived.Test.YtkifpidbpoghlaaGreatDoorKq
import Derived.Test.YtkifpidbpoghlaaGreatDoorKv
import Derived.Test.YtkifpidbpoghlaaGreatDoorStates
set_option maxRecDepth 10000
set_option maxHeartbeats 2000000
set_option linter.all false
namespace Go.Proofs.YtkifpidbpoghlaaGreatDoor
open Go Go.Lic Go.Sort Go.Proofs
variable [Fl]
attribute [local irreducible] addP badR blankF cloneCmp clonesF cmpI codeF countF fewTs fewW findC gramsF guarF hashF indexF itoaF lenF lookF mul64F mulP orF partF pathF powF printsF pushF rightL rollF selectF sizeF splitF splitG validT
theorem gsplit_w (s_ : ByteArray) (sep : ByteArray) (sepSave : Int) (n : Int) (Q : (List ByteArray) → Prop) (h : gsplit_vc s_ sep sepSave n Q) : Fun false Tryz.prog 79 [D.s s_, D.s sep, D.i sepSave, D.i n] (fun d => ∃ r, d = (encL 1 D.s) r ∧ Q r) := by
 unfold gsplit_vc at h
 refine Fun.of_body Tryz.func79 rfl Tryz.ntmps79 rfl ?_
 refine zac (zaa (wL (OpA.a (zab ?_))))
 iterate 2 refine zac ?_
 refine zaa (wL (OpA.m ?_))
 refine wL (OpA.eql rfl rfl rfl ?_)
 refine zab ?_
 refine zae rfl (fun b1 => ?_) (fun b1 => ?_)
 have h := h.1 (beqT b1)
 refine zac (zaa (wL (OpA.a (zab (zal ?_)))))
 exact ⟨_, (.tmp (d := .v (.slice none 0 0)) rfl .nil), _, (.nilv (sz := 1) .nil), ⟨[], rfl, h⟩⟩
 have h := h.2 (beqF b1)
 refine zai ?_
 iterate 2 refine zac ?_
 refine zaa (wL (OpA.m ?_))
 refine wL (OpA.seql rfl rfl rfl ?_)
 refine zab ?_
 refine zae rfl (fun b2 => ?_) (fun b2 => ?_)
 have h := h.1 (decT b2)
 exact h.elim
 have h := h.2 (decF b2)
 refine zai ?_
 iterate 2 refine zac ?_
 refine zaa (wL (OpA.m ?_))
 refine wL (OpA.lss rfl rfl rfl ?_)
 refine zab ?_
 refine wpA_join (S := Int) (G := Unit) (fun gg ss => asg [(0, D.s s_), (1, D.s sep), (2, D.i sepSave), (3, D.i ss), (8, .v (.slice none 0 0))]) (fun gg ss => []) (fun ss => gsplit_J1 s_ sep sepSave Q ss) ?_ ?_
 refine zae rfl (fun b7 => ?_) (fun b7 => ?_)
 have h := h.1 (decT b7)
 obtain ⟨q1, q2, h⟩ := h
 refine zaa ?_
 iterate 2 refine wL (OpA.m ?_)
 refine wL (OpA.call rfl rfl rfl en6 (count_c s_ sep q1) ?_)
 rintro _ rfl
 refine wL (OpA.addi rfl rfl rfl q2 ?_)
 refine wL (OpA.a ?_)
 refine zab ?_
 exact ⟨(), ((countF s_ sep) + 1), h, cvZ, (.refl _)⟩
 have h := h.2 (decF b7)
 refine zai ?_
 exact ⟨(), n, h, cvZ, (.refl _)⟩
 rintro _ n1 h
 have h : gsplit_J1 s_ sep sepSave Q n1 := h
 unfold gsplit_J1 at h
 show wpA _ _ _ _ _ _
 refine zac ?_
 obtain ⟨q1, h⟩ := h
 refine zaa ?_
 iterate 2 refine wL (OpA.m ?_)
 refine wL (OpA.slen rfl rfl rfl rfl td9 rfl ?_)
 refine wL (OpA.addi rfl rfl rfl q1 ?_)
 refine wL (OpA.min (l := [_]) rfl rfl rfl rfl ?_)
 refine wL (OpA.a ?_)
 refine zab (zac ?_)
 obtain ⟨q1, h⟩ := h
 refine zaa (wL (OpA.m ?_))
 refine wL (OpA.makeSliceV (enc := D.s) (v0 := ByteArray.empty) rfl ts25 rfl rfl tz9 (fun _ _ => .v _) (.of rfl) q1 (fun c3 => ?_))
 refine wL (OpA.a ?_)
 refine zab (zac ?_)
 obtain ⟨q1, h⟩ := h
 refine zaa (wL (OpA.m ?_))
 refine wL (OpA.subi rfl rfl rfl q1 ?_)
 refine wL (OpA.a ?_)
 refine zab (zac (zaa (wL (OpA.a (zab (zac (zag ?_)))))))
 refine wpA_lfp (S := (List ByteArray) × ByteArray × Int) (G := Nat × List D × List D) (c3, ([] : List D), ([] : List D)) (fun gg ss => asg [(0, D.s ss.2.1), (1, D.s sep), (2, D.i sepSave), (3, D.i ((gmin n1 [((s_.size : Int) + 1)]) - 1)), (8, .v (.slice none 0 0)), (9, .own gg.1 1 gg.2.1.length ss.1.length), (10, D.i ss.2.2)]) (fun gg ss => [(gg.1, .cells 1 (winL D.s gg.2.1 ss.1 gg.2.2))]) h cvZ (.refl _) ?_
 rintro again4 ⟨cb31, pre31, post31⟩ ⟨a, s_1, i⟩ h
 have h : gsplit_L1 s_ sep sepSave n1 Q again4 a s_1 i := h
 unfold gsplit_L1 at h
 show wpA _ _ _ _ _ _
 iterate 2 refine zac ?_
 refine zaa ?_
 iterate 2 refine wL (OpA.m ?_)
 refine wL (OpA.lss rfl rfl rfl ?_)
 refine zab ?_
 refine zae rfl (fun b5 => ?_) (fun b5 => ?_)
 have h := h.1 (decT b5)
 refine zai (zag (zac ?_))
 obtain ⟨q1, h⟩ := h
 refine zaa ?_
 iterate 2 refine wL (OpA.m ?_)
 refine wL (OpA.call rfl rfl rfl en32 (index_c s_1 sep q1) ?_)
 rintro _ rfl
 refine wL (OpA.a ?_)
 refine zab ?_
 iterate 2 refine zac ?_
 refine zaa (wL (OpA.m ?_))
 refine wL (OpA.lss rfl rfl rfl ?_)
 refine zab ?_
 refine zae rfl (fun b6 => ?_) (fun b6 => ?_)
 have h := h.1 (decT b6)
 refine wpA_exit ?_
 refine zac ?_
 obtain ⟨q1, h⟩ := h
 refine zaa ?_
 iterate 3 refine wL (OpA.m ?_)
 refine wL (OpA.ixV rfl ts25 rfl rfl q1 ?_)
 refine wE (OpA.storeV (enc := D.s) (v := s_1) rfl ti9 rfl rfl (.of rfl) rfl q1 .head ?_)
 refine zab (zac ?_)
 refine wpA_cov (fr0 := asg [(0, D.s s_1), (1, D.s sep), (2, D.i sepSave), (3, D.i ((gmin n1 [((s_.size : Int) + 1)]) - 1)), (8, .v (.slice none 0 0)), (9, .own cb31 1 pre31.length (si a i s_1).length), (10, D.i i), (11, D.i (indexF s_1 sep)), (34, D.i i), (35, D.i ((gmin n1 [((s_.size : Int) + 1)]) - 1)), (36, D.b (decide (i < ((gmin n1 [((s_.size : Int) + 1)]) - 1)))), (37, D.s s_1), (38, D.s sep), (39, D.i (indexF s_1 sep)), (40, D.i (indexF s_1 sep)), (41, D.b (decide ((indexF s_1 sep) < 0))), (58, .own cb31 1 pre31.length (si a i s_1).length), (59, D.i i), (60, D.s s_1), (61, .ptr cb31 1 (pre31.length + (Int.toNat i)) 0)]) (Cov.asg ⟨rfl, rfl, rfl, rfl, rfl, (congrArg (D.own cb31 1 pre31.length) (by simp only [si_length, sortF_len cloneCmp_swo] <;> rfl)), rfl, rfl, rfl, rfl, rfl, rfl, rfl, rfl, rfl, rfl, (congrArg (D.own cb31 1 pre31.length) (by simp only [si_length, sortF_len cloneCmp_swo] <;> rfl)), rfl, rfl, rfl, trivial⟩) ?_
 obtain ⟨q1, q2, h⟩ := h
 refine zaa ?_
 iterate 2 refine wL (OpA.m ?_)
 refine wL (OpA.addi rfl rfl rfl q1 ?_)
 refine wL (OpA.sliceV (enc := D.s) rfl ts25 rfl (.none _) (.some rfl) q2 .head ?_)
 refine wL (OpA.a ?_)
 refine zab (zal ?_)
 exact ⟨_, (.tmp (d := .own cb31 1 (pre31 ++ ((si a i s_1).take (Int.toNat 0)).map D.s).length (lsub (si a i s_1) 0 (i + 1)).length) rfl .nil), _, (.win .head (by intro hf; cases hf) .nil), ⟨(lsub (si a i s_1) 0 (i + 1)), rfl, h⟩⟩
 have h := h.2 (decF b6)
 refine zai (zac ?_)
 obtain ⟨q1, q2, q3, h⟩ := h
 refine zaa ?_
 iterate 5 refine wL (OpA.m ?_)
 refine wL (OpA.addi rfl rfl rfl q1 ?_)
 refine wL (OpA.ssliceV rfl td9 rfl (.none _) (.some rfl) q2 ?_)
 refine wL (OpA.ixV rfl ts25 rfl rfl q3 ?_)
 refine wE (OpA.storeV (enc := D.s) (v := (ssub s_1 0 ((indexF s_1 sep) + sepSave))) rfl ti9 rfl rfl (.of rfl) rfl q3 .head ?_)
 refine zab (zac ?_)
 refine wpA_cov (fr0 := asg [(0, D.s s_1), (1, D.s sep), (2, D.i sepSave), (3, D.i ((gmin n1 [((s_.size : Int) + 1)]) - 1)), (8, .v (.slice none 0 0)), (9, .own cb31 1 pre31.length (si a i (ssub s_1 0 ((indexF s_1 sep) + sepSave))).length), (10, D.i i), (11, D.i (indexF s_1 sep)), (34, D.i i), (35, D.i ((gmin n1 [((s_.size : Int) + 1)]) - 1)), (36, D.b (decide (i < ((gmin n1 [((s_.size : Int) + 1)]) - 1)))), (37, D.s s_1), (38, D.s sep), (39, D.i (indexF s_1 sep)), (40, D.i (indexF s_1 sep)), (41, D.b (decide ((indexF s_1 sep) < 0))), (42, .own cb31 1 pre31.length (si a i (ssub s_1 0 ((indexF s_1 sep) + sepSave))).length), (43, D.i i), (44, D.s s_1), (45, D.i (indexF s_1 sep)), (46, D.i sepSave), (47, D.i ((indexF s_1 sep) + sepSave)), (48, D.s (ssub s_1 0 ((indexF s_1 sep) + sepSave))), (49, .ptr cb31 1 (pre31.length + (Int.toNat i)) 0)]) (Cov.asg ⟨rfl, rfl, rfl, rfl, rfl, (congrArg (D.own cb31 1 pre31.length) (by simp only [si_length, sortF_len cloneCmp_swo] <;> rfl)), rfl, rfl, rfl, rfl, rfl, rfl, rfl, rfl, rfl, rfl, (congrArg (D.own cb31 1 pre31.length) (by simp only [si_length, sortF_len cloneCmp_swo] <;> rfl)), rfl, rfl, rfl, rfl, rfl, rfl, rfl, trivial⟩) ?_
 obtain ⟨q1, q2, h⟩ := h
 refine zaa ?_
 iterate 3 refine wL (OpA.m ?_)
 refine wL (OpA.slen rfl rfl rfl rfl td9 rfl ?_)
 refine wL (OpA.addi rfl rfl rfl q1 ?_)
 refine wL (OpA.ssliceV rfl td9 rfl (.some rfl) (.none _) q2 ?_)
 refine wL (OpA.a ?_)
 refine zab ?_
 obtain ⟨q1, h⟩ := h
 refine zaa (wL (OpA.m ?_))
 refine wL (OpA.addi rfl rfl rfl q1 ?_)
 refine wL (OpA.a ?_)
 refine zab ?_
 exact ⟨(cb31, pre31, post31), ((si a i (ssub s_1 0 ((indexF s_1 sep) + sepSave))), (ssub s_1 ((indexF s_1 sep) + (sep.size : Int)) (s_1.size : Int)), (i + 1)), h, cvZ, (.refl _)⟩
 have h := h.2 (decF b5)
 refine wpA_exit ?_
 refine zac ?_
 obtain ⟨q1, h⟩ := h
 refine zaa ?_
 iterate 3 refine wL (OpA.m ?_)
 refine wL (OpA.ixV rfl ts25 rfl rfl q1 ?_)
 refine wE (OpA.storeV (enc := D.s) (v := s_1) rfl ti9 rfl rfl (.of rfl) rfl q1 .head ?_)
 refine zab (zac ?_)
 refine wpA_cov (fr0 := asg [(0, D.s s_1), (1, D.s sep), (2, D.i sepSave), (3, D.i ((gmin n1 [((s_.size : Int) + 1)]) - 1)), (8, .v (.slice none 0 0)), (9, .own cb31 1 pre31.length (si a i s_1).length), (10, D.i i), (34, D.i i), (35, D.i ((gmin n1 [((s_.size : Int) + 1)]) - 1)), (36, D.b (decide (i < ((gmin n1 [((s_.size : Int) + 1)]) - 1)))), (58, .own cb31 1 pre31.length (si a i s_1).length), (59, D.i i), (60, D.s s_1), (61, .ptr cb31 1 (pre31.length + (Int.toNat i)) 0)]) (Cov.asg ⟨rfl, rfl, rfl, rfl, rfl, (congrArg (D.own cb31 1 pre31.length) (by simp only [si_length, sortF_len cloneCmp_swo] <;> rfl)), rfl, rfl, rfl, rfl, (congrArg (D.own cb31 1 pre31.length) (by simp only [si_length, sortF_len cloneCmp_swo] <;> rfl)), rfl, rfl, rfl, trivial⟩) ?_
 obtain ⟨q1, q2, h⟩ := h
 refine zaa ?_
 iterate 2 refine wL (OpA.m ?_)
 refine wL (OpA.addi rfl rfl rfl q1 ?_)
 refine wL (OpA.sliceV (enc := D.s) rfl ts25 rfl (.none _) (.some rfl) q2 .head ?_)
 refine wL (OpA.a ?_)
 refine zab (zal ?_)
 exact ⟨_, (.tmp (d := .own cb31 1 (pre31 ++ ((si a i s_1).take (Int.toNat 0)).map D.s).length (lsub (si a i s_1) 0 (i + 1)).length) rfl .nil), _, (.win .head (by intro hf; cases hf) .nil), ⟨(lsub (si a i s_1) 0 (i + 1)), rfl, h⟩⟩
theorem gsplit_c (s_ : ByteArray) (sep : ByteArray) (sepSave : Int) (n : Int) (hp0 : s_.size ≤ 1000000) (hp1 : sep.size = 1) (hp2 : sepSave = (0 : Int)) (hp3 : n = (-1 : Int)) : Fun false Tryz.prog 79 [D.s s_, D.s sep, D.i sepSave, D.i n] (fun d => d = (encL 1 D.s) (splitG s_ sep sepSave n)) :=
 Fun.at (enc := fun r => (encL 1 D.s) r) (v := splitG s_ sep sepSave n) (gsplit_w s_ sep sepSave n  (fun r => r = splitG s_ sep sepSave n) (gsplit_ok s_ sep sepSave n _ hp0 hp1 hp2 hp3 rfl))
theorem split_w (s_ : ByteArray) (sep : ByteArray) (Q : (List ByteArray) → Prop) (h : split_vc s_ sep Q) : Fun false Tryz.prog 33 [D.s s_, D.s sep] (fun d => ∃ r, d = (encL 1 D.s) r ∧ Q r) := by
 unfold split_vc at h
 refine Fun.of_body Tryz.func33 rfl Tryz.ntmps33 rfl ?_
 refine zac (zaa ?_)
 refine wL (OpA.asnN (T := ByteArray) (enc := D.s) (sz := 1) rfl rfl ?_)
 refine zab (zac ?_)
 obtain ⟨q1, q2, q3, q4, h⟩ := h
 refine zaa ?_
 iterate 2 refine wL (OpA.m ?_)
 refine wL (OpA.call rfl rfl rfl en79 (gsplit_c s_ sep 0 (-1) q1 q2 q3 q4) ?_)
 rintro _ rfl
 refine wL (OpA.a ?_)
 refine zab (zal ?_)
 exact ⟨_, (.tmp (d := (encL 1 D.s) (splitG s_ sep 0 (-1))) rfl .nil), _, (.same rfl .nil), ⟨(splitG s_ sep 0 (-1)), rfl, h⟩⟩
theorem split_c (s_ : ByteArray) (sep : ByteArray) (hp0 : s_.size ≤ 1000000) (hp1 : sep.size = 1) : Fun false Tryz.prog 33 [D.s s_, D.s sep] (fun d => d = (encL 1 D.s) (splitF s_ sep)) :=
 Fun.at (enc := fun r => (encL 1 D.s) r) (v := splitF s_ sep) (split_w s_ sep  (fun r => r = splitF s_ sep) (split_ok s_ sep _ hp0 hp1 rfl))
theorem sixf_w (s_ : ByteArray) (g_p : Nat) (fs_p cs_p : List D) (p : Int → Bool) (pD : Int → Prop) (truth : Bool) (hen_p : entersB Tryz.prog g_p = true) (hg_p : ∀ x0_, pD x0_ → Fun false Tryz.prog g_p (fs_p ++ [(D.k .i32) x0_] ++ cs_p) (fun d => d = D.b (p x0_))) (Q : Int → Prop) (h : sixf_vc s_ p pD truth Q) : Fun false Tryz.prog 147 [D.s s_, .fn (.func g_p) fs_p cs_p, D.b truth] (fun d => ∃ r, d = D.i r ∧ Q r) := by
 unfold sixf_vc at h
 refine Fun.of_body Tryz.func147 rfl Tryz.ntmps147 rfl ?_
 refine zac (zaa (wL (OpA.a (zab ?_))))
 iterate 2 refine zac ?_
 refine zaa (wL (OpA.m ?_))
 refine wL (OpA.rangeStr rfl td9 rfl (fun c1 => ?_))
 refine zab (zag ?_)
 refine wpA_lfp (S := Int) (G := Unit) () (fun gg ss => asg [(1, .fn (.func g_p) fs_p cs_p), (2, D.b truth), (6, D.i 0), (10, .ptr c1 1 0 0)]) (fun gg ss => [(c1, .raw (.stringIter s_ (Int.toNat ss)))]) h cvZ (.refl _) ?_
 rintro again2 _ pos h
 have h : sixf_L1 s_ p pD truth Q again2 pos := h
 unfold sixf_L1 at h
 show wpA _ _ _ _ _ _
 refine zac (zaa ?_)
 refine em_split (p := pos < (s_.size : Int)) (fun b3 => ?_) (fun b3 => ?_)
 obtain ⟨q1, h⟩ := h.1 b3
 refine wL (OpA.nextStr rfl rfl ⟨q1, b3⟩ .head ?_)
 refine wL (OpA.extract rfl rfl rfl ?_)
 refine zab (zac ?_)
 refine wpA_condT rfl ?_
 refine zai (zag (zac (zaa ?_)))
 iterate 2 refine wL (OpA.extract rfl rfl rfl ?_)
 iterate 2 refine wL (OpA.a ?_)
 refine zab (zac ?_)
 obtain ⟨q1, h⟩ := h
 refine zaa ?_
 iterate 2 refine wL (OpA.m ?_)
 refine wL (OpA.call rfl rfl rfl hen_p (hg_p (runeAt s_ pos) q1) ?_)
 rintro _ rfl
 refine wL (OpA.m ?_)
 refine wL (OpA.bcmp rfl td4 rfl rfl (.inl ⟨rfl, rfl⟩) ?_)
 refine zab ?_
 refine zae rfl (fun b4 => ?_) (fun b4 => ?_)
 have h := h.1 b4
 refine zac (zaa (wL (OpA.m (wL (OpA.a (zab (zal ?_)))))))
 exact ⟨_, (.tmp (d := D.i pos) rfl .nil), _, (.same rfl .nil), ⟨pos, rfl, h⟩⟩
 have h := h.2 b4
 refine zai ?_
 exact ⟨(), (pos + runeW s_ pos), h, cvZ, (.refl _)⟩
 have h := h.2 b3
 refine wL (OpA.overStr rfl rfl b3 .head ?_)
 refine wL (OpA.extract rfl rfl rfl ?_)
 refine zab (zac ?_)
 refine wpA_condF rfl ?_
 refine wpA_exit ?_
 refine zac (zaa (wL (OpA.a (zab (zal ?_)))))
 exact ⟨_, (.tmp (d := D.i (-1)) rfl .nil), _, (.same rfl .nil), ⟨(-1), rfl, h⟩⟩
theorem sixf_c (s_ : ByteArray) (g_p : Nat) (fs_p cs_p : List D) (p : Int → Bool) (pD : Int → Prop) (truth : Bool) (hen_p : entersB Tryz.prog g_p = true) (hg_p : ∀ x0_, pD x0_ → Fun false Tryz.prog g_p (fs_p ++ [(D.k .i32) x0_] ++ cs_p) (fun d => d = D.b (p x0_))) (hp0 : ∀ z_, pD z_) : Fun false Tryz.prog 147 [D.s s_, .fn (.func g_p) fs_p cs_p, D.b truth] (fun d => d = D.i ((runeIx p s_ truth))) :=
 Fun.at (enc := fun r => D.i r) (v := (runeIx p s_ truth)) (sixf_w s_ g_p fs_p cs_p p pD truth hen_p hg_p (fun r => r = (runeIx p s_ truth)) (sixf_ok s_ p pD truth _ hp0 rfl))
theorem sixF_w (s_ : ByteArray) (g_p : Nat) (fs_p cs_p : List D) (p : Int → Bool) (pD : Int → Prop) (hen_p : entersB Tryz.prog g_p = true) (hg_p : ∀ x0_, pD x0_ → Fun false Tryz.prog g_p (fs_p ++ [(D.k .i32) x0_] ++ cs_p) (fun d => d = D.b (p x0_))) (Q : Int → Prop) (h : sixF_vc s_ p pD Q) : Fun false Tryz.prog 101 [D.s s_, .fn (.func g_p) fs_p cs_p] (fun d => ∃ r, d = D.i r ∧ Q r) := by
 unfold sixF_vc at h
 refine Fun.of_body Tryz.func101 rfl Tryz.ntmps101 rfl ?_
 refine zac (zaa (wL (OpA.a (zab (zac ?_)))))
 obtain ⟨q1, h⟩ := h
 refine zaa ?_
 iterate 2 refine wL (OpA.m ?_)
 refine wL (OpA.call rfl rfl rfl en147 (sixf_c s_ g_p fs_p cs_p p pD true hen_p hg_p q1) ?_)
 rintro _ rfl
 refine wL (OpA.a ?_)
 refine zab (zal ?_)
 exact ⟨_, (.tmp (d := D.i (runeIx p s_ true)) rfl .nil), _, (.same rfl .nil), ⟨(runeIx p s_ true), rfl, h⟩⟩
theorem sixF_c (s_ : ByteArray) (g_p : Nat) (fs_p cs_p : List D) (p : Int → Bool) (pD : Int → Prop) (hen_p : entersB Tryz.prog g_p = true) (hg_p : ∀ x0_, pD x0_ → Fun false Tryz.prog g_p (fs_p ++ [(D.k .i32) x0_] ++ cs_p) (fun d => d = D.b (p x0_))) (hp0 : ∀ z_, pD z_) : Fun false Tryz.prog 101 [D.s s_, .fn (.func g_p) fs_p cs_p] (fun d => d = D.i ((runeIx p s_ true))) :=
 Fun.at (enc := fun r => D.i r) (v := (runeIx p s_ true)) (sixF_w s_ g_p fs_p cs_p p pD hen_p hg_p (fun r => r = (runeIx p s_ true)) (sixF_ok s_ p pD _ hp0 rfl))
theorem scf_w (s_ : ByteArray) (g_p : Nat) (fs_p cs_p : List D) (p : Int → Bool) (pD : Int → Prop) (hen_p : entersB Tryz.prog g_p = true) (hg_p : ∀ x0_, pD x0_ → Fun false Tryz.prog g_p (fs_p ++ [(D.k .i32) x0_] ++ cs_p) (fun d => d = D.b (p x0_))) (Q : Bool → Prop) (h : scf_vc s_ p pD Q) : Fun false Tryz.prog 143 [D.s s_, .fn (.func g_p) fs_p cs_p] (fun d => ∃ r, d = D.b r ∧ Q r) := by
 unfold scf_vc at h
 refine Fun.of_body Tryz.func143 rfl Tryz.ntmps143 rfl ?_
 refine zac (zaa (wL (OpA.a (zab (zac ?_)))))
 obtain ⟨q1, h⟩ := h
 refine zaa ?_
 iterate 2 refine wL (OpA.m ?_)
 refine wL (OpA.call rfl rfl rfl en101 (sixF_c s_ g_p fs_p cs_p p pD hen_p hg_p q1) ?_)
 rintro _ rfl
 refine wL (OpA.geq rfl rfl rfl ?_)
 refine wL (OpA.a ?_)
 refine zab (zal ?_)
 exact ⟨_, (.tmp (d := D.b (decide ((runeIx p s_ true) ≥ 0))) rfl .nil), _, (.same rfl .nil), ⟨(decide ((runeIx p s_ true) ≥ 0)), rfl, h⟩⟩
theorem scf_c (s_ : ByteArray) (g_p : Nat) (fs_p cs_p : List D) (p : Int → Bool) (pD : Int → Prop) (hen_p : entersB Tryz.prog g_p = true) (hg_p : ∀ x0_, pD x0_ → Fun false Tryz.prog g_p (fs_p ++ [(D.k .i32) x0_] ++ cs_p) (fun d => d = D.b (p x0_))) (hp0 : ∀ z_, pD z_) : Fun false Tryz.prog 143 [D.s s_, .fn (.func g_p) fs_p cs_p] (fun d => d = D.b ((decide (0 ≤ runeIx p s_ true)))) :=
 Fun.at (enc := fun r => D.b r) (v := (decide (0 ≤ runeIx p s_ true))) (scf_w s_ g_p fs_p cs_p p pD hen_p hg_p (fun r => r = (decide (0 ≤ runeIx p s_ true))) (scf_ok s_ p pD _ hp0 rfl))
theorem ixStr_w (s_ : (List ByteArray)) (g_p : Nat) (fs_p cs_p : List D) (p : ByteArray → Bool) (pD : ByteArray → Prop) (hen_p : entersB Tryz.prog g_p = true) (hg_p : ∀ x0_, pD x0_ → Fun false Tryz.prog g_p (fs_p ++ [D.s x0_] ++ cs_p) (fun d => d = D.b (p x0_))) (Q : Int → Prop) (h : ixStr_vc s_ p pD Q) : Fun false Tryz.prog 142 [(encL 1 D.s) s_, .fn (.func g_p) fs_p cs_p] (fun d => ∃ r, d = D.i r ∧ Q r) := by
 unfold ixStr_vc at h
 refine Fun.of_body Tryz.func142 rfl Tryz.ntmps142 rfl ?_
 refine zac (zaa (wL (OpA.a (zab ?_))))
 iterate 2 refine zac ?_
 refine zaa (wL (OpA.m ?_))
 refine wL (OpA.len rfl rfl rfl rfl ts25.desc (.inl ⟨_, _, rfl, (List.length_map _).symm⟩) ?_)
 refine wL (OpA.m ?_)
 refine zab (zag ?_)
 refine wpA_lfp (S := Int) (G := Unit) () (fun gg ss => asg [(0, (encL 1 D.s) s_), (1, .fn (.func g_p) fs_p cs_p), (4, D.i 0), (7, D.i (s_.length : Int)), (8, D.i ss)]) (fun gg ss => []) h cvZ (.refl _) ?_
 rintro again1 _ x h
 have h : ixStr_L1 s_ p pD Q again1 x := h
 unfold ixStr_L1 at h
 show wpA _ _ _ _ _ _
 refine zac (zaa ?_)
 refine wL (OpA.lss rfl rfl rfl ?_)
 refine zab (zac ?_)
 refine zae rfl (fun b2 => ?_) (fun b2 => ?_)
 have h := h.1 (decT b2)
 refine zai (zac (zag (zac (zaa (wL (OpA.m (wL (OpA.a (zab (zac ?_))))))))))
 obtain ⟨q1, q2, h⟩ := h
 refine zaa ?_
 iterate 3 refine wL (OpA.m ?_)
 refine wL (OpA.iixV (enc := D.s) rfl ts25 rfl rfl rfl q1 ?_)
 refine wL (OpA.iload rfl ti9 rfl rfl ?_)
 refine wL (OpA.call rfl rfl rfl hen_p (hg_p (gi s_ x) q2) ?_)
 rintro _ rfl
 refine zab ?_
 refine zae rfl (fun b3 => ?_) (fun b3 => ?_)
 have h := h.1 b3
 refine zac (zaa (wL (OpA.m (wL (OpA.a (zab (zal ?_)))))))
 exact ⟨_, (.tmp (d := D.i x) rfl .nil), _, (.same rfl .nil), ⟨x, rfl, h⟩⟩
 have h := h.2 b3
 refine zai ?_
 obtain ⟨q1, h⟩ := h
 refine zaa ?_
 refine wL (OpA.addi rfl rfl rfl q1 ?_)
 refine wL (OpA.m ?_)
 refine zab ?_
 exact ⟨(), (x + 1), h, cvZ, (.refl _)⟩
 have h := h.2 (decF b2)
 refine wpA_exit ?_
 refine zac (zaa (wL (OpA.a (zab (zal ?_)))))
 exact ⟨_, (.tmp (d := D.i (-1)) rfl .nil), _, (.same rfl .nil), ⟨(-1), rfl, h⟩⟩
theorem ixStr_c (s_ : (List ByteArray)) (g_p : Nat) (fs_p cs_p : List D) (p : ByteArray → Bool) (pD : ByteArray → Prop) (hen_p : entersB Tryz.prog g_p = true) (hg_p : ∀ x0_, pD x0_ → Fun false Tryz.prog g_p (fs_p ++ [D.s x0_] ++ cs_p) (fun d => d = D.b (p x0_))) (hp0 : s_.length ≤ 9223372036854775807) (hp1 : ∀ z_ ∈ s_, pD z_) : Fun false Tryz.prog 142 [(encL 1 D.s) s_, .fn (.func g_p) fs_p cs_p] (fun d => d = D.i ((idxOf p s_))) :=
 Fun.at (enc := fun r => D.i r) (v := (idxOf p s_)) (ixStr_w s_ g_p fs_p cs_p p pD hen_p hg_p (fun r => r = (idxOf p s_)) (ixStr_ok s_ p pD _ hp0 hp1 rfl))
theorem cfStr_w (s_ : (List ByteArray)) (g_p : Nat) (fs_p cs_p : List D) (p : ByteArray → Bool) (pD : ByteArray → Prop) (hen_p : entersB Tryz.prog g_p = true) (hg_p : ∀ x0_, pD x0_ → Fun false Tryz.prog g_p (fs_p ++ [D.s x0_] ++ cs_p) (fun d => d = D.b (p x0_))) (Q : Bool → Prop) (h : cfStr_vc s_ p pD Q) : Fun false Tryz.prog 95 [(encL 1 D.s) s_, .fn (.func g_p) fs_p cs_p] (fun d => ∃ r, d = D.b r ∧ Q r) := by
 unfold cfStr_vc at h
 refine Fun.of_body Tryz.func95 rfl Tryz.ntmps95 rfl ?_
 refine zac (zaa (wL (OpA.a (zab (zac ?_)))))
 obtain ⟨q1, q2, h⟩ := h
 refine zaa ?_
 iterate 2 refine wL (OpA.m ?_)
 refine wL (OpA.call rfl rfl rfl en142 (ixStr_c s_ g_p fs_p cs_p p pD hen_p hg_p q1 q2) ?_)
 rintro _ rfl
 refine wL (OpA.geq rfl rfl rfl ?_)
 refine wL (OpA.a ?_)
 refine zab (zal ?_)
 exact ⟨_, (.tmp (d := D.b (decide ((idxOf p s_) ≥ 0))) rfl .nil), _, (.same rfl .nil), ⟨(decide ((idxOf p s_) ≥ 0)), rfl, h⟩⟩
theorem cfStr_c (s_ : (List ByteArray)) (g_p : Nat) (fs_p cs_p : List D) (p : ByteArray → Bool) (pD : ByteArray → Prop) (hen_p : entersB Tryz.prog g_p = true) (hg_p : ∀ x0_, pD x0_ → Fun false Tryz.prog g_p (fs_p ++ [D.s x0_] ++ cs_p) (fun d => d = D.b (p x0_))) (hp0 : s_.length ≤ 9223372036854775807) (hp1 : ∀ z_ ∈ s_, pD z_) : Fun false Tryz.prog 95 [(encL 1 D.s) s_, .fn (.func g_p) fs_p cs_p] (fun d => d = D.b ((s_.any p))) :=
 Fun.at (enc := fun r => D.b r) (v := (s_.any p)) (cfStr_w s_ g_p fs_p cs_p p pD hen_p hg_p (fun r => r = (s_.any p)) (cfStr_ok s_ p pD _ hp0 hp1 rfl))
theorem part1_w (c : Int) (Q : Bool → Prop) (h : part1_vc c Q) : Fun false Tryz.prog 144 [(D.k .i32) c] (fun d => ∃ r, d = D.b r ∧ Q r) := by
 unfold part1_vc at h
 refine Fun.of_body Tryz.func144 rfl Tryz.ntmps144 rfl ?_
 refine zac (zaa (wL (OpA.a (zab (zac ?_)))))
 refine wpA_mid (asg [(2, D.b (!((((((decide (c ≥ 97)) && (decide (c ≤ 122))) || ((decide (c ≥ 48)) && (decide (c ≤ 57)))) || (c == 46)) || (c == 95)) || (c == 45))))]) [] ?_ ?_
 refine zaa (wL (OpA.m ?_))
 refine wL (OpA.geq rfl rfl rfl ?_)
 refine wL (OpA.m ?_)
 refine zam (s := 5) rfl (fun b1 => ?_) (fun b1 => ?_)
 refine wG (OpA.m ?_)
 refine wG (OpA.leq rfl rfl rfl ?_)
 refine wL (OpA.p ?_)
 refine wL (OpA.m ?_)
 refine zam (s := 9) rfl (fun b2 => ?_) (fun b2 => ?_)
 iterate 3 refine wS ?_
 iterate 2 refine wpL_skipU rfl rfl rfl rfl rfl ?_
 refine wS ?_
 refine wL (OpA.p ?_)
 refine wL (OpA.m ?_)
 iterate 2 refine wS ?_
 refine wL (OpA.p ?_)
 refine wL (OpA.m ?_)
 iterate 2 refine wS ?_
 refine wL (OpA.p ?_)
 refine wL (OpA.m ?_)
 iterate 2 refine wS ?_
 refine wL (OpA.p ?_)
 refine wL (OpA.not rfl rfl ?_)
 refine wL (OpA.a ?_)
 refine zab ?_
 exact ⟨(Cov.asg ⟨(congrArg D.b (Eq.symm (notFt (orS (orS (orS (orS (andN b1 b2)))))))), trivial⟩), (.refl _)⟩
 refine wG (OpA.m ?_)
 refine wG (OpA.geq rfl rfl rfl ?_)
 refine wG (OpA.m ?_)
 refine zam (s := 12) rfl (fun b3 => ?_) (fun b3 => ?_)
 refine wG (OpA.m ?_)
 refine wG (OpA.leq rfl rfl rfl ?_)
 refine wG (OpA.p ?_)
 refine wL (OpA.p ?_)
 refine wL (OpA.m ?_)
 refine zam (s := 17) rfl (fun b4 => ?_) (fun b4 => ?_)
 iterate 2 refine wS ?_
 refine wL (OpA.p ?_)
 refine wL (OpA.m ?_)
 iterate 2 refine wS ?_
 refine wL (OpA.p ?_)
 refine wL (OpA.m ?_)
 iterate 2 refine wS ?_
 refine wL (OpA.p ?_)
 refine wL (OpA.not rfl rfl ?_)
 refine wL (OpA.a ?_)
 refine zab ?_
 exact ⟨(Cov.asg ⟨(congrArg D.b (Eq.symm (notFt (orS (orS (orS (orN (andN b1 b2) (andN b3 b4)))))))), trivial⟩), (.refl _)⟩
 refine wG (OpA.m ?_)
 refine wG (OpA.eql rfl rfl rfl ?_)
 refine wL (OpA.p ?_)
 refine wL (OpA.m ?_)
 refine zam (s := 21) rfl (fun b5 => ?_) (fun b5 => ?_)
 iterate 2 refine wS ?_
 refine wL (OpA.p ?_)
 refine wL (OpA.m ?_)
 iterate 2 refine wS ?_
 refine wL (OpA.p ?_)
 refine wL (OpA.not rfl rfl ?_)
 refine wL (OpA.a ?_)
 refine zab ?_
 exact ⟨(Cov.asg ⟨(congrArg D.b (Eq.symm (notFt (orS (orS (orN (orN (andN b1 b2) (andN b3 b4)) b5)))))), trivial⟩), (.refl _)⟩
 refine wG (OpA.m ?_)
 refine wG (OpA.eql rfl rfl rfl ?_)
 refine wL (OpA.p ?_)
 refine wL (OpA.m ?_)
 refine zam (s := 25) rfl (fun b6 => ?_) (fun b6 => ?_)
 iterate 2 refine wS ?_
 refine wL (OpA.p ?_)
 refine wL (OpA.not rfl rfl ?_)
 refine wL (OpA.a ?_)
 refine zab ?_
 exact ⟨(Cov.asg ⟨(congrArg D.b (Eq.symm (notFt (orS (orN (orN (orN (andN b1 b2) (andN b3 b4)) b5) b6))))), trivial⟩), (.refl _)⟩
 refine wG (OpA.m ?_)
 refine wG (OpA.eql rfl rfl rfl ?_)
 refine wL (OpA.p ?_)
 refine wL (OpA.not rfl rfl ?_)
 refine wL (OpA.a ?_)
 refine zab ?_
 exact ⟨(Cov.asg ⟨(congrArg D.b (Eq.symm (congrArg Bool.not (orN (orN (orN (orN (andN b1 b2) (andN b3 b4)) b5) b6) rfl)))), trivial⟩), (.refl _)⟩
 iterate 2 refine wS ?_
 refine wG (OpA.p ?_)
 refine wL (OpA.p ?_)
 refine wL (OpA.m ?_)
 refine wG (OpA.m ?_)
 refine wG (OpA.eql rfl rfl rfl ?_)
 refine wL (OpA.p ?_)
 refine wL (OpA.m ?_)
 refine zam (s := 21) rfl (fun b7 => ?_) (fun b7 => ?_)
 iterate 2 refine wS ?_
 refine wL (OpA.p ?_)
 refine wL (OpA.m ?_)
 iterate 2 refine wS ?_
 refine wL (OpA.p ?_)
 refine wL (OpA.not rfl rfl ?_)
 refine wL (OpA.a ?_)
 refine zab ?_
 exact ⟨(Cov.asg ⟨(congrArg D.b (Eq.symm (notFt (orS (orS (orN (orN (andN b1 b2) (andS b3)) b7)))))), trivial⟩), (.refl _)⟩
 refine wG (OpA.m ?_)
 refine wG (OpA.eql rfl rfl rfl ?_)
 refine wL (OpA.p ?_)
 refine wL (OpA.m ?_)
 refine zam (s := 25) rfl (fun b8 => ?_) (fun b8 => ?_)
 iterate 2 refine wS ?_
 refine wL (OpA.p ?_)
 refine wL (OpA.not rfl rfl ?_)
 refine wL (OpA.a ?_)
 refine zab ?_
 exact ⟨(Cov.asg ⟨(congrArg D.b (Eq.symm (notFt (orS (orN (orN (orN (andN b1 b2) (andS b3)) b7) b8))))), trivial⟩), (.refl _)⟩
 refine wG (OpA.m ?_)
 refine wG (OpA.eql rfl rfl rfl ?_)
 refine wL (OpA.p ?_)
 refine wL (OpA.not rfl rfl ?_)
 refine wL (OpA.a ?_)
 refine zab ?_
 exact ⟨(Cov.asg ⟨(congrArg D.b (Eq.symm (congrArg Bool.not (orN (orN (orN (orN (andN b1 b2) (andS b3)) b7) b8) rfl)))), trivial⟩), (.refl _)⟩
 iterate 2 refine wS ?_
 refine wL (OpA.p ?_)
 refine wL (OpA.m ?_)
 refine wG (OpA.m ?_)
 refine wG (OpA.geq rfl rfl rfl ?_)
 refine wG (OpA.m ?_)
 refine zam (s := 12) rfl (fun b9 => ?_) (fun b9 => ?_)
 refine wG (OpA.m ?_)
 refine wG (OpA.leq rfl rfl rfl ?_)
 refine wG (OpA.p ?_)
 refine wL (OpA.p ?_)
 refine wL (OpA.m ?_)
 refine zam (s := 17) rfl (fun b10 => ?_) (fun b10 => ?_)
 iterate 2 refine wS ?_
 refine wL (OpA.p ?_)
 refine wL (OpA.m ?_)
 iterate 2 refine wS ?_
 refine wL (OpA.p ?_)
 refine wL (OpA.m ?_)
 iterate 2 refine wS ?_
 refine wL (OpA.p ?_)
 refine wL (OpA.not rfl rfl ?_)
 refine wL (OpA.a ?_)
 refine zab ?_
 exact ⟨(Cov.asg ⟨(congrArg D.b (Eq.symm (notFt (orS (orS (orS (orN (andS b1) (andN b9 b10)))))))), trivial⟩), (.refl _)⟩
 refine wG (OpA.m ?_)
 refine wG (OpA.eql rfl rfl rfl ?_)
 refine wL (OpA.p ?_)
 refine wL (OpA.m ?_)
 refine zam (s := 21) rfl (fun b11 => ?_) (fun b11 => ?_)
 iterate 2 refine wS ?_
 refine wL (OpA.p ?_)
 refine wL (OpA.m ?_)
 iterate 2 refine wS ?_
 refine wL (OpA.p ?_)
 refine wL (OpA.not rfl rfl ?_)
 refine wL (OpA.a ?_)
 refine zab ?_
 exact ⟨(Cov.asg ⟨(congrArg D.b (Eq.symm (notFt (orS (orS (orN (orN (andS b1) (andN b9 b10)) b11)))))), trivial⟩), (.refl _)⟩
 refine wG (OpA.m ?_)
 refine wG (OpA.eql rfl rfl rfl ?_)
 refine wL (OpA.p ?_)
 refine wL (OpA.m ?_)
 refine zam (s := 25) rfl (fun b12 => ?_) (fun b12 => ?_)
 iterate 2 refine wS ?_
 refine wL (OpA.p ?_)
 refine wL (OpA.not rfl rfl ?_)
 refine wL (OpA.a ?_)
 refine zab ?_
 exact ⟨(Cov.asg ⟨(congrArg D.b (Eq.symm (notFt (orS (orN (orN (orN (andS b1) (andN b9 b10)) b11) b12))))), trivial⟩), (.refl _)⟩
 refine wG (OpA.m ?_)
 refine wG (OpA.eql rfl rfl rfl ?_)
 refine wL (OpA.p ?_)
 refine wL (OpA.not rfl rfl ?_)
 refine wL (OpA.a ?_)
 refine zab ?_
 exact ⟨(Cov.asg ⟨(congrArg D.b (Eq.symm (congrArg Bool.not (orN (orN (orN (orN (andS b1) (andN b9 b10)) b11) b12) rfl)))), trivial⟩), (.refl _)⟩
 iterate 2 refine wS ?_
 refine wG (OpA.p ?_)
 refine wL (OpA.p ?_)
 refine wL (OpA.m ?_)
 refine wG (OpA.m ?_)
 refine wG (OpA.eql rfl rfl rfl ?_)
 refine wL (OpA.p ?_)
 refine wL (OpA.m ?_)
 refine zam (s := 21) rfl (fun b13 => ?_) (fun b13 => ?_)
 iterate 2 refine wS ?_
 refine wL (OpA.p ?_)
 refine wL (OpA.m ?_)
 iterate 2 refine wS ?_
 refine wL (OpA.p ?_)
 refine wL (OpA.not rfl rfl ?_)
 refine wL (OpA.a ?_)
 refine zab ?_
 exact ⟨(Cov.asg ⟨(congrArg D.b (Eq.symm (notFt (orS (orS (orN (orN (andS b1) (andS b9)) b13)))))), trivial⟩), (.refl _)⟩
 refine wG (OpA.m ?_)
 refine wG (OpA.eql rfl rfl rfl ?_)
 refine wL (OpA.p ?_)
 refine wL (OpA.m ?_)
 refine zam (s := 25) rfl (fun b14 => ?_) (fun b14 => ?_)
 iterate 2 refine wS ?_
 refine wL (OpA.p ?_)
 refine wL (OpA.not rfl rfl ?_)
 refine wL (OpA.a ?_)
 refine zab ?_
 exact ⟨(Cov.asg ⟨(congrArg D.b (Eq.symm (notFt (orS (orN (orN (orN (andS b1) (andS b9)) b13) b14))))), trivial⟩), (.refl _)⟩
 refine wG (OpA.m ?_)
 refine wG (OpA.eql rfl rfl rfl ?_)
 refine wL (OpA.p ?_)
 refine wL (OpA.not rfl rfl ?_)
 refine wL (OpA.a ?_)
 refine zab ?_
 exact ⟨(Cov.asg ⟨(congrArg D.b (Eq.symm (congrArg Bool.not (orN (orN (orN (orN (andS b1) (andS b9)) b13) b14) rfl)))), trivial⟩), (.refl _)⟩
 show wpA _ _ _ _ _ _
 refine zal ?_
 exact ⟨_, (.tmp (d := D.b (!((((((decide (c ≥ 97)) && (decide (c ≤ 122))) || ((decide (c ≥ 48)) && (decide (c ≤ 57)))) || (c == 46)) || (c == 95)) || (c == 45)))) rfl .nil), _, (.same rfl .nil), ⟨(!((((((decide (c ≥ 97)) && (decide (c ≤ 122))) || ((decide (c ≥ 48)) && (decide (c ≤ 57)))) || (c == 46)) || (c == 95)) || (c == 45))), rfl, h⟩⟩
theorem part1_c (c : Int)  : Fun false Tryz.prog 144 [(D.k .i32) c] (fun d => d = D.b (badR c)) :=
 Fun.at (enc := fun r => D.b r) (v := badR c) (part1_w c  (fun r => r = badR c) (part1_ok c _  rfl))
theorem part_w (s_ : ByteArray) (Q : Bool → Prop) (h : part_vc s_ Q) : Fun false Tryz.prog 97 [D.s s_] (fun d => ∃ r, d = D.b r ∧ Q r) := by
 unfold part_vc at h
 refine Fun.of_body Tryz.func97 rfl Tryz.ntmps97 rfl ?_
 refine zac (zaa (wL (OpA.a (zab ?_))))
 iterate 2 refine zac ?_
 obtain ⟨q1, q2, h⟩ := h
 refine wpA_mid (asg [(0, D.s s_), (2, D.b false), (19, D.b ((((decide (s_ = (⟨#[]⟩ : ByteArray))) || (decide ((s_.size : Int) > 32))) || ((sgi s_ 0) == 46)) || ((sgi s_ 0) == 45)))]) [] ?_ ?_
 refine zaa (wL (OpA.m ?_))
 refine wL (OpA.seql rfl rfl rfl ?_)
 refine wL (OpA.m ?_)
 refine zam (s := 5) rfl (fun b2 => ?_) (fun b2 => ?_)
 iterate 3 refine wS ?_
 refine wL (OpA.p ?_)
 refine wL (OpA.m ?_)
 iterate 3 refine wS ?_
 refine wL (OpA.p ?_)
 refine wL (OpA.m ?_)
 iterate 3 refine wS ?_
 refine wL (OpA.p ?_)
 refine zab ?_
 exact ⟨(Cov.asg ⟨rfl, rfl, (congrArg D.b (Eq.symm (orS (orS (orS b2))))), trivial⟩), (.refl _)⟩
 refine wG (OpA.m ?_)
 refine wG (OpA.slen rfl rfl rfl rfl td9 rfl ?_)
 refine wG (OpA.gtr rfl rfl rfl ?_)
 refine wL (OpA.p ?_)
 refine wL (OpA.m ?_)
 refine zam (s := 10) rfl (fun b3 => ?_) (fun b3 => ?_)
 iterate 3 refine wS ?_
 refine wL (OpA.p ?_)
 refine wL (OpA.m ?_)
 iterate 3 refine wS ?_
 refine wL (OpA.p ?_)
 refine zab ?_
 exact ⟨(Cov.asg ⟨rfl, rfl, (congrArg D.b (Eq.symm (orS (orS (orN b2 b3))))), trivial⟩), (.refl _)⟩
 refine wG (OpA.m ?_)
 refine wG (OpA.sixV rfl td9 rfl rfl (q1 ⟨(decF b2), (decF b3)⟩) ?_)
 refine wG (OpA.eql rfl rfl rfl ?_)
 refine wL (OpA.p ?_)
 refine wL (OpA.m ?_)
 refine zam (s := 15) rfl (fun b4 => ?_) (fun b4 => ?_)
 iterate 3 refine wS ?_
 refine wL (OpA.p ?_)
 refine zab ?_
 exact ⟨(Cov.asg ⟨rfl, rfl, (congrArg D.b (Eq.symm (orS (orN (orN b2 b3) b4)))), trivial⟩), (.refl _)⟩
 refine wG (OpA.m ?_)
 refine wG (OpA.sixV rfl td9 rfl rfl (q2 ⟨⟨(decF b2), (decF b3)⟩, (beqF b4)⟩) ?_)
 refine wG (OpA.eql rfl rfl rfl ?_)
 refine wL (OpA.p ?_)
 refine zab ?_
 exact ⟨(Cov.asg ⟨rfl, rfl, (congrArg D.b (Eq.symm (orN (orN (orN b2 b3) b4) rfl))), trivial⟩), (.refl _)⟩
 show wpA _ _ _ _ _ _
 refine zae rfl (fun b1 => ?_) (fun b1 => ?_)
 have h := h.1 ((or0 b1).imp (fun hh => ((or0 hh).imp (fun hh => ((or0 hh).imp (fun hh => (decT hh)) (fun hh => (decT hh)))) (fun hh => (beqT hh)))) (fun hh => (beqT hh)))
 refine zac (zaa (wL (OpA.a (zab (zal ?_)))))
 exact ⟨_, (.tmp (d := D.b false) rfl .nil), _, (.same rfl .nil), ⟨false, rfl, h⟩⟩
 have h := h.2 ⟨⟨⟨(decF (or1 (or1 (or1 b1)))), (decF (or2 (or1 (or1 b1))))⟩, (beqF (or2 (or1 b1)))⟩, (beqF (or2 b1))⟩
 refine zai (zac ?_)
 obtain ⟨q1, h⟩ := h
 refine zaa (wL (OpA.m ?_))
 refine wL (OpA.call rfl rfl rfl en143 (scf_c s_ 144 [] [] (fun (x0_ : Int) => badR x0_) (fun (x0_ : Int) => True) en144 (fun x0_ _ => part1_c x0_ ) q1) ?_)
 rintro _ rfl
 refine wL (OpA.not rfl rfl ?_)
 refine wL (OpA.a ?_)
 refine zab (zal ?_)
 exact ⟨_, (.tmp (d := D.b (!(decide (0 ≤ runeIx (fun (x0_ : Int) => badR x0_) s_ true)))) rfl .nil), _, (.same rfl .nil), ⟨(!(decide (0 ≤ runeIx (fun (x0_ : Int) => badR x0_) s_ true))), rfl, h⟩⟩
theorem part_c (s_ : ByteArray) (hp0 : s_.size ≤ 1000000) : Fun false Tryz.prog 97 [D.s s_] (fun d => d = D.b (partF s_)) :=
 Fun.at (enc := fun r => D.b r) (v := partF s_) (part_w s_  (fun r => r = partF s_) (part_ok s_ _ hp0 rfl))
theorem path1_w (s_ : ByteArray) (Q : Bool → Prop) (h : path1_vc s_ Q) : Fun false Tryz.prog 96 [D.s s_] (fun d => ∃ r, d = D.b r ∧ Q r) := by
 unfold path1_vc at h
 refine Fun.of_body Tryz.func96 rfl Tryz.ntmps96 rfl ?_
 refine zac (zaa (wL (OpA.a (zab (zac ?_)))))
 obtain ⟨q1, h⟩ := h
 refine zaa (wL (OpA.m ?_))
 refine wL (OpA.call rfl rfl rfl en97 (part_c s_ q1) ?_)
 rintro _ rfl
 refine wL (OpA.not rfl rfl ?_)
 refine wL (OpA.a ?_)
 refine zab (zal ?_)
 exact ⟨_, (.tmp (d := D.b (!(partF s_))) rfl .nil), _, (.same rfl .nil), ⟨(!(partF s_)), rfl, h⟩⟩
theorem path1_c (s_ : ByteArray) (hp0 : s_.size ≤ 1000000) : Fun false Tryz.prog 96 [D.s s_] (fun d => d = D.b ((!partF s_))) :=
 Fun.at (enc := fun r => D.b r) (v := (!partF s_)) (path1_w s_  (fun r => r = (!partF s_)) (path1_ok s_ _ hp0 rfl))
theorem path_w (path : ByteArray) (Q : Int → Prop) (h : path_vc path Q) : Fun false Tryz.prog 50 [D.s path] (fun d => ∃ r, d = D.i r ∧ Q r) := by
 unfold path_vc at h
 refine Fun.of_body Tryz.func50 rfl Tryz.ntmps50 rfl ?_
 refine zac (zaa (wL (OpA.a (zab (zac ?_)))))
 obtain ⟨q1, q2, h⟩ := h
 refine zaa (wL (OpA.m ?_))
 refine wL (OpA.call rfl rfl rfl en33 (split_c path (⟨#[47]⟩ : ByteArray) q1 q2) ?_)
 rintro _ rfl
 refine wL (OpA.a ?_)
 refine zab ?_
 iterate 2 refine zac ?_
 obtain ⟨q1, h⟩ := h
 refine wpA_mid (asg [(2, D.i 0), (17, D.b (((decide ((path.size : Int) > 128)) || (decide (((splitF path (⟨#[47]⟩ : ByteArray)).length : Int) > 8))) || ((splitF path (⟨#[47]⟩ : ByteArray)).any (fun (x0_ : ByteArray) => (!partF x0_)))))]) [] ?_ ?_
 refine zaa (wL (OpA.m ?_))
 refine wL (OpA.slen rfl rfl rfl rfl td9 rfl ?_)
 refine wL (OpA.gtr rfl rfl rfl ?_)
 refine wL (OpA.m ?_)
 refine zam (s := 9) rfl (fun b2 => ?_) (fun b2 => ?_)
 iterate 3 refine wS ?_
 refine wL (OpA.p ?_)
 refine wL (OpA.m ?_)
 iterate 2 refine wS ?_
 refine wL (OpA.p ?_)
 refine zab ?_
 exact ⟨(Cov.asg ⟨rfl, (congrArg D.b (Eq.symm (orS (orS b2)))), trivial⟩), (.refl _)⟩
 refine wG (OpA.m ?_)
 refine wG (OpA.len rfl rfl rfl rfl ts25.desc (.inl ⟨_, _, rfl, (List.length_map _).symm⟩) ?_)
 refine wG (OpA.gtr rfl rfl rfl ?_)
 refine wL (OpA.p ?_)
 refine wL (OpA.m ?_)
 refine zam (s := 14) rfl (fun b3 => ?_) (fun b3 => ?_)
 iterate 2 refine wS ?_
 refine wL (OpA.p ?_)
 refine zab ?_
 exact ⟨(Cov.asg ⟨rfl, (congrArg D.b (Eq.symm (orS (orN b2 b3)))), trivial⟩), (.refl _)⟩
 refine wG (OpA.m ?_)
 refine wG (OpA.call rfl rfl rfl en95 (cfStr_c (splitF path (⟨#[47]⟩ : ByteArray)) 96 [] [] (fun (x0_ : ByteArray) => (!partF x0_)) (fun (x0_ : ByteArray) => x0_.size ≤ 1000000) en96 (fun x0_ hh => path1_c x0_ hh) (q1 ⟨(decF b2), (decF b3)⟩).1 (q1 ⟨(decF b2), (decF b3)⟩).2) ?_)
 rintro _ rfl
 refine wL (OpA.p ?_)
 refine zab ?_
 exact ⟨(Cov.asg ⟨rfl, (congrArg D.b (Eq.symm (orN (orN b2 b3) rfl))), trivial⟩), (.refl _)⟩
 show wpA _ _ _ _ _ _
 refine zae rfl (fun b1 => ?_) (fun b1 => ?_)
 have h := h.1 ((or0 b1).imp (fun hh => ((or0 hh).imp (fun hh => (decT hh)) (fun hh => (decT hh)))) (fun hh => hh))
 refine zac (zaa (wL (OpA.a (zab (zal ?_)))))
 exact ⟨_, (.tmp (d := D.i 2) rfl .nil), _, (.same rfl .nil), ⟨2, rfl, h⟩⟩
 have h := h.2 ⟨⟨(decF (or1 (or1 b1))), (decF (or2 (or1 b1)))⟩, (or2 b1)⟩
 refine zai (zac (zaa (wL (OpA.a (zab (zal ?_))))))
 exact ⟨_, (.tmp (d := D.i 0) rfl .nil), _, (.same rfl .nil), ⟨0, rfl, h⟩⟩
theorem path_c (path : ByteArray) (hp0 : path.size ≤ 1000000) : Fun false Tryz.prog 50 [D.s path] (fun d => d = D.i (pathF path)) :=
 Fun.at (enc := fun r => D.i r) (v := pathF path) (path_w path  (fun r => r = pathF path) (path_ok path _ hp0 rfl))
theorem or_w (vals : (List Int)) (Q : Int → Prop) (h : or_vc vals Q) : Fun false Tryz.prog 156 [(encL 1 D.i) vals] (fun d => ∃ r, d = D.i r ∧ Q r) := by
 unfold or_vc at h
 refine Fun.of_body Tryz.func156 rfl Tryz.ntmps156 rfl ?_
 refine zac (zaa (wL (OpA.a (zab (zac (zaa (wL (OpA.a (zab ?_)))))))))
 iterate 2 refine zac ?_
 refine zaa (wL (OpA.m ?_))
 refine wL (OpA.len rfl rfl rfl rfl ts41.desc (.inl ⟨_, _, rfl, (List.length_map _).symm⟩) ?_)
 refine wL (OpA.m ?_)
 refine zab (zag ?_)
 refine wpA_lfp (S := Int) (G := Unit) () (fun gg ss => asg [(2, D.i 0), (3, D.i 0), (6, (encL 1 D.i) vals), (7, D.i (vals.length : Int)), (8, D.i ss)]) (fun gg ss => []) h cvZ (.refl _) ?_
 rintro again1 _ x h
 have h : or_L1 vals Q again1 x := h
 unfold or_L1 at h
 show wpA _ _ _ _ _ _
 refine zac (zaa ?_)
 refine wL (OpA.lss rfl rfl rfl ?_)
 refine zab (zac ?_)
 refine zae rfl (fun b2 => ?_) (fun b2 => ?_)
 have h := h.1 (decT b2)
 refine zai (zac (zag (zac ?_)))
 obtain ⟨q1, h⟩ := h
 refine zaa ?_
 refine wL (OpA.iixV (enc := D.i) rfl ts41 rfl rfl rfl q1 ?_)
 refine wL (OpA.iload rfl ti3 rfl rfl ?_)
 refine wL (OpA.a ?_)
 refine zab (zac (zaa ?_))
 iterate 2 refine wL (OpA.m ?_)
 refine wL (OpA.neq rfl rfl rfl ?_)
 refine zab ?_
 refine zae rfl (fun b3 => ?_) (fun b3 => ?_)
 have h := h.1 (bneT b3)
 refine zac (zaa (wL (OpA.m (wL (OpA.a (zab (zal ?_)))))))
 exact ⟨_, (.tmp (d := D.i (gi vals x)) rfl .nil), _, (.same rfl .nil), ⟨(gi vals x), rfl, h⟩⟩
 have h := h.2 (bneF b3)
 refine zai ?_
 obtain ⟨q1, h⟩ := h
 refine zaa ?_
 refine wL (OpA.addi rfl rfl rfl q1 ?_)
 refine wL (OpA.m ?_)
 refine zab ?_
 exact ⟨(), (x + 1), h, cvZ, (.refl _)⟩
 have h := h.2 (decF b2)
 refine wpA_exit ?_
 refine zac (zaa (wL (OpA.m (wL (OpA.a (zab (zal ?_)))))))
 exact ⟨_, (.tmp (d := D.i 0) rfl .nil), _, (.same rfl .nil), ⟨0, rfl, h⟩⟩
theorem or_c (vals : (List Int)) (hp0 : vals.length ≤ 9223372036854775807) : Fun false Tryz.prog 156 [(encL 1 D.i) vals] (fun d => d = D.i (orF vals)) :=
 Fun.at (enc := fun r => D.i r) (v := orF vals) (or_w vals  (fun r => r = orF vals) (or_ok vals _ hp0 rfl))
theorem blank_w (c : Int) (Q : Bool → Prop) (h : blank_vc c Q) : Fun false Tryz.prog 99 [(D.k .u8) c] (fun d => ∃ r, d = D.b r ∧ Q r) := by
 unfold blank_vc at h
 refine Fun.of_body Tryz.func99 rfl Tryz.ntmps99 rfl ?_
 refine zac (zaa (wL (OpA.a (zab (zac ?_)))))
 refine wpA_mid (asg [(2, D.b ((decide (c ≤ 32)) || (c == 127)))]) [] ?_ ?_
 refine zaa (wL (OpA.m ?_))
 refine wL (OpA.leq rfl rfl rfl ?_)
 refine wL (OpA.m ?_)
 refine zam (s := 5) rfl (fun b1 => ?_) (fun b1 => ?_)
 iterate 2 refine wS ?_
 refine wL (OpA.p ?_)
 refine wL (OpA.a ?_)
 refine zab ?_
 exact ⟨(Cov.asg ⟨(congrArg D.b (Eq.symm (orS b1))), trivial⟩), (.refl _)⟩
 refine wG (OpA.m ?_)
 refine wG (OpA.eql rfl rfl rfl ?_)
 refine wL (OpA.p ?_)
 refine wL (OpA.a ?_)
 refine zab ?_
 exact ⟨(Cov.asg ⟨(congrArg D.b (Eq.symm (orN b1 rfl))), trivial⟩), (.refl _)⟩
 show wpA _ _ _ _ _ _
 refine zal ?_
 exact ⟨_, (.tmp (d := D.b ((decide (c ≤ 32)) || (c == 127))) rfl .nil), _, (.same rfl .nil), ⟨((decide (c ≤ 32)) || (c == 127)), rfl, h⟩⟩
theorem blank_c (c : Int)  : Fun false Tryz.prog 99 [(D.k .u8) c] (fun d => d = D.b (blankF c)) :=
 Fun.at (enc := fun r => D.b r) (v := blankF c) (blank_w c  (fun r => r = blankF c) (blank_ok c _  rfl))
theorem ixB_w (s_ : (List Int)) (g_p : Nat) (fs_p cs_p : List D) (p : Int → Bool) (pD : Int → Prop) (hen_p : entersB Tryz.prog g_p = true) (hg_p : ∀ x0_, pD x0_ → Fun false Tryz.prog g_p (fs_p ++ [(D.k .u8) x0_] ++ cs_p) (fun d => d = D.b (p x0_))) (Q : Int → Prop) (h : ixB_vc s_ p pD Q) : Fun false Tryz.prog 151 [(encL 1 (D.k .u8)) s_, .fn (.func g_p) fs_p cs_p] (fun d => ∃ r, d = D.i r ∧ Q r) := by
 unfold ixB_vc at h
 refine Fun.of_body Tryz.func151 rfl Tryz.ntmps151 rfl ?_
 refine zac (zaa (wL (OpA.a (zab ?_))))
 iterate 2 refine zac ?_
 refine zaa (wL (OpA.m ?_))
 refine wL (OpA.len rfl rfl rfl rfl ts165.desc (.inl ⟨_, _, rfl, (List.length_map _).symm⟩) ?_)
 refine wL (OpA.m ?_)
 refine zab (zag ?_)
 refine wpA_lfp (S := Int) (G := Unit) () (fun gg ss => asg [(0, (encL 1 (D.k .u8)) s_), (1, .fn (.func g_p) fs_p cs_p), (4, D.i 0), (7, D.i (s_.length : Int)), (8, D.i ss)]) (fun gg ss => []) h cvZ (.refl _) ?_
 rintro again1 _ x h
 have h : ixB_L1 s_ p pD Q again1 x := h
 unfold ixB_L1 at h
 show wpA _ _ _ _ _ _
 refine zac (zaa ?_)
 refine wL (OpA.lss rfl rfl rfl ?_)
 refine zab (zac ?_)
 refine zae rfl (fun b2 => ?_) (fun b2 => ?_)
 have h := h.1 (decT b2)
 refine zai (zac (zag (zac (zaa (wL (OpA.m (wL (OpA.a (zab (zac ?_))))))))))
 obtain ⟨q1, q2, h⟩ := h
 refine zaa ?_
 iterate 3 refine wL (OpA.m ?_)
 refine wL (OpA.iixV (enc := (D.k .u8)) rfl ts165 rfl rfl rfl q1 ?_)
 refine wL (OpA.iload rfl ti5 rfl rfl ?_)
 refine wL (OpA.call rfl rfl rfl hen_p (hg_p (gi s_ x) q2) ?_)
 rintro _ rfl
 refine zab ?_
 refine zae rfl (fun b3 => ?_) (fun b3 => ?_)
 have h := h.1 b3
 refine zac (zaa (wL (OpA.m (wL (OpA.a (zab (zal ?_)))))))
 exact ⟨_, (.tmp (d := D.i x) rfl .nil), _, (.same rfl .nil), ⟨x, rfl, h⟩⟩
 have h := h.2 b3
 refine zai ?_
 obtain ⟨q1, h⟩ := h
 refine zaa ?_
 refine wL (OpA.addi rfl rfl rfl q1 ?_)
 refine wL (OpA.m ?_)
 refine zab ?_
 exact ⟨(), (x + 1), h, cvZ, (.refl _)⟩
 have h := h.2 (decF b2)
 refine wpA_exit ?_
 refine zac (zaa (wL (OpA.a (zab (zal ?_)))))
 exact ⟨_, (.tmp (d := D.i (-1)) rfl .nil), _, (.same rfl .nil), ⟨(-1), rfl, h⟩⟩
theorem ixB_c (s_ : (List Int)) (g_p : Nat) (fs_p cs_p : List D) (p : Int → Bool) (pD : Int → Prop) (hen_p : entersB Tryz.prog g_p = true) (hg_p : ∀ x0_, pD x0_ → Fun false Tryz.prog g_p (fs_p ++ [(D.k .u8) x0_] ++ cs_p) (fun d => d = D.b (p x0_))) (hp0 : s_.length ≤ 9223372036854775807) (hp1 : ∀ z_ ∈ s_, pD z_) : Fun false Tryz.prog 151 [(encL 1 (D.k .u8)) s_, .fn (.func g_p) fs_p cs_p] (fun d => d = D.i ((idxOf p s_))) :=
 Fun.at (enc := fun r => D.i r) (v := (idxOf p s_)) (ixB_w s_ g_p fs_p cs_p p pD hen_p hg_p (fun r => r = (idxOf p s_)) (ixB_ok s_ p pD _ hp0 hp1 rfl))
theorem cfB_w (s_ : (List Int)) (g_p : Nat) (fs_p cs_p : List D) (p : Int → Bool) (pD : Int → Prop) (hen_p : entersB Tryz.prog g_p = true) (hg_p : ∀ x0_, pD x0_ → Fun false Tryz.prog g_p (fs_p ++ [(D.k .u8) x0_] ++ cs_p) (fun d => d = D.b (p x0_))) (Q : Bool → Prop) (h : cfB_vc s_ p pD Q) : Fun false Tryz.prog 107 [(encL 1 (D.k .u8)) s_, .fn (.func g_p) fs_p cs_p] (fun d => ∃ r, d = D.b r ∧ Q r) := by
 unfold cfB_vc at h
 refine Fun.of_body Tryz.func107 rfl Tryz.ntmps107 rfl ?_
 refine zac (zaa (wL (OpA.a (zab (zac ?_)))))
 obtain ⟨q1, q2, h⟩ := h
 refine zaa ?_
 iterate 2 refine wL (OpA.m ?_)
 refine wL (OpA.call rfl rfl rfl en151 (ixB_c s_ g_p fs_p cs_p p pD hen_p hg_p q1 q2) ?_)
 rintro _ rfl
 refine wL (OpA.geq rfl rfl rfl ?_)
 refine wL (OpA.a ?_)
 refine zab (zal ?_)
 exact ⟨_, (.tmp (d := D.b (decide ((idxOf p s_) ≥ 0))) rfl .nil), _, (.same rfl .nil), ⟨(decide ((idxOf p s_) ≥ 0)), rfl, h⟩⟩
theorem cfB_c (s_ : (List Int)) (g_p : Nat) (fs_p cs_p : List D) (p : Int → Bool) (pD : Int → Prop) (hen_p : entersB Tryz.prog g_p = true) (hg_p : ∀ x0_, pD x0_ → Fun false Tryz.prog g_p (fs_p ++ [(D.k .u8) x0_] ++ cs_p) (fun d => d = D.b (p x0_))) (hp0 : s_.length ≤ 9223372036854775807) (hp1 : ∀ z_ ∈ s_, pD z_) : Fun false Tryz.prog 107 [(encL 1 (D.k .u8)) s_, .fn (.func g_p) fs_p cs_p] (fun d => d = D.b ((s_.any p))) :=
 Fun.at (enc := fun r => D.b r) (v := (s_.any p)) (cfB_w s_ g_p fs_p cs_p p pD hen_p hg_p (fun r => r = (s_.any p)) (cfB_ok s_ p pD _ hp0 hp1 rfl))
theorem nvalid_w (t : Text) (Q : Bool → Prop) (h : nvalid_vc t Q) : Fun false Tryz.prog 58 [zak t] (fun d => ∃ r, d = D.b r ∧ Q r) := by
 unfold nvalid_vc at h
 refine Fun.of_body Tryz.func58 rfl Tryz.ntmps58 rfl ?_
 refine zac (zaa ?_)
 refine wL (OpA.bx (sz := 2) rfl zW (.of rfl) (fun c1 _ => ?_))
 refine wL (OpA.a ?_)
 refine zab ?_
 iterate 2 refine zac ?_
 obtain ⟨q1, h⟩ := h
 refine wpA_mid (asg [(1, .ptr c1 2 0 0), (2, D.b false), (15, D.b ((decide ((t.words.length : Int) > 8192)) || ((pathF t.path) != 0)))]) [(c1, .cells 2 [zak t])] ?_ ?_
 refine zaa ?_
 refine wL (OpA.fieldAddr rfl tf57_1 rfl ?_)
 refine wL (OpA.load rfl ti24 rfl .head rfl rfl ?_)
 refine wL (OpA.len rfl rfl rfl rfl ts24.desc (.inl ⟨_, _, rfl, (List.length_map _).symm⟩) ?_)
 refine wL (OpA.gtr rfl rfl rfl ?_)
 refine wL (OpA.m ?_)
 refine zam (s := 10) rfl (fun b11 => ?_) (fun b11 => ?_)
 iterate 4 refine wS ?_
 refine wL (OpA.p ?_)
 refine zab ?_
 exact ⟨(Cov.asg ⟨rfl, rfl, (congrArg D.b (Eq.symm (orS b11))), trivial⟩), (.refl _)⟩
 refine wG (OpA.fieldAddr rfl tf57_0 rfl ?_)
 refine wG (OpA.load rfl ti9 rfl .head rfl rfl ?_)
 refine wG (OpA.call rfl rfl rfl en50 (path_c t.path (q1 (decF b11))) ?_)
 rintro _ rfl
 refine wG (OpA.neq rfl rfl rfl ?_)
 refine wL (OpA.p ?_)
 refine zab ?_
 exact ⟨(Cov.asg ⟨rfl, rfl, (congrArg D.b (Eq.symm (orN b11 rfl))), trivial⟩), (.refl _)⟩
 show wpA _ _ _ _ _ _
 refine zae rfl (fun b2 => ?_) (fun b2 => ?_)
 have h := h.1 ((or0 b2).imp (fun hh => (decT hh)) (fun hh => (bneT hh)))
 refine zac (zaa (wL (OpA.a (zab (zal ?_)))))
 exact ⟨_, (.tmp (d := D.b false) rfl .nil), _, (.same rfl .nil), ⟨false, rfl, h⟩⟩
 have h := h.2 ⟨(decF (or1 b2)), (bneF (or2 b2))⟩
 refine zai (zac (zaa (wL (OpA.a (zab ?_)))))
 iterate 2 refine zac ?_
 refine zaa ?_
 refine wL (OpA.fieldAddr rfl tf57_1 rfl ?_)
 refine wL (OpA.load rfl ti24 rfl .head rfl rfl ?_)
 refine wL (OpA.len rfl rfl rfl rfl ts24.desc (.inl ⟨_, _, rfl, (List.length_map _).symm⟩) ?_)
 refine wL (OpA.m ?_)
 refine zab (zag ?_)
 refine wpA_lfp (S := Int × Int) (G := Unit) () (fun gg ss => asg [(2, D.b false), (3, D.i ss.1), (17, (encL 2 encLex) t.words), (18, D.i (t.words.length : Int)), (19, D.i ss.2)]) (fun gg ss => [(c1, .cells 2 [zak t])]) h cvZ (.refl _) ?_
 rintro again3 _ ⟨least, x⟩ h
 have h : nvalid_L1 t Q again3 least x := h
 unfold nvalid_L1 at h
 show wpA _ _ _ _ _ _
 refine zac (zaa ?_)
 refine wL (OpA.lss rfl rfl rfl ?_)
 refine zab (zac ?_)
 refine zae rfl (fun b4 => ?_) (fun b4 => ?_)
 have h := h.1 (decT b4)
 refine zai (zac (zag (zac ?_)))
 obtain ⟨q1, h⟩ := h
 refine zaa ?_
 refine wL (OpA.iixV (enc := encLex) rfl ts24 rfl rfl rfl q1 ?_)
 refine wL (OpA.iload_whole rfl ti30 rfl ⟨_, rfl, rfl⟩ ?_)
 refine wL (OpA.alloc (sz := 2) (d := encLex (Lexeme.mk ByteArray.empty 0)) rfl tz30 (fun _ _ => .agg (.cons (.v _) (.cons (.v _) .nil))) (.of rfl) (fun c5 _ => ?_))
 refine wE (OpA.storeW rfl ti30 rfl zW (.of rfl) rfl rfl .head ?_)
 refine zab ?_
 iterate 2 refine zac ?_
 obtain ⟨q1, h⟩ := h
 refine wpA_mid (asg [(2, D.b false), (3, D.i least), (5, .ptr c5 2 0 0), (17, (encL 2 encLex) t.words), (18, D.i (t.words.length : Int)), (19, D.i x), (42, D.b ((((decide ((gi t.words x).text = (⟨#[]⟩ : ByteArray))) || ((sbytes ((gi t.words x).text)).any (fun (x0_ : Int) => blankF x0_))) || (decide ((gi t.words x).line < least))) || (decide ((gi t.words x).line ≥ 1024))))]) [(c5, .cells 2 [encLex (gi t.words x)]), (c1, .cells 2 [zak t])] ?_ ?_
 refine zaa ?_
 refine wL (OpA.fieldAddr rfl tf30_0 rfl ?_)
 refine wL (OpA.load rfl ti9 rfl .head rfl rfl ?_)
 refine wL (OpA.seql rfl rfl rfl ?_)
 refine wL (OpA.m ?_)
 refine zam (s := 26) rfl (fun b8 => ?_) (fun b8 => ?_)
 iterate 4 refine wS ?_
 refine wL (OpA.p ?_)
 refine wL (OpA.m ?_)
 iterate 4 refine wS ?_
 refine wL (OpA.p ?_)
 refine wL (OpA.m ?_)
 iterate 3 refine wS ?_
 refine wL (OpA.p ?_)
 refine zab ?_
 exact ⟨(Cov.asg ⟨rfl, rfl, rfl, rfl, rfl, rfl, (congrArg D.b (Eq.symm (orS (orS (orS b8))))), trivial⟩), (.refl _)⟩
 refine wG (OpA.fieldAddr rfl tf30_0 rfl ?_)
 refine wG (OpA.load rfl ti9 rfl .head rfl rfl ?_)
 refine wG (OpA.istrBytes rfl td9 ts165.desc td5 rfl ?_)
 refine wG (OpA.call rfl rfl rfl en107 (cfB_c (sbytes ((gi t.words x).text)) 99 [] [] (fun (x0_ : Int) => blankF x0_) (fun (x0_ : Int) => True) en99 (fun x0_ _ => blank_c x0_ ) (q1 (decF b8)).1 (q1 (decF b8)).2) ?_)
 rintro _ rfl
 refine wL (OpA.p ?_)
 refine wL (OpA.m ?_)
 refine zam (s := 32) rfl (fun b9 => ?_) (fun b9 => ?_)
 iterate 4 refine wS ?_
 refine wL (OpA.p ?_)
 refine wL (OpA.m ?_)
 iterate 3 refine wS ?_
 refine wL (OpA.p ?_)
 refine zab ?_
 exact ⟨(Cov.asg ⟨rfl, rfl, rfl, rfl, rfl, rfl, (congrArg D.b (Eq.symm (orS (orS (orN b8 b9))))), trivial⟩), (.refl _)⟩
 refine wG (OpA.fieldAddr rfl tf30_1 rfl ?_)
 refine wG (OpA.load rfl ti3 rfl .head rfl rfl ?_)
 refine wG (OpA.m ?_)
 refine wG (OpA.lss rfl rfl rfl ?_)
 refine wL (OpA.p ?_)
 refine wL (OpA.m ?_)
 refine zam (s := 38) rfl (fun b10 => ?_) (fun b10 => ?_)
 iterate 3 refine wS ?_
 refine wL (OpA.p ?_)
 refine zab ?_
 exact ⟨(Cov.asg ⟨rfl, rfl, rfl, rfl, rfl, rfl, (congrArg D.b (Eq.symm (orS (orN (orN b8 b9) b10)))), trivial⟩), (.refl _)⟩
 refine wG (OpA.fieldAddr rfl tf30_1 rfl ?_)
 refine wG (OpA.load rfl ti3 rfl .head rfl rfl ?_)
 refine wG (OpA.geq rfl rfl rfl ?_)
 refine wL (OpA.p ?_)
 refine zab ?_
 exact ⟨(Cov.asg ⟨rfl, rfl, rfl, rfl, rfl, rfl, (congrArg D.b (Eq.symm (orN (orN (orN b8 b9) b10) rfl))), trivial⟩), (.refl _)⟩
 show wpA _ _ _ _ _ _
 refine zae rfl (fun b7 => ?_) (fun b7 => ?_)
 have h := h.1 ((or0 b7).imp (fun hh => ((or0 hh).imp (fun hh => ((or0 hh).imp (fun hh => (decT hh)) (fun hh => hh))) (fun hh => (decT hh)))) (fun hh => (decT hh)))
 refine zac (zaa (wL (OpA.a (zab (zal ?_)))))
 exact ⟨_, (.tmp (d := D.b false) rfl .nil), _, (.same rfl .nil), ⟨false, rfl, h⟩⟩
 have h := h.2 ⟨⟨⟨(decF (or1 (or1 (or1 b7)))), (or2 (or1 (or1 b7)))⟩, (decF (or2 (or1 b7)))⟩, (decF (or2 b7))⟩
 refine zai (zaa ?_)
 refine wL (OpA.fieldAddr rfl tf30_1 rfl ?_)
 refine wL (OpA.load rfl ti3 rfl .head rfl rfl ?_)
 refine wL (OpA.a ?_)
 refine zab ?_
 obtain ⟨q1, h⟩ := h
 refine zaa ?_
 refine wL (OpA.addi rfl rfl rfl q1 ?_)
 refine wL (OpA.m ?_)
 refine zab ?_
 exact ⟨(), ((gi t.words x).line, (x + 1)), h, cvZ, (.cons _ (.refl _))⟩
 have h := h.2 (decF b4)
 refine wpA_exit ?_
 refine zac (zaa (wL (OpA.a (zab (zal ?_)))))
 exact ⟨_, (.tmp (d := D.b true) rfl .nil), _, (.same rfl .nil), ⟨true, rfl, h⟩⟩
theorem nvalid_c (t : Text) (hp0 : okT t) : Fun false Tryz.prog 58 [zak t] (fun d => d = D.b (validT t)) :=
 Fun.at (enc := fun r => D.b r) (v := validT t) (nvalid_w t  (fun r => r = validT t) (nvalid_ok t _ hp0 rfl))
end Go.Proofs.YtkifpidbpoghlaaGreatDoor
