/-
  walks and contracts
-/
import Derived.Test.YtkifpidbpoghlaaGreatDoorV1
set_option maxRecDepth 10000
set_option maxHeartbeats 2000000
set_option linter.all false
namespace Go.Proofs.YtkifpidbpoghlaaGreatDoor
open Go Go.Lic Go.Sort Go.Proofs
attribute [local irreducible] addP badR blankF cloneCmp clonesF cmpI codeF countF fewTs fewW findC gramsF guarF hashF indexF itoaF lenF lookF mul64F mulP orF partF pathF powF printsF pushF rightL rollF selectF sizeF splitF splitG validT
theorem gadd_w (a : Int) (b : Int) (Q : Int → Prop) (h : gadd_vc a b Q) : Fun false Tryz.prog 217 [D.i a, D.i b] (fun d => ∃ r, d = D.i r ∧ Q r) := by
 unfold gadd_vc at h
 refine Fun.of_body Tryz.func217 rfl Tryz.ntmps217 rfl ?_
 refine zac (zaa (wL (OpA.a (zab (zac ?_)))))
 obtain ⟨q1, h⟩ := h
 refine zaa ?_
 iterate 2 refine wL (OpA.m ?_)
 refine wL (OpA.addi rfl rfl rfl q1 ?_)
 refine wL (OpA.a ?_)
 refine zab ?_
 iterate 2 refine zac ?_
 refine zaa (wL (OpA.m ?_))
 refine wL (OpA.geq rfl rfl rfl ?_)
 refine zab ?_
 refine wpA_join (S := Int) (G := Unit) (fun gg ss => asg [(4, D.i 0), (5, D.i ss)]) (fun gg ss => []) (fun ss => gadd_J1 Q ss) ?_ ?_
 refine zae rfl (fun b2 => ?_) (fun b2 => ?_)
 have h := h.1 (decT b2)
 obtain ⟨q1, h⟩ := h
 refine zaa (wL (OpA.m ?_))
 refine wL (OpA.subi rfl rfl rfl q1 ?_)
 refine wL (OpA.a ?_)
 refine zab ?_
 exact ⟨(), ((a + b) - 2305843009213693951), h, cvZ, (.refl _)⟩
 have h := h.2 (decF b2)
 refine zai ?_
 exact ⟨(), (a + b), h, cvZ, (.refl _)⟩
 rintro _ n h
 have h : gadd_J1 Q n := h
 unfold gadd_J1 at h
 show wpA _ _ _ _ _ _
 iterate 2 refine zac ?_
 refine zaa (wL (OpA.m ?_))
 refine wL (OpA.geq rfl rfl rfl ?_)
 refine zab ?_
 refine zae rfl (fun b1 => ?_) (fun b1 => ?_)
 have h := h.1 (decT b1)
 obtain ⟨q1, h⟩ := h
 refine zaa (wL (OpA.m ?_))
 refine wL (OpA.subi rfl rfl rfl q1 ?_)
 refine wL (OpA.a ?_)
 refine zab (zac (zaa (wL (OpA.m (wL (OpA.a (zab (zal ?_))))))))
 exact ⟨_, (.tmp (d := D.i (n - 2305843009213693951)) rfl .nil), _, (.same rfl .nil), ⟨(n - 2305843009213693951), rfl, h⟩⟩
 have h := h.2 (decF b1)
 refine zai (zac (zaa (wL (OpA.m (wL (OpA.a (zab (zal ?_))))))))
 exact ⟨_, (.tmp (d := D.i n) rfl .nil), _, (.same rfl .nil), ⟨n, rfl, h⟩⟩
theorem gadd_c (a : Int) (b : Int) (hp0 : (0 : Int) ≤ a) (hp1 : a ≤ PR) (hp2 : (0 : Int) ≤ b) (hp3 : b ≤ PR) : Fun false Tryz.prog 217 [D.i a, D.i b] (fun d => d = D.i (addP a b)) :=
 Fun.at (enc := fun r => D.i r) (v := addP a b) (gadd_w a b  (fun r => r = addP a b) (gadd_ok a b _ hp0 hp1 hp2 hp3 rfl))
theorem gmul_w (a : Int) (b : Int) (Q : Int → Prop) (h : gmul_vc a b Q) : Fun false Tryz.prog 216 [D.i a, D.i b] (fun d => ∃ r, d = D.i r ∧ Q r) := by
 unfold gmul_vc at h
 refine Fun.of_body Tryz.func216 rfl Tryz.ntmps216 rfl ?_
 refine zac (zaa (wL (OpA.a (zab (zac ?_)))))
 obtain ⟨q1, q2, q3, q4, h⟩ := h
 refine zaa (wL (OpA.m ?_))
 refine wL (OpA.conv rfl td3 td250 rfl ?_)
 refine wL (OpA.m ?_)
 refine wL (OpA.conv rfl td3 td250 rfl ?_)
 refine wL (OpA.call rfl rfl rfl en237 (mul64_c (IntKind.u64.wrap a) (IntKind.u64.wrap b) q1 q2 q3 q4) ?_)
 rintro _ rfl
 refine wL (OpA.m ?_)
 iterate 2 refine wL (OpA.extract rfl rfl rfl ?_)
 iterate 2 refine wL (OpA.a ?_)
 refine zab (zac ?_)
 obtain ⟨q1, q2, q3, q4, q5, q6, h⟩ := h
 refine zaa (wL (OpA.m ?_))
 refine wL (OpA.band rfl rfl rfl ?_)
 refine wL (OpA.conv rfl td250 td3 rfl ?_)
 refine wL (OpA.m ?_)
 refine wL (OpA.shl rfl rfl rfl q1 ?_)
 refine wL (OpA.m ?_)
 refine wL (OpA.shr rfl rfl rfl q2 ?_)
 refine wL (OpA.bor rfl rfl rfl ?_)
 refine wL (OpA.conv rfl td250 td3 rfl ?_)
 refine wL (OpA.call rfl rfl rfl en217 (gadd_c (IntKind.i64.wrap (gand .u64 ((mul64F (IntKind.u64.wrap a) (IntKind.u64.wrap b)).2) 2305843009213693951)) (IntKind.i64.wrap (gor .u64 (gshl .u64 ((mul64F (IntKind.u64.wrap a) (IntKind.u64.wrap b)).1) 3) (gshr .u64 ((mul64F (IntKind.u64.wrap a) (IntKind.u64.wrap b)).2) 61))) q3 q4 q5 q6) ?_)
 rintro _ rfl
 refine wL (OpA.a ?_)
 refine zab (zal ?_)
 exact ⟨_, (.tmp (d := D.i (addP (IntKind.i64.wrap (gand .u64 ((mul64F (IntKind.u64.wrap a) (IntKind.u64.wrap b)).2) 2305843009213693951)) (IntKind.i64.wrap (gor .u64 (gshl .u64 ((mul64F (IntKind.u64.wrap a) (IntKind.u64.wrap b)).1) 3) (gshr .u64 ((mul64F (IntKind.u64.wrap a) (IntKind.u64.wrap b)).2) 61))))) rfl .nil), _, (.same rfl .nil), ⟨(addP (IntKind.i64.wrap (gand .u64 ((mul64F (IntKind.u64.wrap a) (IntKind.u64.wrap b)).2) 2305843009213693951)) (IntKind.i64.wrap (gor .u64 (gshl .u64 ((mul64F (IntKind.u64.wrap a) (IntKind.u64.wrap b)).1) 3) (gshr .u64 ((mul64F (IntKind.u64.wrap a) (IntKind.u64.wrap b)).2) 61)))), rfl, h⟩⟩
theorem gmul_c (a : Int) (b : Int) (hp0 : (0 : Int) ≤ a) (hp1 : a < PR) (hp2 : (0 : Int) ≤ b) (hp3 : b < PR) : Fun false Tryz.prog 216 [D.i a, D.i b] (fun d => d = D.i (mulP a b)) :=
 Fun.at (enc := fun r => D.i r) (v := mulP a b) (gmul_w a b  (fun r => r = mulP a b) (gmul_ok a b _ hp0 hp1 hp2 hp3 rfl))
theorem gcode_w (word : ByteArray) (Q : Int → Prop) (h : gcode_vc word Q) : Fun false Tryz.prog 218 [D.s word] (fun d => ∃ r, d = D.i r ∧ Q r) := by
 unfold gcode_vc at h
 refine Fun.of_body Tryz.func218 rfl Tryz.ntmps218 rfl ?_
 refine zac (zaa (wL (OpA.a (zab (zac (zaa (wL (OpA.a (zab ?_)))))))))
 iterate 2 refine zac ?_
 refine zaa (wL (OpA.m ?_))
 refine wL (OpA.slen rfl rfl rfl rfl td9 rfl ?_)
 refine wL (OpA.m ?_)
 refine zab (zag ?_)
 refine wpA_lfp (S := Int × Int) (G := Unit) () (fun gg ss => asg [(0, D.s word), (2, D.i 0), (3, D.i ss.1), (6, D.i (word.size : Int)), (7, D.i ss.2)]) (fun gg ss => []) h cvZ (.refl _) ?_
 rintro again1 _ ⟨c, x⟩ h
 have h : gcode_L1 word Q again1 c x := h
 unfold gcode_L1 at h
 show wpA _ _ _ _ _ _
 refine zac (zaa ?_)
 refine wL (OpA.lss rfl rfl rfl ?_)
 refine zab (zac ?_)
 refine zae rfl (fun b2 => ?_) (fun b2 => ?_)
 have h := h.1 (decT b2)
 refine zai (zac (zag (zac (zaa (wL (OpA.m (wL (OpA.a (zab ?_)))))))))
 obtain ⟨q1, q2, q3, q4, q5, q6, q7, q8, q9, q10, h⟩ := h
 refine wpA_draw (m := 9) mo zK rfl ?_
 refine dL (OpA.m ⟨rfl, rfl⟩) ?_
 refine dL (OpA.call rfl rfl rfl en216 (gmul_c 257 c q1 q2 q3 q4) (by rintro _ rfl; exact ⟨rfl, rfl⟩)) ?_
 iterate 2 refine dL (OpA.m ⟨rfl, rfl⟩) ?_
 refine dL (OpA.sixV rfl td9 rfl rfl q5 ⟨rfl, rfl⟩) ?_
 refine dL (OpA.conv rfl td5 td3 rfl ⟨rfl, rfl⟩) ?_
 refine dL (OpA.addi rfl rfl rfl q6 ⟨rfl, rfl⟩) ?_
 refine dL (OpA.call rfl rfl rfl en217 (gadd_c (mulP 257 c) ((IntKind.i64.wrap (sgi word x)) + 1) q7 q8 q9 q10) (by rintro _ rfl; exact ⟨rfl, rfl⟩)) ?_
 refine dL (OpA.a ⟨rfl, rfl⟩) ?_
 refine DetK.nil ?_
 refine zab ?_
 obtain ⟨q1, h⟩ := h
 refine zaa ?_
 refine wL (OpA.addi rfl rfl rfl q1 ?_)
 refine wL (OpA.m ?_)
 refine zab ?_
 exact ⟨(), ((addP (mulP 257 c) ((IntKind.i64.wrap (sgi word x)) + 1)), (x + 1)), h, cvZ, (.refl _)⟩
 have h := h.2 (decF b2)
 refine wpA_exit ?_
 refine zac (zaa (wL (OpA.m (wL (OpA.a (zab (zal ?_)))))))
 exact ⟨_, (.tmp (d := D.i c) rfl .nil), _, (.same rfl .nil), ⟨c, rfl, h⟩⟩
theorem gcode_c (word : ByteArray) (hp0 : word.size ≤ 1000000) : Fun false Tryz.prog 218 [D.s word] (fun d => d = D.i (codeF word)) :=
 Fun.at (enc := fun r => D.i r) (v := codeF word) (gcode_w word  (fun r => r = codeF word) (gcode_ok word _ hp0 rfl))
theorem gpower_w (n : Int) (Q : Int → Prop) (h : gpower_vc n Q) : Fun false Tryz.prog 180 [D.i n] (fun d => ∃ r, d = D.i r ∧ Q r) := by
 unfold gpower_vc at h
 refine Fun.of_body Tryz.func180 rfl Tryz.ntmps180 rfl ?_
 refine zac (zaa (wL (OpA.a (zab (zac (zaa ?_))))))
 iterate 2 refine wL (OpA.a ?_)
 refine zab (zac (zag ?_))
 refine wpA_lfp (S := Int × Int × Int) (G := Unit) () (fun gg ss => asg [(0, D.i ss.1), (2, D.i 0), (3, D.i ss.2.1), (4, D.i ss.2.2)]) (fun gg ss => []) h cvZ (.refl _) ?_
 rintro again1 _ ⟨n1, out, square⟩ h
 have h : gpower_L1 Q again1 n1 out square := h
 unfold gpower_L1 at h
 show wpA _ _ _ _ _ _
 iterate 2 refine zac ?_
 refine zaa (wL (OpA.m ?_))
 refine wL (OpA.gtr rfl rfl rfl ?_)
 refine zab ?_
 refine zae rfl (fun b2 => ?_) (fun b2 => ?_)
 have h := h.1 (decT b2)
 refine zai (zac (zag ?_))
 iterate 2 refine zac ?_
 obtain ⟨q1, h⟩ := h
 refine zaa (wL (OpA.m ?_))
 refine wL (OpA.remN rfl rfl rfl q1 ?_)
 refine wL (OpA.eql rfl rfl rfl ?_)
 refine zab ?_
 refine zae rfl (fun b3 => ?_) (fun b3 => ?_)
 have h := h.1 (beqT b3)
 obtain ⟨q1, q2, q3, q4, h⟩ := h
 refine zaa ?_
 iterate 2 refine wL (OpA.m ?_)
 refine wL (OpA.call rfl rfl rfl en216 (gmul_c out square q1 q2 q3 q4) ?_)
 rintro _ rfl
 refine wL (OpA.a ?_)
 refine zab ?_
 obtain ⟨q1, q2, h⟩ := h
 refine zaa ?_
 iterate 2 refine wL (OpA.m ?_)
 refine wL (OpA.call rfl rfl rfl en216 (gmul_c square square q1 q2 q1 q2) ?_)
 rintro _ rfl
 refine wL (OpA.a ?_)
 refine zab ?_
 obtain ⟨q1, h⟩ := h
 refine zaa (wL (OpA.m ?_))
 refine wL (OpA.quoN rfl rfl rfl q1 ?_)
 refine wL (OpA.a ?_)
 refine zab ?_
 exact ⟨(), ((n1 / 2), (mulP out square), (mulP square square)), h, cvZ, (.refl _)⟩
 have h := h.2 (beqF b3)
 refine zai ?_
 obtain ⟨q1, q2, h⟩ := h
 refine zaa ?_
 iterate 2 refine wL (OpA.m ?_)
 refine wL (OpA.call rfl rfl rfl en216 (gmul_c square square q1 q2 q1 q2) ?_)
 rintro _ rfl
 refine wL (OpA.a ?_)
 refine zab ?_
 obtain ⟨q1, h⟩ := h
 refine zaa (wL (OpA.m ?_))
 refine wL (OpA.quoN rfl rfl rfl q1 ?_)
 refine wL (OpA.a ?_)
 refine zab ?_
 exact ⟨(), ((n1 / 2), out, (mulP square square)), h, cvZ, (.refl _)⟩
 have h := h.2 (decF b2)
 refine wpA_exit ?_
 refine zac (zaa (wL (OpA.m (wL (OpA.a (zab (zal ?_)))))))
 exact ⟨_, (.tmp (d := D.i out) rfl .nil), _, (.same rfl .nil), ⟨out, rfl, h⟩⟩
theorem gpower_c (n : Int) (hp0 : (0 : Int) ≤ n) (hp1 : n ≤ (8192 : Int)) : Fun false Tryz.prog 180 [D.i n] (fun d => d = D.i (powF n)) :=
 Fun.at (enc := fun r => D.i r) (v := powF n) (gpower_w n  (fun r => r = powF n) (gpower_ok n _ hp0 hp1 rfl))
theorem gpush_w (hash : Int) (word : ByteArray) (Q : Int → Prop) (h : gpush_vc hash word Q) : Fun false Tryz.prog 215 [D.i hash, D.s word] (fun d => ∃ r, d = D.i r ∧ Q r) := by
 unfold gpush_vc at h
 refine Fun.of_body Tryz.func215 rfl Tryz.ntmps215 rfl ?_
 refine zac (zaa (wL (OpA.a (zab (zac ?_)))))
 obtain ⟨q1, q2, q3, q4, q5, q6, q7, q8, q9, q10, q11, q12, q13, h⟩ := h
 refine zaa (wL (OpA.m ?_))
 refine wL (OpA.call rfl rfl rfl en216 (gmul_c 1000003 hash q1 q2 q3 q4) ?_)
 rintro _ rfl
 refine wL (OpA.m ?_)
 refine wL (OpA.call rfl rfl rfl en218 (gcode_c word q5) ?_)
 rintro _ rfl
 refine wL (OpA.call rfl rfl rfl en217 (gadd_c (codeF word) 1 q6 q7 q8 q9) ?_)
 rintro _ rfl
 refine wL (OpA.call rfl rfl rfl en217 (gadd_c (mulP 1000003 hash) (addP (codeF word) 1) q10 q11 q12 q13) ?_)
 rintro _ rfl
 refine wL (OpA.a ?_)
 refine zab (zal ?_)
 exact ⟨_, (.tmp (d := D.i (addP (mulP 1000003 hash) (addP (codeF word) 1))) rfl .nil), _, (.same rfl .nil), ⟨(addP (mulP 1000003 hash) (addP (codeF word) 1)), rfl, h⟩⟩
theorem gpush_c (hash : Int) (word : ByteArray) (hp0 : (0 : Int) ≤ hash) (hp1 : hash < PR) (hp2 : word.size ≤ 1000000) : Fun false Tryz.prog 215 [D.i hash, D.s word] (fun d => d = D.i (pushF hash word)) :=
 Fun.at (enc := fun r => D.i r) (v := pushF hash word) (gpush_w hash word  (fun r => r = pushF hash word) (gpush_ok hash word _ hp0 hp1 hp2 rfl))
theorem ghash_w (l : (List Lexeme)) (Q : Int → Prop) (h : ghash_vc l Q) : Fun false Tryz.prog 179 [(encL 2 encLex) l] (fun d => ∃ r, d = D.i r ∧ Q r) := by
 unfold ghash_vc at h
 refine Fun.of_body Tryz.func179 rfl Tryz.ntmps179 rfl ?_
 refine zac (zaa (wL (OpA.a (zab (zac (zaa (wL (OpA.a (zab ?_)))))))))
 iterate 2 refine zac ?_
 refine zaa (wL (OpA.m ?_))
 refine wL (OpA.len rfl rfl rfl rfl ts24.desc (.inl ⟨_, _, rfl, (List.length_map _).symm⟩) ?_)
 refine wL (OpA.m ?_)
 refine zab (zag ?_)
 refine wpA_lfp (S := Int × Int) (G := Unit) () (fun gg ss => asg [(2, D.i 0), (3, D.i ss.1), (6, (encL 2 encLex) l), (7, D.i (l.length : Int)), (8, D.i ss.2)]) (fun gg ss => []) h cvZ (.refl _) ?_
 rintro again1 _ ⟨h_, x⟩ h
 have h : ghash_L1 l Q again1 h_ x := h
 unfold ghash_L1 at h
 show wpA _ _ _ _ _ _
 refine zac (zaa ?_)
 refine wL (OpA.lss rfl rfl rfl ?_)
 refine zab (zac ?_)
 refine zae rfl (fun b2 => ?_) (fun b2 => ?_)
 have h := h.1 (decT b2)
 refine zai (zac (zag (zac ?_)))
 obtain ⟨q1, h⟩ := h
 refine zaa ?_
 refine wL (OpA.iixV (enc := encLex) rfl ts24 rfl rfl rfl q1 ?_)
 refine wL (OpA.iload_whole rfl ti30 rfl ⟨_, rfl, rfl⟩ ?_)
 refine wL (OpA.alloc (sz := 2) (d := encLex (Lexeme.mk ByteArray.empty 0)) rfl tz30 (fun _ _ => .agg (.cons (.v _) (.cons (.v _) .nil))) (.of rfl) (fun c3 _ => ?_))
 refine wE (OpA.storeW rfl ti30 rfl zW (.of rfl) rfl rfl .head ?_)
 refine zab ?_
 obtain ⟨q1, q2, q3, h⟩ := h
 refine zaa (wL (OpA.m ?_))
 refine wL (OpA.fieldAddr rfl tf30_0 rfl ?_)
 refine wL (OpA.load rfl ti9 rfl .head rfl rfl ?_)
 refine wL (OpA.call rfl rfl rfl en215 (gpush_c h_ ((gi l x).text) q1 q2 q3) ?_)
 rintro _ rfl
 refine wL (OpA.a ?_)
 refine zab ?_
 obtain ⟨q1, h⟩ := h
 refine zaa ?_
 refine wL (OpA.addi rfl rfl rfl q1 ?_)
 refine wL (OpA.m ?_)
 refine zab ?_
 exact ⟨(), ((pushF h_ ((gi l x).text)), (x + 1)), h, cvZ, (.cons _ (.refl _))⟩
 have h := h.2 (decF b2)
 refine wpA_exit ?_
 refine zac (zaa (wL (OpA.m (wL (OpA.a (zab (zal ?_)))))))
 exact ⟨_, (.tmp (d := D.i h_) rfl .nil), _, (.same rfl .nil), ⟨h_, rfl, h⟩⟩
theorem ghash_c (l : (List Lexeme)) (hp0 : okW l) : Fun false Tryz.prog 179 [(encL 2 encLex) l] (fun d => d = D.i (hashF l)) :=
 Fun.at (enc := fun r => D.i r) (v := hashF l) (ghash_w l  (fun r => r = hashF l) (ghash_ok l _ hp0 rfl))
theorem groll_w (hash : Int) (out : ByteArray) (in_ : ByteArray) (top : Int) (Q : Int → Prop) (h : groll_vc hash out in_ top Q) : Fun false Tryz.prog 181 [D.i hash, D.s out, D.s in_, D.i top] (fun d => ∃ r, d = D.i r ∧ Q r) := by
 unfold groll_vc at h
 refine Fun.of_body Tryz.func181 rfl Tryz.ntmps181 rfl ?_
 refine zac (zaa (wL (OpA.a (zab (zac ?_)))))
 obtain ⟨q1, q2, q3, q4, q5, q6, q7, q8, q9, h⟩ := h
 refine zaa (wL (OpA.m ?_))
 refine wL (OpA.call rfl rfl rfl en218 (gcode_c out q1) ?_)
 rintro _ rfl
 refine wL (OpA.call rfl rfl rfl en217 (gadd_c (codeF out) 1 q2 q3 q4 q5) ?_)
 rintro _ rfl
 refine wL (OpA.m ?_)
 refine wL (OpA.call rfl rfl rfl en216 (gmul_c (addP (codeF out) 1) top q6 q7 q8 q9) ?_)
 rintro _ rfl
 refine wL (OpA.a ?_)
 refine zab (zac ?_)
 obtain ⟨q1, q2, q3, q4, q5, q6, q7, q8, h⟩ := h
 refine zaa ?_
 iterate 2 refine wL (OpA.m ?_)
 refine wL (OpA.subi rfl rfl rfl q1 ?_)
 refine wL (OpA.call rfl rfl rfl en217 (gadd_c hash (2305843009213693951 - (mulP (addP (codeF out) 1) top)) q2 q3 q4 q5) ?_)
 rintro _ rfl
 refine wL (OpA.m ?_)
 refine wL (OpA.call rfl rfl rfl en215 (gpush_c (addP hash (2305843009213693951 - (mulP (addP (codeF out) 1) top))) in_ q6 q7 q8) ?_)
 rintro _ rfl
 refine wL (OpA.a ?_)
 refine zab (zal ?_)
 exact ⟨_, (.tmp (d := D.i (pushF (addP hash (2305843009213693951 - (mulP (addP (codeF out) 1) top))) in_)) rfl .nil), _, (.same rfl .nil), ⟨(pushF (addP hash (2305843009213693951 - (mulP (addP (codeF out) 1) top))) in_), rfl, h⟩⟩
theorem groll_c (hash : Int) (out : ByteArray) (in_ : ByteArray) (top : Int) (hp0 : (0 : Int) ≤ hash) (hp1 : hash < PR) (hp2 : out.size ≤ 1000000) (hp3 : in_.size ≤ 1000000) (hp4 : (0 : Int) ≤ top) (hp5 : top < PR) : Fun false Tryz.prog 181 [D.i hash, D.s out, D.s in_, D.i top] (fun d => d = D.i (rollF hash out in_ top)) :=
 Fun.at (enc := fun r => D.i r) (v := rollF hash out in_ top) (groll_w hash out in_ top  (fun r => r = rollF hash out in_ top) (groll_ok hash out in_ top _ hp0 hp1 hp2 hp3 hp4 hp5 rfl))
theorem ggrams_w (l : (List Lexeme)) (k : Int) (Q : (List Int) × Int → Prop) (h : ggrams_vc l k Q) : Fun false Tryz.prog 158 [(encL 2 encLex) l, D.i k] (fun d => ∃ r, d = .tup [(encL 1 D.i) (r.1), D.i (r.2)] ∧ Q r) := by
 unfold ggrams_vc at h
 refine Fun.of_body Tryz.func158 rfl Tryz.ntmps158 rfl ?_
 refine zac (zaa ?_)
 iterate 2 refine wL (OpA.a ?_)
 refine zab (zac (zag (zac ?_)))
 refine wpA_mid (asg [(0, (encL 2 encLex) l), (1, D.i k), (4, .v (.slice none 0 0)), (5, D.i 0), (10, D.b ((decide (k < 1)) || (decide (k > 8192))))]) [] ?_ ?_
 refine zaa (wL (OpA.m ?_))
 refine wL (OpA.lss rfl rfl rfl ?_)
 refine wL (OpA.m ?_)
 refine zam (s := 13) rfl (fun b10 => ?_) (fun b10 => ?_)
 iterate 2 refine wS ?_
 refine wL (OpA.p ?_)
 refine wL (OpA.a ?_)
 refine zab ?_
 exact ⟨(Cov.asg ⟨rfl, rfl, rfl, rfl, (congrArg D.b (Eq.symm (orS b10))), trivial⟩), (.refl _)⟩
 refine wG (OpA.m ?_)
 refine wG (OpA.gtr rfl rfl rfl ?_)
 refine wL (OpA.p ?_)
 refine wL (OpA.a ?_)
 refine zab ?_
 exact ⟨(Cov.asg ⟨rfl, rfl, rfl, rfl, (congrArg D.b (Eq.symm (orN b10 rfl))), trivial⟩), (.refl _)⟩
 show wpA _ _ _ _ _ _
 refine zae rfl (fun b1 => ?_) (fun b1 => ?_)
 have h := h.1 ((or0 b1).imp (fun hh => (decT hh)) (fun hh => (decT hh)))
 refine zac (zaa ?_)
 iterate 2 refine wL (OpA.a ?_)
 refine zab (zal ?_)
 exact ⟨_, (.tmp (d := .v (.slice none 0 0)) rfl (.tmp (d := D.i 3) rfl .nil)), _, (.tup (.nilv (sz := 1) (.same rfl .nil)) .nil), ⟨([], 3), rfl, h⟩⟩
 have h := h.2 ⟨(decF (or1 b1)), (decF (or2 b1))⟩
 refine zac (zaa (wL (OpA.m ?_)))
 refine wL (OpA.len rfl rfl rfl rfl ts24.desc (.inl ⟨_, _, rfl, (List.length_map _).symm⟩) ?_)
 refine wL (OpA.gtr rfl rfl rfl ?_)
 refine wL (OpA.a ?_)
 refine zab ?_
 refine zae rfl (fun b2 => ?_) (fun b2 => ?_)
 have h := h.1 (decT b2)
 refine zac (zaa ?_)
 iterate 2 refine wL (OpA.a ?_)
 refine zab (zal ?_)
 exact ⟨_, (.tmp (d := .v (.slice none 0 0)) rfl (.tmp (d := D.i 10) rfl .nil)), _, (.tup (.nilv (sz := 1) (.same rfl .nil)) .nil), ⟨([], 10), rfl, h⟩⟩
 have h := h.2 (decF b2)
 refine zac (zaa (wL (OpA.m ?_)))
 refine wL (OpA.len rfl rfl rfl rfl ts24.desc (.inl ⟨_, _, rfl, (List.length_map _).symm⟩) ?_)
 refine wL (OpA.m ?_)
 refine wL (OpA.lss rfl rfl rfl ?_)
 refine wL (OpA.a ?_)
 refine zab ?_
 refine zae rfl (fun b3 => ?_) (fun b3 => ?_)
 have h := h.1 (decT b3)
 refine zac (zaa ?_)
 iterate 2 refine wL (OpA.a ?_)
 refine zab (zal ?_)
 exact ⟨_, (.tmp (d := .v (.slice none 0 0)) rfl (.tmp (d := D.i 0) rfl .nil)), _, (.tup (.nilv (sz := 1) (.same rfl .nil)) .nil), ⟨([], 0), rfl, h⟩⟩
 have h := h.2 (decF b3)
 refine zai (zac ?_)
 obtain ⟨q1, q2, h⟩ := h
 refine zaa ?_
 iterate 2 refine wL (OpA.m ?_)
 refine wL (OpA.isliceV (enc := encLex) rfl ts24 rfl (.none _) (.some rfl) q1 ?_)
 refine wL (OpA.call rfl rfl rfl en179 (ghash_c (lsub l 0 k) q2) ?_)
 rintro _ rfl
 refine wL (OpA.buildSliceV (enc := D.i) (xs := ([(hashF (lsub l 0 k))] : List Int)) rfl ts41 rfl (.cons (.of (sz := 1) rfl) .nil) (by decide) rfl (fun c4 => ?_))
 refine wL (OpA.a ?_)
 refine zab (zac ?_)
 obtain ⟨q1, q2, q3, h⟩ := h
 refine zaa (wL (OpA.m ?_))
 refine wL (OpA.subi rfl rfl rfl q1 ?_)
 refine wL (OpA.call rfl rfl rfl en180 (gpower_c (k - 1) q2 q3) ?_)
 rintro _ rfl
 refine wL (OpA.a ?_)
 refine zab ?_
 iterate 2 refine zac ?_
 obtain ⟨q1, h⟩ := h
 refine zaa ?_
 iterate 2 refine wL (OpA.m ?_)
 refine wL (OpA.isliceV (enc := encLex) rfl ts24 rfl (.some rfl) (.none _) q1 ?_)
 refine wL (OpA.len rfl rfl rfl rfl ts24.desc (.inl ⟨_, _, rfl, (List.length_map _).symm⟩) ?_)
 refine wL (OpA.m ?_)
 refine zab (zag ?_)
 refine wpA_lfp (S := (List Int) × Int) (G := Nat × List D × List D) (c4, ([] : List D), ([] : List D)) (fun gg ss => asg [(0, (encL 2 encLex) l), (4, .v (.slice none 0 0)), (5, D.i 0), (6, .own gg.1 1 gg.2.1.length ss.1.length), (7, D.i (powF (k - 1))), (36, (encL 2 encLex) (lsub l k (l.length : Int))), (37, D.i ((lsub l k (l.length : Int)).length : Int)), (38, D.i ss.2)]) (fun gg ss => [(gg.1, .cells 1 (winL D.i gg.2.1 ss.1 gg.2.2))]) h cvZ (.refl _) ?_
 rintro again5 ⟨cb30, pre30, post30⟩ ⟨out, x⟩ h
 have h : ggrams_L1 l k Q again5 out x := h
 unfold ggrams_L1 at h
 show wpA _ _ _ _ _ _
 refine zac (zaa ?_)
 refine wL (OpA.lss rfl rfl rfl ?_)
 refine zab (zac ?_)
 refine zae rfl (fun b6 => ?_) (fun b6 => ?_)
 have h := h.1 (decT b6)
 refine zai (zac (zag (zac ?_)))
 obtain ⟨q1, h⟩ := h
 refine zaa (wL (OpA.m ?_))
 refine wL (OpA.iixV (enc := encLex) rfl ts24 rfl rfl rfl q1 ?_)
 refine wL (OpA.iload_whole rfl ti30 rfl ⟨_, rfl, rfl⟩ ?_)
 refine wL (OpA.alloc (sz := 2) (d := encLex (Lexeme.mk ByteArray.empty 0)) rfl tz30 (fun _ _ => .agg (.cons (.v _) (.cons (.v _) .nil))) (.of rfl) (fun c7 _ => ?_))
 refine wL (OpA.a ?_)
 refine wE (OpA.storeW rfl ti30 rfl zW (.of rfl) rfl rfl .head ?_)
 refine zab ?_
 obtain ⟨q1, q2, q3, q4, q5, q6, q7, q8, q9, h⟩ := h
 refine wpA_draw (m := 15) mo zK rfl ?_
 iterate 3 refine dL (OpA.m ⟨rfl, rfl⟩) ?_
 refine dL (OpA.ixV rfl ts41 rfl rfl q1 ⟨rfl, rfl⟩) ?_
 refine dL (OpA.load rfl ti3 rfl (.tail .head) (getV (enc := D.i) q1) rfl ⟨rfl, rfl⟩) ?_
 iterate 2 refine dL (OpA.m ⟨rfl, rfl⟩) ?_
 refine dL (OpA.iixV (enc := encLex) rfl ts24 rfl rfl rfl q2 ⟨rfl, rfl⟩) ?_
 refine dL (OpA.ifieldAddr rfl tf30_0 rfl ⟨rfl, rfl⟩) ?_
 refine dL (OpA.iload rfl ti9 rfl rfl ⟨rfl, rfl⟩) ?_
 refine dL (OpA.fieldAddr rfl tf30_0 rfl ⟨rfl, rfl⟩) ?_
 refine dL (OpA.load rfl ti9 rfl .head rfl rfl ⟨rfl, rfl⟩) ?_
 refine dL (OpA.m ⟨rfl, rfl⟩) ?_
 refine dL (OpA.call rfl rfl rfl en181 (groll_c (gi out x) ((gi l x).text) ((gi (lsub l k (l.length : Int)) x).text) (powF (k - 1)) q3 q4 q5 q6 q7 q8) (by rintro _ rfl; exact ⟨rfl, rfl⟩)) ?_
 refine dL (OpA.ibuildSliceO rfl ts41 rfl (.cons (.of (sz := 1) rfl) .nil) (by decide) ⟨rfl, rfl⟩) ?_
 refine DetK.nil ?_
 refine wL (OpA.appendW (enc := D.i) rfl rfl rfl rfl ts41 rfl (fun _ _ => (.tail .head)) (.list (ys := ([(rollF (gi out x) ((gi l x).text) ((gi (lsub l k (l.length : Int)) x).text) (powF (k - 1)))] : List Int))) q9 (fun c8 pre9 => ?_))
 refine wL (OpA.a ?_)
 refine zab ?_
 obtain ⟨q1, h⟩ := h
 refine zaa ?_
 refine wL (OpA.addi rfl rfl rfl q1 ?_)
 refine wL (OpA.m ?_)
 refine zab ?_
 exact ⟨(c8, pre9, ([] : List D)), ((out ++ ([(rollF (gi out x) ((gi l x).text) ((gi (lsub l k (l.length : Int)) x).text) (powF (k - 1)))] : List Int)), (x + 1)), h, cvZ, (.cons _ (.refl _))⟩
 have h := h.2 (decF b6)
 refine wpA_exit ?_
 refine zac (zaa (wL (OpA.m ?_)))
 iterate 2 refine wL (OpA.a ?_)
 refine zab (zal ?_)
 exact ⟨_, (.tmp (d := .own cb30 1 pre30.length out.length) rfl (.tmp (d := D.i 0) rfl .nil)), _, (.tup (.win .head (by intro hf; cases hf) (.same rfl .nil)) .nil), ⟨(out, 0), rfl, h⟩⟩
theorem ggrams_c (l : (List Lexeme)) (k : Int) (hp0 : okW l) : Fun false Tryz.prog 158 [(encL 2 encLex) l, D.i k] (fun d => d = .tup [(encL 1 D.i) ((gramsF l k).1), D.i ((gramsF l k).2)]) :=
 Fun.at (enc := fun r => .tup [(encL 1 D.i) (r.1), D.i (r.2)]) (v := gramsF l k) (ggrams_w l k  (fun r => r = gramsF l k) (ggrams_ok l k _ hp0 rfl))
end Go.Proofs.YtkifpidbpoghlaaGreatDoor
