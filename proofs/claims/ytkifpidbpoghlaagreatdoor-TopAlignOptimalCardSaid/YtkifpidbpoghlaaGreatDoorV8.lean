/-
  walks and contracts
-/
import Derived.Test.YtkifpidbpoghlaaGreatDoorV7
set_option linter.all false
namespace Go.Proofs.YtkifpidbpoghlaaGreatDoor
open Go Go.Lic Go.Sort Go.Proofs
attribute [local irreducible] addP badR blankF cloneCmp clonesF cmpI codeF countF fewTs fewW findC gramsF guarF hashF indexF itoaF lenF lookF mul64F mulP orF partF pathF powF printsF pushF rightL rollF selectF sizeF splitF splitG validT
abbrev zah (prints : (List (List Print))) (x : Int) (texts : (List Text)) (k : Int) (w : Int) := (gi (si prints x ((printsF (gi texts x) k w).1)) x)
abbrev kclones_e1 (prints : (List (List Print))) (x : Int) (texts : (List Text)) (k : Int) (w : Int) (x1 : Int) := ((gi (zah prints x texts k w) x1).hash)
abbrev kclones_e2 (x : Int) (prints : (List (List Print))) (texts : (List Text)) (k : Int) (w : Int) (x1 : Int) := (ClonePlace.mk x ((gi (zah prints x texts k w) x1).at_))
set_option maxHeartbeats 2000000 in
set_option maxRecDepth 10000 in
theorem kclones_w (texts : (List Text)) (k : Int) (w : Int) (only_ : Int) (Q : (List Clone) × Int → Prop) (h : kclones_vc texts k w only_ Q) : Fun false Tryz.prog 72 [(encL 2 zak) texts, D.i k, D.i w, D.i only_] (fun d => ∃ r, d = .tup [(encL 5 encClone) (r.1), D.i (r.2)] ∧ Q r) := by
 unfold kclones_vc at h
 refine Fun.of_body Tryz.func72 rfl Tryz.ntmps72 rfl ?_
 refine zac (zaa ?_)
 iterate 2 refine wL (OpA.a ?_)
 refine zab (zac ?_)
 obtain ⟨q1, q2, h⟩ := h
 refine zaa ?_
 iterate 3 refine wL (OpA.m ?_)
 refine wL (OpA.addi rfl rfl rfl q1 ?_)
 refine wL (OpA.subi rfl rfl rfl q2 ?_)
 refine wL (OpA.makeMapK (U := CloneDiagonal) (T := Int) kf241 vI rfl (fun c1 => ?_))
 refine wL (OpA.makeMapK (U := Clone) (T := Unit) kf84 vU rfl (fun c2 => ?_))
 refine wL (OpA.buildO (zs := [.v (.slice none 0 0), .v (.int .i64 0), .v (.map none), .v (.map none)]) rfl tp198 tz198 (fun _ _ => (.cons (.v _) (.cons (.v _) (.cons (.v _) (.cons (.v _) .nil))))) (.cons (.of (sz := 1) rfl) (.cons (.of (sz := 1) rfl) (.cons (.of (sz := 1) rfl) (.cons (.of (sz := 1) rfl) .nil)))) rfl ?_)
 refine wL (OpA.bx (sz := 4) rfl zW (.of rfl) (fun c3 _ => ?_))
 refine wL (OpA.a ?_)
 refine zab (zac (zaa ?_))
 refine wL (OpA.makeSm (hm := fun c4 => ((c4, .map (smD 2 (fun _ => (0, [], [])) ([] : List (Int × List ClonePlace)))) :: (c3, .cells 4 [.agg ([(encL 2 zak) texts, D.i ((k + w) - 1), .map c1, .map c2])]) :: (c2, .raw (mapK kf84 vU ([] : List (Clone × Unit)))) :: (c1, .raw (mapK kf241 vI ([] : List (CloneDiagonal × Int)))) :: smB 2 zad (fun _ => (0, [], [])) ([] : List (Int × List ClonePlace)))) ClonePlace zad 2 rfl (fun c4 => (.cons (.cons (.cons (.cons .here))))) (fun c4 => ?_))
 refine wL (OpA.a ?_)
 refine zab (zac ?_)
 obtain ⟨q1, h⟩ := h
 refine zaa (wL (OpA.m ?_))
 refine wL (OpA.len rfl rfl rfl rfl ts61.desc (.inl ⟨_, _, rfl, (List.length_map _).symm⟩) ?_)
 refine wL (OpA.makeSliceV (enc := (encL 2 zaj)) (v0 := ([] : (List Print))) rfl ts200 rfl rfl tz201 (fun _ _ => .nilL) (.of rfl) q1 (fun c5 => ?_))
 refine wL (OpA.a ?_)
 refine zab ?_
 iterate 2 refine zac ?_
 refine zaa (wL (OpA.m ?_))
 refine wL (OpA.len rfl rfl rfl rfl ts61.desc (.inl ⟨_, _, rfl, (List.length_map _).symm⟩) ?_)
 refine wL (OpA.m ?_)
 refine zab (zag ?_)
 refine wpA_lfp (S := (List (List Print)) × (List (Int × List ClonePlace)) × Int) (G := Nat × List D × List D × (Int → GS)) (c5, ([] : List D), ([] : List D), (fun _ => (0, [], []))) (fun gg ss => asg [(1, D.i k), (2, D.i w), (3, D.i only_), (8, .v (.slice none 0 0)), (9, D.i 0), (10, .ptr c3 4 0 0), (11, .map c4), (12, .own gg.1 1 gg.2.1.length ss.1.length), (39, (encL 2 zak) texts), (40, D.i (texts.length : Int)), (41, D.i ss.2.2)]) (fun gg ss => ((gg.1, .cells 1 (winL (encL 2 zaj) gg.2.1 ss.1 gg.2.2.1)) :: (c4, .map (smD 2 gg.2.2.2 ss.2.1)) :: (c3, .cells 4 [.agg ([(encL 2 zak) texts, D.i ((k + w) - 1), .map c1, .map c2])]) :: (c2, .raw (mapK kf84 vU ([] : List (Clone × Unit)))) :: (c1, .raw (mapK kf241 vI ([] : List (CloneDiagonal × Int)))) :: smB 2 zad gg.2.2.2 ss.2.1)) h cvZ (.refl _) ?_
 rintro again6 ⟨cb38, pre38, post38, gm_35⟩ ⟨prints, m_35, x⟩ h
 have h : kclones_L1 texts k w only_ Q again6 prints m_35 x := h
 unfold kclones_L1 at h
 show wpA _ _ _ _ _ _
 refine zac (zaa ?_)
 refine wL (OpA.lss rfl rfl rfl ?_)
 refine zab (zac ?_)
 refine zae rfl (fun b7 => ?_) (fun b7 => ?_)
 have h := h.1 (decT b7)
 refine zai (zac (zag (zac ?_)))
 obtain ⟨q1, h⟩ := h
 refine zaa (wL (OpA.m ?_))
 refine wL (OpA.iixV (enc := zak) rfl ts61 rfl rfl rfl q1 ?_)
 refine wL (OpA.iload_whole rfl ti57 rfl ⟨_, rfl, rfl⟩ ?_)
 refine wL (OpA.alloc (sz := 2) (d := .agg ([D.s ByteArray.empty, .v (.slice none 0 0)])) rfl tz57 (fun _ _ => .agg (.cons (.v _) (.cons (.v _) .nil))) (.of rfl) (fun c8 _ => ?_))
 refine wL (OpA.a ?_)
 refine wE (OpA.storeW rfl ti57 rfl zW (.of rfl) rfl rfl .head ?_)
 refine zab (zac ?_)
 obtain ⟨q1, q2, h⟩ := h
 refine zaa ?_
 iterate 2 refine wL (OpA.m ?_)
 refine wL (OpA.load_whole rfl ti57 rfl rfl .head rfl ⟨_, rfl⟩ ?_)
 iterate 2 refine wL (OpA.m ?_)
 refine wL (OpA.call rfl rfl rfl en117 (wprints_c (gi texts x) k w q1) ?_)
 rintro _ rfl
 refine wL (OpA.m ?_)
 iterate 2 refine wL (OpA.extract rfl rfl rfl ?_)
 refine wL (OpA.ixV rfl ts200 rfl rfl q2 ?_)
 refine wE (OpA.storeV (enc := (encL 2 zaj)) (v := (printsF (gi texts x) k w).1) rfl ti201 rfl rfl (.of rfl) rfl q2 (.tail .head) ?_)
 refine zab (zac ?_)
 refine wpA_cov (fr0 := asg [(1, D.i k), (2, D.i w), (3, D.i only_), (8, .v (.slice none 0 0)), (9, D.i 0), (10, .ptr c3 4 0 0), (11, .map c4), (12, .own cb38 1 pre38.length (si prints x ((printsF (gi texts x) k w).1)).length), (13, D.i x), (14, .ptr c8 2 0 0), (39, (encL 2 zak) texts), (40, D.i (texts.length : Int)), (41, D.i x), (42, D.b (decide (x < (texts.length : Int)))), (43, D.i x), (44, .iptr (zak (gi texts x)) 0), (45, zak (gi texts x)), (46, .tup [(encL 2 zaj) ((printsF (gi texts x) k w).1), D.i ((printsF (gi texts x) k w).2)]), (47, .own cb38 1 pre38.length (si prints x ((printsF (gi texts x) k w).1)).length), (48, D.i x), (49, zak (gi texts x)), (50, D.i k), (51, D.i w), (52, .tup [(encL 2 zaj) ((printsF (gi texts x) k w).1), D.i ((printsF (gi texts x) k w).2)]), (53, (encL 2 zaj) ((printsF (gi texts x) k w).1)), (54, D.i ((printsF (gi texts x) k w).2)), (55, .ptr cb38 1 (pre38.length + (Int.toNat x)) 0)]) (Cov.asg ⟨rfl, rfl, rfl, rfl, rfl, rfl, rfl, (congrArg (D.own cb38 1 pre38.length) (by simp only [si_length, sortF_len cloneCmp_swo] <;> rfl)), rfl, rfl, rfl, rfl, rfl, rfl, rfl, rfl, rfl, rfl, (congrArg (D.own cb38 1 pre38.length) (by simp only [si_length, sortF_len cloneCmp_swo] <;> rfl)), rfl, rfl, rfl, rfl, rfl, rfl, rfl, rfl, trivial⟩) ?_
 obtain ⟨q1, h⟩ := h
 refine zaa ?_
 iterate 2 refine wL (OpA.m ?_)
 refine wL (OpA.ixV rfl ts200 rfl rfl q1 ?_)
 refine wL (OpA.load rfl ti201 rfl (.tail .head) (getV (enc := (encL 2 zaj)) q1) rfl ?_)
 refine wL (OpA.len rfl rfl rfl rfl ts201.desc (.inl ⟨_, _, rfl, (List.length_map _).symm⟩) ?_)
 refine wL (OpA.m ?_)
 refine zab (zag ?_)
 refine wpA_lfp (S := (List (Int × List ClonePlace)) × Int) (G := (Int → GS)) gm_35 (fun gg ss => asg [(1, D.i k), (2, D.i w), (3, D.i only_), (8, .v (.slice none 0 0)), (9, D.i 0), (10, .ptr c3 4 0 0), (11, .map c4), (12, .own cb38 1 pre38.length (si prints x ((printsF (gi texts x) k w).1)).length), (13, D.i x), (39, (encL 2 zak) texts), (40, D.i (texts.length : Int)), (41, D.i x), (59, (encL 2 zaj) (zah prints x texts k w)), (60, D.i ((zah prints x texts k w).length : Int)), (61, D.i ss.2)]) (fun gg ss => ((c8, .cells 2 [zak (gi texts x)]) :: (cb38, .cells 1 (winL (encL 2 zaj) pre38 (si prints x ((printsF (gi texts x) k w).1)) post38)) :: (c4, .map (smD 2 gg ss.1)) :: (c3, .cells 4 [.agg ([(encL 2 zak) texts, D.i ((k + w) - 1), .map c1, .map c2])]) :: (c2, .raw (mapK kf84 vU ([] : List (Clone × Unit)))) :: (c1, .raw (mapK kf241 vI ([] : List (CloneDiagonal × Int)))) :: smB 2 zad gg ss.1)) h cvZ (.refl _) ?_
 rintro again9 gm_351 ⟨m_351, x1⟩ h
 have h : kclones_L2 texts k w prints x again6 again9 m_351 x1 := h
 unfold kclones_L2 at h
 show wpA _ _ _ _ _ _
 refine zac (zaa ?_)
 refine wL (OpA.lss rfl rfl rfl ?_)
 refine zab (zac ?_)
 refine zae rfl (fun b10 => ?_) (fun b10 => ?_)
 have h := h.1 (decT b10)
 refine zai (zac (zag (zac ?_)))
 obtain ⟨q1, h⟩ := h
 refine zaa ?_
 refine wL (OpA.iixV (enc := zaj) rfl ts201 rfl rfl rfl q1 ?_)
 refine wL (OpA.iload_whole rfl ti205 rfl ⟨_, rfl, rfl⟩ ?_)
 refine wL (OpA.alloc (sz := 2) (d := zaj (Print.mk 0 0)) rfl tz205 (fun _ _ => .agg (.cons (.v _) (.cons (.v _) .nil))) (.of rfl) (fun c11 _ => ?_))
 refine wE (OpA.storeW rfl ti205 rfl zW (.of rfl) rfl rfl .head ?_)
 refine zab ?_
 obtain ⟨q12_0, q13_0, h⟩ := h
 refine wpA_states mo (fun W hW => ?_)
 refine flip_goal (a := ∀ (c82 : Nat) (pre83 : List D) (post84 : List D) (c142 : Nat) (pre143 : List D), W 0 (lv 14 16383) (asg [(1, D.i k), (2, D.i w), (3, D.i only_), (8, .v (.slice none 0 0)), (9, D.i 0), (10, .ptr c3 4 0 0), (11, .map c4), (12, .own cb38 1 pre38.length (si prints x ((printsF (gi texts x) k w).1)).length), (13, D.i x), (39, (encL 2 zak) texts), (40, D.i (texts.length : Int)), (41, D.i x), (59, (encL 2 zaj) (zah prints x texts k w)), (60, D.i ((zah prints x texts k w).length : Int)), (61, D.i x1)]) ((c11, .cells 2 [zaj (gi (zah prints x texts k w) x1)]) :: (c8, .cells 2 [zak (gi texts x)]) :: (cb38, .cells 1 (winL (encL 2 zaj) pre38 (si prints x ((printsF (gi texts x) k w).1)) post38)) :: (c4, .map (smD 2 (gup gm_351 (kclones_e1 prints x texts k w x1) (c142, pre143, ([] : List D))) (mset m_351 (kclones_e1 prints x texts k w x1) ((mget [] m_351 (kclones_e1 prints x texts k w x1)) ++ ([(kclones_e2 x prints texts k w x1)] : List ClonePlace))))) :: (c3, .cells 4 [.agg ([(encL 2 zak) texts, D.i ((k + w) - 1), .map c1, .map c2])]) :: (c2, .raw (mapK kf84 vU ([] : List (Clone × Unit)))) :: (c1, .raw (mapK kf241 vI ([] : List (CloneDiagonal × Int)))) :: smB 2 zad (gup gm_351 (kclones_e1 prints x texts k w x1) (c142, pre143, ([] : List D))) (mset m_351 (kclones_e1 prints x texts k w x1) ((mget [] m_351 (kclones_e1 prints x texts k w x1)) ++ ([(kclones_e2 x prints texts k w x1)] : List ClonePlace))))) (fun s0 => ?_) ?_
 have s1 : ∀ (c82 : Nat) (pre83 : List D) (post84 : List D) (c142 : Nat) (pre143 : List D), W 1 (lv 14 8191) (asg [(1, D.i k), (2, D.i w), (3, D.i only_), (8, .v (.slice none 0 0)), (9, D.i 0), (10, .ptr c3 4 0 0), (11, .map c4), (12, .own cb38 1 pre38.length (si prints x ((printsF (gi texts x) k w).1)).length), (13, D.i x), (39, (encL 2 zak) texts), (40, D.i (texts.length : Int)), (41, D.i x), (59, (encL 2 zaj) (zah prints x texts k w)), (60, D.i ((zah prints x texts k w).length : Int)), (61, D.i x1), (65, .map c4), (67, D.i (kclones_e1 prints x texts k w x1)), (77, .own c142 2 pre143.length ((mget [] m_351 (kclones_e1 prints x texts k w x1)) ++ ([(kclones_e2 x prints texts k w x1)] : List ClonePlace)).length)]) ((c142, .cells 2 (winL zad pre143 ((mget [] m_351 (kclones_e1 prints x texts k w x1)) ++ ([(kclones_e2 x prints texts k w x1)] : List ClonePlace)) ([] : List D))) :: (c11, .cells 2 [zaj (gi (zah prints x texts k w) x1)]) :: (c8, .cells 2 [zak (gi texts x)]) :: (cb38, .cells 1 (winL (encL 2 zaj) pre38 (si prints x ((printsF (gi texts x) k w).1)) post38)) :: (c4, .map (smD 2 gm_351 m_351)) :: (c3, .cells 4 [.agg ([(encL 2 zak) texts, D.i ((k + w) - 1), .map c1, .map c2])]) :: (c2, .raw (mapK kf84 vU ([] : List (Clone × Unit)))) :: (c1, .raw (mapK kf241 vI ([] : List (CloneDiagonal × Int)))) :: smB 2 zad gm_351 (mdel m_351 (kclones_e1 prints x texts k w x1))) := fun c82 pre83 post84 c142 pre143 => wpS_of hW (by refine wpS_step (rs := [13]) zK rfl ⟨?_, trivial⟩; refine wpS_eff (i := 13) (li' := (lv 14 16383)) rfl rfl rfl zK (OpA.smSet (sz := 2) (enc := zad) (γ := gm_351) (L := m_351) (pre := pre143) (post := ([] : List D)) (xs := ((mget [] m_351 (kclones_e1 prints x texts k w x1)) ++ ([(kclones_e2 x prints texts k w x1)] : List ClonePlace))) q13_0 rfl td199 td3 rfl rfl rfl (.refl _) (.tail (.tail (.tail .head))) (.cons (.cons (.cons (.cons (.cons (.cons (.cons .here))))))) ?_); exact wpS_to hW (s0 c82 pre83 post84 c142 pre143) cvZ (.refl _))
 have s2 : ∀ (c82 : Nat) (pre83 : List D) (post84 : List D), W 2 (lv 14 4095) (asg [(1, D.i k), (2, D.i w), (3, D.i only_), (8, .v (.slice none 0 0)), (9, D.i 0), (10, .ptr c3 4 0 0), (11, .map c4), (12, .own cb38 1 pre38.length (si prints x ((printsF (gi texts x) k w).1)).length), (13, D.i x), (39, (encL 2 zak) texts), (40, D.i (texts.length : Int)), (41, D.i x), (59, (encL 2 zaj) (zah prints x texts k w)), (60, D.i ((zah prints x texts k w).length : Int)), (61, D.i x1), (65, .map c4), (67, D.i (kclones_e1 prints x texts k w x1)), (71, .own c82 2 pre83.length (mget [] m_351 (kclones_e1 prints x texts k w x1)).length), (76, (encL 2 zad) ([(kclones_e2 x prints texts k w x1)] : List ClonePlace))]) ((c82, .cells 2 (winL zad pre83 (mget [] m_351 (kclones_e1 prints x texts k w x1)) post84)) :: (c11, .cells 2 [zaj (gi (zah prints x texts k w) x1)]) :: (c8, .cells 2 [zak (gi texts x)]) :: (cb38, .cells 1 (winL (encL 2 zaj) pre38 (si prints x ((printsF (gi texts x) k w).1)) post38)) :: (c4, .map (smD 2 gm_351 m_351)) :: (c3, .cells 4 [.agg ([(encL 2 zak) texts, D.i ((k + w) - 1), .map c1, .map c2])]) :: (c2, .raw (mapK kf84 vU ([] : List (Clone × Unit)))) :: (c1, .raw (mapK kf241 vI ([] : List (CloneDiagonal × Int)))) :: smB 2 zad gm_351 (mdel m_351 (kclones_e1 prints x texts k w x1))) := fun c82 pre83 post84 => wpS_of hW (by refine wpS_step (rs := [12]) zK rfl ⟨?_, trivial⟩; refine wpS_op (i := 12) (li' := (lv 14 8191)) rfl rfl rfl rfl zK (OpA.appendW (enc := zad) rfl rfl rfl rfl ts206 rfl (fun _ _ => .head) (.list (ys := ([(kclones_e2 x prints texts k w x1)] : List ClonePlace))) q12_0 (fun c142 pre143 => ?_)); exact wpS_to hW (s1 c82 pre83 post84 c142 pre143) cvZ (.refl _))
 have s3 : ∀ (c82 : Nat) (pre83 : List D) (post84 : List D) (c142 : Nat) (pre143 : List D), W 2 (lv 14 8187) (asg [(1, D.i k), (2, D.i w), (3, D.i only_), (8, .v (.slice none 0 0)), (9, D.i 0), (10, .ptr c3 4 0 0), (11, .map c4), (12, .own cb38 1 pre38.length (si prints x ((printsF (gi texts x) k w).1)).length), (13, D.i x), (39, (encL 2 zak) texts), (40, D.i (texts.length : Int)), (41, D.i x), (59, (encL 2 zaj) (zah prints x texts k w)), (60, D.i ((zah prints x texts k w).length : Int)), (61, D.i x1), (65, .map c4), (66, .ptr c11 2 0 0), (77, .own c142 2 pre143.length ((mget [] m_351 (kclones_e1 prints x texts k w x1)) ++ ([(kclones_e2 x prints texts k w x1)] : List ClonePlace)).length)]) ((c142, .cells 2 (winL zad pre143 ((mget [] m_351 (kclones_e1 prints x texts k w x1)) ++ ([(kclones_e2 x prints texts k w x1)] : List ClonePlace)) ([] : List D))) :: (c11, .cells 2 [zaj (gi (zah prints x texts k w) x1)]) :: (c8, .cells 2 [zak (gi texts x)]) :: (cb38, .cells 1 (winL (encL 2 zaj) pre38 (si prints x ((printsF (gi texts x) k w).1)) post38)) :: (c4, .map (smD 2 gm_351 m_351)) :: (c3, .cells 4 [.agg ([(encL 2 zak) texts, D.i ((k + w) - 1), .map c1, .map c2])]) :: (c2, .raw (mapK kf84 vU ([] : List (Clone × Unit)))) :: (c1, .raw (mapK kf241 vI ([] : List (CloneDiagonal × Int)))) :: smB 2 zad gm_351 (mdel m_351 (kclones_e1 prints x texts k w x1))) := fun c82 pre83 post84 c142 pre143 => wpS_of hW (by refine wpS_step (rs := [2]) zK rfl ⟨?_, trivial⟩; refine wpS_op (i := 2) (li' := (lv 14 8191)) rfl rfl rfl rfl zK (OpA.load rfl ti3 rfl (.tail .head) rfl rfl ?_); exact wpS_to hW (s1 c82 pre83 post84 c142 pre143) cvZ (.refl _))
 have s4 : ∀ (c82 : Nat) (pre83 : List D) (post84 : List D), W 3 (lv 14 2047) (asg [(1, D.i k), (2, D.i w), (3, D.i only_), (8, .v (.slice none 0 0)), (9, D.i 0), (10, .ptr c3 4 0 0), (11, .map c4), (12, .own cb38 1 pre38.length (si prints x ((printsF (gi texts x) k w).1)).length), (13, D.i x), (39, (encL 2 zak) texts), (40, D.i (texts.length : Int)), (41, D.i x), (59, (encL 2 zaj) (zah prints x texts k w)), (60, D.i ((zah prints x texts k w).length : Int)), (61, D.i x1), (65, .map c4), (67, D.i (kclones_e1 prints x texts k w x1)), (71, .own c82 2 pre83.length (mget [] m_351 (kclones_e1 prints x texts k w x1)).length), (75, zad (kclones_e2 x prints texts k w x1))]) ((c82, .cells 2 (winL zad pre83 (mget [] m_351 (kclones_e1 prints x texts k w x1)) post84)) :: (c11, .cells 2 [zaj (gi (zah prints x texts k w) x1)]) :: (c8, .cells 2 [zak (gi texts x)]) :: (cb38, .cells 1 (winL (encL 2 zaj) pre38 (si prints x ((printsF (gi texts x) k w).1)) post38)) :: (c4, .map (smD 2 gm_351 m_351)) :: (c3, .cells 4 [.agg ([(encL 2 zak) texts, D.i ((k + w) - 1), .map c1, .map c2])]) :: (c2, .raw (mapK kf84 vU ([] : List (Clone × Unit)))) :: (c1, .raw (mapK kf241 vI ([] : List (CloneDiagonal × Int)))) :: smB 2 zad gm_351 (mdel m_351 (kclones_e1 prints x texts k w x1))) := fun c82 pre83 post84 => wpS_of hW (by refine wpS_step (rs := [11]) zK rfl ⟨?_, trivial⟩; refine wpS_op (i := 11) (li' := (lv 14 4095)) rfl rfl rfl rfl zK (OpA.ibuildSliceO rfl ts206 rfl (.cons (.of (sz := 2) rfl) .nil) (by decide) ?_); exact wpS_to hW (s2 c82 pre83 post84) cvZ (.refl _))
 have s5 : W 3 (lv 14 4031) (asg [(1, D.i k), (2, D.i w), (3, D.i only_), (8, .v (.slice none 0 0)), (9, D.i 0), (10, .ptr c3 4 0 0), (11, .map c4), (12, .own cb38 1 pre38.length (si prints x ((printsF (gi texts x) k w).1)).length), (13, D.i x), (39, (encL 2 zak) texts), (40, D.i (texts.length : Int)), (41, D.i x), (59, (encL 2 zaj) (zah prints x texts k w)), (60, D.i ((zah prints x texts k w).length : Int)), (61, D.i x1), (65, .map c4), (67, D.i (kclones_e1 prints x texts k w x1)), (68, .map c4), (70, D.i (kclones_e1 prints x texts k w x1)), (76, (encL 2 zad) ([(kclones_e2 x prints texts k w x1)] : List ClonePlace))]) ((c11, .cells 2 [zaj (gi (zah prints x texts k w) x1)]) :: (c8, .cells 2 [zak (gi texts x)]) :: (cb38, .cells 1 (winL (encL 2 zaj) pre38 (si prints x ((printsF (gi texts x) k w).1)) post38)) :: (c4, .map (smD 2 gm_351 m_351)) :: (c3, .cells 4 [.agg ([(encL 2 zak) texts, D.i ((k + w) - 1), .map c1, .map c2])]) :: (c2, .raw (mapK kf84 vU ([] : List (Clone × Unit)))) :: (c1, .raw (mapK kf241 vI ([] : List (CloneDiagonal × Int)))) :: smB 2 zad gm_351 m_351) := wpS_of hW (by refine wpS_step (rs := [6]) zK rfl ⟨?_, trivial⟩; refine wpS_op (i := 6) (li' := (lv 14 4095)) rfl rfl rfl rfl zK (OpA.smGet (sz := 2) (enc := zad) (γ := gm_351) (L := m_351) rfl td199 td3 tz206 rfl rfl (.tail (.tail (.tail .head))) (.cons (.cons (.cons (.cons (.cons (.cons (.cons .here))))))) (fun c82 pre83 post84 => ?_)); exact wpS_to hW (s2 c82 pre83 post84) cvZ (.refl _))
 have s6 : ∀ (c82 : Nat) (pre83 : List D) (post84 : List D), W 3 (lv 14 4091) (asg [(1, D.i k), (2, D.i w), (3, D.i only_), (8, .v (.slice none 0 0)), (9, D.i 0), (10, .ptr c3 4 0 0), (11, .map c4), (12, .own cb38 1 pre38.length (si prints x ((printsF (gi texts x) k w).1)).length), (13, D.i x), (39, (encL 2 zak) texts), (40, D.i (texts.length : Int)), (41, D.i x), (59, (encL 2 zaj) (zah prints x texts k w)), (60, D.i ((zah prints x texts k w).length : Int)), (61, D.i x1), (65, .map c4), (66, .ptr c11 2 0 0), (71, .own c82 2 pre83.length (mget [] m_351 (kclones_e1 prints x texts k w x1)).length), (76, (encL 2 zad) ([(kclones_e2 x prints texts k w x1)] : List ClonePlace))]) ((c82, .cells 2 (winL zad pre83 (mget [] m_351 (kclones_e1 prints x texts k w x1)) post84)) :: (c11, .cells 2 [zaj (gi (zah prints x texts k w) x1)]) :: (c8, .cells 2 [zak (gi texts x)]) :: (cb38, .cells 1 (winL (encL 2 zaj) pre38 (si prints x ((printsF (gi texts x) k w).1)) post38)) :: (c4, .map (smD 2 gm_351 m_351)) :: (c3, .cells 4 [.agg ([(encL 2 zak) texts, D.i ((k + w) - 1), .map c1, .map c2])]) :: (c2, .raw (mapK kf84 vU ([] : List (Clone × Unit)))) :: (c1, .raw (mapK kf241 vI ([] : List (CloneDiagonal × Int)))) :: smB 2 zad gm_351 (mdel m_351 (kclones_e1 prints x texts k w x1))) := fun c82 pre83 post84 => wpS_of hW (by refine wpS_step (rs := [2, 12]) zK rfl ⟨?_, ?_, trivial⟩; refine wpS_op (i := 2) (li' := (lv 14 4095)) rfl rfl rfl rfl zK (OpA.load rfl ti3 rfl (.tail .head) rfl rfl ?_); exact wpS_to hW (s2 c82 pre83 post84) cvZ (.refl _); refine wpS_op (i := 12) (li' := (lv 14 8187)) rfl rfl rfl rfl zK (OpA.appendW (enc := zad) rfl rfl rfl rfl ts206 rfl (fun _ _ => .head) (.list (ys := ([(kclones_e2 x prints texts k w x1)] : List ClonePlace))) q12_0 (fun c142 pre143 => ?_)); exact wpS_to hW (s3 c82 pre83 post84 c142 pre143) cvZ (.refl _))
 have s7 : ∀ (c82 : Nat) (pre83 : List D) (post84 : List D), W 4 (lv 14 1023) (asg [(1, D.i k), (2, D.i w), (3, D.i only_), (8, .v (.slice none 0 0)), (9, D.i 0), (10, .ptr c3 4 0 0), (11, .map c4), (12, .own cb38 1 pre38.length (si prints x ((printsF (gi texts x) k w).1)).length), (13, D.i x), (39, (encL 2 zak) texts), (40, D.i (texts.length : Int)), (41, D.i x), (59, (encL 2 zaj) (zah prints x texts k w)), (60, D.i ((zah prints x texts k w).length : Int)), (61, D.i x1), (65, .map c4), (67, D.i (kclones_e1 prints x texts k w x1)), (71, .own c82 2 pre83.length (mget [] m_351 (kclones_e1 prints x texts k w x1)).length), (72, D.i x), (74, D.i ((gi (zah prints x texts k w) x1).at_))]) ((c82, .cells 2 (winL zad pre83 (mget [] m_351 (kclones_e1 prints x texts k w x1)) post84)) :: (c11, .cells 2 [zaj (gi (zah prints x texts k w) x1)]) :: (c8, .cells 2 [zak (gi texts x)]) :: (cb38, .cells 1 (winL (encL 2 zaj) pre38 (si prints x ((printsF (gi texts x) k w).1)) post38)) :: (c4, .map (smD 2 gm_351 m_351)) :: (c3, .cells 4 [.agg ([(encL 2 zak) texts, D.i ((k + w) - 1), .map c1, .map c2])]) :: (c2, .raw (mapK kf84 vU ([] : List (Clone × Unit)))) :: (c1, .raw (mapK kf241 vI ([] : List (CloneDiagonal × Int)))) :: smB 2 zad gm_351 (mdel m_351 (kclones_e1 prints x texts k w x1))) := fun c82 pre83 post84 => wpS_of hW (by refine wpS_step (rs := [10]) zK rfl ⟨?_, trivial⟩; refine wpS_op (i := 10) (li' := (lv 14 2047)) rfl rfl rfl rfl zK (OpA.buildO (zs := [.v (.int .i64 0), .v (.int .i64 0)]) rfl tp208 tz208 (fun _ _ => (.cons (.v _) (.cons (.v _) .nil))) (.cons (.of (sz := 1) rfl) (.cons (.of (sz := 1) rfl) .nil)) rfl ?_); exact wpS_to hW (s4 c82 pre83 post84) cvZ (.refl _))
 have s8 : W 4 (lv 14 1983) (asg [(1, D.i k), (2, D.i w), (3, D.i only_), (8, .v (.slice none 0 0)), (9, D.i 0), (10, .ptr c3 4 0 0), (11, .map c4), (12, .own cb38 1 pre38.length (si prints x ((printsF (gi texts x) k w).1)).length), (13, D.i x), (39, (encL 2 zak) texts), (40, D.i (texts.length : Int)), (41, D.i x), (59, (encL 2 zaj) (zah prints x texts k w)), (60, D.i ((zah prints x texts k w).length : Int)), (61, D.i x1), (65, .map c4), (67, D.i (kclones_e1 prints x texts k w x1)), (68, .map c4), (70, D.i (kclones_e1 prints x texts k w x1)), (75, zad (kclones_e2 x prints texts k w x1))]) ((c11, .cells 2 [zaj (gi (zah prints x texts k w) x1)]) :: (c8, .cells 2 [zak (gi texts x)]) :: (cb38, .cells 1 (winL (encL 2 zaj) pre38 (si prints x ((printsF (gi texts x) k w).1)) post38)) :: (c4, .map (smD 2 gm_351 m_351)) :: (c3, .cells 4 [.agg ([(encL 2 zak) texts, D.i ((k + w) - 1), .map c1, .map c2])]) :: (c2, .raw (mapK kf84 vU ([] : List (Clone × Unit)))) :: (c1, .raw (mapK kf241 vI ([] : List (CloneDiagonal × Int)))) :: smB 2 zad gm_351 m_351) := wpS_of hW (by refine wpS_step (rs := [6, 11]) zK rfl ⟨?_, ?_, trivial⟩; refine wpS_op (i := 6) (li' := (lv 14 2047)) rfl rfl rfl rfl zK (OpA.smGet (sz := 2) (enc := zad) (γ := gm_351) (L := m_351) rfl td199 td3 tz206 rfl rfl (.tail (.tail (.tail .head))) (.cons (.cons (.cons (.cons (.cons (.cons (.cons .here))))))) (fun c82 pre83 post84 => ?_)); exact wpS_to hW (s4 c82 pre83 post84) cvZ (.refl _); refine wpS_op (i := 11) (li' := (lv 14 4031)) rfl rfl rfl rfl zK (OpA.ibuildSliceO rfl ts206 rfl (.cons (.of (sz := 2) rfl) .nil) (by decide) ?_); exact wpS_to hW (s5) cvZ (.refl _))
 have s9 : W 4 (lv 14 3999) (asg [(1, D.i k), (2, D.i w), (3, D.i only_), (8, .v (.slice none 0 0)), (9, D.i 0), (10, .ptr c3 4 0 0), (11, .map c4), (12, .own cb38 1 pre38.length (si prints x ((printsF (gi texts x) k w).1)).length), (13, D.i x), (39, (encL 2 zak) texts), (40, D.i (texts.length : Int)), (41, D.i x), (59, (encL 2 zaj) (zah prints x texts k w)), (60, D.i ((zah prints x texts k w).length : Int)), (61, D.i x1), (65, .map c4), (67, D.i (kclones_e1 prints x texts k w x1)), (68, .map c4), (69, .ptr c11 2 0 0), (76, (encL 2 zad) ([(kclones_e2 x prints texts k w x1)] : List ClonePlace))]) ((c11, .cells 2 [zaj (gi (zah prints x texts k w) x1)]) :: (c8, .cells 2 [zak (gi texts x)]) :: (cb38, .cells 1 (winL (encL 2 zaj) pre38 (si prints x ((printsF (gi texts x) k w).1)) post38)) :: (c4, .map (smD 2 gm_351 m_351)) :: (c3, .cells 4 [.agg ([(encL 2 zak) texts, D.i ((k + w) - 1), .map c1, .map c2])]) :: (c2, .raw (mapK kf84 vU ([] : List (Clone × Unit)))) :: (c1, .raw (mapK kf241 vI ([] : List (CloneDiagonal × Int)))) :: smB 2 zad gm_351 m_351) := wpS_of hW (by refine wpS_step (rs := [5]) zK rfl ⟨?_, trivial⟩; refine wpS_op (i := 5) (li' := (lv 14 4031)) rfl rfl rfl rfl zK (OpA.load rfl ti3 rfl .head rfl rfl ?_); exact wpS_to hW (s5) cvZ (.refl _))
 have s10 : ∀ (c82 : Nat) (pre83 : List D) (post84 : List D), W 4 (lv 14 2043) (asg [(1, D.i k), (2, D.i w), (3, D.i only_), (8, .v (.slice none 0 0)), (9, D.i 0), (10, .ptr c3 4 0 0), (11, .map c4), (12, .own cb38 1 pre38.length (si prints x ((printsF (gi texts x) k w).1)).length), (13, D.i x), (39, (encL 2 zak) texts), (40, D.i (texts.length : Int)), (41, D.i x), (59, (encL 2 zaj) (zah prints x texts k w)), (60, D.i ((zah prints x texts k w).length : Int)), (61, D.i x1), (65, .map c4), (66, .ptr c11 2 0 0), (71, .own c82 2 pre83.length (mget [] m_351 (kclones_e1 prints x texts k w x1)).length), (75, zad (kclones_e2 x prints texts k w x1))]) ((c82, .cells 2 (winL zad pre83 (mget [] m_351 (kclones_e1 prints x texts k w x1)) post84)) :: (c11, .cells 2 [zaj (gi (zah prints x texts k w) x1)]) :: (c8, .cells 2 [zak (gi texts x)]) :: (cb38, .cells 1 (winL (encL 2 zaj) pre38 (si prints x ((printsF (gi texts x) k w).1)) post38)) :: (c4, .map (smD 2 gm_351 m_351)) :: (c3, .cells 4 [.agg ([(encL 2 zak) texts, D.i ((k + w) - 1), .map c1, .map c2])]) :: (c2, .raw (mapK kf84 vU ([] : List (Clone × Unit)))) :: (c1, .raw (mapK kf241 vI ([] : List (CloneDiagonal × Int)))) :: smB 2 zad gm_351 (mdel m_351 (kclones_e1 prints x texts k w x1))) := fun c82 pre83 post84 => wpS_of hW (by refine wpS_step (rs := [2, 11]) zK rfl ⟨?_, ?_, trivial⟩; refine wpS_op (i := 2) (li' := (lv 14 2047)) rfl rfl rfl rfl zK (OpA.load rfl ti3 rfl (.tail .head) rfl rfl ?_); exact wpS_to hW (s4 c82 pre83 post84) cvZ (.refl _); refine wpS_op (i := 11) (li' := (lv 14 4091)) rfl rfl rfl rfl zK (OpA.ibuildSliceO rfl ts206 rfl (.cons (.of (sz := 2) rfl) .nil) (by decide) ?_); exact wpS_to hW (s6 c82 pre83 post84) cvZ (.refl _))
 have s11 : W 4 (lv 14 4027) (asg [(1, D.i k), (2, D.i w), (3, D.i only_), (8, .v (.slice none 0 0)), (9, D.i 0), (10, .ptr c3 4 0 0), (11, .map c4), (12, .own cb38 1 pre38.length (si prints x ((printsF (gi texts x) k w).1)).length), (13, D.i x), (39, (encL 2 zak) texts), (40, D.i (texts.length : Int)), (41, D.i x), (59, (encL 2 zaj) (zah prints x texts k w)), (60, D.i ((zah prints x texts k w).length : Int)), (61, D.i x1), (65, .map c4), (66, .ptr c11 2 0 0), (68, .map c4), (70, D.i (kclones_e1 prints x texts k w x1)), (76, (encL 2 zad) ([(kclones_e2 x prints texts k w x1)] : List ClonePlace))]) ((c11, .cells 2 [zaj (gi (zah prints x texts k w) x1)]) :: (c8, .cells 2 [zak (gi texts x)]) :: (cb38, .cells 1 (winL (encL 2 zaj) pre38 (si prints x ((printsF (gi texts x) k w).1)) post38)) :: (c4, .map (smD 2 gm_351 m_351)) :: (c3, .cells 4 [.agg ([(encL 2 zak) texts, D.i ((k + w) - 1), .map c1, .map c2])]) :: (c2, .raw (mapK kf84 vU ([] : List (Clone × Unit)))) :: (c1, .raw (mapK kf241 vI ([] : List (CloneDiagonal × Int)))) :: smB 2 zad gm_351 m_351) := wpS_of hW (by refine wpS_step (rs := [2, 6]) zK rfl ⟨?_, ?_, trivial⟩; refine wpS_op (i := 2) (li' := (lv 14 4031)) rfl rfl rfl rfl zK (OpA.load rfl ti3 rfl .head rfl rfl ?_); exact wpS_to hW (s5) cvZ (.refl _); refine wpS_op (i := 6) (li' := (lv 14 4091)) rfl rfl rfl rfl zK (OpA.smGet (sz := 2) (enc := zad) (γ := gm_351) (L := m_351) rfl td199 td3 tz206 rfl rfl (.tail (.tail (.tail .head))) (.cons (.cons (.cons (.cons (.cons (.cons (.cons .here))))))) (fun c82 pre83 post84 => ?_)); exact wpS_to hW (s6 c82 pre83 post84) cvZ (.refl _))
 have s12 : ∀ (c82 : Nat) (pre83 : List D) (post84 : List D), W 5 (lv 14 511) (asg [(1, D.i k), (2, D.i w), (3, D.i only_), (8, .v (.slice none 0 0)), (9, D.i 0), (10, .ptr c3 4 0 0), (11, .map c4), (12, .own cb38 1 pre38.length (si prints x ((printsF (gi texts x) k w).1)).length), (13, D.i x), (39, (encL 2 zak) texts), (40, D.i (texts.length : Int)), (41, D.i x), (59, (encL 2 zaj) (zah prints x texts k w)), (60, D.i ((zah prints x texts k w).length : Int)), (61, D.i x1), (65, .map c4), (67, D.i (kclones_e1 prints x texts k w x1)), (71, .own c82 2 pre83.length (mget [] m_351 (kclones_e1 prints x texts k w x1)).length), (72, D.i x), (73, .ptr c11 2 0 1)]) ((c82, .cells 2 (winL zad pre83 (mget [] m_351 (kclones_e1 prints x texts k w x1)) post84)) :: (c11, .cells 2 [zaj (gi (zah prints x texts k w) x1)]) :: (c8, .cells 2 [zak (gi texts x)]) :: (cb38, .cells 1 (winL (encL 2 zaj) pre38 (si prints x ((printsF (gi texts x) k w).1)) post38)) :: (c4, .map (smD 2 gm_351 m_351)) :: (c3, .cells 4 [.agg ([(encL 2 zak) texts, D.i ((k + w) - 1), .map c1, .map c2])]) :: (c2, .raw (mapK kf84 vU ([] : List (Clone × Unit)))) :: (c1, .raw (mapK kf241 vI ([] : List (CloneDiagonal × Int)))) :: smB 2 zad gm_351 (mdel m_351 (kclones_e1 prints x texts k w x1))) := fun c82 pre83 post84 => wpS_of hW (by refine wpS_step (rs := [9]) zK rfl ⟨?_, trivial⟩; refine wpS_op (i := 9) (li' := (lv 14 1023)) rfl rfl rfl rfl zK (OpA.load rfl ti3 rfl (.tail .head) rfl rfl ?_); exact wpS_to hW (s7 c82 pre83 post84) cvZ (.refl _))
 have s13 : W 5 (lv 14 959) (asg [(1, D.i k), (2, D.i w), (3, D.i only_), (8, .v (.slice none 0 0)), (9, D.i 0), (10, .ptr c3 4 0 0), (11, .map c4), (12, .own cb38 1 pre38.length (si prints x ((printsF (gi texts x) k w).1)).length), (13, D.i x), (39, (encL 2 zak) texts), (40, D.i (texts.length : Int)), (41, D.i x), (59, (encL 2 zaj) (zah prints x texts k w)), (60, D.i ((zah prints x texts k w).length : Int)), (61, D.i x1), (65, .map c4), (67, D.i (kclones_e1 prints x texts k w x1)), (68, .map c4), (70, D.i (kclones_e1 prints x texts k w x1)), (72, D.i x), (74, D.i ((gi (zah prints x texts k w) x1).at_))]) ((c11, .cells 2 [zaj (gi (zah prints x texts k w) x1)]) :: (c8, .cells 2 [zak (gi texts x)]) :: (cb38, .cells 1 (winL (encL 2 zaj) pre38 (si prints x ((printsF (gi texts x) k w).1)) post38)) :: (c4, .map (smD 2 gm_351 m_351)) :: (c3, .cells 4 [.agg ([(encL 2 zak) texts, D.i ((k + w) - 1), .map c1, .map c2])]) :: (c2, .raw (mapK kf84 vU ([] : List (Clone × Unit)))) :: (c1, .raw (mapK kf241 vI ([] : List (CloneDiagonal × Int)))) :: smB 2 zad gm_351 m_351) := wpS_of hW (by refine wpS_step (rs := [6, 10]) zK rfl ⟨?_, ?_, trivial⟩; refine wpS_op (i := 6) (li' := (lv 14 1023)) rfl rfl rfl rfl zK (OpA.smGet (sz := 2) (enc := zad) (γ := gm_351) (L := m_351) rfl td199 td3 tz206 rfl rfl (.tail (.tail (.tail .head))) (.cons (.cons (.cons (.cons (.cons (.cons (.cons .here))))))) (fun c82 pre83 post84 => ?_)); exact wpS_to hW (s7 c82 pre83 post84) cvZ (.refl _); refine wpS_op (i := 10) (li' := (lv 14 1983)) rfl rfl rfl rfl zK (OpA.buildO (zs := [.v (.int .i64 0), .v (.int .i64 0)]) rfl tp208 tz208 (fun _ _ => (.cons (.v _) (.cons (.v _) .nil))) (.cons (.of (sz := 1) rfl) (.cons (.of (sz := 1) rfl) .nil)) rfl ?_); exact wpS_to hW (s8) cvZ (.refl _))
 have s14 : W 5 (lv 14 1951) (asg [(1, D.i k), (2, D.i w), (3, D.i only_), (8, .v (.slice none 0 0)), (9, D.i 0), (10, .ptr c3 4 0 0), (11, .map c4), (12, .own cb38 1 pre38.length (si prints x ((printsF (gi texts x) k w).1)).length), (13, D.i x), (39, (encL 2 zak) texts), (40, D.i (texts.length : Int)), (41, D.i x), (59, (encL 2 zaj) (zah prints x texts k w)), (60, D.i ((zah prints x texts k w).length : Int)), (61, D.i x1), (65, .map c4), (67, D.i (kclones_e1 prints x texts k w x1)), (68, .map c4), (69, .ptr c11 2 0 0), (75, zad (kclones_e2 x prints texts k w x1))]) ((c11, .cells 2 [zaj (gi (zah prints x texts k w) x1)]) :: (c8, .cells 2 [zak (gi texts x)]) :: (cb38, .cells 1 (winL (encL 2 zaj) pre38 (si prints x ((printsF (gi texts x) k w).1)) post38)) :: (c4, .map (smD 2 gm_351 m_351)) :: (c3, .cells 4 [.agg ([(encL 2 zak) texts, D.i ((k + w) - 1), .map c1, .map c2])]) :: (c2, .raw (mapK kf84 vU ([] : List (Clone × Unit)))) :: (c1, .raw (mapK kf241 vI ([] : List (CloneDiagonal × Int)))) :: smB 2 zad gm_351 m_351) := wpS_of hW (by refine wpS_step (rs := [5, 11]) zK rfl ⟨?_, ?_, trivial⟩; refine wpS_op (i := 5) (li' := (lv 14 1983)) rfl rfl rfl rfl zK (OpA.load rfl ti3 rfl .head rfl rfl ?_); exact wpS_to hW (s8) cvZ (.refl _); refine wpS_op (i := 11) (li' := (lv 14 3999)) rfl rfl rfl rfl zK (OpA.ibuildSliceO rfl ts206 rfl (.cons (.of (sz := 2) rfl) .nil) (by decide) ?_); exact wpS_to hW (s9) cvZ (.refl _))
 have s15 : ∀ (c82 : Nat) (pre83 : List D) (post84 : List D), W 5 (lv 14 1019) (asg [(1, D.i k), (2, D.i w), (3, D.i only_), (8, .v (.slice none 0 0)), (9, D.i 0), (10, .ptr c3 4 0 0), (11, .map c4), (12, .own cb38 1 pre38.length (si prints x ((printsF (gi texts x) k w).1)).length), (13, D.i x), (39, (encL 2 zak) texts), (40, D.i (texts.length : Int)), (41, D.i x), (59, (encL 2 zaj) (zah prints x texts k w)), (60, D.i ((zah prints x texts k w).length : Int)), (61, D.i x1), (65, .map c4), (66, .ptr c11 2 0 0), (71, .own c82 2 pre83.length (mget [] m_351 (kclones_e1 prints x texts k w x1)).length), (72, D.i x), (74, D.i ((gi (zah prints x texts k w) x1).at_))]) ((c82, .cells 2 (winL zad pre83 (mget [] m_351 (kclones_e1 prints x texts k w x1)) post84)) :: (c11, .cells 2 [zaj (gi (zah prints x texts k w) x1)]) :: (c8, .cells 2 [zak (gi texts x)]) :: (cb38, .cells 1 (winL (encL 2 zaj) pre38 (si prints x ((printsF (gi texts x) k w).1)) post38)) :: (c4, .map (smD 2 gm_351 m_351)) :: (c3, .cells 4 [.agg ([(encL 2 zak) texts, D.i ((k + w) - 1), .map c1, .map c2])]) :: (c2, .raw (mapK kf84 vU ([] : List (Clone × Unit)))) :: (c1, .raw (mapK kf241 vI ([] : List (CloneDiagonal × Int)))) :: smB 2 zad gm_351 (mdel m_351 (kclones_e1 prints x texts k w x1))) := fun c82 pre83 post84 => wpS_of hW (by refine wpS_step (rs := [2, 10]) zK rfl ⟨?_, ?_, trivial⟩; refine wpS_op (i := 2) (li' := (lv 14 1023)) rfl rfl rfl rfl zK (OpA.load rfl ti3 rfl (.tail .head) rfl rfl ?_); exact wpS_to hW (s7 c82 pre83 post84) cvZ (.refl _); refine wpS_op (i := 10) (li' := (lv 14 2043)) rfl rfl rfl rfl zK (OpA.buildO (zs := [.v (.int .i64 0), .v (.int .i64 0)]) rfl tp208 tz208 (fun _ _ => (.cons (.v _) (.cons (.v _) .nil))) (.cons (.of (sz := 1) rfl) (.cons (.of (sz := 1) rfl) .nil)) rfl ?_); exact wpS_to hW (s10 c82 pre83 post84) cvZ (.refl _))
 have s16 : W 5 (lv 14 1979) (asg [(1, D.i k), (2, D.i w), (3, D.i only_), (8, .v (.slice none 0 0)), (9, D.i 0), (10, .ptr c3 4 0 0), (11, .map c4), (12, .own cb38 1 pre38.length (si prints x ((printsF (gi texts x) k w).1)).length), (13, D.i x), (39, (encL 2 zak) texts), (40, D.i (texts.length : Int)), (41, D.i x), (59, (encL 2 zaj) (zah prints x texts k w)), (60, D.i ((zah prints x texts k w).length : Int)), (61, D.i x1), (65, .map c4), (66, .ptr c11 2 0 0), (68, .map c4), (70, D.i (kclones_e1 prints x texts k w x1)), (75, zad (kclones_e2 x prints texts k w x1))]) ((c11, .cells 2 [zaj (gi (zah prints x texts k w) x1)]) :: (c8, .cells 2 [zak (gi texts x)]) :: (cb38, .cells 1 (winL (encL 2 zaj) pre38 (si prints x ((printsF (gi texts x) k w).1)) post38)) :: (c4, .map (smD 2 gm_351 m_351)) :: (c3, .cells 4 [.agg ([(encL 2 zak) texts, D.i ((k + w) - 1), .map c1, .map c2])]) :: (c2, .raw (mapK kf84 vU ([] : List (Clone × Unit)))) :: (c1, .raw (mapK kf241 vI ([] : List (CloneDiagonal × Int)))) :: smB 2 zad gm_351 m_351) := wpS_of hW (by refine wpS_step (rs := [2, 6, 11]) zK rfl ⟨?_, ?_, ?_, trivial⟩; refine wpS_op (i := 2) (li' := (lv 14 1983)) rfl rfl rfl rfl zK (OpA.load rfl ti3 rfl .head rfl rfl ?_); exact wpS_to hW (s8) cvZ (.refl _); refine wpS_op (i := 6) (li' := (lv 14 2043)) rfl rfl rfl rfl zK (OpA.smGet (sz := 2) (enc := zad) (γ := gm_351) (L := m_351) rfl td199 td3 tz206 rfl rfl (.tail (.tail (.tail .head))) (.cons (.cons (.cons (.cons (.cons (.cons (.cons .here))))))) (fun c82 pre83 post84 => ?_)); exact wpS_to hW (s10 c82 pre83 post84) cvZ (.refl _); refine wpS_op (i := 11) (li' := (lv 14 4027)) rfl rfl rfl rfl zK (OpA.ibuildSliceO rfl ts206 rfl (.cons (.of (sz := 2) rfl) .nil) (by decide) ?_); exact wpS_to hW (s11) cvZ (.refl _))
 have s17 : W 5 (lv 14 3995) (asg [(1, D.i k), (2, D.i w), (3, D.i only_), (8, .v (.slice none 0 0)), (9, D.i 0), (10, .ptr c3 4 0 0), (11, .map c4), (12, .own cb38 1 pre38.length (si prints x ((printsF (gi texts x) k w).1)).length), (13, D.i x), (39, (encL 2 zak) texts), (40, D.i (texts.length : Int)), (41, D.i x), (59, (encL 2 zaj) (zah prints x texts k w)), (60, D.i ((zah prints x texts k w).length : Int)), (61, D.i x1), (65, .map c4), (66, .ptr c11 2 0 0), (68, .map c4), (69, .ptr c11 2 0 0), (76, (encL 2 zad) ([(kclones_e2 x prints texts k w x1)] : List ClonePlace))]) ((c11, .cells 2 [zaj (gi (zah prints x texts k w) x1)]) :: (c8, .cells 2 [zak (gi texts x)]) :: (cb38, .cells 1 (winL (encL 2 zaj) pre38 (si prints x ((printsF (gi texts x) k w).1)) post38)) :: (c4, .map (smD 2 gm_351 m_351)) :: (c3, .cells 4 [.agg ([(encL 2 zak) texts, D.i ((k + w) - 1), .map c1, .map c2])]) :: (c2, .raw (mapK kf84 vU ([] : List (Clone × Unit)))) :: (c1, .raw (mapK kf241 vI ([] : List (CloneDiagonal × Int)))) :: smB 2 zad gm_351 m_351) := wpS_of hW (by refine wpS_step (rs := [2, 5]) zK rfl ⟨?_, ?_, trivial⟩; refine wpS_op (i := 2) (li' := (lv 14 3999)) rfl rfl rfl rfl zK (OpA.load rfl ti3 rfl .head rfl rfl ?_); exact wpS_to hW (s9) cvZ (.refl _); refine wpS_op (i := 5) (li' := (lv 14 4027)) rfl rfl rfl rfl zK (OpA.load rfl ti3 rfl .head rfl rfl ?_); exact wpS_to hW (s11) cvZ (.refl _))
 have s18 : W 6 (lv 14 447) (asg [(1, D.i k), (2, D.i w), (3, D.i only_), (8, .v (.slice none 0 0)), (9, D.i 0), (10, .ptr c3 4 0 0), (11, .map c4), (12, .own cb38 1 pre38.length (si prints x ((printsF (gi texts x) k w).1)).length), (13, D.i x), (39, (encL 2 zak) texts), (40, D.i (texts.length : Int)), (41, D.i x), (59, (encL 2 zaj) (zah prints x texts k w)), (60, D.i ((zah prints x texts k w).length : Int)), (61, D.i x1), (65, .map c4), (67, D.i (kclones_e1 prints x texts k w x1)), (68, .map c4), (70, D.i (kclones_e1 prints x texts k w x1)), (72, D.i x), (73, .ptr c11 2 0 1)]) ((c11, .cells 2 [zaj (gi (zah prints x texts k w) x1)]) :: (c8, .cells 2 [zak (gi texts x)]) :: (cb38, .cells 1 (winL (encL 2 zaj) pre38 (si prints x ((printsF (gi texts x) k w).1)) post38)) :: (c4, .map (smD 2 gm_351 m_351)) :: (c3, .cells 4 [.agg ([(encL 2 zak) texts, D.i ((k + w) - 1), .map c1, .map c2])]) :: (c2, .raw (mapK kf84 vU ([] : List (Clone × Unit)))) :: (c1, .raw (mapK kf241 vI ([] : List (CloneDiagonal × Int)))) :: smB 2 zad gm_351 m_351) := wpS_of hW (by refine wpS_step (rs := [6, 9]) zK rfl ⟨?_, ?_, trivial⟩; refine wpS_op (i := 6) (li' := (lv 14 511)) rfl rfl rfl rfl zK (OpA.smGet (sz := 2) (enc := zad) (γ := gm_351) (L := m_351) rfl td199 td3 tz206 rfl rfl (.tail (.tail (.tail .head))) (.cons (.cons (.cons (.cons (.cons (.cons (.cons .here))))))) (fun c82 pre83 post84 => ?_)); exact wpS_to hW (s12 c82 pre83 post84) cvZ (.refl _); refine wpS_op (i := 9) (li' := (lv 14 959)) rfl rfl rfl rfl zK (OpA.load rfl ti3 rfl .head rfl rfl ?_); exact wpS_to hW (s13) cvZ (.refl _))
 have s19 : W 6 (lv 14 927) (asg [(1, D.i k), (2, D.i w), (3, D.i only_), (8, .v (.slice none 0 0)), (9, D.i 0), (10, .ptr c3 4 0 0), (11, .map c4), (12, .own cb38 1 pre38.length (si prints x ((printsF (gi texts x) k w).1)).length), (13, D.i x), (39, (encL 2 zak) texts), (40, D.i (texts.length : Int)), (41, D.i x), (59, (encL 2 zaj) (zah prints x texts k w)), (60, D.i ((zah prints x texts k w).length : Int)), (61, D.i x1), (65, .map c4), (67, D.i (kclones_e1 prints x texts k w x1)), (68, .map c4), (69, .ptr c11 2 0 0), (72, D.i x), (74, D.i ((gi (zah prints x texts k w) x1).at_))]) ((c11, .cells 2 [zaj (gi (zah prints x texts k w) x1)]) :: (c8, .cells 2 [zak (gi texts x)]) :: (cb38, .cells 1 (winL (encL 2 zaj) pre38 (si prints x ((printsF (gi texts x) k w).1)) post38)) :: (c4, .map (smD 2 gm_351 m_351)) :: (c3, .cells 4 [.agg ([(encL 2 zak) texts, D.i ((k + w) - 1), .map c1, .map c2])]) :: (c2, .raw (mapK kf84 vU ([] : List (Clone × Unit)))) :: (c1, .raw (mapK kf241 vI ([] : List (CloneDiagonal × Int)))) :: smB 2 zad gm_351 m_351) := wpS_of hW (by refine wpS_step (rs := [5, 10]) zK rfl ⟨?_, ?_, trivial⟩; refine wpS_op (i := 5) (li' := (lv 14 959)) rfl rfl rfl rfl zK (OpA.load rfl ti3 rfl .head rfl rfl ?_); exact wpS_to hW (s13) cvZ (.refl _); refine wpS_op (i := 10) (li' := (lv 14 1951)) rfl rfl rfl rfl zK (OpA.buildO (zs := [.v (.int .i64 0), .v (.int .i64 0)]) rfl tp208 tz208 (fun _ _ => (.cons (.v _) (.cons (.v _) .nil))) (.cons (.of (sz := 1) rfl) (.cons (.of (sz := 1) rfl) .nil)) rfl ?_); exact wpS_to hW (s14) cvZ (.refl _))
 have s20 : ∀ (c82 : Nat) (pre83 : List D) (post84 : List D), W 6 (lv 14 507) (asg [(1, D.i k), (2, D.i w), (3, D.i only_), (8, .v (.slice none 0 0)), (9, D.i 0), (10, .ptr c3 4 0 0), (11, .map c4), (12, .own cb38 1 pre38.length (si prints x ((printsF (gi texts x) k w).1)).length), (13, D.i x), (39, (encL 2 zak) texts), (40, D.i (texts.length : Int)), (41, D.i x), (59, (encL 2 zaj) (zah prints x texts k w)), (60, D.i ((zah prints x texts k w).length : Int)), (61, D.i x1), (65, .map c4), (66, .ptr c11 2 0 0), (71, .own c82 2 pre83.length (mget [] m_351 (kclones_e1 prints x texts k w x1)).length), (72, D.i x), (73, .ptr c11 2 0 1)]) ((c82, .cells 2 (winL zad pre83 (mget [] m_351 (kclones_e1 prints x texts k w x1)) post84)) :: (c11, .cells 2 [zaj (gi (zah prints x texts k w) x1)]) :: (c8, .cells 2 [zak (gi texts x)]) :: (cb38, .cells 1 (winL (encL 2 zaj) pre38 (si prints x ((printsF (gi texts x) k w).1)) post38)) :: (c4, .map (smD 2 gm_351 m_351)) :: (c3, .cells 4 [.agg ([(encL 2 zak) texts, D.i ((k + w) - 1), .map c1, .map c2])]) :: (c2, .raw (mapK kf84 vU ([] : List (Clone × Unit)))) :: (c1, .raw (mapK kf241 vI ([] : List (CloneDiagonal × Int)))) :: smB 2 zad gm_351 (mdel m_351 (kclones_e1 prints x texts k w x1))) := fun c82 pre83 post84 => wpS_of hW (by refine wpS_step (rs := [2, 9]) zK rfl ⟨?_, ?_, trivial⟩; refine wpS_op (i := 2) (li' := (lv 14 511)) rfl rfl rfl rfl zK (OpA.load rfl ti3 rfl (.tail .head) rfl rfl ?_); exact wpS_to hW (s12 c82 pre83 post84) cvZ (.refl _); refine wpS_op (i := 9) (li' := (lv 14 1019)) rfl rfl rfl rfl zK (OpA.load rfl ti3 rfl (.tail .head) rfl rfl ?_); exact wpS_to hW (s15 c82 pre83 post84) cvZ (.refl _))
 have s21 : W 6 (lv 14 955) (asg [(1, D.i k), (2, D.i w), (3, D.i only_), (8, .v (.slice none 0 0)), (9, D.i 0), (10, .ptr c3 4 0 0), (11, .map c4), (12, .own cb38 1 pre38.length (si prints x ((printsF (gi texts x) k w).1)).length), (13, D.i x), (39, (encL 2 zak) texts), (40, D.i (texts.length : Int)), (41, D.i x), (59, (encL 2 zaj) (zah prints x texts k w)), (60, D.i ((zah prints x texts k w).length : Int)), (61, D.i x1), (65, .map c4), (66, .ptr c11 2 0 0), (68, .map c4), (70, D.i (kclones_e1 prints x texts k w x1)), (72, D.i x), (74, D.i ((gi (zah prints x texts k w) x1).at_))]) ((c11, .cells 2 [zaj (gi (zah prints x texts k w) x1)]) :: (c8, .cells 2 [zak (gi texts x)]) :: (cb38, .cells 1 (winL (encL 2 zaj) pre38 (si prints x ((printsF (gi texts x) k w).1)) post38)) :: (c4, .map (smD 2 gm_351 m_351)) :: (c3, .cells 4 [.agg ([(encL 2 zak) texts, D.i ((k + w) - 1), .map c1, .map c2])]) :: (c2, .raw (mapK kf84 vU ([] : List (Clone × Unit)))) :: (c1, .raw (mapK kf241 vI ([] : List (CloneDiagonal × Int)))) :: smB 2 zad gm_351 m_351) := wpS_of hW (by refine wpS_step (rs := [2, 6, 10]) zK rfl ⟨?_, ?_, ?_, trivial⟩; refine wpS_op (i := 2) (li' := (lv 14 959)) rfl rfl rfl rfl zK (OpA.load rfl ti3 rfl .head rfl rfl ?_); exact wpS_to hW (s13) cvZ (.refl _); refine wpS_op (i := 6) (li' := (lv 14 1019)) rfl rfl rfl rfl zK (OpA.smGet (sz := 2) (enc := zad) (γ := gm_351) (L := m_351) rfl td199 td3 tz206 rfl rfl (.tail (.tail (.tail .head))) (.cons (.cons (.cons (.cons (.cons (.cons (.cons .here))))))) (fun c82 pre83 post84 => ?_)); exact wpS_to hW (s15 c82 pre83 post84) cvZ (.refl _); refine wpS_op (i := 10) (li' := (lv 14 1979)) rfl rfl rfl rfl zK (OpA.buildO (zs := [.v (.int .i64 0), .v (.int .i64 0)]) rfl tp208 tz208 (fun _ _ => (.cons (.v _) (.cons (.v _) .nil))) (.cons (.of (sz := 1) rfl) (.cons (.of (sz := 1) rfl) .nil)) rfl ?_); exact wpS_to hW (s16) cvZ (.refl _))
 have s22 : W 6 (lv 14 1947) (asg [(1, D.i k), (2, D.i w), (3, D.i only_), (8, .v (.slice none 0 0)), (9, D.i 0), (10, .ptr c3 4 0 0), (11, .map c4), (12, .own cb38 1 pre38.length (si prints x ((printsF (gi texts x) k w).1)).length), (13, D.i x), (39, (encL 2 zak) texts), (40, D.i (texts.length : Int)), (41, D.i x), (59, (encL 2 zaj) (zah prints x texts k w)), (60, D.i ((zah prints x texts k w).length : Int)), (61, D.i x1), (65, .map c4), (66, .ptr c11 2 0 0), (68, .map c4), (69, .ptr c11 2 0 0), (75, zad (kclones_e2 x prints texts k w x1))]) ((c11, .cells 2 [zaj (gi (zah prints x texts k w) x1)]) :: (c8, .cells 2 [zak (gi texts x)]) :: (cb38, .cells 1 (winL (encL 2 zaj) pre38 (si prints x ((printsF (gi texts x) k w).1)) post38)) :: (c4, .map (smD 2 gm_351 m_351)) :: (c3, .cells 4 [.agg ([(encL 2 zak) texts, D.i ((k + w) - 1), .map c1, .map c2])]) :: (c2, .raw (mapK kf84 vU ([] : List (Clone × Unit)))) :: (c1, .raw (mapK kf241 vI ([] : List (CloneDiagonal × Int)))) :: smB 2 zad gm_351 m_351) := wpS_of hW (by refine wpS_step (rs := [2, 5, 11]) zK rfl ⟨?_, ?_, ?_, trivial⟩; refine wpS_op (i := 2) (li' := (lv 14 1951)) rfl rfl rfl rfl zK (OpA.load rfl ti3 rfl .head rfl rfl ?_); exact wpS_to hW (s14) cvZ (.refl _); refine wpS_op (i := 5) (li' := (lv 14 1979)) rfl rfl rfl rfl zK (OpA.load rfl ti3 rfl .head rfl rfl ?_); exact wpS_to hW (s16) cvZ (.refl _); refine wpS_op (i := 11) (li' := (lv 14 3995)) rfl rfl rfl rfl zK (OpA.ibuildSliceO rfl ts206 rfl (.cons (.of (sz := 2) rfl) .nil) (by decide) ?_); exact wpS_to hW (s17) cvZ (.refl _))
 have s23 : W 7 (lv 14 415) (asg [(1, D.i k), (2, D.i w), (3, D.i only_), (8, .v (.slice none 0 0)), (9, D.i 0), (10, .ptr c3 4 0 0), (11, .map c4), (12, .own cb38 1 pre38.length (si prints x ((printsF (gi texts x) k w).1)).length), (13, D.i x), (39, (encL 2 zak) texts), (40, D.i (texts.length : Int)), (41, D.i x), (59, (encL 2 zaj) (zah prints x texts k w)), (60, D.i ((zah prints x texts k w).length : Int)), (61, D.i x1), (65, .map c4), (67, D.i (kclones_e1 prints x texts k w x1)), (68, .map c4), (69, .ptr c11 2 0 0), (72, D.i x), (73, .ptr c11 2 0 1)]) ((c11, .cells 2 [zaj (gi (zah prints x texts k w) x1)]) :: (c8, .cells 2 [zak (gi texts x)]) :: (cb38, .cells 1 (winL (encL 2 zaj) pre38 (si prints x ((printsF (gi texts x) k w).1)) post38)) :: (c4, .map (smD 2 gm_351 m_351)) :: (c3, .cells 4 [.agg ([(encL 2 zak) texts, D.i ((k + w) - 1), .map c1, .map c2])]) :: (c2, .raw (mapK kf84 vU ([] : List (Clone × Unit)))) :: (c1, .raw (mapK kf241 vI ([] : List (CloneDiagonal × Int)))) :: smB 2 zad gm_351 m_351) := wpS_of hW (by refine wpS_step (rs := [5, 9]) zK rfl ⟨?_, ?_, trivial⟩; refine wpS_op (i := 5) (li' := (lv 14 447)) rfl rfl rfl rfl zK (OpA.load rfl ti3 rfl .head rfl rfl ?_); exact wpS_to hW (s18) cvZ (.refl _); refine wpS_op (i := 9) (li' := (lv 14 927)) rfl rfl rfl rfl zK (OpA.load rfl ti3 rfl .head rfl rfl ?_); exact wpS_to hW (s19) cvZ (.refl _))
 have s24 : W 7 (lv 14 443) (asg [(1, D.i k), (2, D.i w), (3, D.i only_), (8, .v (.slice none 0 0)), (9, D.i 0), (10, .ptr c3 4 0 0), (11, .map c4), (12, .own cb38 1 pre38.length (si prints x ((printsF (gi texts x) k w).1)).length), (13, D.i x), (39, (encL 2 zak) texts), (40, D.i (texts.length : Int)), (41, D.i x), (59, (encL 2 zaj) (zah prints x texts k w)), (60, D.i ((zah prints x texts k w).length : Int)), (61, D.i x1), (65, .map c4), (66, .ptr c11 2 0 0), (68, .map c4), (70, D.i (kclones_e1 prints x texts k w x1)), (72, D.i x), (73, .ptr c11 2 0 1)]) ((c11, .cells 2 [zaj (gi (zah prints x texts k w) x1)]) :: (c8, .cells 2 [zak (gi texts x)]) :: (cb38, .cells 1 (winL (encL 2 zaj) pre38 (si prints x ((printsF (gi texts x) k w).1)) post38)) :: (c4, .map (smD 2 gm_351 m_351)) :: (c3, .cells 4 [.agg ([(encL 2 zak) texts, D.i ((k + w) - 1), .map c1, .map c2])]) :: (c2, .raw (mapK kf84 vU ([] : List (Clone × Unit)))) :: (c1, .raw (mapK kf241 vI ([] : List (CloneDiagonal × Int)))) :: smB 2 zad gm_351 m_351) := wpS_of hW (by refine wpS_step (rs := [2, 6, 9]) zK rfl ⟨?_, ?_, ?_, trivial⟩; refine wpS_op (i := 2) (li' := (lv 14 447)) rfl rfl rfl rfl zK (OpA.load rfl ti3 rfl .head rfl rfl ?_); exact wpS_to hW (s18) cvZ (.refl _); refine wpS_op (i := 6) (li' := (lv 14 507)) rfl rfl rfl rfl zK (OpA.smGet (sz := 2) (enc := zad) (γ := gm_351) (L := m_351) rfl td199 td3 tz206 rfl rfl (.tail (.tail (.tail .head))) (.cons (.cons (.cons (.cons (.cons (.cons (.cons .here))))))) (fun c82 pre83 post84 => ?_)); exact wpS_to hW (s20 c82 pre83 post84) cvZ (.refl _); refine wpS_op (i := 9) (li' := (lv 14 955)) rfl rfl rfl rfl zK (OpA.load rfl ti3 rfl .head rfl rfl ?_); exact wpS_to hW (s21) cvZ (.refl _))
 have s25 : W 7 (lv 14 923) (asg [(1, D.i k), (2, D.i w), (3, D.i only_), (8, .v (.slice none 0 0)), (9, D.i 0), (10, .ptr c3 4 0 0), (11, .map c4), (12, .own cb38 1 pre38.length (si prints x ((printsF (gi texts x) k w).1)).length), (13, D.i x), (39, (encL 2 zak) texts), (40, D.i (texts.length : Int)), (41, D.i x), (59, (encL 2 zaj) (zah prints x texts k w)), (60, D.i ((zah prints x texts k w).length : Int)), (61, D.i x1), (65, .map c4), (66, .ptr c11 2 0 0), (68, .map c4), (69, .ptr c11 2 0 0), (72, D.i x), (74, D.i ((gi (zah prints x texts k w) x1).at_))]) ((c11, .cells 2 [zaj (gi (zah prints x texts k w) x1)]) :: (c8, .cells 2 [zak (gi texts x)]) :: (cb38, .cells 1 (winL (encL 2 zaj) pre38 (si prints x ((printsF (gi texts x) k w).1)) post38)) :: (c4, .map (smD 2 gm_351 m_351)) :: (c3, .cells 4 [.agg ([(encL 2 zak) texts, D.i ((k + w) - 1), .map c1, .map c2])]) :: (c2, .raw (mapK kf84 vU ([] : List (Clone × Unit)))) :: (c1, .raw (mapK kf241 vI ([] : List (CloneDiagonal × Int)))) :: smB 2 zad gm_351 m_351) := wpS_of hW (by refine wpS_step (rs := [2, 5, 10]) zK rfl ⟨?_, ?_, ?_, trivial⟩; refine wpS_op (i := 2) (li' := (lv 14 927)) rfl rfl rfl rfl zK (OpA.load rfl ti3 rfl .head rfl rfl ?_); exact wpS_to hW (s19) cvZ (.refl _); refine wpS_op (i := 5) (li' := (lv 14 955)) rfl rfl rfl rfl zK (OpA.load rfl ti3 rfl .head rfl rfl ?_); exact wpS_to hW (s21) cvZ (.refl _); refine wpS_op (i := 10) (li' := (lv 14 1947)) rfl rfl rfl rfl zK (OpA.buildO (zs := [.v (.int .i64 0), .v (.int .i64 0)]) rfl tp208 tz208 (fun _ _ => (.cons (.v _) (.cons (.v _) .nil))) (.cons (.of (sz := 1) rfl) (.cons (.of (sz := 1) rfl) .nil)) rfl ?_); exact wpS_to hW (s22) cvZ (.refl _))
 have s26 : W 8 (lv 14 411) (asg [(1, D.i k), (2, D.i w), (3, D.i only_), (8, .v (.slice none 0 0)), (9, D.i 0), (10, .ptr c3 4 0 0), (11, .map c4), (12, .own cb38 1 pre38.length (si prints x ((printsF (gi texts x) k w).1)).length), (13, D.i x), (39, (encL 2 zak) texts), (40, D.i (texts.length : Int)), (41, D.i x), (59, (encL 2 zaj) (zah prints x texts k w)), (60, D.i ((zah prints x texts k w).length : Int)), (61, D.i x1), (65, .map c4), (66, .ptr c11 2 0 0), (68, .map c4), (69, .ptr c11 2 0 0), (72, D.i x), (73, .ptr c11 2 0 1)]) ((c11, .cells 2 [zaj (gi (zah prints x texts k w) x1)]) :: (c8, .cells 2 [zak (gi texts x)]) :: (cb38, .cells 1 (winL (encL 2 zaj) pre38 (si prints x ((printsF (gi texts x) k w).1)) post38)) :: (c4, .map (smD 2 gm_351 m_351)) :: (c3, .cells 4 [.agg ([(encL 2 zak) texts, D.i ((k + w) - 1), .map c1, .map c2])]) :: (c2, .raw (mapK kf84 vU ([] : List (Clone × Unit)))) :: (c1, .raw (mapK kf241 vI ([] : List (CloneDiagonal × Int)))) :: smB 2 zad gm_351 m_351) := wpS_of hW (by refine wpS_step (rs := [2, 5, 9]) zK rfl ⟨?_, ?_, ?_, trivial⟩; refine wpS_op (i := 2) (li' := (lv 14 415)) rfl rfl rfl rfl zK (OpA.load rfl ti3 rfl .head rfl rfl ?_); exact wpS_to hW (s23) cvZ (.refl _); refine wpS_op (i := 5) (li' := (lv 14 443)) rfl rfl rfl rfl zK (OpA.load rfl ti3 rfl .head rfl rfl ?_); exact wpS_to hW (s24) cvZ (.refl _); refine wpS_op (i := 9) (li' := (lv 14 923)) rfl rfl rfl rfl zK (OpA.load rfl ti3 rfl .head rfl rfl ?_); exact wpS_to hW (s25) cvZ (.refl _))
 refine wpS_of hW ?_
 refine wpS_firstY (fuel := 13) (i := 0) (li' := (lv 14 1)) rfl rfl (.move rfl) rfl rfl zK zK zK (fun _ _ _ hx => hx) rfl rfl zK ?_
 refine wpS_firstY (fuel := 12) (i := 1) (li' := (lv 14 3)) rfl rfl (.fieldAddr rfl tf205_0 rfl) rfl rfl zK zK zK (fun _ _ _ hx => hx) rfl rfl zK ?_
 refine wpS_firstY (fuel := 11) (i := 3) (li' := (lv 14 11)) rfl rfl (.move rfl) rfl rfl zK zK zK (fun _ _ _ hx => hx) rfl rfl zK ?_
 refine wpS_firstY (fuel := 10) (i := 4) (li' := (lv 14 27)) rfl rfl (.fieldAddr rfl tf205_0 rfl) rfl rfl zK zK zK (fun _ _ _ hx => hx) rfl rfl zK ?_
 refine wpS_firstY (fuel := 9) (i := 7) (li' := (lv 14 155)) rfl rfl (.move rfl) rfl rfl zK zK zK (fun _ _ _ hx => hx) rfl rfl zK ?_
 refine wpS_firstY (fuel := 8) (i := 8) (li' := (lv 14 411)) rfl rfl (.fieldAddr rfl tf205_1 rfl) rfl rfl zK zK zK (fun _ _ _ hx => hx) rfl rfl zK ?_
 exact wpS_to hW s26 cvZ (.refl _)
 intro c82 pre83 post84 c142 pre143
 refine wpS_of hW (wpS_done zK ?_)
 obtain ⟨q1, h⟩ := h
 refine zaa ?_
 refine wL (OpA.addi rfl rfl rfl q1 ?_)
 refine wL (OpA.m ?_)
 refine zab ?_
 exact ⟨(gup gm_351 (kclones_e1 prints x texts k w x1) (c142, pre143, ([] : List D))), ((mset m_351 (kclones_e1 prints x texts k w x1) ((mget [] m_351 (kclones_e1 prints x texts k w x1)) ++ ([(kclones_e2 x prints texts k w x1)] : List ClonePlace))), (x1 + 1)), h, cvZ, (.cons _ (.refl _))⟩
 have h := h.2 (decF b10)
 refine wpA_exit ?_
 obtain ⟨q1, h⟩ := h
 refine zaa ?_
 refine wL (OpA.addi rfl rfl rfl q1 ?_)
 refine wL (OpA.m ?_)
 refine zab ?_
 exact ⟨(cb38, pre38, post38, gm_351), ((si prints x ((printsF (gi texts x) k w).1)), m_351, (x + 1)), h, cvZ, (.cons _ (.refl _))⟩
 have h := h.2 (decF b7)
 refine wpA_exit ?_
 iterate 2 refine zac ?_
 refine zaa (wL (OpA.m ?_))
 refine wL (OpA.len rfl rfl rfl rfl ts200.desc (.inr (.inl ⟨_, _, _, rfl⟩)) ?_)
 refine wL (OpA.m ?_)
 refine zab (zag ?_)
 refine wpA_smFrz (sz := 2) (enc := zad) (γ := gm_35) (L := m_35) (.cons (.cons (.cons (.cons (.cons .here))))) (.tail .head) ?_
 refine wpA_lfp (S := (List (Clone × Unit)) × (List (CloneDiagonal × Int)) × Int) (G := Unit) () (fun gg ss => asg [(3, D.i only_), (8, .v (.slice none 0 0)), (9, D.i 0), (10, .ptr c3 4 0 0), (11, .map c4), (80, .own cb38 1 pre38.length prints.length), (81, D.i (prints.length : Int)), (82, D.i ss.2.2)]) (fun gg ss => [(cb38, .cells 1 (winL (encL 2 zaj) pre38 prints post38)), (c4, .map (smF 2 zad m_35)), (c3, .cells 4 [.agg ([(encL 2 zak) texts, D.i ((k + w) - 1), .map c1, .map c2])]), (c2, .raw (mapK kf84 vU ss.1)), (c1, .raw (mapK kf241 vI ss.2.1))]) h cvZ (.refl _) ?_
 rintro again172 _ ⟨m_32, m_31, x2⟩ h
 have h : kclones_L3 texts k w only_ prints m_35 Q again172 m_32 m_31 x2 := h
 unfold kclones_L3 at h
 show wpA _ _ _ _ _ _
 refine zac (zaa ?_)
 refine wL (OpA.lss rfl rfl rfl ?_)
 refine zab (zac ?_)
 refine zae rfl (fun b173 => ?_) (fun b173 => ?_)
 have h := h.1 (decT b173)
 refine zai (zac (zag (zac ?_)))
 obtain ⟨q1, h⟩ := h
 refine zaa (wL (OpA.m ?_))
 refine wL (OpA.ixV rfl ts200 rfl rfl q1 ?_)
 refine wL (OpA.load rfl ti201 rfl .head (getV (enc := (encL 2 zaj)) q1) rfl ?_)
 iterate 2 refine wL (OpA.a ?_)
 refine zab (zac (zaa (wL (OpA.m ?_))))
 refine wL (OpA.len rfl rfl rfl rfl ts201.desc (.inl ⟨_, _, rfl, (List.length_map _).symm⟩) ?_)
 refine wL (OpA.m ?_)
 refine zab (zag ?_)
 refine wpA_lfp (S := (List (Clone × Unit)) × (List (CloneDiagonal × Int)) × Int) (G := Unit) () (fun gg ss => asg [(3, D.i only_), (8, .v (.slice none 0 0)), (9, D.i 0), (10, .ptr c3 4 0 0), (11, .map c4), (17, D.i x2), (80, .own cb38 1 pre38.length prints.length), (81, D.i (prints.length : Int)), (82, D.i x2), (87, (encL 2 zaj) (gi prints x2)), (88, D.i ((gi prints x2).length : Int)), (89, D.i ss.2.2)]) (fun gg ss => [(cb38, .cells 1 (winL (encL 2 zaj) pre38 prints post38)), (c4, .map (smF 2 zad m_35)), (c3, .cells 4 [.agg ([(encL 2 zak) texts, D.i ((k + w) - 1), .map c1, .map c2])]), (c2, .raw (mapK kf84 vU ss.1)), (c1, .raw (mapK kf241 vI ss.2.1))]) h cvZ (.refl _) ?_
 rintro again174 _ ⟨m_321, m_311, x3⟩ h
 have h : kclones_L4 texts k w only_ prints m_35 x2 Q again172 again174 m_321 m_311 x3 := h
 unfold kclones_L4 at h
 show wpA _ _ _ _ _ _
 refine zac (zaa ?_)
 refine wL (OpA.lss rfl rfl rfl ?_)
 refine zab (zac ?_)
 refine zae rfl (fun b175 => ?_) (fun b175 => ?_)
 have h := h.1 (decT b175)
 refine zai (zac (zag (zac ?_)))
 obtain ⟨q1, h⟩ := h
 refine zaa ?_
 refine wL (OpA.iixV (enc := zaj) rfl ts201 rfl rfl rfl q1 ?_)
 refine wL (OpA.iload_whole rfl ti205 rfl ⟨_, rfl, rfl⟩ ?_)
 refine wL (OpA.alloc (sz := 2) (d := zaj (Print.mk 0 0)) rfl tz205 (fun _ _ => .agg (.cons (.v _) (.cons (.v _) .nil))) (.of rfl) (fun c176 _ => ?_))
 refine wE (OpA.storeW rfl ti205 rfl zW (.of rfl) rfl rfl .head ?_)
 refine zab (zac (zaa (wL (OpA.m ?_))))
 refine wL (OpA.fieldAddr rfl tf205_1 rfl ?_)
 refine wL (OpA.load rfl ti3 rfl .head rfl rfl ?_)
 refine wL (OpA.buildO (zs := [.v (.int .i64 0), .v (.int .i64 0)]) rfl tp208 tz208 (fun _ _ => (.cons (.v _) (.cons (.v _) .nil))) (.cons (.of (sz := 1) rfl) (.cons (.of (sz := 1) rfl) .nil)) rfl ?_)
 refine wL (OpA.alloc (sz := 2) (d := zad (ClonePlace.mk 0 0)) rfl tz208 (fun _ _ => .agg (.cons (.v _) (.cons (.v _) .nil))) (.of rfl) (fun c177 _ => ?_))
 refine wE (OpA.storeW rfl ti208 rfl zW (.of rfl) rfl rfl .head ?_)
 refine zab (zac (zaa (wL (OpA.m ?_))))
 refine wL (OpA.fieldAddr rfl tf205_0 rfl ?_)
 refine wL (OpA.load rfl ti3 rfl (.tail .head) rfl rfl ?_)
 refine wL (OpA.fmGet (sz := 2) (enc := zad) (L := m_35) rfl td199 td3 tz206 rfl rfl (.tail (.tail (.tail .head))) ?_)
 refine wL (OpA.len rfl rfl rfl rfl ts206.desc (.inl ⟨_, _, rfl, (List.length_map _).symm⟩) ?_)
 refine wL (OpA.m ?_)
 refine zab (zag ?_)
 refine wpA_lfp (S := (List (Clone × Unit)) × (List (CloneDiagonal × Int)) × Int) (G := Unit) () (fun gg ss => asg [(3, D.i only_), (8, .v (.slice none 0 0)), (9, D.i 0), (10, .ptr c3 4 0 0), (11, .map c4), (17, D.i x2), (21, .ptr c177 2 0 0), (80, .own cb38 1 pre38.length prints.length), (81, D.i (prints.length : Int)), (82, D.i x2), (87, (encL 2 zaj) (gi prints x2)), (88, D.i ((gi prints x2).length : Int)), (89, D.i x3), (100, (encL 2 zad) (mget [] m_35 ((gi (gi prints x2) x3).hash))), (101, D.i ((mget [] m_35 ((gi (gi prints x2) x3).hash)).length : Int)), (102, D.i ss.2.2)]) (fun gg ss => [(c177, .cells 2 [zad (ClonePlace.mk x2 ((gi (gi prints x2) x3).at_))]), (c176, .cells 2 [zaj (gi (gi prints x2) x3)]), (cb38, .cells 1 (winL (encL 2 zaj) pre38 prints post38)), (c4, .map (smF 2 zad m_35)), (c3, .cells 4 [.agg ([(encL 2 zak) texts, D.i ((k + w) - 1), .map c1, .map c2])]), (c2, .raw (mapK kf84 vU ss.1)), (c1, .raw (mapK kf241 vI ss.2.1))]) h cvZ (.refl _) ?_
 rintro again178 _ ⟨m_322, m_312, x4⟩ h
 have h : kclones_L5 texts k w only_ prints m_35 x2 x3 Q again174 again178 m_322 m_312 x4 := h
 unfold kclones_L5 at h
 show wpA _ _ _ _ _ _
 refine zac (zaa ?_)
 refine wL (OpA.lss rfl rfl rfl ?_)
 refine zab (zac ?_)
 refine zae rfl (fun b179 => ?_) (fun b179 => ?_)
 have h := h.1 (decT b179)
 refine zai (zac (zag (zac ?_)))
 obtain ⟨q1, h⟩ := h
 refine zaa ?_
 refine wL (OpA.iixV (enc := zad) rfl ts206 rfl rfl rfl q1 ?_)
 refine wL (OpA.iload_whole rfl ti208 rfl ⟨_, rfl, rfl⟩ ?_)
 refine wL (OpA.alloc (sz := 2) (d := zad (ClonePlace.mk 0 0)) rfl tz208 (fun _ _ => .agg (.cons (.v _) (.cons (.v _) .nil))) (.of rfl) (fun c180 _ => ?_))
 refine wE (OpA.storeW rfl ti208 rfl zW (.of rfl) rfl rfl .head ?_)
 refine zab ?_
 iterate 2 refine zac ?_
 refine wpA_mid (asg [(3, D.i only_), (8, .v (.slice none 0 0)), (9, D.i 0), (10, .ptr c3 4 0 0), (11, .map c4), (17, D.i x2), (21, .ptr c177 2 0 0), (23, .ptr c180 2 0 0), (80, .own cb38 1 pre38.length prints.length), (81, D.i (prints.length : Int)), (82, D.i x2), (87, (encL 2 zaj) (gi prints x2)), (88, D.i ((gi prints x2).length : Int)), (89, D.i x3), (100, (encL 2 zad) (mget [] m_35 ((gi (gi prints x2) x3).hash))), (101, D.i ((mget [] m_35 ((gi (gi prints x2) x3).hash)).length : Int)), (102, D.i x4), (145, D.b ((((eqClonePlace (gi (mget [] m_35 ((gi (gi prints x2) x3).hash)) x4) (ClonePlace.mk x2 ((gi (gi prints x2) x3).at_))) || (decide ((gi (mget [] m_35 ((gi (gi prints x2) x3).hash)) x4).text < x2))) || ((((gi (mget [] m_35 ((gi (gi prints x2) x3).hash)) x4).text) == x2) && (decide ((gi (mget [] m_35 ((gi (gi prints x2) x3).hash)) x4).at_ < (gi (gi prints x2) x3).at_)))) || ((decide (only_ ≥ 0)) && ((((gi (mget [] m_35 ((gi (gi prints x2) x3).hash)) x4).text) != only_) || (x2 == only_)))))]) [(c180, .cells 2 [zad (gi (mget [] m_35 ((gi (gi prints x2) x3).hash)) x4)]), (c177, .cells 2 [zad (ClonePlace.mk x2 ((gi (gi prints x2) x3).at_))]), (c176, .cells 2 [zaj (gi (gi prints x2) x3)]), (cb38, .cells 1 (winL (encL 2 zaj) pre38 prints post38)), (c4, .map (smF 2 zad m_35)), (c3, .cells 4 [.agg ([(encL 2 zak) texts, D.i ((k + w) - 1), .map c1, .map c2])]), (c2, .raw (mapK kf84 vU m_322)), (c1, .raw (mapK kf241 vI m_312))] ?_ ?_
 refine zaa ?_
 refine wL (OpA.load_whole rfl ti208 rfl rfl .head rfl ⟨_, rfl⟩ ?_)
 refine wL (OpA.load_whole rfl ti208 rfl rfl (.tail .head) rfl ⟨_, rfl⟩ ?_)
 refine wL (OpA.structcmp (xs := [.int .i64 ((gi (mget [] m_35 ((gi (gi prints x2) x3).hash)) x4).text), .int .i64 ((gi (mget [] m_35 ((gi (gi prints x2) x3).hash)) x4).at_)]) (ys := [.int .i64 x2, .int .i64 ((gi (gi prints x2) x3).at_)]) (r := (eqClonePlace (gi (mget [] m_35 ((gi (gi prints x2) x3).hash)) x4) (ClonePlace.mk x2 ((gi (gi prints x2) x3).at_)))) rfl eg208 su208.1 su208.2.1 su208.2.2 rfl rfl (.int td3 ti3 rfl rfl (.int td3 ti3 rfl rfl .nil)) (.inl ⟨rfl, rfl⟩) ?_)
 refine wL (OpA.m ?_)
 refine zam (s := 109) rfl (fun b183 => ?_) (fun b183 => ?_)
 iterate 5 refine wS ?_
 refine wL (OpA.p ?_)
 refine wL (OpA.m ?_)
 iterate 6 refine wS ?_
 iterate 5 refine wpL_skipU rfl rfl rfl rfl rfl ?_
 refine wS ?_
 refine wL (OpA.p ?_)
 refine wL (OpA.m ?_)
 iterate 3 refine wS ?_
 iterate 10 refine wpL_skipU rfl rfl rfl rfl rfl ?_
 refine wS ?_
 refine wL (OpA.p ?_)
 refine zab ?_
 exact ⟨(Cov.asg ⟨rfl, rfl, rfl, rfl, rfl, rfl, rfl, rfl, rfl, rfl, rfl, rfl, rfl, rfl, rfl, rfl, rfl, (congrArg D.b (Eq.symm (orS (orS (orS b183))))), trivial⟩), (.refl _)⟩
 refine wG (OpA.fieldAddr rfl tf208_0 rfl ?_)
 refine wG (OpA.load rfl ti3 rfl .head rfl rfl ?_)
 refine wG (OpA.fieldAddr rfl tf208_0 rfl ?_)
 refine wG (OpA.load rfl ti3 rfl (.tail .head) rfl rfl ?_)
 refine wG (OpA.lss rfl rfl rfl ?_)
 refine wL (OpA.p ?_)
 refine wL (OpA.m ?_)
 refine zam (s := 116) rfl (fun b184 => ?_) (fun b184 => ?_)
 iterate 6 refine wS ?_
 iterate 5 refine wpL_skipU rfl rfl rfl rfl rfl ?_
 refine wS ?_
 refine wL (OpA.p ?_)
 refine wL (OpA.m ?_)
 iterate 3 refine wS ?_
 iterate 10 refine wpL_skipU rfl rfl rfl rfl rfl ?_
 refine wS ?_
 refine wL (OpA.p ?_)
 refine zab ?_
 exact ⟨(Cov.asg ⟨rfl, rfl, rfl, rfl, rfl, rfl, rfl, rfl, rfl, rfl, rfl, rfl, rfl, rfl, rfl, rfl, rfl, (congrArg D.b (Eq.symm (orS (orS (orN b183 b184))))), trivial⟩), (.refl _)⟩
 refine wG (OpA.fieldAddr rfl tf208_0 rfl ?_)
 refine wG (OpA.load rfl ti3 rfl .head rfl rfl ?_)
 refine wG (OpA.fieldAddr rfl tf208_0 rfl ?_)
 refine wG (OpA.load rfl ti3 rfl (.tail .head) rfl rfl ?_)
 refine wG (OpA.eql rfl rfl rfl ?_)
 refine wG (OpA.m ?_)
 refine zam (s := 122) rfl (fun b185 => ?_) (fun b185 => ?_)
 refine wG (OpA.fieldAddr rfl tf208_1 rfl ?_)
 refine wG (OpA.load rfl ti3 rfl .head rfl rfl ?_)
 refine wG (OpA.fieldAddr rfl tf208_1 rfl ?_)
 refine wG (OpA.load rfl ti3 rfl (.tail .head) rfl rfl ?_)
 refine wG (OpA.lss rfl rfl rfl ?_)
 refine wG (OpA.p ?_)
 refine wL (OpA.p ?_)
 refine wL (OpA.m ?_)
 refine zam (s := 130) rfl (fun b186 => ?_) (fun b186 => ?_)
 iterate 3 refine wS ?_
 iterate 10 refine wpL_skipU rfl rfl rfl rfl rfl ?_
 refine wS ?_
 refine wL (OpA.p ?_)
 refine zab ?_
 exact ⟨(Cov.asg ⟨rfl, rfl, rfl, rfl, rfl, rfl, rfl, rfl, rfl, rfl, rfl, rfl, rfl, rfl, rfl, rfl, rfl, (congrArg D.b (Eq.symm (orS (orN (orN b183 b184) (andN b185 b186))))), trivial⟩), (.refl _)⟩
 refine wG (OpA.m ?_)
 refine wG (OpA.geq rfl rfl rfl ?_)
 refine wG (OpA.m ?_)
 refine zam (s := 133) rfl (fun b187 => ?_) (fun b187 => ?_)
 refine wG (OpA.fieldAddr rfl tf208_0 rfl ?_)
 refine wG (OpA.load rfl ti3 rfl .head rfl rfl ?_)
 refine wG (OpA.m ?_)
 refine wG (OpA.neq rfl rfl rfl ?_)
 refine wG (OpA.m ?_)
 refine zam (s := 138) rfl (fun b188 => ?_) (fun b188 => ?_)
 iterate 4 refine wS ?_
 iterate 2 refine wG (OpA.p ?_)
 refine wL (OpA.p ?_)
 refine zab ?_
 exact ⟨(Cov.asg ⟨rfl, rfl, rfl, rfl, rfl, rfl, rfl, rfl, rfl, rfl, rfl, rfl, rfl, rfl, rfl, rfl, rfl, (congrArg D.b (Eq.symm (orN (orN (orN b183 b184) (andN b185 b186)) (andN b187 (orS b188))))), trivial⟩), (.refl _)⟩
 refine wG (OpA.fieldAddr rfl tf208_0 rfl ?_)
 refine wG (OpA.load rfl ti3 rfl (.tail .head) rfl rfl ?_)
 refine wG (OpA.m ?_)
 refine wG (OpA.eql rfl rfl rfl ?_)
 iterate 2 refine wG (OpA.p ?_)
 refine wL (OpA.p ?_)
 refine zab ?_
 exact ⟨(Cov.asg ⟨rfl, rfl, rfl, rfl, rfl, rfl, rfl, rfl, rfl, rfl, rfl, rfl, rfl, rfl, rfl, rfl, rfl, (congrArg D.b (Eq.symm (orN (orN (orN b183 b184) (andN b185 b186)) (andN b187 (orN b188 rfl))))), trivial⟩), (.refl _)⟩
 iterate 5 refine wS ?_
 iterate 4 refine wpL_skipU rfl rfl rfl rfl rfl ?_
 refine wS ?_
 refine wG (OpA.p ?_)
 refine wL (OpA.p ?_)
 refine zab ?_
 exact ⟨(Cov.asg ⟨rfl, rfl, rfl, rfl, rfl, rfl, rfl, rfl, rfl, rfl, rfl, rfl, rfl, rfl, rfl, rfl, rfl, (congrArg D.b (Eq.symm (orN (orN (orN b183 b184) (andN b185 b186)) (andS b187)))), trivial⟩), (.refl _)⟩
 iterate 5 refine wS ?_
 refine wG (OpA.p ?_)
 refine wL (OpA.p ?_)
 refine wL (OpA.m ?_)
 refine wG (OpA.m ?_)
 refine wG (OpA.geq rfl rfl rfl ?_)
 refine wG (OpA.m ?_)
 refine zam (s := 133) rfl (fun b189 => ?_) (fun b189 => ?_)
 refine wG (OpA.fieldAddr rfl tf208_0 rfl ?_)
 refine wG (OpA.load rfl ti3 rfl .head rfl rfl ?_)
 refine wG (OpA.m ?_)
 refine wG (OpA.neq rfl rfl rfl ?_)
 refine wG (OpA.m ?_)
 refine zam (s := 138) rfl (fun b190 => ?_) (fun b190 => ?_)
 iterate 4 refine wS ?_
 iterate 2 refine wG (OpA.p ?_)
 refine wL (OpA.p ?_)
 refine zab ?_
 exact ⟨(Cov.asg ⟨rfl, rfl, rfl, rfl, rfl, rfl, rfl, rfl, rfl, rfl, rfl, rfl, rfl, rfl, rfl, rfl, rfl, (congrArg D.b (Eq.symm (orN (orN (orN b183 b184) (andS b185)) (andN b189 (orS b190))))), trivial⟩), (.refl _)⟩
 refine wG (OpA.fieldAddr rfl tf208_0 rfl ?_)
 refine wG (OpA.load rfl ti3 rfl (.tail .head) rfl rfl ?_)
 refine wG (OpA.m ?_)
 refine wG (OpA.eql rfl rfl rfl ?_)
 iterate 2 refine wG (OpA.p ?_)
 refine wL (OpA.p ?_)
 refine zab ?_
 exact ⟨(Cov.asg ⟨rfl, rfl, rfl, rfl, rfl, rfl, rfl, rfl, rfl, rfl, rfl, rfl, rfl, rfl, rfl, rfl, rfl, (congrArg D.b (Eq.symm (orN (orN (orN b183 b184) (andS b185)) (andN b189 (orN b190 rfl))))), trivial⟩), (.refl _)⟩
 iterate 5 refine wS ?_
 iterate 4 refine wpL_skipU rfl rfl rfl rfl rfl ?_
 refine wS ?_
 refine wG (OpA.p ?_)
 refine wL (OpA.p ?_)
 refine zab ?_
 exact ⟨(Cov.asg ⟨rfl, rfl, rfl, rfl, rfl, rfl, rfl, rfl, rfl, rfl, rfl, rfl, rfl, rfl, rfl, rfl, rfl, (congrArg D.b (Eq.symm (orN (orN (orN b183 b184) (andS b185)) (andS b189)))), trivial⟩), (.refl _)⟩
 show wpA _ _ _ _ _ _
 refine zae rfl (fun b181 => ?_) (fun b181 => ?_)
 have h := h.1 ((or0 b181).imp (fun hh => ((or0 hh).imp (fun hh => ((or0 hh).imp (fun hh => hh) (fun hh => (decT hh)))) (fun hh => ⟨(beqT (and1 hh)), (decT (and2 hh))⟩))) (fun hh => ⟨(decT (and1 hh)), ((or0 (and2 hh)).imp (fun hh => (bneT hh)) (fun hh => (beqT hh)))⟩))
 refine wpA_exit ?_
 obtain ⟨q1, h⟩ := h
 refine zaa ?_
 refine wL (OpA.addi rfl rfl rfl q1 ?_)
 refine wL (OpA.m ?_)
 refine zab ?_
 exact ⟨(), (m_322, m_312, (x4 + 1)), h, cvZ, (.cons _ (.refl _))⟩
 have h := h.2 ⟨⟨⟨(or1 (or1 (or1 b181))), (decF (or2 (or1 (or1 b181))))⟩, ((and0 (or2 (or1 b181))).imp (fun hh => (beqF hh)) (fun hh => (decF hh)))⟩, ((and0 (or2 b181)).imp (fun hh => (decF hh)) (fun hh => ⟨(bneF (or1 hh)), (beqF (or2 hh))⟩))⟩
 refine zai (zac ?_)
 obtain ⟨q1, q2, h⟩ := h
 refine zaa (wL (OpA.m ?_))
 refine wL (OpA.load_whole rfl ti208 rfl rfl (.tail .head) rfl ⟨_, rfl⟩ ?_)
 refine wL (OpA.load_whole rfl ti208 rfl rfl .head rfl ⟨_, rfl⟩ ?_)
 refine wL (OpA.callH rfl rfl rfl en118 (h1 := [(c3, .cells 4 [.agg ([(encL 2 zak) texts, D.i ((k + w) - 1), .map c1, .map c2])]), (c1, .raw (mapK kf241 vI m_312)), (c2, .raw (mapK kf84 vU m_322))]) (h2 := [(c180, .cells 2 [zad (gi (mget [] m_35 ((gi (gi prints x2) x3).hash)) x4)]), (c177, .cells 2 [zad (ClonePlace.mk x2 ((gi (gi prints x2) x3).at_))]), (c176, .cells 2 [zaj (gi (gi prints x2) x3)]), (cb38, .cells 1 (winL (encL 2 zaj) pre38 prints post38)), (c4, .map (smF 2 zad m_35))]) (pull5.trans (.cons _ (pull6.trans (.cons _ pull5)))) (klook_c texts ((k + w) - 1) m_312 m_322 c3 c1 c2 (ClonePlace.mk x2 ((gi (gi prints x2) x3).at_)) (gi (mget [] m_35 ((gi (gi prints x2) x3).hash)) x4) q1 q2) ?_)
 rintro _ _ ⟨_, rfl, rfl⟩
 refine wpL_perm (h' := [(c180, .cells 2 [zad (gi (mget [] m_35 ((gi (gi prints x2) x3).hash)) x4)]), (c177, .cells 2 [zad (ClonePlace.mk x2 ((gi (gi prints x2) x3).at_))]), (c176, .cells 2 [zaj (gi (gi prints x2) x3)]), (cb38, .cells 1 (winL (encL 2 zaj) pre38 prints post38)), (c4, .map (smF 2 zad m_35)), (c3, .cells 4 [.agg ([(encL 2 zak) texts, D.i ((k + w) - 1), .map c1, .map c2])]), (c2, .raw (mapK kf84 vU ((lookF texts ((k + w) - 1) m_312 m_322 (ClonePlace.mk x2 ((gi (gi prints x2) x3).at_)) (gi (mget [] m_35 ((gi (gi prints x2) x3).hash)) x4)).2))), (c1, .raw (mapK kf241 vI ((lookF texts ((k + w) - 1) m_312 m_322 (ClonePlace.mk x2 ((gi (gi prints x2) x3).at_)) (gi (mget [] m_35 ((gi (gi prints x2) x3).hash)) x4)).1)))]) (pull3.trans (.cons _ (pull3.trans (.cons _ (pull3.trans (.cons _ (pull3.trans (.cons _ (pull3.trans (.cons _ (.cons _ pull1))))))))))) ?_
 refine zab (zac (zaa (wL (OpA.m ?_))))
 refine wL (OpA.nc rfl zW (.inl ⟨_, _, _, _, rfl⟩) ?_)
 refine wL (OpA.fieldAddr rfl tf198_3 rfl ?_)
 refine wL (OpA.load rfl ti196 rfl (.tail (.tail (.tail (.tail (.tail .head))))) rfl rfl ?_)
 refine wL (OpA.mlenK (kf := kf84) (vf := vU) (l := ((lookF texts ((k + w) - 1) m_312 m_322 (ClonePlace.mk x2 ((gi (gi prints x2) x3).at_)) (gi (mget [] m_35 ((gi (gi prints x2) x3).hash)) x4)).2)) rfl rfl rfl rfl td196 rfl (.tail (.tail (.tail (.tail (.tail (.tail .head)))))) ?_)
 refine wL (OpA.gtr rfl rfl rfl ?_)
 refine zab ?_
 refine zae rfl (fun b182 => ?_) (fun b182 => ?_)
 have h := h.1 (decT b182)
 refine zac (zaa ?_)
 iterate 2 refine wL (OpA.a ?_)
 refine zab (zal ?_)
 exact ⟨_, (.tmp (d := .v (.slice none 0 0)) rfl (.tmp (d := D.i 10) rfl .nil)), _, (.tup (.nilv (sz := 5) (.same rfl .nil)) .nil), ⟨([], 10), rfl, h⟩⟩
 have h := h.2 (decF b182)
 refine zai ?_
 obtain ⟨q1, h⟩ := h
 refine zaa ?_
 refine wL (OpA.addi rfl rfl rfl q1 ?_)
 refine wL (OpA.m ?_)
 refine zab ?_
 exact ⟨(), (((lookF texts ((k + w) - 1) m_312 m_322 (ClonePlace.mk x2 ((gi (gi prints x2) x3).at_)) (gi (mget [] m_35 ((gi (gi prints x2) x3).hash)) x4)).2), ((lookF texts ((k + w) - 1) m_312 m_322 (ClonePlace.mk x2 ((gi (gi prints x2) x3).at_)) (gi (mget [] m_35 ((gi (gi prints x2) x3).hash)) x4)).1), (x4 + 1)), h, cvZ, (.cons _ (.refl _))⟩
 have h := h.2 (decF b179)
 refine wpA_exit ?_
 obtain ⟨q1, h⟩ := h
 refine zaa ?_
 refine wL (OpA.addi rfl rfl rfl q1 ?_)
 refine wL (OpA.m ?_)
 refine zab ?_
 exact ⟨(), (m_322, m_312, (x3 + 1)), h, cvZ, (.cons _ (.cons _ (.refl _)))⟩
 have h := h.2 (decF b175)
 refine wpA_exit ?_
 obtain ⟨q1, h⟩ := h
 refine zaa ?_
 refine wL (OpA.addi rfl rfl rfl q1 ?_)
 refine wL (OpA.m ?_)
 refine zab ?_
 exact ⟨(), (m_321, m_311, (x2 + 1)), h, cvZ, (.refl _)⟩
 have h := h.2 (decF b173)
 refine wpA_exit ?_
 refine zac (zaa ?_)
 refine wL (OpA.asnG (T := Clone) (enc := encClone) (sz := 5) rfl rfl (fun c24_g191 => ?_))
 refine zab ?_
 iterate 2 refine zac ?_
 refine zaa (wL (OpA.m ?_))
 refine wL (OpA.nc rfl zW (.inl ⟨_, _, _, _, rfl⟩) ?_)
 refine wL (OpA.fieldAddr rfl tf198_3 rfl ?_)
 refine wL (OpA.load rfl ti196 rfl (.tail (.tail (.tail .head))) rfl rfl ?_)
 refine wL (OpA.rangeMapK (kf := kf84) (vf := vU) (l := m_32) rfl td196 rfl (.tail (.tail (.tail (.tail .head)))) (fun c192 => ?_))
 refine zab (zag ?_)
 refine wpA_lfp (S := (List Nat) × (List Clone)) (G := Nat × List D × List D) (c24_g191, ([] : List D), ([] : List D)) (fun gg ss => asg [(8, .v (.slice none 0 0)), (9, D.i 0), (24, .own gg.1 5 gg.2.1.length ss.2.length), (163, .ptr c192 1 0 0)]) (fun gg ss => [(c192, .raw (itO c2 m_32.length ss.1)), (gg.1, .cells 5 (winL encClone gg.2.1 ss.2 gg.2.2)), (cb38, .cells 1 (winL (encL 2 zaj) pre38 prints post38)), (c4, .map (smF 2 zad m_35)), (c3, .cells 4 [.agg ([(encL 2 zak) texts, D.i ((k + w) - 1), .map c1, .map c2])]), (c2, .raw (mapK kf84 vU m_32)), (c1, .raw (mapK kf241 vI m_31))]) h cvZ (.refl _) ?_
 rintro again193 ⟨cb24, pre24, post24⟩ ⟨seen, out⟩ h
 have h : kclones_L6 m_32 Q again193 seen out := h
 unfold kclones_L6 at h
 show wpA _ _ _ _ _ _
 refine zac (zaa ?_)
 refine wL (OpA.nextMapK (kf := kf84) (vf := vU) (kd := encClone) (vd := encU) (l := m_32) (seen := seen) pk84 plain_u rfl rfl (.tail (.tail (.tail (.tail (.tail .head))))) (fun _ => .head) (fun b194 => ?_) (fun at_ b195 b196 => ?_))
 have h := h.1 b194
 refine wL (OpA.extract rfl rfl rfl ?_)
 refine zab (zac ?_)
 refine wpA_condF rfl ?_
 refine wpA_exit ?_
 refine zac ?_
 obtain ⟨q1, h⟩ := h
 refine zaa (wL (OpA.m ?_))
 refine wL (OpA.sortW (enc := encClone) (encV := valClone) Tryz.sortClone Tryz.isAgg84 Tryz.sizeOf84 (fun _ => rfl) valClone_one (fun _ => rfl) (cf := cloneCmp) (xs := out) rfl rfl rfl rfl en119 rfl rfl rfl en120 (fun a b => @kcompare_c flYes a b) (sort0C_c [] 120 [] [] cloneCmp (fun _ _ => True) en120 (fun a b _ => kcompare_c a b) rfl) q1 (.tail .head) ?_)
 refine zab (zac (zaa (wL (OpA.m ?_))))
 iterate 2 refine wL (OpA.a ?_)
 refine zab ?_
 refine wpA_cov (fr0 := asg [(8, .own cb24 5 pre24.length (sortF cloneCmp out).length), (9, D.i 0), (24, .own cb24 5 pre24.length (sortF cloneCmp out).length), (163, .ptr c192 1 0 0), (164, .tup [D.b false]), (165, D.b false), (172, .own cb24 5 pre24.length (sortF cloneCmp out).length), (173, .tup []), (174, .own cb24 5 pre24.length (sortF cloneCmp out).length)]) (Cov.asg ⟨(congrArg (D.own cb24 5 pre24.length) (by simp only [si_length, sortF_len cloneCmp_swo] <;> rfl)), rfl, (congrArg (D.own cb24 5 pre24.length) (by simp only [si_length, sortF_len cloneCmp_swo] <;> rfl)), rfl, rfl, rfl, (congrArg (D.own cb24 5 pre24.length) (by simp only [si_length, sortF_len cloneCmp_swo] <;> rfl)), rfl, (congrArg (D.own cb24 5 pre24.length) (by simp only [si_length, sortF_len cloneCmp_swo] <;> rfl)), trivial⟩) ?_
 refine zal ?_
 exact ⟨_, (.tmp (d := .own cb24 5 pre24.length (sortF cloneCmp out).length) rfl (.tmp (d := D.i 0) rfl .nil)), _, (.tup (.win (.tail .head) (by intro hf; cases hf) (.same rfl .nil)) .nil), ⟨((sortF cloneCmp out), 0), rfl, h⟩⟩
 have h := h.2 at_ b195 b196
 refine wL (OpA.extract rfl rfl rfl ?_)
 refine zab (zac ?_)
 refine wpA_condT rfl ?_
 refine zai (zag (zac (zaa ?_)))
 refine wL (OpA.entryK (kf := kf84) (vf := vU) (kd := encClone) (vd := encU) (l := m_32) (k := at_) pk84 plain_u rfl rfl (.tail (.tail (.tail (.tail (.tail .head))))) .head b195 ?_)
 refine wL (OpA.extract rfl rfl rfl ?_)
 refine wL (OpA.alloc (sz := 5) (d := encClone (Clone.mk 0 0 0 0 0)) rfl tz84 (fun _ _ => .agg (.cons (.v _) (.cons (.v _) (.cons (.v _) (.cons (.v _) (.cons (.v _) .nil)))))) (.of rfl) (fun c197 _ => ?_))
 refine wE (OpA.storeW rfl ti84 rfl zW (.of rfl) rfl rfl .head ?_)
 refine zab ?_
 obtain ⟨q1, h⟩ := h
 refine zaa (wL (OpA.m ?_))
 refine wL (OpA.load_whole rfl ti84 rfl rfl .head rfl ⟨_, rfl⟩ ?_)
 refine wL (OpA.ibuildSliceO rfl ts77 rfl (.cons (.of (sz := 5) rfl) .nil) (by decide) ?_)
 refine wL (OpA.appendW (enc := encClone) rfl rfl rfl rfl ts77 rfl (fun _ _ => (.tail (.tail .head))) (.list (ys := ([(gi m_32 (at_ : Int)).1] : List Clone))) q1 (fun c198 pre199 => ?_))
 refine wL (OpA.a ?_)
 refine zab ?_
 exact ⟨(c198, pre199, ([] : List D)), ((seen ++ [at_]), (out ++ ([(gi m_32 (at_ : Int)).1] : List Clone))), h, cvZ, (.cons _ (.refl _))⟩
theorem kclones_c (texts : (List Text)) (k : Int) (w : Int) (only_ : Int) (hp0 : okTs texts) (hp1 : ∀ t_ ∈ texts, validT t_ = true) (hp2 : sizeF k = true) (hp3 : sizeF w = true) (hp4 : inI only_) : Fun false Tryz.prog 72 [(encL 2 zak) texts, D.i k, D.i w, D.i only_] (fun d => d = .tup [(encL 5 encClone) ((clonesF texts k w only_).1), D.i ((clonesF texts k w only_).2)]) :=
 Fun.at (enc := fun r => .tup [(encL 5 encClone) (r.1), D.i (r.2)]) (v := clonesF texts k w only_) (kclones_w texts k w only_  (fun r => r = clonesF texts k w only_) (kclones_ok texts k w only_ _ hp0 hp1 hp2 hp3 hp4 rfl))
set_option maxHeartbeats 2000000 in
set_option maxRecDepth 10000 in
theorem kfind_w (l : (List Text)) (k : Int) (w : Int) (Q : (List Clone) × Int → Prop) (h : kfind_vc l k w Q) : Fun false Tryz.prog 28 [(encL 2 zak) l, D.i k, D.i w] (fun d => ∃ r, d = .tup [(encL 5 encClone) (r.1), D.i (r.2)] ∧ Q r) := by
 unfold kfind_vc at h
 refine Fun.of_body Tryz.func28 rfl Tryz.ntmps28 rfl ?_
 refine zac (zaa ?_)
 refine wL (OpA.asnN (T := Clone) (enc := encClone) (sz := 5) rfl rfl ?_)
 refine wL (OpA.a ?_)
 refine zab ?_
 iterate 2 refine zac ?_
 obtain ⟨q1, h⟩ := h
 refine zaa (wL (OpA.m ?_))
 refine wL (OpA.call rfl rfl rfl en76 (kright_c l q1) ?_)
 rintro _ rfl
 refine wL (OpA.not rfl rfl ?_)
 refine zab ?_
 refine zae rfl (fun b1 => ?_) (fun b1 => ?_)
 have h := h.1 (notT b1)
 refine zac (zaa ?_)
 refine wL (OpA.asnN (T := Clone) (enc := encClone) (sz := 5) rfl rfl ?_)
 refine wL (OpA.a ?_)
 refine zab (zal ?_)
 exact ⟨_, (.tmp (d := (encL 5 encClone) ([] : List Clone)) rfl (.tmp (d := D.i 1) rfl .nil)), _, (.tup (.same rfl (.same rfl .nil)) .nil), ⟨(([] : List Clone), 1), rfl, h⟩⟩
 have h := h.2 (notF b1)
 refine zai ?_
 iterate 2 refine zac ?_
 refine zaa ?_
 iterate 2 refine wL (OpA.m ?_)
 refine wL (OpA.call rfl rfl rfl en77 (wguar_c k w ) ?_)
 rintro _ rfl
 refine wL (OpA.m ?_)
 iterate 2 refine wL (OpA.extract rfl rfl rfl ?_)
 iterate 2 refine wL (OpA.a ?_)
 refine zab (zac (zaa (wL (OpA.m ?_))))
 refine wL (OpA.neq rfl rfl rfl ?_)
 refine zab ?_
 refine zae rfl (fun b2 => ?_) (fun b2 => ?_)
 have h := h.1 (bneT b2)
 refine zac (zaa ?_)
 refine wL (OpA.asnN (T := Clone) (enc := encClone) (sz := 5) rfl rfl ?_)
 refine wL (OpA.a ?_)
 refine zab (zal ?_)
 exact ⟨_, (.tmp (d := (encL 5 encClone) ([] : List Clone)) rfl (.tmp (d := D.i 3) rfl .nil)), _, (.tup (.same rfl (.same rfl .nil)) .nil), ⟨(([] : List Clone), 3), rfl, h⟩⟩
 have h := h.2 (bneF b2)
 refine zai (zac ?_)
 obtain ⟨q1, q2, q3, q4, q5, h⟩ := h
 refine zaa ?_
 iterate 3 refine wL (OpA.m ?_)
 refine wL (OpA.call rfl rfl rfl en72 (kclones_c l k w (-1) q1 q2 q3 q4 q5) ?_)
 rintro _ rfl
 iterate 2 refine wL (OpA.extract rfl rfl rfl ?_)
 iterate 2 refine wL (OpA.a ?_)
 refine zab (zal ?_)
 exact ⟨_, (.tmp (d := (encL 5 encClone) ((clonesF l k w (-1)).1)) rfl (.tmp (d := D.i ((clonesF l k w (-1)).2)) rfl .nil)), _, (.tup (.same rfl (.same rfl .nil)) .nil), ⟨((clonesF l k w (-1)).1, (clonesF l k w (-1)).2), rfl, h⟩⟩
theorem kfind_c (l : (List Text)) (k : Int) (w : Int) (hp0 : okTs l) : Fun false Tryz.prog 28 [(encL 2 zak) l, D.i k, D.i w] (fun d => d = .tup [(encL 5 encClone) ((findC l k w).1), D.i ((findC l k w).2)]) :=
 Fun.at (enc := fun r => .tup [(encL 5 encClone) (r.1), D.i (r.2)]) (v := findC l k w) (kfind_w l k w  (fun r => r = findC l k w) (kfind_ok l k w _ hp0 rfl))
end Go.Proofs.YtkifpidbpoghlaaGreatDoor
