/-
  walks and contracts
-/
import Derived.Test.YtkifpidbpoghlaaGreatDoorU2
set_option maxRecDepth 10000
set_option maxHeartbeats 2000000
set_option linter.all false
namespace Go.Proofs.YtkifpidbpoghlaaGreatDoor
open Go Go.Lic Go.Sort Go.Proofs
attribute [local irreducible] addP alCheck alPair alignR applyF applyP atoiO badR blankF boundF checkP classF cloneCmp clonesF cmpI codeF commonP costP countF digB fewTs fewW findC zan frontF gramsF guarF hashF hexP hunkB indexF itoaF joinS joinT keepB keptF lenF lexL linesP zaf lookF makeP mul64F mulP nlB normF noteF orF partF patchB pathF potF powF printsF pushF rightL rollF selectF sizeF sizesP splitF splitG stopB sumP validT wordB wordsL
theorem bflush_w (b : PatchBuilder) (c_b : Nat) (c_b1 : Nat) (pre_b : List D) (post_b : List D) (c_b2 : Nat) (pre_b1 : List D) (post_b1 : List D) (Q : PatchBuilder → Prop) (h : bflush_vc b Q) : CallH Tryz.prog 80 [.ptr c_b 3 0 0] [(c_b, .cells 3 [.agg ([.own c_b1 3 pre_b.length b.hunks.length, D.i b.drop, .own c_b2 1 pre_b1.length b.add.length])]), (c_b1, .cells 3 (winL encHunk pre_b b.hunks post_b)), (c_b2, .cells 1 (winL D.s pre_b1 b.add post_b1))] (fun d h' => ∃ (r : PatchBuilder) (g : Nat × List D × List D × Nat × List D × List D), d = .tup [] ∧ h' = [(c_b, .cells 3 [.agg ([.own g.1 3 g.2.1.length r.hunks.length, D.i r.drop, .own g.2.2.2.1 1 g.2.2.2.2.1.length r.add.length])]), (g.1, .cells 3 (winL encHunk g.2.1 r.hunks g.2.2.1)), (g.2.2.2.1, .cells 1 (winL D.s g.2.2.2.2.1 r.add g.2.2.2.2.2))] ∧ Q r) := by
 unfold bflush_vc at h
 refine CallH.of_bodyP Tryz.func80 rfl Tryz.ntmps80 rfl ?_
 refine wpA_cl ?_
 iterate 2 refine zac ?_
 refine zaa (wL (OpA.m ?_))
 refine wL (OpA.nc rfl zW (.inl ⟨_, _, _, _, rfl⟩) ?_)
 refine wL (OpA.fieldAddr rfl tf96_1 rfl ?_)
 refine wL (OpA.load rfl ti3 rfl .head rfl rfl ?_)
 refine wL (OpA.gtr rfl rfl rfl ?_)
 refine zab ?_
 refine wpA_join (S := (List Hunk)) (G := Nat × List D × List D) (fun gg ss => asg [(0, .ptr c_b 3 0 0)]) (fun gg ss => [(c_b, .cells 3 [.agg ([.own gg.1 3 gg.2.1.length ss.length, D.i b.drop, .own c_b2 1 pre_b1.length b.add.length])]), (gg.1, .cells 3 (winL encHunk gg.2.1 ss gg.2.2)), (c_b2, .cells 1 (winL D.s pre_b1 b.add post_b1))]) (fun ss => bflush_J1 b Q ss) ?_ ?_
 refine zae rfl (fun b6 => ?_) (fun b6 => ?_)
 have h := h.1 (decT b6)
 obtain ⟨q1, h⟩ := h
 refine wpA_drawF [0] (m := 11) mo zK (fun _ _ _ hx => hx) rfl ?_
 iterate 2 refine dL (OpA.m ⟨rfl, rfl⟩) ?_
 refine dL (OpA.nc rfl zW (.inl ⟨_, _, _, _, rfl⟩) ⟨rfl, rfl⟩) ?_
 refine dL (OpA.fieldAddr rfl tf96_0 rfl ⟨rfl, rfl⟩) ?_
 refine dL (OpA.load rfl ti32 rfl .head rfl rfl ⟨rfl, rfl⟩) ?_
 refine dL (OpA.m ⟨rfl, rfl⟩) ?_
 refine dL (OpA.nc rfl zW (.inl ⟨_, _, _, _, rfl⟩) ⟨rfl, rfl⟩) ?_
 refine dL (OpA.fieldAddr rfl tf96_1 rfl ⟨rfl, rfl⟩) ?_
 refine dL (OpA.load rfl ti3 rfl .head rfl rfl ⟨rfl, rfl⟩) ?_
 refine dL (OpA.buildO (zs := [.v (.int .i64 0), .v (.int .i64 0), .v (.slice none 0 0)]) rfl tp118 tz118 (fun _ _ => (.cons (.v _) (.cons (.v _) (.cons (.v _) .nil)))) (.cons (.of (sz := 1) rfl) (.cons (.of (sz := 1) rfl) .nil)) rfl ⟨rfl, rfl⟩) ?_
 refine dL (OpA.told (s := 16) (d := .agg ([D.i 2, D.i b.drop, .v (.slice none 0 0)])) (d' := encHunk (Hunk.mk 2 b.drop ([] : List ByteArray))) rfl (.agg (.same rfl (.same rfl (.nilv (sz := 1) .nil))) .nil) (OpA.ibuildSliceO rfl ts32 rfl (.cons (.of (sz := 3) rfl) .nil) (by decide) ⟨rfl, rfl⟩)) ?_
 refine DetK.nil ?_
 refine wL (OpA.appendW (enc := encHunk) rfl rfl rfl rfl ts32 rfl (fun _ _ => (.tail .head)) (.list (ys := ([(Hunk.mk 2 b.drop [])] : List Hunk))) q1 (fun c7 pre8 => ?_))
 refine wL (OpA.nc rfl zW (.inl ⟨_, _, _, _, rfl⟩) ?_)
 refine wL (OpA.fieldAddr rfl tf96_0 rfl ?_)
 refine wE (OpA.store (e' := .agg ([.own c7 3 pre8.length (b.hunks ++ ([(Hunk.mk 2 b.drop [])] : List Hunk)).length, D.i b.drop, .own c_b2 1 pre_b1.length b.add.length])) rfl ti32 rfl (.of rfl) rfl (Nat.le_of_ble_eq_true rfl) rfl .head ?_)
 refine zab ?_
 exact ⟨(c7, pre8, ([] : List D)), (b.hunks ++ ([(Hunk.mk 2 b.drop [])] : List Hunk)), h, cvZ, (.refl _)⟩
 have h := h.2 (decF b6)
 refine zai ?_
 exact ⟨(c_b1, pre_b, post_b), b.hunks, h, cvZ, (.refl _)⟩
 rintro ⟨cbb_hunks, preb_hunks, postb_hunks⟩ xs h
 have h : bflush_J1 b Q xs := h
 unfold bflush_J1 at h
 show wpA _ _ _ _ _ _
 iterate 2 refine zac ?_
 refine zaa (wL (OpA.m ?_))
 refine wL (OpA.nc rfl zW (.inl ⟨_, _, _, _, rfl⟩) ?_)
 refine wL (OpA.fieldAddr rfl tf96_2 rfl ?_)
 refine wL (OpA.load rfl ti25 rfl .head rfl rfl ?_)
 refine wL (OpA.len rfl rfl rfl rfl ts25.desc (.inr (.inl ⟨_, _, _, rfl⟩)) ?_)
 refine wL (OpA.gtr rfl rfl rfl ?_)
 refine zab ?_
 refine zae rfl (fun b1 => ?_) (fun b1 => ?_)
 have h := h.1 (decT b1)
 refine wpA_freezeB (es := [.agg ([.own cbb_hunks 3 preb_hunks.length xs.length, D.i b.drop, .own c_b2 1 pre_b1.length b.add.length])]) (es' := [.agg ([.own cbb_hunks 3 preb_hunks.length xs.length, D.i b.drop, (encL 1 D.s) b.add])]) pull2 (.same rfl (.same rfl (.win (enc := D.s) .head (by intro hf; cases hf) .nil))) (fun d hd => by rcases List.mem_singleton.1 hd with rfl; exact .of rfl) rfl ?_
 obtain ⟨q1, h⟩ := h
 refine wpA_drawF [0] (m := 16) mo zK (fun _ _ _ hx => hx) rfl ?_
 iterate 2 refine dL (OpA.m ⟨rfl, rfl⟩) ?_
 refine dL (OpA.nc rfl zW (.inl ⟨_, _, _, _, rfl⟩) ⟨rfl, rfl⟩) ?_
 refine dL (OpA.fieldAddr rfl tf96_0 rfl ⟨rfl, rfl⟩) ?_
 refine dL (OpA.load rfl ti32 rfl .head rfl rfl ⟨rfl, rfl⟩) ?_
 refine dL (OpA.m ⟨rfl, rfl⟩) ?_
 refine dL (OpA.nc rfl zW (.inl ⟨_, _, _, _, rfl⟩) ⟨rfl, rfl⟩) ?_
 refine dL (OpA.fieldAddr rfl tf96_2 rfl ⟨rfl, rfl⟩) ?_
 refine dL (OpA.load rfl ti25 rfl .head rfl rfl ⟨rfl, rfl⟩) ?_
 refine dL (OpA.len rfl rfl rfl rfl ts25.desc (.inl ⟨_, _, rfl, (List.length_map _).symm⟩) ⟨rfl, rfl⟩) ?_
 refine dL (OpA.m ⟨rfl, rfl⟩) ?_
 refine dL (OpA.nc rfl zW (.inl ⟨_, _, _, _, rfl⟩) ⟨rfl, rfl⟩) ?_
 refine dL (OpA.fieldAddr rfl tf96_2 rfl ⟨rfl, rfl⟩) ?_
 refine dL (OpA.load rfl ti25 rfl .head rfl rfl ⟨rfl, rfl⟩) ?_
 refine dL (OpA.buildO (zs := [.v (.int .i64 0), .v (.int .i64 0), .v (.slice none 0 0)]) rfl tp118 tz118 (fun _ _ => (.cons (.v _) (.cons (.v _) (.cons (.v _) .nil)))) (.cons (.of (sz := 1) rfl) (.cons (.of (sz := 1) rfl) (.cons (.of (sz := 1) rfl) .nil))) rfl ⟨rfl, rfl⟩) ?_
 refine dL (OpA.ibuildSliceO rfl ts32 rfl (.cons (.of (sz := 3) rfl) .nil) (by decide) ⟨rfl, rfl⟩) ?_
 refine DetK.nil ?_
 refine wL (OpA.appendW (enc := encHunk) rfl rfl rfl rfl ts32 rfl (fun _ _ => (.tail .head)) (.list (ys := ([(Hunk.mk 3 (b.add.length : Int) b.add)] : List Hunk))) q1 (fun c2 pre3 => ?_))
 refine wL (OpA.nc rfl zW (.inl ⟨_, _, _, _, rfl⟩) ?_)
 refine wL (OpA.fieldAddr rfl tf96_0 rfl ?_)
 refine wE (OpA.store (e' := .agg ([.own c2 3 pre3.length (xs ++ ([(Hunk.mk 3 (b.add.length : Int) b.add)] : List Hunk)).length, D.i b.drop, (encL 1 D.s) b.add])) rfl ti32 rfl (.of rfl) rfl (Nat.le_of_ble_eq_true rfl) rfl .head ?_)
 refine zab (zaa ?_)
 iterate 2 refine wL (OpA.m ?_)
 refine wL (OpA.nc rfl zW (.inl ⟨_, _, _, _, rfl⟩) ?_)
 refine wL (OpA.fieldAddr rfl tf96_1 rfl ?_)
 refine wE (OpA.store (e' := .agg ([.own c2 3 pre3.length (xs ++ ([(Hunk.mk 3 (b.add.length : Int) b.add)] : List Hunk)).length, D.i 0, (encL 1 D.s) b.add])) rfl ti3 rfl (.of rfl) rfl (Nat.le_of_ble_eq_true rfl) rfl .head ?_)
 refine wL (OpA.nc rfl zW (.inl ⟨_, _, _, _, rfl⟩) ?_)
 refine wL (OpA.fieldAddr rfl tf96_2 rfl ?_)
 refine wE (OpA.store (e' := .agg ([.own c2 3 pre3.length (xs ++ ([(Hunk.mk 3 (b.add.length : Int) b.add)] : List Hunk)).length, D.i 0, .v (.slice none 0 0)])) rfl ti25 rfl (.of rfl) rfl (Nat.le_of_ble_eq_true rfl) rfl .head ?_)
 refine zab ?_
 refine cl_ghostM (c := c_b) (sz1 := 3) (sz := 1) (es' := fun g4 => [.agg ([.own c2 3 pre3.length (xs ++ ([(Hunk.mk 3 (b.add.length : Int) b.add)] : List Hunk)).length, D.i 0, .own g4 1 ([] : List D).length ([] : List ByteArray).length])]) (fun _ => .head) (fun _ => (.same (.same (.turn .nil)))) (fun _ => rfl) (fun _ => by rintro d (_ | ⟨_, hd⟩); exact .of rfl; cases hd) (fun g4 => ?_)
 refine cl_of ?_
 exact ⟨_, .nil, [(c_b, .cells 3 [.agg ([.own c2 3 pre3.length (xs ++ ([(Hunk.mk 3 (b.add.length : Int) b.add)] : List Hunk)).length, D.i 0, .own g4 1 ([] : List D).length ([] : List ByteArray).length])]), (c2, .cells 3 (winL encHunk pre3 (xs ++ ([(Hunk.mk 3 (b.add.length : Int) b.add)] : List Hunk)) ([] : List D))), (g4, .cells 1 (winL D.s ([] : List D) ([] : List ByteArray) ([] : List D)))], [(c_b, .cells 3 [.agg ([.own c2 3 pre3.length (xs ++ ([(Hunk.mk 3 (b.add.length : Int) b.add)] : List Hunk)).length, D.i 0, .own g4 1 ([] : List D).length ([] : List ByteArray).length])]), (c2, .cells 3 (winL encHunk pre3 (xs ++ ([(Hunk.mk 3 (b.add.length : Int) b.add)] : List Hunk)) ([] : List D))), (g4, .cells 1 (winL D.s ([] : List D) ([] : List ByteArray) ([] : List D)))], (pull1.trans (.cons _ pull1)), (.refl _), (PatchBuilder.mk (xs ++ ([(Hunk.mk 3 (b.add.length : Int) b.add)] : List Hunk)) 0 ([] : List ByteArray)), (c2, pre3, ([] : List D), g4, ([] : List D), ([] : List D)), rfl, rfl, h⟩
 have h := h.2 (decF b1)
 refine zai (zaa ?_)
 iterate 2 refine wL (OpA.m ?_)
 refine wL (OpA.nc rfl zW (.inl ⟨_, _, _, _, rfl⟩) ?_)
 refine wL (OpA.fieldAddr rfl tf96_1 rfl ?_)
 refine wE (OpA.store (e' := .agg ([.own cbb_hunks 3 preb_hunks.length xs.length, D.i 0, .own c_b2 1 pre_b1.length b.add.length])) rfl ti3 rfl (.of rfl) rfl (Nat.le_of_ble_eq_true rfl) rfl .head ?_)
 refine wL (OpA.nc rfl zW (.inl ⟨_, _, _, _, rfl⟩) ?_)
 refine wL (OpA.fieldAddr rfl tf96_2 rfl ?_)
 refine wE (OpA.store (e' := .agg ([.own cbb_hunks 3 preb_hunks.length xs.length, D.i 0, .v (.slice none 0 0)])) rfl ti25 rfl (.of rfl) rfl (Nat.le_of_ble_eq_true rfl) rfl .head ?_)
 refine zab ?_
 refine cl_ghostM (c := c_b) (sz1 := 3) (sz := 1) (es' := fun g5 => [.agg ([.own cbb_hunks 3 preb_hunks.length xs.length, D.i 0, .own g5 1 ([] : List D).length ([] : List ByteArray).length])]) (fun _ => .head) (fun _ => (.same (.same (.turn .nil)))) (fun _ => rfl) (fun _ => by rintro d (_ | ⟨_, hd⟩); exact .of rfl; cases hd) (fun g5 => ?_)
 refine cl_of ?_
 exact ⟨_, .nil, [(c_b, .cells 3 [.agg ([.own cbb_hunks 3 preb_hunks.length xs.length, D.i 0, .own g5 1 ([] : List D).length ([] : List ByteArray).length])]), (cbb_hunks, .cells 3 (winL encHunk preb_hunks xs postb_hunks)), (g5, .cells 1 (winL D.s ([] : List D) ([] : List ByteArray) ([] : List D))), (c_b2, .cells 1 (winL D.s pre_b1 b.add post_b1))], [(c_b, .cells 3 [.agg ([.own cbb_hunks 3 preb_hunks.length xs.length, D.i 0, .own g5 1 ([] : List D).length ([] : List ByteArray).length])]), (cbb_hunks, .cells 3 (winL encHunk preb_hunks xs postb_hunks)), (g5, .cells 1 (winL D.s ([] : List D) ([] : List ByteArray) ([] : List D)))], (pull1.trans (.cons _ pull1)), (.cons₂ _ (.cons₂ _ (.cons₂ _ (.cons _ (.refl _))))), (PatchBuilder.mk xs 0 ([] : List ByteArray)), (cbb_hunks, preb_hunks, postb_hunks, g5, ([] : List D), ([] : List D)), rfl, rfl, h⟩
theorem bflush_c (b : PatchBuilder) (c_b : Nat) (c_b1 : Nat) (pre_b : List D) (post_b : List D) (c_b2 : Nat) (pre_b1 : List D) (post_b1 : List D) (hp0 : okBl b) : CallH Tryz.prog 80 [.ptr c_b 3 0 0] [(c_b, .cells 3 [.agg ([.own c_b1 3 pre_b.length b.hunks.length, D.i b.drop, .own c_b2 1 pre_b1.length b.add.length])]), (c_b1, .cells 3 (winL encHunk pre_b b.hunks post_b)), (c_b2, .cells 1 (winL D.s pre_b1 b.add post_b1))] (fun d h' => ∃ (g : Nat × List D × List D × Nat × List D × List D), d = .tup [] ∧ h' = [(c_b, .cells 3 [.agg ([.own g.1 3 g.2.1.length ((zan b).hunks).length, D.i ((zan b).drop), .own g.2.2.2.1 1 g.2.2.2.2.1.length ((zan b).add).length])]), (g.1, .cells 3 (winL encHunk g.2.1 ((zan b).hunks) g.2.2.1)), (g.2.2.2.1, .cells 1 (winL D.s g.2.2.2.2.1 ((zan b).add) g.2.2.2.2.2))]) :=
 (bflush_w b c_b c_b1 pre_b post_b c_b2 pre_b1 post_b1  (fun r => r = zan b) (bflush_ok b _ hp0 rfl)).mono (by rintro d h' ⟨r, g, hd, hh, rfl⟩; exact ⟨g, hd, hh⟩)
abbrev bkeep_e0 (b : PatchBuilder) (n : Int) := (si ((zan b).hunks) ((((zan b).hunks).length : Int) - 1) (Hunk.mk ((gi ((zan b).hunks) ((((zan b).hunks).length : Int) - 1)).kind) (((gi ((zan b).hunks) ((((zan b).hunks).length : Int) - 1)).n) + n) ((gi ((zan b).hunks) ((((zan b).hunks).length : Int) - 1)).lines)))
theorem bkeep_w (b : PatchBuilder) (c_b : Nat) (c_b1 : Nat) (pre_b : List D) (post_b : List D) (c_b2 : Nat) (pre_b1 : List D) (post_b1 : List D) (n : Int) (Q : PatchBuilder → Prop) (h : bkeep_vc b n Q) : CallH Tryz.prog 35 [.ptr c_b 3 0 0, D.i n] [(c_b, .cells 3 [.agg ([.own c_b1 3 pre_b.length b.hunks.length, D.i b.drop, .own c_b2 1 pre_b1.length b.add.length])]), (c_b1, .cells 3 (winL encHunk pre_b b.hunks post_b)), (c_b2, .cells 1 (winL D.s pre_b1 b.add post_b1))] (fun d h' => ∃ (r : PatchBuilder) (g : Nat × List D × List D × Nat × List D × List D), d = .tup [] ∧ h' = [(c_b, .cells 3 [.agg ([.own g.1 3 g.2.1.length r.hunks.length, D.i r.drop, .own g.2.2.2.1 1 g.2.2.2.2.1.length r.add.length])]), (g.1, .cells 3 (winL encHunk g.2.1 r.hunks g.2.2.1)), (g.2.2.2.1, .cells 1 (winL D.s g.2.2.2.2.1 r.add g.2.2.2.2.2))] ∧ Q r) := by
 unfold bkeep_vc at h
 refine CallH.of_bodyP Tryz.func35 rfl Tryz.ntmps35 rfl ?_
 iterate 2 refine zac ?_
 refine zaa (wL (OpA.m ?_))
 refine wL (OpA.eql rfl rfl rfl ?_)
 refine zab ?_
 refine zae rfl (fun b1 => ?_) (fun b1 => ?_)
 have h := h.1 (beqT b1)
 refine zal ?_
 exact ⟨_, .nil, [(c_b, .cells 3 [.agg ([.own c_b1 3 pre_b.length b.hunks.length, D.i b.drop, .own c_b2 1 pre_b1.length b.add.length])]), (c_b1, .cells 3 (winL encHunk pre_b b.hunks post_b)), (c_b2, .cells 1 (winL D.s pre_b1 b.add post_b1))], [(c_b, .cells 3 [.agg ([.own c_b1 3 pre_b.length b.hunks.length, D.i b.drop, .own c_b2 1 pre_b1.length b.add.length])]), (c_b1, .cells 3 (winL encHunk pre_b b.hunks post_b)), (c_b2, .cells 1 (winL D.s pre_b1 b.add post_b1))], (.refl _), (.refl _), b, (c_b1, pre_b, post_b, c_b2, pre_b1, post_b1), rfl, rfl, h⟩
 have h := h.2 (beqF b1)
 refine zai (zac ?_)
 obtain ⟨q1, h⟩ := h
 refine zaa (wL (OpA.m ?_))
 refine wL (OpA.callH rfl rfl rfl en80 (h1 := [(c_b, .cells 3 [.agg ([.own c_b1 3 pre_b.length b.hunks.length, D.i b.drop, .own c_b2 1 pre_b1.length b.add.length])]), (c_b1, .cells 3 (winL encHunk pre_b b.hunks post_b)), (c_b2, .cells 1 (winL D.s pre_b1 b.add post_b1))]) (h2 := []) (.refl _) (bflush_c b c_b c_b1 pre_b post_b c_b2 pre_b1 post_b1 q1) ?_)
 rintro _ _ ⟨⟨c2, pre3, post4, c5, pre6, post7⟩, rfl, rfl⟩
 refine zab ?_
 iterate 2 refine zac ?_
 refine zaa (wL (OpA.m ?_))
 refine wL (OpA.nc rfl zW (.inl ⟨_, _, _, _, rfl⟩) ?_)
 refine wL (OpA.fieldAddr rfl tf96_0 rfl ?_)
 refine wL (OpA.load rfl ti32 rfl .head rfl rfl ?_)
 refine wL (OpA.len rfl rfl rfl rfl ts32.desc (.inr (.inl ⟨_, _, _, rfl⟩)) ?_)
 refine wL (OpA.a ?_)
 refine zab (zac ?_)
 obtain ⟨q1, h⟩ := h
 refine wpA_mid (asg [(0, .ptr c_b 3 0 0), (1, D.i n), (4, D.i (((zan b).hunks).length : Int)), (27, D.b ((decide ((((zan b).hunks).length : Int) > 0)) && (((gi ((zan b).hunks) ((((zan b).hunks).length : Int) - 1)).kind) == 1)))]) [(c_b, .cells 3 [.agg ([.own c2 3 pre3.length ((zan b).hunks).length, D.i ((zan b).drop), .own c5 1 pre6.length ((zan b).add).length])]), (c2, .cells 3 (winL encHunk pre3 ((zan b).hunks) post4)), (c5, .cells 1 (winL D.s pre6 ((zan b).add) post7))] ?_ ?_
 refine zaa (wL (OpA.m ?_))
 refine wL (OpA.gtr rfl rfl rfl ?_)
 refine wL (OpA.m ?_)
 refine zam (s := 16) rfl (fun b11 => ?_) (fun b11 => ?_)
 refine wG (OpA.m ?_)
 refine wG (OpA.nc rfl zW (.inl ⟨_, _, _, _, rfl⟩) ?_)
 refine wG (OpA.fieldAddr rfl tf96_0 rfl ?_)
 refine wG (OpA.load rfl ti32 rfl .head rfl rfl ?_)
 refine wG (OpA.m ?_)
 refine wG (OpA.subi rfl rfl rfl (q1 (decT b11)).1 ?_)
 refine wG (OpA.ixV rfl ts32 rfl rfl (q1 (decT b11)).2 ?_)
 refine wG (OpA.fieldAddr rfl tf118_0 rfl ?_)
 refine wG (OpA.load rfl ti3 rfl (.tail .head) (getV (enc := encHunk) (q1 (decT b11)).2) rfl ?_)
 refine wG (OpA.eql rfl rfl rfl ?_)
 refine wL (OpA.p ?_)
 refine zab ?_
 exact ⟨(Cov.asg ⟨rfl, rfl, rfl, (congrArg D.b (Eq.symm (andN b11 rfl))), trivial⟩), (.refl _)⟩
 iterate 10 refine wS ?_
 refine wL (OpA.p ?_)
 refine zab ?_
 exact ⟨(Cov.asg ⟨rfl, rfl, rfl, (congrArg D.b (Eq.symm (andS b11))), trivial⟩), (.refl _)⟩
 show wpA _ _ _ _ _ _
 refine zae rfl (fun b8 => ?_) (fun b8 => ?_)
 have h := h.1 ⟨(decT (and1 b8)), (beqT (and2 b8))⟩
 refine zac ?_
 obtain ⟨q1, q2, q3, h⟩ := h
 refine zaa (wL (OpA.m ?_))
 refine wL (OpA.nc rfl zW (.inl ⟨_, _, _, _, rfl⟩) ?_)
 refine wL (OpA.fieldAddr rfl tf96_0 rfl ?_)
 refine wL (OpA.load rfl ti32 rfl .head rfl rfl ?_)
 refine wL (OpA.m ?_)
 refine wL (OpA.subi rfl rfl rfl q1 ?_)
 refine wL (OpA.ixV rfl ts32 rfl rfl q2 ?_)
 refine wL (OpA.fieldAddr rfl tf118_1 rfl ?_)
 refine wL (OpA.load rfl ti3 rfl (.tail .head) (getV (enc := encHunk) q2) rfl ?_)
 refine wL (OpA.m ?_)
 refine wL (OpA.addi rfl rfl rfl q3 ?_)
 refine wL (OpA.ixV rfl ts32 rfl rfl q2 ?_)
 refine wL (OpA.fieldAddr rfl tf118_1 rfl ?_)
 refine wE (OpA.storeVf (enc := encHunk) (v := (Hunk.mk ((gi ((zan b).hunks) ((((zan b).hunks).length : Int) - 1)).kind) (((gi ((zan b).hunks) ((((zan b).hunks).length : Int) - 1)).n) + n) ((gi ((zan b).hunks) ((((zan b).hunks).length : Int) - 1)).lines))) rfl ti3 rfl (.of rfl) (Nat.le_of_ble_eq_true rfl) rfl q2 (.tail .head) ?_)
 refine zab ?_
 refine wpA_heq (h' := [(c_b, .cells 3 [.agg ([.own c2 3 pre3.length (bkeep_e0 b n).length, D.i ((zan b).drop), .own c5 1 pre6.length ((zan b).add).length])]), (c2, .cells 3 (winL encHunk pre3 (bkeep_e0 b n) post4)), (c5, .cells 1 (winL D.s pre6 ((zan b).add) post7))]) (by simp only [si_length, sortF_len cloneCmp_swo] <;> rfl) ?_
 refine wpA_cov (fr0 := asg [(0, .ptr c_b 3 0 0), (1, D.i n), (4, D.i (((zan b).hunks).length : Int)), (27, D.b ((decide ((((zan b).hunks).length : Int) > 0)) && (((gi ((zan b).hunks) ((((zan b).hunks).length : Int) - 1)).kind) == 1))), (28, .ptr c_b 3 0 0), (29, .ptr c_b 3 0 0), (30, .ptr c_b 3 0 0), (31, .own c2 3 pre3.length (bkeep_e0 b n).length), (32, D.i (((zan b).hunks).length : Int)), (33, D.i ((((zan b).hunks).length : Int) - 1)), (34, .ptr c2 3 (pre3.length + (Int.toNat ((((zan b).hunks).length : Int) - 1))) 0), (35, .ptr c2 3 (pre3.length + (Int.toNat ((((zan b).hunks).length : Int) - 1))) 1), (36, D.i ((gi ((zan b).hunks) ((((zan b).hunks).length : Int) - 1)).n)), (37, D.i n), (38, D.i (((gi ((zan b).hunks) ((((zan b).hunks).length : Int) - 1)).n) + n)), (39, .ptr c2 3 (pre3.length + (Int.toNat ((((zan b).hunks).length : Int) - 1))) 0), (40, .ptr c2 3 (pre3.length + (Int.toNat ((((zan b).hunks).length : Int) - 1))) 1)]) (Cov.asg ⟨rfl, rfl, rfl, rfl, rfl, rfl, rfl, (congrArg (D.own c2 3 pre3.length) (by simp only [si_length, sortF_len cloneCmp_swo] <;> rfl)), rfl, rfl, rfl, rfl, rfl, rfl, rfl, rfl, rfl, trivial⟩) ?_
 refine zal ?_
 exact ⟨_, .nil, [(c_b, .cells 3 [.agg ([.own c2 3 pre3.length (bkeep_e0 b n).length, D.i ((zan b).drop), .own c5 1 pre6.length ((zan b).add).length])]), (c2, .cells 3 (winL encHunk pre3 (bkeep_e0 b n) post4)), (c5, .cells 1 (winL D.s pre6 ((zan b).add) post7))], [(c_b, .cells 3 [.agg ([.own c2 3 pre3.length (bkeep_e0 b n).length, D.i ((zan b).drop), .own c5 1 pre6.length ((zan b).add).length])]), (c2, .cells 3 (winL encHunk pre3 (bkeep_e0 b n) post4)), (c5, .cells 1 (winL D.s pre6 ((zan b).add) post7))], (.refl _), (.refl _), (PatchBuilder.mk (bkeep_e0 b n) ((zan b).drop) ((zan b).add)), (c2, pre3, post4, c5, pre6, post7), rfl, rfl, h⟩
 have h := h.2 ((and0 b8).imp (fun hh => (decF hh)) (fun hh => (beqF hh)))
 refine zai ?_
 obtain ⟨q1, h⟩ := h
 refine zaa ?_
 iterate 2 refine wL (OpA.m ?_)
 refine wL (OpA.nc rfl zW (.inl ⟨_, _, _, _, rfl⟩) ?_)
 refine wL (OpA.fieldAddr rfl tf96_0 rfl ?_)
 refine wL (OpA.load rfl ti32 rfl .head rfl rfl ?_)
 refine wL (OpA.m ?_)
 refine wL (OpA.buildO (zs := [.v (.int .i64 0), .v (.int .i64 0), .v (.slice none 0 0)]) rfl tp118 tz118 (fun _ _ => (.cons (.v _) (.cons (.v _) (.cons (.v _) .nil)))) (.cons (.of (sz := 1) rfl) (.cons (.of (sz := 1) rfl) .nil)) rfl ?_)
 refine wL (OpA.told (s := 47) (d := .agg ([D.i 1, D.i n, .v (.slice none 0 0)])) (d' := encHunk (Hunk.mk 1 n ([] : List ByteArray))) rfl (.agg (.same rfl (.same rfl (.nilv (sz := 1) .nil))) .nil) (OpA.ibuildSliceO rfl ts32 rfl (.cons (.of (sz := 3) rfl) .nil) (by decide) ?_))
 refine wL (OpA.appendW (enc := encHunk) rfl rfl rfl rfl ts32 rfl (fun _ _ => (.tail .head)) (.list (ys := ([(Hunk.mk 1 n [])] : List Hunk))) q1 (fun c9 pre10 => ?_))
 refine wL (OpA.nc rfl zW (.inl ⟨_, _, _, _, rfl⟩) ?_)
 refine wL (OpA.fieldAddr rfl tf96_0 rfl ?_)
 refine wE (OpA.store (e' := .agg ([.own c9 3 pre10.length (((zan b).hunks) ++ ([(Hunk.mk 1 n [])] : List Hunk)).length, D.i ((zan b).drop), .own c5 1 pre6.length ((zan b).add).length])) rfl ti32 rfl (.of rfl) rfl (Nat.le_of_ble_eq_true rfl) rfl .head ?_)
 refine zab ?_
 exact ⟨_, .nil, [(c_b, .cells 3 [.agg ([.own c9 3 pre10.length (((zan b).hunks) ++ ([(Hunk.mk 1 n [])] : List Hunk)).length, D.i ((zan b).drop), .own c5 1 pre6.length ((zan b).add).length])]), (c9, .cells 3 (winL encHunk pre10 (((zan b).hunks) ++ ([(Hunk.mk 1 n [])] : List Hunk)) ([] : List D))), (c5, .cells 1 (winL D.s pre6 ((zan b).add) post7))], [(c_b, .cells 3 [.agg ([.own c9 3 pre10.length (((zan b).hunks) ++ ([(Hunk.mk 1 n [])] : List Hunk)).length, D.i ((zan b).drop), .own c5 1 pre6.length ((zan b).add).length])]), (c9, .cells 3 (winL encHunk pre10 (((zan b).hunks) ++ ([(Hunk.mk 1 n [])] : List Hunk)) ([] : List D))), (c5, .cells 1 (winL D.s pre6 ((zan b).add) post7))], (.refl _), (.refl _), (PatchBuilder.mk (((zan b).hunks) ++ ([(Hunk.mk 1 n [])] : List Hunk)) ((zan b).drop) ((zan b).add)), (c9, pre10, ([] : List D), c5, pre6, post7), rfl, rfl, h⟩
theorem bkeep_c (b : PatchBuilder) (c_b : Nat) (c_b1 : Nat) (pre_b : List D) (post_b : List D) (c_b2 : Nat) (pre_b1 : List D) (post_b1 : List D) (n : Int) (hp0 : okBl b) (hp1 : (0 : Int) ≤ n) (hp2 : n ≤ (1000 : Int)) : CallH Tryz.prog 35 [.ptr c_b 3 0 0, D.i n] [(c_b, .cells 3 [.agg ([.own c_b1 3 pre_b.length b.hunks.length, D.i b.drop, .own c_b2 1 pre_b1.length b.add.length])]), (c_b1, .cells 3 (winL encHunk pre_b b.hunks post_b)), (c_b2, .cells 1 (winL D.s pre_b1 b.add post_b1))] (fun d h' => ∃ (g : Nat × List D × List D × Nat × List D × List D), d = .tup [] ∧ h' = [(c_b, .cells 3 [.agg ([.own g.1 3 g.2.1.length ((keepB b n).hunks).length, D.i ((keepB b n).drop), .own g.2.2.2.1 1 g.2.2.2.2.1.length ((keepB b n).add).length])]), (g.1, .cells 3 (winL encHunk g.2.1 ((keepB b n).hunks) g.2.2.1)), (g.2.2.2.1, .cells 1 (winL D.s g.2.2.2.2.1 ((keepB b n).add) g.2.2.2.2.2))]) :=
 (bkeep_w b c_b c_b1 pre_b post_b c_b2 pre_b1 post_b1 n  (fun r => r = keepB b n) (bkeep_ok b n _ hp0 hp1 hp2 rfl)).mono (by rintro d h' ⟨r, g, hd, hh, rfl⟩; exact ⟨g, hd, hh⟩)
theorem bpatch_w (b : PatchBuilder) (c_b : Nat) (c_b1 : Nat) (pre_b : List D) (post_b : List D) (c_b2 : Nat) (pre_b1 : List D) (post_b1 : List D) (base : ByteArray) (Q : Patch × Int → Prop) (h : bpatch_vc b base Q) : CallH Tryz.prog 36 [.ptr c_b 3 0 0, D.s base] [(c_b, .cells 3 [.agg ([.own c_b1 3 pre_b.length b.hunks.length, D.i b.drop, .own c_b2 1 pre_b1.length b.add.length])]), (c_b1, .cells 3 (winL encHunk pre_b b.hunks post_b)), (c_b2, .cells 1 (winL D.s pre_b1 b.add post_b1))] (fun d h' => ∃ (r : Patch × Int) (g : Unit), d = .tup [encPatch r.1, D.i r.2] ∧ h' = [] ∧ Q r) := by
 unfold bpatch_vc at h
 refine CallH.of_bodyP Tryz.func36 rfl Tryz.ntmps36 rfl ?_
 refine zac (zaa ?_)
 refine wL (OpA.alloc (sz := 2) (d := .agg ([D.s ByteArray.empty, .v (.slice none 0 0)])) rfl tz34 (fun _ _ => .agg (.cons (.v _) (.cons (.v _) .nil))) (.of rfl) (fun c1 _ => ?_))
 refine wL (OpA.a ?_)
 refine zab (zac ?_)
 obtain ⟨q1, h⟩ := h
 refine zaa (wL (OpA.m ?_))
 refine wL (OpA.callH rfl rfl rfl en80 (h1 := [(c_b, .cells 3 [.agg ([.own c_b1 3 pre_b.length b.hunks.length, D.i b.drop, .own c_b2 1 pre_b1.length b.add.length])]), (c_b1, .cells 3 (winL encHunk pre_b b.hunks post_b)), (c_b2, .cells 1 (winL D.s pre_b1 b.add post_b1))]) (h2 := [(c1, .cells 2 [.agg ([D.s ByteArray.empty, .v (.slice none 0 0)])])]) (pull1.trans (.cons _ (pull1.trans (.cons _ pull1)))) (bflush_c b c_b c_b1 pre_b post_b c_b2 pre_b1 post_b1 q1) ?_)
 rintro _ _ ⟨⟨c2, pre3, post4, c5, pre6, post7⟩, rfl, rfl⟩
 refine wpL_perm (h' := [(c1, .cells 2 [.agg ([D.s ByteArray.empty, .v (.slice none 0 0)])]), (c_b, .cells 3 [.agg ([.own c2 3 pre3.length ((zan b).hunks).length, D.i ((zan b).drop), .own c5 1 pre6.length ((zan b).add).length])]), (c2, .cells 3 (winL encHunk pre3 ((zan b).hunks) post4)), (c5, .cells 1 (winL D.s pre6 ((zan b).add) post7))]) pull3 ?_
 refine zab (zac ?_)
 refine wpA_freezeB (es := [.agg ([.own c2 3 pre3.length ((zan b).hunks).length, D.i ((zan b).drop), .own c5 1 pre6.length ((zan b).add).length])]) (es' := [.agg ([(encL 3 encHunk) ((zan b).hunks), D.i ((zan b).drop), .own c5 1 pre6.length ((zan b).add).length])]) (pull2.trans (.cons _ pull1)) (.win (enc := encHunk) .head (by intro hf; cases hf) (.same rfl (.same rfl .nil))) (fun d hd => by rcases List.mem_singleton.1 hd with rfl; exact .of rfl) rfl ?_
 refine zaa ?_
 iterate 2 refine wL (OpA.m ?_)
 refine wL (OpA.nc rfl zW (.inl ⟨_, _, _, _, rfl⟩) ?_)
 refine wL (OpA.fieldAddr rfl tf96_0 rfl ?_)
 refine wL (OpA.load rfl ti32 rfl .head rfl rfl ?_)
 refine wL (OpA.buildO (zs := [.v (.string ⟨#[]⟩), .v (.slice none 0 0)]) rfl tp34 tz34 (fun _ _ => (.cons (.v _) (.cons (.v _) .nil))) (.cons (.of (sz := 1) rfl) (.cons (.of (sz := 1) rfl) .nil)) rfl ?_)
 refine wL (OpA.alloc (sz := 2) (d := .agg ([D.s ByteArray.empty, .v (.slice none 0 0)])) rfl tz34 (fun _ _ => .agg (.cons (.v _) (.cons (.v _) .nil))) (.of rfl) (fun c8 _ => ?_))
 refine wE (OpA.storeW rfl ti34 rfl zW (.of rfl) rfl rfl .head ?_)
 refine zab ?_
 iterate 2 refine zac ?_
 obtain ⟨q1, h⟩ := h
 refine zaa ?_
 refine wL (OpA.load_whole rfl ti34 rfl rfl .head rfl ⟨_, rfl⟩ ?_)
 refine wL (OpA.call rfl rfl rfl en37 (pcheck_c (Patch.mk base ((zan b).hunks)) q1) ?_)
 rintro _ rfl
 refine wL (OpA.m ?_)
 iterate 2 refine wL (OpA.extract rfl rfl rfl ?_)
 iterate 2 refine wL (OpA.a ?_)
 refine zab (zac (zaa (wL (OpA.m ?_))))
 refine wL (OpA.not rfl rfl ?_)
 refine zab ?_
 refine zae rfl (fun b9 => ?_) (fun b9 => ?_)
 have h := h.1 (notT b9)
 refine zac (zaa ?_)
 refine wL (OpA.buildO (zs := [.v (.string ⟨#[]⟩), .v (.slice none 0 0)]) rfl tp34 tz34 (fun _ _ => (.cons (.v _) (.cons (.v _) .nil))) .nil rfl ?_)
 refine wE (OpA.storeW rfl ti34 rfl zW (.of rfl) rfl rfl (.tail (.tail .head)) ?_)
 refine wL (OpA.a ?_)
 refine zab ?_
 refine wpA_ghostM (c := c1) (sz1 := 2) (sz := 3) (es' := fun g10 => [.agg ([D.s ByteArray.empty, .own g10 3 ([] : List D).length ([] : List Hunk).length])]) (fun _ => (.tail (.tail .head))) (fun _ => (.same (.turn .nil))) (fun _ => rfl) (fun _ => by rintro d (_ | ⟨_, hd⟩); exact .of rfl; cases hd) (fun g10 => ?_)
 refine wpA_freezeB (es := [.agg ([D.s ByteArray.empty, .own g10 3 ([] : List D).length ([] : List Hunk).length])]) (es' := [encPatch (Patch.mk ByteArray.empty ([] : List Hunk))]) (.cons _ pull2) (.same rfl (.win (enc := encHunk) .head (by intro hf; cases hf) .nil)) (fun d hd => by rcases List.mem_singleton.1 hd with rfl; exact .of rfl) rfl ?_
 refine zal ?_
 exact ⟨_, (.cell (.whole ti34 rfl rfl .head rfl ⟨_, rfl⟩) (.tmp (d := D.i 10) rfl .nil)), [(c1, .cells 2 [encPatch (Patch.mk ByteArray.empty ([] : List Hunk))]), (c8, .cells 2 [encPatch (Patch.mk base ((zan b).hunks))]), (c_b, .cells 3 [.agg ([(encL 3 encHunk) ((zan b).hunks), D.i ((zan b).drop), .own c5 1 pre6.length ((zan b).add).length])]), (c5, .cells 1 (winL D.s pre6 ((zan b).add) post7))], [], (.refl _), (.cons _ (.cons _ (.cons _ (.cons _ (.refl _))))), ((Patch.mk ByteArray.empty ([] : List Hunk)), 10), (), rfl, rfl, h⟩
 have h := h.2 (notF b9)
 refine zai (zac (zaa ?_))
 refine wL (OpA.load_whole rfl ti34 rfl rfl .head rfl ⟨_, rfl⟩ ?_)
 refine wE (OpA.storeW rfl ti34 rfl zW (.of rfl) rfl rfl (.tail (.tail .head)) ?_)
 refine wL (OpA.a ?_)
 refine zab (zal ?_)
 exact ⟨_, (.cell (.whole ti34 rfl rfl (.tail (.tail .head)) rfl ⟨_, rfl⟩) (.tmp (d := D.i 0) rfl .nil)), [(c8, .cells 2 [encPatch (Patch.mk base ((zan b).hunks))]), (c_b, .cells 3 [.agg ([(encL 3 encHunk) ((zan b).hunks), D.i ((zan b).drop), .own c5 1 pre6.length ((zan b).add).length])]), (c1, .cells 2 [encPatch (Patch.mk base ((zan b).hunks))]), (c5, .cells 1 (winL D.s pre6 ((zan b).add) post7))], [], (.refl _), (.cons _ (.cons _ (.cons _ (.cons _ (.refl _))))), ((Patch.mk base ((zan b).hunks)), 0), (), rfl, rfl, h⟩
theorem bpatch_c (b : PatchBuilder) (c_b : Nat) (c_b1 : Nat) (pre_b : List D) (post_b : List D) (c_b2 : Nat) (pre_b1 : List D) (post_b1 : List D) (base : ByteArray) (hp0 : okBl b) (hp1 : base = (⟨#[]⟩ : ByteArray)) : CallH Tryz.prog 36 [.ptr c_b 3 0 0, D.s base] [(c_b, .cells 3 [.agg ([.own c_b1 3 pre_b.length b.hunks.length, D.i b.drop, .own c_b2 1 pre_b1.length b.add.length])]), (c_b1, .cells 3 (winL encHunk pre_b b.hunks post_b)), (c_b2, .cells 1 (winL D.s pre_b1 b.add post_b1))] (fun d h' => ∃ (g : Unit), d = .tup [encPatch ((patchB b base).1), D.i ((patchB b base).2)] ∧ h' = []) :=
 (bpatch_w b c_b c_b1 pre_b post_b c_b2 pre_b1 post_b1 base  (fun r => r = patchB b base) (bpatch_ok b base _ hp0 hp1 rfl)).mono (by rintro d h' ⟨r, g, hd, hh, rfl⟩; exact ⟨g, hd, hh⟩)
abbrev pcommon_e0 (tab2 : (List (List Int))) (i : Int) (j : Int) := (si tab2 i (si (gi tab2 i) j (gmax (gi (gi tab2 (i + 1)) j) [(gi (gi tab2 i) (j + 1))])))
theorem pcommon_w (a : (List ByteArray)) (b : (List ByteArray)) (Q : (List (List Int)) → Prop) (h : pcommon_vc a b Q) : Fun false Tryz.prog 34 [(encL 1 D.s) a, (encL 1 D.s) b] (fun d => ∃ r, d = (encL 1 (encL 1 D.i)) r ∧ Q r) := by
 unfold pcommon_vc at h
 refine Fun.of_body Tryz.func34 rfl Tryz.ntmps34 rfl ?_
 refine zac (zaa (wL (OpA.a (zab (zac ?_)))))
 obtain ⟨q1, q2, h⟩ := h
 refine zaa (wL (OpA.m ?_))
 refine wL (OpA.len rfl rfl rfl rfl ts25.desc (.inl ⟨_, _, rfl, (List.length_map _).symm⟩) ?_)
 refine wL (OpA.addi rfl rfl rfl q1 ?_)
 refine wL (OpA.mxMake Int D.i 1 (hm := fun c1 gm2 => ((c1, .cells 1 (mxC 1 gm2 0 (List.replicate (Int.toNat ((a.length : Int) + 1)) ([] : List Int)))) :: mxB 1 D.i gm2 0 (List.replicate (Int.toNat ((a.length : Int) + 1)) ([] : List Int)))) rfl ts46 rfl rfl tz41 q2 (fun c1 gm2 => (.cons .here)) (fun c1 gm2 => ?_))
 refine wL (OpA.a ?_)
 refine zab ?_
 iterate 2 refine zac ?_
 refine zaa (wL (OpA.m ?_))
 refine wL (OpA.len rfl rfl rfl rfl ts46.desc (.inr (.inl ⟨_, _, _, rfl⟩)) ?_)
 refine wL (OpA.m ?_)
 refine zab (zag ?_)
 refine wpA_lfp (S := (List (List Int)) × Int) (G := (Nat → Nat)) gm2 (fun gg ss => asg [(0, (encL 1 D.s) a), (1, (encL 1 D.s) b), (4, .v (.slice none 0 0)), (5, .own c1 1 ([] : List D).length ss.1.length), (14, D.i ((List.replicate (Int.toNat ((a.length : Int) + 1)) ([] : List Int)).length : Int)), (15, D.i ss.2)]) (fun gg ss => ((c1, .cells 1 (mxC 1 gg 0 ss.1)) :: mxB 1 D.i gg 0 ss.1)) h cvZ (.refl _) ?_
 rintro again3 gm ⟨tab, x⟩ h
 have h : pcommon_L1 a b Q again3 tab x := h
 unfold pcommon_L1 at h
 show wpA _ _ _ _ _ _
 refine zac (zaa ?_)
 refine wL (OpA.lss rfl rfl rfl ?_)
 refine zab (zac ?_)
 refine zae rfl (fun b4 => ?_) (fun b4 => ?_)
 have h := h.1 (decT b4)
 refine zai (zac (zag (zac (zaa (wL (OpA.m (wL (OpA.a (zab ?_)))))))))
 obtain ⟨q1, q2, q3, h⟩ := h
 refine zaa ?_
 iterate 3 refine wL (OpA.m ?_)
 refine wL (OpA.len rfl rfl rfl rfl ts25.desc (.inl ⟨_, _, rfl, (List.length_map _).symm⟩) ?_)
 refine wL (OpA.addi rfl rfl rfl q1 ?_)
 refine wL (OpA.makeSliceV (enc := D.i) (v0 := 0) rfl ts41 rfl rfl tz3 (fun _ _ => .v _) (.of rfl) q2 (fun c5 => ?_))
 refine wL (OpA.ixV rfl ts46 rfl rfl q3 ?_)
 refine wE (OpA.mxSet (sz := 1) (enc := D.i) (γ := gm) (L := tab) (r := (List.replicate (Int.toNat ((b.length : Int) + 1)) (0 : Int))) rfl ti41 rfl rfl q3 (.refl _) .head (.cons .here) ?_)
 refine zab ?_
 obtain ⟨q1, h⟩ := h
 refine zaa ?_
 refine wL (OpA.addi rfl rfl rfl q1 ?_)
 refine wL (OpA.m ?_)
 refine zab ?_
 exact ⟨(gpn gm (Int.toNat x) c5), ((si tab x (List.replicate (Int.toNat ((b.length : Int) + 1)) (0 : Int))), (x + 1)), h, (Cov.asg ⟨rfl, rfl, rfl, (congrArg (D.own c1 1 ([] : List D).length) (by simp only [si_length, sortF_len cloneCmp_swo] <;> rfl)), rfl, rfl, trivial⟩), (.refl _)⟩
 have h := h.2 (decF b4)
 refine wpA_exit ?_
 iterate 2 refine zac ?_
 obtain ⟨q1, h⟩ := h
 refine zaa (wL (OpA.m ?_))
 refine wL (OpA.len rfl rfl rfl rfl ts25.desc (.inl ⟨_, _, rfl, (List.length_map _).symm⟩) ?_)
 refine wL (OpA.subi rfl rfl rfl q1 ?_)
 refine wL (OpA.a ?_)
 refine zab (zag ?_)
 refine wpA_lfp (S := (List (List Int)) × Int) (G := (Nat → Nat)) gm (fun gg ss => asg [(0, (encL 1 D.s) a), (1, (encL 1 D.s) b), (4, .v (.slice none 0 0)), (5, .own c1 1 ([] : List D).length ss.1.length), (7, D.i ss.2)]) (fun gg ss => ((c1, .cells 1 (mxC 1 gg 0 ss.1)) :: mxB 1 D.i gg 0 ss.1)) h cvZ (.refl _) ?_
 rintro again6 gm1 ⟨tab1, i⟩ h
 have h : pcommon_L2 a b Q again6 tab1 i := h
 unfold pcommon_L2 at h
 show wpA _ _ _ _ _ _
 iterate 2 refine zac ?_
 refine zaa (wL (OpA.m ?_))
 refine wL (OpA.geq rfl rfl rfl ?_)
 refine zab ?_
 refine zae rfl (fun b7 => ?_) (fun b7 => ?_)
 have h := h.1 (decT b7)
 refine zai (zac (zag (zac ?_)))
 obtain ⟨q1, h⟩ := h
 refine zaa (wL (OpA.m ?_))
 refine wL (OpA.len rfl rfl rfl rfl ts25.desc (.inl ⟨_, _, rfl, (List.length_map _).symm⟩) ?_)
 refine wL (OpA.subi rfl rfl rfl q1 ?_)
 refine wL (OpA.a ?_)
 refine zab (zag ?_)
 refine wpA_lfp (S := (List (List Int)) × Int) (G := (Nat → Nat)) gm1 (fun gg ss => asg [(0, (encL 1 D.s) a), (1, (encL 1 D.s) b), (4, .v (.slice none 0 0)), (5, .own c1 1 ([] : List D).length ss.1.length), (7, D.i i), (8, D.i ss.2)]) (fun gg ss => ((c1, .cells 1 (mxC 1 gg 0 ss.1)) :: mxB 1 D.i gg 0 ss.1)) h cvZ (.refl _) ?_
 rintro again8 gm2 ⟨tab2, j⟩ h
 have h : pcommon_L3 a b i again6 again8 tab2 j := h
 unfold pcommon_L3 at h
 show wpA _ _ _ _ _ _
 iterate 2 refine zac ?_
 refine zaa (wL (OpA.m ?_))
 refine wL (OpA.geq rfl rfl rfl ?_)
 refine zab ?_
 refine zae rfl (fun b9 => ?_) (fun b9 => ?_)
 have h := h.1 (decT b9)
 refine zai (zac (zag (zac ?_)))
 obtain ⟨q1, q2, q3, q4, q5, q6, q7, h⟩ := h
 refine wpA_draw (m := 23) mo zK rfl ?_
 iterate 2 refine dL (OpA.m ⟨rfl, rfl⟩) ?_
 refine dL (OpA.ixV rfl ts46 rfl rfl q1 ⟨rfl, rfl⟩) ?_
 refine dL (OpA.load rfl ti41 rfl .head (getMx q1) rfl ⟨rfl, rfl⟩) ?_
 iterate 3 refine dL (OpA.m ⟨rfl, rfl⟩) ?_
 refine dL (OpA.addi rfl rfl rfl q2 ⟨rfl, rfl⟩) ?_
 refine dL (OpA.ixV rfl ts46 rfl rfl q3 ⟨rfl, rfl⟩) ?_
 refine dL (OpA.load rfl ti41 rfl .head (getMx q3) rfl ⟨rfl, rfl⟩) ?_
 refine dL (OpA.m ⟨rfl, rfl⟩) ?_
 refine dL (OpA.ixV rfl ts41 rfl rfl q4 ⟨rfl, rfl⟩) ?_
 refine dL (OpA.load rfl ti3 rfl (mxRow (sz := 1) (enc := D.i) (γ := gm2) (L := tab2) (.cons .here) q3) (getV (enc := D.i) q4) rfl ⟨rfl, rfl⟩) ?_
 iterate 2 refine dL (OpA.m ⟨rfl, rfl⟩) ?_
 refine dL (OpA.ixV rfl ts46 rfl rfl q1 ⟨rfl, rfl⟩) ?_
 refine dL (OpA.load rfl ti41 rfl .head (getMx q1) rfl ⟨rfl, rfl⟩) ?_
 refine dL (OpA.m ⟨rfl, rfl⟩) ?_
 refine dL (OpA.addi rfl rfl rfl q5 ⟨rfl, rfl⟩) ?_
 refine dL (OpA.ixV rfl ts41 rfl rfl q6 ⟨rfl, rfl⟩) ?_
 refine dL (OpA.load rfl ti3 rfl (mxRow (sz := 1) (enc := D.i) (γ := gm2) (L := tab2) (.cons .here) q1) (getV (enc := D.i) q6) rfl ⟨rfl, rfl⟩) ?_
 refine dL (OpA.max (l := [_]) rfl rfl rfl rfl ⟨rfl, rfl⟩) ?_
 refine dL (OpA.ixV rfl ts41 rfl rfl q7 ⟨rfl, rfl⟩) ?_
 refine DetK.nil ?_
 refine wE (OpA.mxPut (sz := 1) (enc := D.i) (γ := gm2) (L := tab2) (i := i) (j := j) (v := (gmax (gi (gi tab2 (i + 1)) j) [(gi (gi tab2 i) (j + 1))])) rfl ti3 rfl rfl (.of rfl) rfl q1 q7 (.cons .here) .head ?_)
 refine zab (zac ?_)
 refine wpA_cov (fr0 := asg [(0, (encL 1 D.s) a), (1, (encL 1 D.s) b), (4, .v (.slice none 0 0)), (5, .own c1 1 ([] : List D).length (pcommon_e0 tab2 i j).length), (7, D.i i), (8, D.i j), (36, D.i j), (37, D.b (decide (j ≥ 0))), (40, .own c1 1 ([] : List D).length (pcommon_e0 tab2 i j).length), (41, D.i i), (42, .ptr c1 1 (([] : List D).length + (Int.toNat i)) 0), (43, .own (gm2 (Int.toNat i)) 1 ([] : List D).length (gi tab2 i).length), (44, D.i j), (45, .own c1 1 ([] : List D).length (pcommon_e0 tab2 i j).length), (46, D.i i), (47, D.i (i + 1)), (48, .ptr c1 1 (([] : List D).length + (Int.toNat (i + 1))) 0), (49, .own (gm2 (Int.toNat (i + 1))) 1 ([] : List D).length (gi tab2 (i + 1)).length), (50, D.i j), (51, .ptr (gm2 (Int.toNat (i + 1))) 1 (([] : List D).length + (Int.toNat j)) 0), (52, D.i (gi (gi tab2 (i + 1)) j)), (53, .own c1 1 ([] : List D).length (pcommon_e0 tab2 i j).length), (54, D.i i), (55, .ptr c1 1 (([] : List D).length + (Int.toNat i)) 0), (56, .own (gm2 (Int.toNat i)) 1 ([] : List D).length (gi tab2 i).length), (57, D.i j), (58, D.i (j + 1)), (59, .ptr (gm2 (Int.toNat i)) 1 (([] : List D).length + (Int.toNat (j + 1))) 0), (60, D.i (gi (gi tab2 i) (j + 1))), (61, D.i (gmax (gi (gi tab2 (i + 1)) j) [(gi (gi tab2 i) (j + 1))])), (62, .ptr (gm2 (Int.toNat i)) 1 (([] : List D).length + (Int.toNat j)) 0)]) (Cov.asg ⟨rfl, rfl, rfl, (congrArg (D.own c1 1 ([] : List D).length) (by simp only [si_length, sortF_len cloneCmp_swo] <;> rfl)), rfl, rfl, rfl, rfl, (congrArg (D.own c1 1 ([] : List D).length) (by simp only [si_length, sortF_len cloneCmp_swo] <;> rfl)), rfl, rfl, rfl, rfl, (congrArg (D.own c1 1 ([] : List D).length) (by simp only [si_length, sortF_len cloneCmp_swo] <;> rfl)), rfl, rfl, rfl, rfl, rfl, rfl, rfl, (congrArg (D.own c1 1 ([] : List D).length) (by simp only [si_length, sortF_len cloneCmp_swo] <;> rfl)), rfl, rfl, rfl, rfl, rfl, rfl, rfl, rfl, rfl, trivial⟩) ?_
 obtain ⟨q1, q2, h⟩ := h
 refine wpA_draw (m := 9) mo zK rfl ?_
 iterate 2 refine dL (OpA.m ⟨rfl, rfl⟩) ?_
 refine dL (OpA.iixV (enc := D.s) rfl ts25 rfl rfl rfl q1 ⟨rfl, rfl⟩) ?_
 refine dL (OpA.iload rfl ti9 rfl rfl ⟨rfl, rfl⟩) ?_
 iterate 2 refine dL (OpA.m ⟨rfl, rfl⟩) ?_
 refine dL (OpA.iixV (enc := D.s) rfl ts25 rfl rfl rfl q2 ⟨rfl, rfl⟩) ?_
 refine dL (OpA.iload rfl ti9 rfl rfl ⟨rfl, rfl⟩) ?_
 refine dL (OpA.seql rfl rfl rfl ⟨rfl, rfl⟩) ?_
 refine DetK.nil ?_
 refine zab ?_
 refine zae rfl (fun b10 => ?_) (fun b10 => ?_)
 have h := h.1 (decT b10)
 obtain ⟨q1, q2, q3, q4, q5, q6, q7, h⟩ := h
 refine wpA_draw (m := 24) mo zK rfl ?_
 iterate 2 refine dL (OpA.m ⟨rfl, rfl⟩) ?_
 refine dL (OpA.ixV rfl ts46 rfl rfl q1 ⟨rfl, rfl⟩) ?_
 refine dL (OpA.load rfl ti41 rfl .head (getMx q1) rfl ⟨rfl, rfl⟩) ?_
 iterate 3 refine dL (OpA.m ⟨rfl, rfl⟩) ?_
 refine dL (OpA.ixV rfl ts46 rfl rfl q1 ⟨rfl, rfl⟩) ?_
 refine dL (OpA.load rfl ti41 rfl .head (getMx q1) rfl ⟨rfl, rfl⟩) ?_
 refine dL (OpA.m ⟨rfl, rfl⟩) ?_
 refine dL (OpA.ixV rfl ts41 rfl rfl q2 ⟨rfl, rfl⟩) ?_
 refine dL (OpA.load rfl ti3 rfl (mxRow (sz := 1) (enc := D.i) (γ := gm2) (L := (pcommon_e0 tab2 i j)) (.cons .here) q1) (getV (enc := D.i) q2) rfl ⟨rfl, rfl⟩) ?_
 iterate 2 refine dL (OpA.m ⟨rfl, rfl⟩) ?_
 refine dL (OpA.addi rfl rfl rfl q3 ⟨rfl, rfl⟩) ?_
 refine dL (OpA.ixV rfl ts46 rfl rfl q4 ⟨rfl, rfl⟩) ?_
 refine dL (OpA.load rfl ti41 rfl .head (getMx q4) rfl ⟨rfl, rfl⟩) ?_
 refine dL (OpA.m ⟨rfl, rfl⟩) ?_
 refine dL (OpA.addi rfl rfl rfl q5 ⟨rfl, rfl⟩) ?_
 refine dL (OpA.ixV rfl ts41 rfl rfl q6 ⟨rfl, rfl⟩) ?_
 refine dL (OpA.load rfl ti3 rfl (mxRow (sz := 1) (enc := D.i) (γ := gm2) (L := (pcommon_e0 tab2 i j)) (.cons .here) q4) (getV (enc := D.i) q6) rfl ⟨rfl, rfl⟩) ?_
 refine dL (OpA.addi rfl rfl rfl q7 ⟨rfl, rfl⟩) ?_
 refine dL (OpA.max (l := [_]) rfl rfl rfl rfl ⟨rfl, rfl⟩) ?_
 refine dL (OpA.ixV rfl ts41 rfl rfl q2 ⟨rfl, rfl⟩) ?_
 refine DetK.nil ?_
 refine wE (OpA.mxPut (sz := 1) (enc := D.i) (γ := gm2) (L := (pcommon_e0 tab2 i j)) (i := i) (j := j) (v := (gmax (gi (gi (pcommon_e0 tab2 i j) i) j) [(1 + (gi (gi (pcommon_e0 tab2 i j) (i + 1)) (j + 1)))])) rfl ti3 rfl rfl (.of rfl) rfl q1 q2 (.cons .here) .head ?_)
 refine zab ?_
 obtain ⟨q1, h⟩ := h
 refine zaa (wL (OpA.m ?_))
 refine wL (OpA.subi rfl rfl rfl q1 ?_)
 refine wL (OpA.a ?_)
 refine zab ?_
 exact ⟨gm2, ((si (pcommon_e0 tab2 i j) i (si (gi (pcommon_e0 tab2 i j) i) j (gmax (gi (gi (pcommon_e0 tab2 i j) i) j) [(1 + (gi (gi (pcommon_e0 tab2 i j) (i + 1)) (j + 1)))]))), (j - 1)), h, (Cov.asg ⟨rfl, rfl, rfl, (congrArg (D.own c1 1 ([] : List D).length) (by simp only [si_length, sortF_len cloneCmp_swo] <;> rfl)), rfl, rfl, trivial⟩), (.refl _)⟩
 have h := h.2 (decF b10)
 refine zai ?_
 obtain ⟨q1, h⟩ := h
 refine zaa (wL (OpA.m ?_))
 refine wL (OpA.subi rfl rfl rfl q1 ?_)
 refine wL (OpA.a ?_)
 refine zab ?_
 exact ⟨gm2, ((pcommon_e0 tab2 i j), (j - 1)), h, cvZ, (.refl _)⟩
 have h := h.2 (decF b9)
 refine wpA_exit ?_
 obtain ⟨q1, h⟩ := h
 refine zaa (wL (OpA.m ?_))
 refine wL (OpA.subi rfl rfl rfl q1 ?_)
 refine wL (OpA.a ?_)
 refine zab ?_
 exact ⟨gm2, (tab2, (i - 1)), h, cvZ, (.refl _)⟩
 have h := h.2 (decF b7)
 refine wpA_exit ?_
 refine zac (zaa (wL (OpA.m (wL (OpA.a (zab ?_))))))
 refine wpA_mxFrz (sz := 1) (enc := D.i) (γ := gm1) (L := tab1) (.cons .here) .head ?_
 refine zal ?_
 exact ⟨_, (.tmp (d := .own c1 1 ([] : List D).length tab1.length) rfl .nil), _, (.win .head (by intro hf; cases hf) .nil), ⟨tab1, rfl, h⟩⟩
theorem pcommon_c (a : (List ByteArray)) (b : (List ByteArray)) (hp0 : a.length ≤ 2000) (hp1 : b.length ≤ 2000) : Fun false Tryz.prog 34 [(encL 1 D.s) a, (encL 1 D.s) b] (fun d => d = (encL 1 (encL 1 D.i)) (commonP a b)) :=
 Fun.at (enc := fun r => (encL 1 (encL 1 D.i)) r) (v := commonP a b) (pcommon_w a b  (fun r => r = commonP a b) (pcommon_ok a b _ hp0 hp1 rfl))
theorem pmake_w (from_ : ByteArray) (to : ByteArray) (Q : Patch × Int → Prop) (h : pmake_vc from_ to Q) : Fun false Tryz.prog 9 [D.s from_, D.s to] (fun d => ∃ r, d = .tup [encPatch (r.1), D.i (r.2)] ∧ Q r) := by
 unfold pmake_vc at h
 refine Fun.of_body Tryz.func9 rfl Tryz.ntmps9 rfl ?_
 refine zac (zaa ?_)
 refine wL (OpA.alloc (sz := 2) (d := .agg ([D.s ByteArray.empty, .v (.slice none 0 0)])) rfl tz34 (fun _ _ => .agg (.cons (.v _) (.cons (.v _) .nil))) (.of rfl) (fun c1 _ => ?_))
 refine wL (OpA.a ?_)
 refine zab (zac ?_)
 obtain ⟨q1, h⟩ := h
 refine zaa (wL (OpA.m ?_))
 refine wL (OpA.call rfl rfl rfl en8 (tlines_c from_ q1) ?_)
 rintro _ rfl
 refine wL (OpA.m ?_)
 iterate 2 refine wL (OpA.extract rfl rfl rfl ?_)
 iterate 2 refine wL (OpA.a ?_)
 refine zab ?_
 iterate 2 refine zac ?_
 refine zaa (wL (OpA.m ?_))
 refine wL (OpA.neq rfl rfl rfl ?_)
 refine zab ?_
 refine zae rfl (fun b2 => ?_) (fun b2 => ?_)
 have h := h.1 (bneT b2)
 refine zac (zaa ?_)
 refine wL (OpA.buildO (zs := [.v (.string ⟨#[]⟩), .v (.slice none 0 0)]) rfl tp34 tz34 (fun _ _ => (.cons (.v _) (.cons (.v _) .nil))) .nil rfl ?_)
 refine wL (OpA.m ?_)
 refine wE (OpA.storeW rfl ti34 rfl zW (.of rfl) rfl rfl .head ?_)
 refine wL (OpA.a ?_)
 refine zab (zal ?_)
 exact ⟨_, (.cell (.whole ti34 rfl rfl .head rfl ⟨_, rfl⟩) (.tmp (d := D.i ((zaf from_).2)) rfl .nil)), _, (.tup (.agg (.same rfl (.nilv (sz := 3) .nil)) (.same rfl .nil)) .nil), ⟨((Patch.mk ByteArray.empty []), (zaf from_).2), rfl, h⟩⟩
 have h := h.2 (bneF b2)
 refine zai (zac ?_)
 obtain ⟨q1, h⟩ := h
 refine zaa (wL (OpA.m ?_))
 refine wL (OpA.call rfl rfl rfl en8 (tlines_c to q1) ?_)
 rintro _ rfl
 refine wL (OpA.m ?_)
 iterate 2 refine wL (OpA.extract rfl rfl rfl ?_)
 iterate 2 refine wL (OpA.a ?_)
 refine zab ?_
 iterate 2 refine zac ?_
 refine zaa (wL (OpA.m ?_))
 refine wL (OpA.neq rfl rfl rfl ?_)
 refine zab ?_
 refine zae rfl (fun b3 => ?_) (fun b3 => ?_)
 have h := h.1 (bneT b3)
 refine zac (zaa ?_)
 refine wL (OpA.buildO (zs := [.v (.string ⟨#[]⟩), .v (.slice none 0 0)]) rfl tp34 tz34 (fun _ _ => (.cons (.v _) (.cons (.v _) .nil))) .nil rfl ?_)
 refine wL (OpA.m ?_)
 refine wE (OpA.storeW rfl ti34 rfl zW (.of rfl) rfl rfl .head ?_)
 refine wL (OpA.a ?_)
 refine zab (zal ?_)
 exact ⟨_, (.cell (.whole ti34 rfl rfl .head rfl ⟨_, rfl⟩) (.tmp (d := D.i ((zaf to).2)) rfl .nil)), _, (.tup (.agg (.same rfl (.nilv (sz := 3) .nil)) (.same rfl .nil)) .nil), ⟨((Patch.mk ByteArray.empty []), (zaf to).2), rfl, h⟩⟩
 have h := h.2 (bneF b3)
 refine zai (zac ?_)
 obtain ⟨q1, q2, h⟩ := h
 refine zaa ?_
 iterate 2 refine wL (OpA.m ?_)
 refine wL (OpA.call rfl rfl rfl en34 (pcommon_c ((zaf from_).1) ((zaf to).1) q1 q2) ?_)
 rintro _ rfl
 refine wL (OpA.a ?_)
 refine zab (zac (zaa ?_))
 refine wL (OpA.alloc (sz := 3) (d := .agg ([.v (.slice none 0 0), D.i 0, .v (.slice none 0 0)])) rfl tz96 (fun _ _ => .agg (.cons (.v _) (.cons (.v _) (.cons (.v _) .nil)))) (.of rfl) (fun c4 _ => ?_))
 refine zab (zac (zaa ?_))
 iterate 2 refine wL (OpA.a ?_)
 refine zab ?_
 iterate 2 refine zac ?_
 obtain ⟨q1, q2, h⟩ := h
 refine zaa (wL (OpA.m ?_))
 refine wL (OpA.iixV (enc := (encL 1 D.i)) rfl ts46 rfl rfl rfl q1 ?_)
 refine wL (OpA.iload rfl ti41 rfl rfl ?_)
 refine wL (OpA.iixV (enc := D.i) rfl ts41 rfl rfl rfl q2 ?_)
 refine wL (OpA.iload rfl ti3 rfl rfl ?_)
 refine wL (OpA.a ?_)
 refine zab (zag ?_)
 refine wpA_ghostM (c := c4) (sz1 := 3) (sz := 3) (es' := fun g5 => [.agg ([.own g5 3 ([] : List D).length ([] : List Hunk).length, D.i 0, .v (.slice none 0 0)])]) (fun _ => .head) (fun _ => (.turn (.same (.same .nil)))) (fun _ => rfl) (fun _ => by rintro d (_ | ⟨_, hd⟩); exact .of rfl; cases hd) (fun g5 => ?_)
 refine wpA_ghostM (c := c4) (sz1 := 3) (sz := 1) (es' := fun g6 => [.agg ([.own g5 3 ([] : List D).length ([] : List Hunk).length, D.i 0, .own g6 1 ([] : List D).length ([] : List ByteArray).length])]) (fun _ => (.tail .head)) (fun _ => (.same (.same (.turn .nil)))) (fun _ => rfl) (fun _ => by rintro d (_ | ⟨_, hd⟩); exact .of rfl; cases hd) (fun g6 => ?_)
 refine wpA_lfp (S := (List ByteArray) × (List Hunk) × Int × Int × Int × Int) (G := Nat × List D × List D × Nat × List D × List D) (g6, ([] : List D), ([] : List D), g5, ([] : List D), ([] : List D)) (fun gg ss => asg [(4, .ptr c1 2 0 0), (5, D.i 0), (6, (encL 1 D.s) ((zaf from_).1)), (8, (encL 1 D.s) ((zaf to).1)), (9, (encL 1 (encL 1 D.i)) (commonP ((zaf from_).1) ((zaf to).1))), (10, .ptr c4 3 0 0), (11, D.i ss.2.2.2.1), (12, D.i ss.2.2.2.2.1), (13, D.i ss.2.2.2.2.2)]) (fun gg ss => [(gg.1, .cells 1 (winL D.s gg.2.1 ss.1 gg.2.2.1)), (gg.2.2.2.1, .cells 3 (winL encHunk gg.2.2.2.2.1 ss.2.1 gg.2.2.2.2.2)), (c4, .cells 3 [.agg ([.own gg.2.2.2.1 3 gg.2.2.2.2.1.length ss.2.1.length, D.i ss.2.2.1, .own gg.1 1 gg.2.1.length ss.1.length])]), (c1, .cells 2 [.agg ([D.s ByteArray.empty, .v (.slice none 0 0)])])]) h cvZ (.refl _) ?_
 rintro again7 ⟨cbgh10x, pregh10x, postgh10x, cbgh10, pregh10, postgh10⟩ ⟨xs, xs1, out_drop, i, j, left⟩ h
 have h : pmake_L1 from_ to Q again7 xs xs1 out_drop i j left := h
 unfold pmake_L1 at h
 show wpA _ _ _ _ _ _
 iterate 2 refine zac ?_
 refine zaa (wL (OpA.m ?_))
 refine wL (OpA.gtr rfl rfl rfl ?_)
 refine zab ?_
 refine zae rfl (fun b8 => ?_) (fun b8 => ?_)
 have h := h.1 (decT b8)
 refine zai (zac (zag ?_))
 refine wpA_scope ?_
 refine zac (zaa ?_)
 iterate 2 refine wL (OpA.m ?_)
 iterate 2 refine wL (OpA.a ?_)
 refine zab (zac ?_)
 refine wpA_label ?_
 refine zac (zag ?_)
 refine wpA_lfp (S := Int × Int) (G := Unit) () (fun gg ss => asg [(4, .ptr c1 2 0 0), (5, D.i 0), (6, (encL 1 D.s) ((zaf from_).1)), (8, (encL 1 D.s) ((zaf to).1)), (9, (encL 1 (encL 1 D.i)) (commonP ((zaf from_).1) ((zaf to).1))), (10, .ptr c4 3 0 0), (11, D.i i), (12, D.i j), (13, D.i left), (14, D.i ss.1), (15, D.i ss.2)]) (fun gg ss => [(cbgh10x, .cells 1 (winL D.s pregh10x xs postgh10x)), (cbgh10, .cells 3 (winL encHunk pregh10 xs1 postgh10)), (c4, .cells 3 [.agg ([.own cbgh10 3 pregh10.length xs1.length, D.i out_drop, .own cbgh10x 1 pregh10x.length xs.length])]), (c1, .cells 2 [.agg ([D.s ByteArray.empty, .v (.slice none 0 0)])])]) h cvZ (.refl _) ?_
 rintro again9 _ ⟨x, y⟩ h
 have h : pmake_L2 from_ to xs xs1 out_drop i j left again7 again9 x y := h
 unfold pmake_L2 at h
 show wpA _ _ _ _ _ _
 refine zac (zag (zac (zaa (wL (OpA.m (wL (OpA.a (zab (zag ?_)))))))))
 refine wpA_lfp (S := Int) (G := Unit) () (fun gg ss => asg [(4, .ptr c1 2 0 0), (5, D.i 0), (6, (encL 1 D.s) ((zaf from_).1)), (8, (encL 1 D.s) ((zaf to).1)), (9, (encL 1 (encL 1 D.i)) (commonP ((zaf from_).1) ((zaf to).1))), (10, .ptr c4 3 0 0), (11, D.i i), (12, D.i j), (13, D.i left), (14, D.i x), (15, D.i ss)]) (fun gg ss => [(cbgh10x, .cells 1 (winL D.s pregh10x xs postgh10x)), (cbgh10, .cells 3 (winL encHunk pregh10 xs1 postgh10)), (c4, .cells 3 [.agg ([.own cbgh10 3 pregh10.length xs1.length, D.i out_drop, .own cbgh10x 1 pregh10x.length xs.length])]), (c1, .cells 2 [.agg ([D.s ByteArray.empty, .v (.slice none 0 0)])])]) h cvZ (.refl _) ?_
 rintro again10 _ y1 h
 have h : pmake_L3 from_ to xs xs1 out_drop i j left x again7 again9 again10 y1 := h
 unfold pmake_L3 at h
 show wpA _ _ _ _ _ _
 iterate 2 refine zac ?_
 refine zaa ?_
 iterate 2 refine wL (OpA.m ?_)
 refine wL (OpA.len rfl rfl rfl rfl ts25.desc (.inl ⟨_, _, rfl, (List.length_map _).symm⟩) ?_)
 refine wL (OpA.lss rfl rfl rfl ?_)
 refine zab ?_
 refine zae rfl (fun b11 => ?_) (fun b11 => ?_)
 have h := h.1 (decT b11)
 refine zai (zac (zag (zac ?_)))
 obtain ⟨q1, q2, q3, h⟩ := h
 refine wpA_mid (asg [(4, .ptr c1 2 0 0), (5, D.i 0), (6, (encL 1 D.s) ((zaf from_).1)), (8, (encL 1 D.s) ((zaf to).1)), (9, (encL 1 (encL 1 D.i)) (commonP ((zaf from_).1) ((zaf to).1))), (10, .ptr c4 3 0 0), (11, D.i i), (12, D.i j), (13, D.i left), (14, D.i x), (15, D.i y1), (79, D.b ((decide ((gi ((zaf from_).1) x) = (gi ((zaf to).1) y1))) && ((1 + (gi (gi (commonP ((zaf from_).1) ((zaf to).1)) (x + 1)) (y1 + 1))) == left)))]) [(cbgh10x, .cells 1 (winL D.s pregh10x xs postgh10x)), (cbgh10, .cells 3 (winL encHunk pregh10 xs1 postgh10)), (c4, .cells 3 [.agg ([.own cbgh10 3 pregh10.length xs1.length, D.i out_drop, .own cbgh10x 1 pregh10x.length xs.length])]), (c1, .cells 2 [.agg ([D.s ByteArray.empty, .v (.slice none 0 0)])])] ?_ ?_
 refine wpA_draw (m := 23) mo zK rfl ?_
 iterate 2 refine dL (OpA.m ⟨rfl, rfl⟩) ?_
 refine dL (OpA.iixV (enc := D.s) rfl ts25 rfl rfl rfl q1 ⟨rfl, rfl⟩) ?_
 refine dL (OpA.iload rfl ti9 rfl rfl ⟨rfl, rfl⟩) ?_
 iterate 2 refine dL (OpA.m ⟨rfl, rfl⟩) ?_
 refine dL (OpA.iixV (enc := D.s) rfl ts25 rfl rfl rfl q2 ⟨rfl, rfl⟩) ?_
 refine dL (OpA.iload rfl ti9 rfl rfl ⟨rfl, rfl⟩) ?_
 refine dL (OpA.seql rfl rfl rfl ⟨rfl, rfl⟩) ?_
 refine dL (OpA.m ⟨rfl, rfl⟩) ?_
 refine DetK_split (s := 66) rfl (fun b21 => ?_) (fun b21 => ?_)
 iterate 2 refine dG (OpA.m ⟨rfl, rfl⟩) ?_
 refine dG (OpA.addi rfl rfl rfl (q3 (decT b21)).1 ⟨rfl, rfl⟩) ?_
 refine dG (OpA.iixV (enc := (encL 1 D.i)) rfl ts46 rfl rfl rfl (q3 (decT b21)).2.1 ⟨rfl, rfl⟩) ?_
 refine dG (OpA.iload rfl ti41 rfl rfl ⟨rfl, rfl⟩) ?_
 refine dG (OpA.m ⟨rfl, rfl⟩) ?_
 refine dG (OpA.addi rfl rfl rfl (q3 (decT b21)).2.2.1 ⟨rfl, rfl⟩) ?_
 refine dG (OpA.iixV (enc := D.i) rfl ts41 rfl rfl rfl (q3 (decT b21)).2.2.2.1 ⟨rfl, rfl⟩) ?_
 refine dG (OpA.iload rfl ti3 rfl rfl ⟨rfl, rfl⟩) ?_
 refine dG (OpA.addi rfl rfl rfl (q3 (decT b21)).2.2.2.2 ⟨rfl, rfl⟩) ?_
 refine dG (OpA.m ⟨rfl, rfl⟩) ?_
 refine dG (OpA.eql rfl rfl rfl ⟨rfl, rfl⟩) ?_
 refine dL (OpA.p ⟨rfl, rfl⟩) ?_
 refine DetK.nil ?_
 refine zab ?_
 exact ⟨(Cov.asg ⟨rfl, rfl, rfl, rfl, rfl, rfl, rfl, rfl, rfl, rfl, rfl, (congrArg D.b (Eq.symm (andN b21 rfl))), trivial⟩), (.refl _)⟩
 iterate 12 refine dS ?_
 refine dL (OpA.p ⟨rfl, rfl⟩) ?_
 refine DetK.nil ?_
 refine zab ?_
 exact ⟨(Cov.asg ⟨rfl, rfl, rfl, rfl, rfl, rfl, rfl, rfl, rfl, rfl, rfl, (congrArg D.b (Eq.symm (andS b21))), trivial⟩), (.refl _)⟩
 show wpA _ _ _ _ _ _
 refine zae rfl (fun b12 => ?_) (fun b12 => ?_)
 have h := h.1 ⟨(decT (and1 b12)), (beqT (and2 b12))⟩
 refine wpA_exit ?_
 refine zac ?_
 obtain ⟨q1, q2, h⟩ := h
 refine zaa ?_
 refine wL (OpA.fieldAddr rfl tf96_1 rfl ?_)
 refine wL (OpA.load rfl ti3 rfl (.tail (.tail .head)) rfl rfl ?_)
 iterate 2 refine wL (OpA.m ?_)
 refine wL (OpA.subi rfl rfl rfl q1 ?_)
 refine wL (OpA.addi rfl rfl rfl q2 ?_)
 refine wL (OpA.fieldAddr rfl tf96_1 rfl ?_)
 refine wE (OpA.store (e' := .agg ([.own cbgh10 3 pregh10.length xs1.length, D.i (out_drop + (x - i)), .own cbgh10x 1 pregh10x.length xs.length])) rfl ti3 rfl (.of rfl) rfl (Nat.le_of_ble_eq_true rfl) rfl (.tail (.tail .head)) ?_)
 refine zab (zac ?_)
 obtain ⟨q1, q2, h⟩ := h
 refine wpA_draw (m := 6) mo zK rfl ?_
 refine dL (OpA.fieldAddr rfl tf96_2 rfl ⟨rfl, rfl⟩) ?_
 refine dL (OpA.load rfl ti25 rfl (.tail (.tail .head)) rfl rfl ⟨rfl, rfl⟩) ?_
 iterate 3 refine dL (OpA.m ⟨rfl, rfl⟩) ?_
 refine dL (OpA.isliceV (enc := D.s) rfl ts25 rfl (.some rfl) (.some rfl) q1 ⟨rfl, rfl⟩) ?_
 refine DetK.nil ?_
 refine wL (OpA.appendW (enc := D.s) rfl rfl rfl rfl ts25 rfl (fun _ _ => .head) (.list (ys := (lsub ((zaf to).1) j y1))) q2 (fun c13 pre14 => ?_))
 refine wL (OpA.fieldAddr rfl tf96_2 rfl ?_)
 refine wE (OpA.store (e' := .agg ([.own cbgh10 3 pregh10.length xs1.length, D.i (out_drop + (x - i)), .own c13 1 pre14.length (xs ++ (lsub ((zaf to).1) j y1)).length])) rfl ti25 rfl (.of rfl) rfl (Nat.le_of_ble_eq_true rfl) rfl (.tail (.tail .head)) ?_)
 refine zab (zac ?_)
 obtain ⟨q1, q2, q3, h⟩ := h
 refine zaa ?_
 refine wL (OpA.callH rfl rfl rfl en35 (h1 := [(c4, .cells 3 [.agg ([.own cbgh10 3 pregh10.length xs1.length, D.i (out_drop + (x - i)), .own c13 1 pre14.length (xs ++ (lsub ((zaf to).1) j y1)).length])]), (cbgh10, .cells 3 (winL encHunk pregh10 xs1 postgh10)), (c13, .cells 1 (winL D.s pre14 (xs ++ (lsub ((zaf to).1) j y1)) ([] : List D)))]) (h2 := [(c1, .cells 2 [.agg ([D.s ByteArray.empty, .v (.slice none 0 0)])])]) (pull2.trans (.cons _ pull1)) (bkeep_c (PatchBuilder.mk xs1 (out_drop + (x - i)) (xs ++ (lsub ((zaf to).1) j y1))) c4 cbgh10 pregh10 postgh10 c13 pre14 ([] : List D) 1 q1 q2 q3) ?_)
 rintro _ _ ⟨⟨c15, pre16, post17, c18, pre19, post20⟩, rfl, rfl⟩
 refine wpL_perm (h' := [(c18, .cells 1 (winL D.s pre19 ((keepB (PatchBuilder.mk xs1 (out_drop + (x - i)) (xs ++ (lsub ((zaf to).1) j y1))) 1).add) post20)), (c15, .cells 3 (winL encHunk pre16 ((keepB (PatchBuilder.mk xs1 (out_drop + (x - i)) (xs ++ (lsub ((zaf to).1) j y1))) 1).hunks) post17)), (c4, .cells 3 [.agg ([.own c15 3 pre16.length ((keepB (PatchBuilder.mk xs1 (out_drop + (x - i)) (xs ++ (lsub ((zaf to).1) j y1))) 1).hunks).length, D.i ((keepB (PatchBuilder.mk xs1 (out_drop + (x - i)) (xs ++ (lsub ((zaf to).1) j y1))) 1).drop), .own c18 1 pre19.length ((keepB (PatchBuilder.mk xs1 (out_drop + (x - i)) (xs ++ (lsub ((zaf to).1) j y1))) 1).add).length])]), (c1, .cells 2 [.agg ([D.s ByteArray.empty, .v (.slice none 0 0)])])]) (pull2.trans (.cons _ pull1)) ?_
 refine zab ?_
 obtain ⟨q1, q2, h⟩ := h
 refine zaa (wL (OpA.m ?_))
 refine wL (OpA.addi rfl rfl rfl q1 ?_)
 refine wL (OpA.m ?_)
 refine wL (OpA.addi rfl rfl rfl q2 ?_)
 iterate 2 refine wL (OpA.a ?_)
 refine zab ?_
 obtain ⟨q1, h⟩ := h
 refine zaa (wL (OpA.m ?_))
 refine wL (OpA.subi rfl rfl rfl q1 ?_)
 refine wL (OpA.a ?_)
 refine zab ?_
 exact ⟨(c18, pre19, post20, c15, pre16, post17), ((keepB (PatchBuilder.mk xs1 (out_drop + (x - i)) (xs ++ (lsub ((zaf to).1) j y1))) 1).add, (keepB (PatchBuilder.mk xs1 (out_drop + (x - i)) (xs ++ (lsub ((zaf to).1) j y1))) 1).hunks, (keepB (PatchBuilder.mk xs1 (out_drop + (x - i)) (xs ++ (lsub ((zaf to).1) j y1))) 1).drop, (x + 1), (y1 + 1), (left - 1)), h, cvZ, (.refl _)⟩
 have h := h.2 ((and0 b12).imp (fun hh => (decF hh)) (fun hh => (beqF hh)))
 refine zai ?_
 obtain ⟨q1, h⟩ := h
 refine zaa (wL (OpA.m ?_))
 refine wL (OpA.addi rfl rfl rfl q1 ?_)
 refine wL (OpA.a ?_)
 refine zab ?_
 exact ⟨(), (y1 + 1), h, cvZ, (.refl _)⟩
 have h := h.2 (decF b11)
 refine wpA_exit ?_
 obtain ⟨q1, h⟩ := h
 refine zaa (wL (OpA.m ?_))
 refine wL (OpA.addi rfl rfl rfl q1 ?_)
 refine wL (OpA.a ?_)
 refine zab ?_
 exact ⟨(), ((x + 1), y1), h, cvZ, (.refl _)⟩
 have h := h.2 (decF b8)
 refine wpA_exit ?_
 refine zac ?_
 obtain ⟨q1, q2, h⟩ := h
 refine zaa ?_
 refine wL (OpA.fieldAddr rfl tf96_1 rfl ?_)
 refine wL (OpA.load rfl ti3 rfl (.tail (.tail .head)) rfl rfl ?_)
 refine wL (OpA.m ?_)
 refine wL (OpA.len rfl rfl rfl rfl ts25.desc (.inl ⟨_, _, rfl, (List.length_map _).symm⟩) ?_)
 refine wL (OpA.m ?_)
 refine wL (OpA.subi rfl rfl rfl q1 ?_)
 refine wL (OpA.addi rfl rfl rfl q2 ?_)
 refine wL (OpA.fieldAddr rfl tf96_1 rfl ?_)
 refine wE (OpA.store (e' := .agg ([.own cbgh10 3 pregh10.length xs1.length, D.i (out_drop + ((((zaf from_).1).length : Int) - i)), .own cbgh10x 1 pregh10x.length xs.length])) rfl ti3 rfl (.of rfl) rfl (Nat.le_of_ble_eq_true rfl) rfl (.tail (.tail .head)) ?_)
 refine zab (zac ?_)
 obtain ⟨q1, q2, h⟩ := h
 refine wpA_draw (m := 5) mo zK rfl ?_
 refine dL (OpA.fieldAddr rfl tf96_2 rfl ⟨rfl, rfl⟩) ?_
 refine dL (OpA.load rfl ti25 rfl (.tail (.tail .head)) rfl rfl ⟨rfl, rfl⟩) ?_
 iterate 2 refine dL (OpA.m ⟨rfl, rfl⟩) ?_
 refine dL (OpA.isliceV (enc := D.s) rfl ts25 rfl (.some rfl) (.none _) q1 ⟨rfl, rfl⟩) ?_
 refine DetK.nil ?_
 refine wL (OpA.appendW (enc := D.s) rfl rfl rfl rfl ts25 rfl (fun _ _ => .head) (.list (ys := (lsub ((zaf to).1) j (((zaf to).1).length : Int)))) q2 (fun c22 pre23 => ?_))
 refine wL (OpA.fieldAddr rfl tf96_2 rfl ?_)
 refine wE (OpA.store (e' := .agg ([.own cbgh10 3 pregh10.length xs1.length, D.i (out_drop + ((((zaf from_).1).length : Int) - i)), .own c22 1 pre23.length (xs ++ (lsub ((zaf to).1) j (((zaf to).1).length : Int))).length])) rfl ti25 rfl (.of rfl) rfl (Nat.le_of_ble_eq_true rfl) rfl (.tail (.tail .head)) ?_)
 refine zab (zac ?_)
 obtain ⟨q1, q2, h⟩ := h
 refine zaa ?_
 refine wL (OpA.callH rfl rfl rfl en36 (h1 := [(c4, .cells 3 [.agg ([.own cbgh10 3 pregh10.length xs1.length, D.i (out_drop + ((((zaf from_).1).length : Int) - i)), .own c22 1 pre23.length (xs ++ (lsub ((zaf to).1) j (((zaf to).1).length : Int))).length])]), (cbgh10, .cells 3 (winL encHunk pregh10 xs1 postgh10)), (c22, .cells 1 (winL D.s pre23 (xs ++ (lsub ((zaf to).1) j (((zaf to).1).length : Int))) ([] : List D)))]) (h2 := [(c1, .cells 2 [.agg ([D.s ByteArray.empty, .v (.slice none 0 0)])])]) (pull2.trans (.cons _ pull1)) (bpatch_c (PatchBuilder.mk xs1 (out_drop + ((((zaf from_).1).length : Int) - i)) (xs ++ (lsub ((zaf to).1) j (((zaf to).1).length : Int)))) c4 cbgh10 pregh10 postgh10 c22 pre23 ([] : List D) (⟨#[]⟩ : ByteArray) q1 q2) ?_)
 rintro _ _ ⟨_, rfl, rfl⟩
 iterate 2 refine wL (OpA.extract rfl rfl rfl ?_)
 refine wE (OpA.storeW rfl ti34 rfl zW (.of rfl) rfl rfl .head ?_)
 refine wL (OpA.a ?_)
 refine zab (zal ?_)
 exact ⟨_, (.cell (.whole ti34 rfl rfl .head rfl ⟨_, rfl⟩) (.tmp (d := D.i ((patchB (PatchBuilder.mk xs1 (out_drop + ((((zaf from_).1).length : Int) - i)) (xs ++ (lsub ((zaf to).1) j (((zaf to).1).length : Int)))) (⟨#[]⟩ : ByteArray)).2)) rfl .nil)), _, (.tup (.same rfl (.same rfl .nil)) .nil), ⟨(((patchB (PatchBuilder.mk xs1 (out_drop + ((((zaf from_).1).length : Int) - i)) (xs ++ (lsub ((zaf to).1) j (((zaf to).1).length : Int)))) (⟨#[]⟩ : ByteArray)).1), ((patchB (PatchBuilder.mk xs1 (out_drop + ((((zaf from_).1).length : Int) - i)) (xs ++ (lsub ((zaf to).1) j (((zaf to).1).length : Int)))) (⟨#[]⟩ : ByteArray)).2)), rfl, h⟩⟩
theorem pmake_c (from_ : ByteArray) (to : ByteArray) (hp0 : from_.size ≤ 1000) (hp1 : to.size ≤ 1000) (hp2 : (zaf from_).1.length ≤ 40) (hp3 : (zaf to).1.length ≤ 40) : Fun false Tryz.prog 9 [D.s from_, D.s to] (fun d => d = .tup [encPatch ((makeP from_ to).1), D.i ((makeP from_ to).2)]) :=
 Fun.at (enc := fun r => .tup [encPatch (r.1), D.i (r.2)]) (v := makeP from_ to) (pmake_w from_ to  (fun r => r = makeP from_ to) (pmake_ok from_ to _ hp0 hp1 hp2 hp3 rfl))
end Go.Proofs.YtkifpidbpoghlaaGreatDoor
