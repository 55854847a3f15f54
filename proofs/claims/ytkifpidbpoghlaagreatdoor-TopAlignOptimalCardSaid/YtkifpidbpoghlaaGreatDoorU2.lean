/-
  walks and contracts
-/
import Derived.Test.YtkifpidbpoghlaaGreatDoorU1
set_option maxRecDepth 10000
set_option maxHeartbeats 2000000
set_option linter.all false
namespace Go.Proofs.YtkifpidbpoghlaaGreatDoor
open Go Go.Lic Go.Sort Go.Proofs
attribute [local irreducible] addP alCheck alPair alignR applyF applyP atoiO badR blankF boundF checkP classF cloneCmp clonesF cmpI codeF commonP costP countF digB fewTs fewW findC zan frontF gramsF guarF hashF hexP hunkB indexF itoaF joinS joinT keepB keptF lenF lexL linesP zaf lookF makeP mul64F mulP nlB normF noteF orF partF patchB pathF potF powF printsF pushF rightL rollF selectF sizeF sizesP splitF splitG stopB sumP validT wordB wordsL
theorem psizes_w (p : Patch) (Q : Int × Int × Int → Prop) (h : psizes_vc p Q) : Fun false Tryz.prog 38 [encPatch p] (fun d => ∃ r, d = .tup [D.i (r.1), D.i (r.2.1), D.i (r.2.2)] ∧ Q r) := by
 unfold psizes_vc at h
 refine Fun.of_body Tryz.func38 rfl Tryz.ntmps38 rfl ?_
 refine zac (zaa ?_)
 refine wL (OpA.bx (sz := 2) rfl zW (.of rfl) (fun c1 _ => ?_))
 iterate 3 refine wL (OpA.a ?_)
 refine zab ?_
 iterate 2 refine zac ?_
 refine zaa ?_
 refine wL (OpA.fieldAddr rfl tf34_1 rfl ?_)
 refine wL (OpA.load rfl ti32 rfl .head rfl rfl ?_)
 refine wL (OpA.len rfl rfl rfl rfl ts32.desc (.inl ⟨_, _, rfl, (List.length_map _).symm⟩) ?_)
 refine wL (OpA.m ?_)
 refine zab (zag ?_)
 refine wpA_lfp (S := Int × Int × Int × Int) (G := Unit) () (fun gg ss => asg [(2, D.i ss.1), (3, D.i ss.2.1), (4, D.i ss.2.2.1), (8, (encL 3 encHunk) p.hunks), (9, D.i (p.hunks.length : Int)), (10, D.i ss.2.2.2)]) (fun gg ss => [(c1, .cells 2 [encPatch p])]) h cvZ (.refl _) ?_
 rintro again2 _ ⟨keep, drop, add, x⟩ h
 have h : psizes_L1 p Q again2 keep drop add x := h
 unfold psizes_L1 at h
 show wpA _ _ _ _ _ _
 refine zac (zaa ?_)
 refine wL (OpA.lss rfl rfl rfl ?_)
 refine zab (zac ?_)
 refine zae rfl (fun b3 => ?_) (fun b3 => ?_)
 have h := h.1 (decT b3)
 refine zai (zac (zag (zac ?_)))
 obtain ⟨q1, h⟩ := h
 refine zaa ?_
 refine wL (OpA.iixV (enc := encHunk) rfl ts32 rfl rfl rfl q1 ?_)
 refine wL (OpA.iload_whole rfl ti118 rfl ⟨_, rfl, rfl⟩ ?_)
 refine wL (OpA.alloc (sz := 3) (d := .agg ([D.i 0, D.i 0, .v (.slice none 0 0)])) rfl tz118 (fun _ _ => .agg (.cons (.v _) (.cons (.v _) (.cons (.v _) .nil)))) (.of rfl) (fun c4 _ => ?_))
 refine wE (OpA.storeW rfl ti118 rfl zW (.of rfl) rfl rfl .head ?_)
 refine zab (zac (zaa ?_))
 refine wL (OpA.fieldAddr rfl tf118_0 rfl ?_)
 refine wL (OpA.load rfl ti3 rfl .head rfl rfl ?_)
 refine zab (zag (zac (zaa ?_)))
 refine wL (OpA.eql rfl rfl rfl ?_)
 refine wL (OpA.a ?_)
 refine zab ?_
 refine zae rfl (fun b5 => ?_) (fun b5 => ?_)
 have h := h.1 (beqT b5)
 obtain ⟨q1, h⟩ := h
 refine zaa (wL (OpA.m ?_))
 refine wL (OpA.fieldAddr rfl tf118_1 rfl ?_)
 refine wL (OpA.load rfl ti3 rfl .head rfl rfl ?_)
 refine wL (OpA.addi rfl rfl rfl q1 ?_)
 refine wL (OpA.a ?_)
 refine zab ?_
 obtain ⟨q1, h⟩ := h
 refine zaa ?_
 refine wL (OpA.addi rfl rfl rfl q1 ?_)
 refine wL (OpA.m ?_)
 refine zab ?_
 exact ⟨(), ((keep + ((gi p.hunks x).n)), drop, add, (x + 1)), h, cvZ, (.cons _ (.refl _))⟩
 have h := h.2 (beqF b5)
 refine zac (zaa ?_)
 refine wL (OpA.eql rfl rfl rfl ?_)
 refine wL (OpA.a ?_)
 refine zab ?_
 refine zae rfl (fun b6 => ?_) (fun b6 => ?_)
 have h := h.1 (beqT b6)
 obtain ⟨q1, h⟩ := h
 refine zaa (wL (OpA.m ?_))
 refine wL (OpA.fieldAddr rfl tf118_1 rfl ?_)
 refine wL (OpA.load rfl ti3 rfl .head rfl rfl ?_)
 refine wL (OpA.addi rfl rfl rfl q1 ?_)
 refine wL (OpA.a ?_)
 refine zab ?_
 obtain ⟨q1, h⟩ := h
 refine zaa ?_
 refine wL (OpA.addi rfl rfl rfl q1 ?_)
 refine wL (OpA.m ?_)
 refine zab ?_
 exact ⟨(), (keep, (drop + ((gi p.hunks x).n)), add, (x + 1)), h, cvZ, (.cons _ (.refl _))⟩
 have h := h.2 (beqF b6)
 obtain ⟨q1, h⟩ := h
 refine zaa (wL (OpA.m ?_))
 refine wL (OpA.fieldAddr rfl tf118_1 rfl ?_)
 refine wL (OpA.load rfl ti3 rfl .head rfl rfl ?_)
 refine wL (OpA.addi rfl rfl rfl q1 ?_)
 refine wL (OpA.a ?_)
 refine zab ?_
 obtain ⟨q1, h⟩ := h
 refine zaa ?_
 refine wL (OpA.addi rfl rfl rfl q1 ?_)
 refine wL (OpA.m ?_)
 refine zab ?_
 exact ⟨(), (keep, drop, (add + ((gi p.hunks x).n)), (x + 1)), h, cvZ, (.cons _ (.refl _))⟩
 have h := h.2 (decF b3)
 refine wpA_exit ?_
 refine zac (zaa ?_)
 iterate 3 refine wL (OpA.m ?_)
 iterate 3 refine wL (OpA.a ?_)
 refine zab (zal ?_)
 exact ⟨_, (.tmp (d := D.i keep) rfl (.tmp (d := D.i drop) rfl (.tmp (d := D.i add) rfl .nil))), _, (.tup (.same rfl (.same rfl (.same rfl .nil))) .nil), ⟨(keep, drop, add), rfl, h⟩⟩
theorem psizes_c (p : Patch) (hp0 : okP4 p) : Fun false Tryz.prog 38 [encPatch p] (fun d => d = .tup [D.i ((sizesP p).1), D.i ((sizesP p).2.1), D.i ((sizesP p).2.2)]) :=
 Fun.at (enc := fun r => .tup [D.i (r.1), D.i (r.2.1), D.i (r.2.2)]) (v := sizesP p) (psizes_w p  (fun r => r = sizesP p) (psizes_ok p _ hp0 rfl))
theorem phunk1_w (s_ : ByteArray) (Q : Bool → Prop) (h : phunk1_vc s_ Q) : Fun false Tryz.prog 127 [D.s s_] (fun d => ∃ r, d = D.b r ∧ Q r) := by
 unfold phunk1_vc at h
 refine Fun.of_body Tryz.func127 rfl Tryz.ntmps127 rfl ?_
 refine zac (zaa (wL (OpA.a (zab (zac ?_)))))
 obtain ⟨q1, h⟩ := h
 refine zaa (wL (OpA.m ?_))
 refine wL (OpA.call rfl rfl rfl en16 (scont_c s_ (⟨#[10]⟩ : ByteArray) q1) ?_)
 rintro _ rfl
 refine wL (OpA.a ?_)
 refine zab (zal ?_)
 exact ⟨_, (.tmp (d := D.b (decide (0 ≤ indexF s_ (⟨#[10]⟩ : ByteArray)))) rfl .nil), _, (.same rfl .nil), ⟨(decide (0 ≤ indexF s_ (⟨#[10]⟩ : ByteArray))), rfl, h⟩⟩
theorem phunk1_c (s_ : ByteArray)  : Fun false Tryz.prog 127 [D.s s_] (fun d => d = D.b (nlB s_)) :=
 Fun.at (enc := fun r => D.b r) (v := nlB s_) (phunk1_w s_  (fun r => r = nlB s_) (phunk1_ok s_ _  rfl))
theorem phunk_w (h_ : Hunk) (Q : Bool → Prop) (h : phunk_vc h_ Q) : Fun false Tryz.prog 81 [encHunk h_] (fun d => ∃ r, d = D.b r ∧ Q r) := by
 unfold phunk_vc at h
 refine Fun.of_body Tryz.func81 rfl Tryz.ntmps81 rfl ?_
 refine zac (zaa ?_)
 refine wL (OpA.bx (sz := 3) rfl zW (.of rfl) (fun c1 _ => ?_))
 refine wL (OpA.a ?_)
 refine zab ?_
 iterate 2 refine zac ?_
 refine wpA_mid (asg [(1, .ptr c1 3 0 0), (2, D.b false), (20, D.b ((((decide (h_.kind < 1)) || (decide (h_.kind > 3))) || (decide (h_.n < 1))) || (decide (h_.n > 1024))))]) [(c1, .cells 3 [encHunk h_])] ?_ ?_
 refine zaa ?_
 refine wL (OpA.fieldAddr rfl tf118_0 rfl ?_)
 refine wL (OpA.load rfl ti3 rfl .head rfl rfl ?_)
 refine wL (OpA.lss rfl rfl rfl ?_)
 refine wL (OpA.m ?_)
 refine zam (s := 6) rfl (fun b5 => ?_) (fun b5 => ?_)
 iterate 3 refine wS ?_
 refine wL (OpA.p ?_)
 refine wL (OpA.m ?_)
 iterate 3 refine wS ?_
 refine wL (OpA.p ?_)
 refine wL (OpA.m ?_)
 iterate 3 refine wS ?_
 refine wL (OpA.p ?_)
 refine zab ?_
 exact ⟨(Cov.asg ⟨rfl, rfl, (congrArg D.b (Eq.symm (orS (orS (orS b5))))), trivial⟩), (.refl _)⟩
 refine wG (OpA.fieldAddr rfl tf118_0 rfl ?_)
 refine wG (OpA.load rfl ti3 rfl .head rfl rfl ?_)
 refine wG (OpA.gtr rfl rfl rfl ?_)
 refine wL (OpA.p ?_)
 refine wL (OpA.m ?_)
 refine zam (s := 11) rfl (fun b6 => ?_) (fun b6 => ?_)
 iterate 3 refine wS ?_
 refine wL (OpA.p ?_)
 refine wL (OpA.m ?_)
 iterate 3 refine wS ?_
 refine wL (OpA.p ?_)
 refine zab ?_
 exact ⟨(Cov.asg ⟨rfl, rfl, (congrArg D.b (Eq.symm (orS (orS (orN b5 b6))))), trivial⟩), (.refl _)⟩
 refine wG (OpA.fieldAddr rfl tf118_1 rfl ?_)
 refine wG (OpA.load rfl ti3 rfl .head rfl rfl ?_)
 refine wG (OpA.lss rfl rfl rfl ?_)
 refine wL (OpA.p ?_)
 refine wL (OpA.m ?_)
 refine zam (s := 16) rfl (fun b7 => ?_) (fun b7 => ?_)
 iterate 3 refine wS ?_
 refine wL (OpA.p ?_)
 refine zab ?_
 exact ⟨(Cov.asg ⟨rfl, rfl, (congrArg D.b (Eq.symm (orS (orN (orN b5 b6) b7)))), trivial⟩), (.refl _)⟩
 refine wG (OpA.fieldAddr rfl tf118_1 rfl ?_)
 refine wG (OpA.load rfl ti3 rfl .head rfl rfl ?_)
 refine wG (OpA.gtr rfl rfl rfl ?_)
 refine wL (OpA.p ?_)
 refine zab ?_
 exact ⟨(Cov.asg ⟨rfl, rfl, (congrArg D.b (Eq.symm (orN (orN (orN b5 b6) b7) rfl))), trivial⟩), (.refl _)⟩
 show wpA _ _ _ _ _ _
 refine zae rfl (fun b2 => ?_) (fun b2 => ?_)
 have h := h.1 ((or0 b2).imp (fun hh => ((or0 hh).imp (fun hh => ((or0 hh).imp (fun hh => (decT hh)) (fun hh => (decT hh)))) (fun hh => (decT hh)))) (fun hh => (decT hh)))
 refine zac (zaa (wL (OpA.a (zab (zal ?_)))))
 exact ⟨_, (.tmp (d := D.b false) rfl .nil), _, (.same rfl .nil), ⟨false, rfl, h⟩⟩
 have h := h.2 ⟨⟨⟨(decF (or1 (or1 (or1 b2)))), (decF (or2 (or1 (or1 b2))))⟩, (decF (or2 (or1 b2)))⟩, (decF (or2 b2))⟩
 refine zai ?_
 iterate 2 refine zac ?_
 refine zaa ?_
 refine wL (OpA.fieldAddr rfl tf118_0 rfl ?_)
 refine wL (OpA.load rfl ti3 rfl .head rfl rfl ?_)
 refine wL (OpA.neq rfl rfl rfl ?_)
 refine zab ?_
 refine zae rfl (fun b3 => ?_) (fun b3 => ?_)
 have h := h.1 (bneT b3)
 refine zac (zaa ?_)
 refine wL (OpA.fieldAddr rfl tf118_2 rfl ?_)
 refine wL (OpA.load rfl ti25 rfl .head rfl rfl ?_)
 refine wL (OpA.len rfl rfl rfl rfl ts25.desc (.inl ⟨_, _, rfl, (List.length_map _).symm⟩) ?_)
 refine wL (OpA.eql rfl rfl rfl ?_)
 refine wL (OpA.a ?_)
 refine zab (zal ?_)
 exact ⟨_, (.tmp (d := D.b ((h_.lines.length : Int) == 0)) rfl .nil), _, (.same rfl .nil), ⟨((h_.lines.length : Int) == 0), rfl, h⟩⟩
 have h := h.2 (bneF b3)
 refine zai (zac ?_)
 obtain ⟨q1, h⟩ := h
 refine wpA_mid (asg [(2, D.b (((h_.lines.length : Int) == h_.n) && (!(h_.lines.any (fun (x0_ : ByteArray) => nlB x0_)))))]) [(c1, .cells 3 [encHunk h_])] ?_ ?_
 refine zaa ?_
 refine wL (OpA.fieldAddr rfl tf118_2 rfl ?_)
 refine wL (OpA.load rfl ti25 rfl .head rfl rfl ?_)
 refine wL (OpA.len rfl rfl rfl rfl ts25.desc (.inl ⟨_, _, rfl, (List.length_map _).symm⟩) ?_)
 refine wL (OpA.fieldAddr rfl tf118_1 rfl ?_)
 refine wL (OpA.load rfl ti3 rfl .head rfl rfl ?_)
 refine wL (OpA.eql rfl rfl rfl ?_)
 refine wL (OpA.m ?_)
 refine zam (s := 34) rfl (fun b4 => ?_) (fun b4 => ?_)
 refine wG (OpA.fieldAddr rfl tf118_2 rfl ?_)
 refine wG (OpA.load rfl ti25 rfl .head rfl rfl ?_)
 refine wG (OpA.call rfl rfl rfl en95 (cfStr_c h_.lines 127 [] [] (fun (x0_ : ByteArray) => nlB x0_) (fun (x0_ : ByteArray) => True) en127 (fun x0_ _ => phunk1_c x0_ ) (q1 (beqT b4)).1 (q1 (beqT b4)).2) ?_)
 rintro _ rfl
 refine wG (OpA.not rfl rfl ?_)
 refine wL (OpA.p ?_)
 refine wL (OpA.a ?_)
 refine zab ?_
 exact ⟨(Cov.asg ⟨(congrArg D.b (Eq.symm (andN b4 rfl))), trivial⟩), (.refl _)⟩
 iterate 4 refine wS ?_
 refine wL (OpA.p ?_)
 refine wL (OpA.a ?_)
 refine zab ?_
 exact ⟨(Cov.asg ⟨(congrArg D.b (Eq.symm (andS b4))), trivial⟩), (.refl _)⟩
 show wpA _ _ _ _ _ _
 refine zal ?_
 exact ⟨_, (.tmp (d := D.b (((h_.lines.length : Int) == h_.n) && (!(h_.lines.any (fun (x0_ : ByteArray) => nlB x0_))))) rfl .nil), _, (.same rfl .nil), ⟨(((h_.lines.length : Int) == h_.n) && (!(h_.lines.any (fun (x0_ : ByteArray) => nlB x0_)))), rfl, h⟩⟩
theorem phunk_c (h_ : Hunk) (hp0 : h_.lines.length ≤ 1000000) : Fun false Tryz.prog 81 [encHunk h_] (fun d => d = D.b (hunkB h_)) :=
 Fun.at (enc := fun r => D.b r) (v := hunkB h_) (phunk_w h_  (fun r => r = hunkB h_) (phunk_ok h_ _ hp0 rfl))
theorem plines1_w (l : (List ByteArray)) (out : (List ByteArray)) (c_out d_out : Nat) (pre_out post_out : List D) (Q : (List ByteArray) → Prop) (h : plines1_vc l out Q) : CallH Tryz.prog 129 [(encL 1 D.s) l, .ptr c_out 1 0 0] [(c_out, .cells 1 [.own d_out 1 pre_out.length out.length]), (d_out, .cells 1 (winL D.s pre_out out post_out))] (fun d h' => ∃ (r : (List ByteArray)) (g : Nat × List D × List D), d = .tup [] ∧ h' = [(c_out, .cells 1 [.own g.1 1 g.2.1.length r.length]), (g.1, .cells 1 (winL D.s g.2.1 r g.2.2))] ∧ Q r) := by
 unfold plines1_vc at h
 refine CallH.of_bodyP Tryz.func129 rfl Tryz.ntmps129 rfl ?_
 obtain ⟨q1, h⟩ := h
 refine zaa ?_
 refine wL (OpA.load rfl ti25 rfl .head rfl rfl ?_)
 refine wL (OpA.m ?_)
 refine wL (OpA.appendW (enc := D.s) rfl rfl rfl rfl ts25 rfl (fun _ _ => (.tail .head)) (.list (ys := l)) q1 (fun c1 pre2 => ?_))
 refine wE (OpA.storeW rfl ti25 rfl zW (.of rfl) rfl rfl .head ?_)
 refine zab ?_
 exact ⟨_, .nil, [(c_out, .cells 1 [.own c1 1 pre2.length (out ++ l).length]), (c1, .cells 1 (winL D.s pre2 (out ++ l) ([] : List D)))], [(c_out, .cells 1 [.own c1 1 pre2.length (out ++ l).length]), (c1, .cells 1 (winL D.s pre2 (out ++ l) ([] : List D)))], (.refl _), (.refl _), (out ++ l), (c1, pre2, ([] : List D)), rfl, rfl, h⟩
theorem plines1_c (l : (List ByteArray)) (out : (List ByteArray)) (c_out d_out : Nat) (pre_out post_out : List D) (hp0 : l.length ≤ 1000000) (hp1 : out.length ≤ 1000000000) : CallH Tryz.prog 129 [(encL 1 D.s) l, .ptr c_out 1 0 0] [(c_out, .cells 1 [.own d_out 1 pre_out.length out.length]), (d_out, .cells 1 (winL D.s pre_out out post_out))] (fun d h' => ∃ (g : Nat × List D × List D), d = .tup [] ∧ h' = [(c_out, .cells 1 [.own g.1 1 g.2.1.length (out ++ l).length]), (g.1, .cells 1 (winL D.s g.2.1 (out ++ l) g.2.2))]) :=
 (plines1_w l out c_out d_out pre_out post_out  (fun r => r = (out ++ l)) (plines1_ok l out _ hp0 hp1 rfl)).mono (by rintro d h' ⟨r, g, hd, hh, rfl⟩; exact ⟨g, hd, hh⟩)
theorem plines_w (p : Patch) (Q : (List ByteArray) → Prop) (h : plines_vc p Q) : Fun false Tryz.prog 83 [encPatch p] (fun d => ∃ r, d = (encL 1 D.s) r ∧ Q r) := by
 unfold plines_vc at h
 refine Fun.of_body Tryz.func83 rfl Tryz.ntmps83 rfl ?_
 refine zac (zaa ?_)
 refine wL (OpA.bx (sz := 2) rfl zW (.of rfl) (fun c1 _ => ?_))
 refine wL (OpA.asnN (T := ByteArray) (enc := D.s) (sz := 1) rfl rfl ?_)
 refine zab (zac (zaa ?_))
 refine wL (OpA.alloc (sz := 1) (d := .v (.slice none 0 0)) rfl tz25 (fun _ _ => .v _) (.of rfl) (fun c2 _ => ?_))
 refine zab (zac (zaa ?_))
 refine wL (OpA.makeFunc rfl ?_)
 refine wL (OpA.a ?_)
 refine zab ?_
 iterate 2 refine zac ?_
 refine zaa ?_
 refine wL (OpA.fieldAddr rfl tf34_0 rfl ?_)
 refine wL (OpA.load rfl ti9 rfl (.tail .head) rfl rfl ?_)
 refine wL (OpA.sneq rfl rfl rfl ?_)
 refine zab ?_
 refine wpA_ghostM (c := c2) (sz1 := 1) (sz := 1) (es' := fun g3 => [.own g3 1 ([] : List D).length ([] : List ByteArray).length]) (fun _ => .head) (fun _ => (.turn .nil)) (fun _ => rfl) (fun _ => by rintro d (_ | ⟨_, hd⟩); exact .of rfl; cases hd) (fun g3 => ?_)
 refine wpA_join (S := (List ByteArray)) (G := Nat × List D × List D) (fun gg ss => asg [(1, .ptr c1 2 0 0), (2, (encL 1 D.s) ([] : List ByteArray)), (3, .ptr c2 1 0 0), (4, .fn (.func 129) [] [.ptr c2 1 0 0])]) (fun gg ss => [(gg.1, .cells 1 (winL D.s gg.2.1 ss gg.2.2)), (c2, .cells 1 [.own gg.1 1 gg.2.1.length ss.length]), (c1, .cells 2 [encPatch p])]) (fun ss => plines_J2 p Q ss) ?_ ?_
 refine zae rfl (fun b15 => ?_) (fun b15 => ?_)
 have h := h.1 (ndecT b15)
 refine zac ?_
 obtain ⟨q1, h⟩ := h
 refine zaa ?_
 refine wL (OpA.fieldAddr rfl tf34_0 rfl ?_)
 refine wL (OpA.load rfl ti9 rfl (.tail (.tail .head)) rfl rfl ?_)
 refine wL (OpA.call rfl rfl rfl en130 (hex_c p.base q1) ?_)
 rintro _ rfl
 refine wL (OpA.m ?_)
 iterate 2 refine wL (OpA.extract rfl rfl rfl ?_)
 iterate 2 refine wL (OpA.a ?_)
 refine zab ?_
 obtain ⟨q1, q2, q3, h⟩ := h
 refine zaa ?_
 iterate 2 refine wL (OpA.m ?_)
 refine wL (OpA.sadd rfl rfl rfl q1 ?_)
 refine wL (OpA.ibuildSliceO rfl ts25 rfl (.cons (.of (sz := 1) rfl) .nil) (by decide) ?_)
 refine wL (OpA.callH rfl rfl rfl en129 (h1 := [(c2, .cells 1 [.own g3 1 ([] : List D).length ([] : List ByteArray).length]), (g3, .cells 1 (winL D.s ([] : List D) ([] : List ByteArray) ([] : List D)))]) (h2 := [(c1, .cells 2 [encPatch p])]) pull1 (plines1_c ([((⟨#[98, 97, 115, 101, 32]⟩ : ByteArray) ++ ((hexP p.base).1))] : List ByteArray) ([] : List ByteArray) c2 g3 ([] : List D) ([] : List D) q2 q3) ?_)
 rintro _ _ ⟨⟨c16, pre17, post18⟩, rfl, rfl⟩
 refine wpL_perm (h' := [(c16, .cells 1 (winL D.s pre17 (([] : List ByteArray) ++ ([((⟨#[98, 97, 115, 101, 32]⟩ : ByteArray) ++ ((hexP p.base).1))] : List ByteArray)) post18)), (c2, .cells 1 [.own c16 1 pre17.length (([] : List ByteArray) ++ ([((⟨#[98, 97, 115, 101, 32]⟩ : ByteArray) ++ ((hexP p.base).1))] : List ByteArray)).length]), (c1, .cells 2 [encPatch p])]) pull1 ?_
 refine zab ?_
 exact ⟨(c16, pre17, post18), (([] : List ByteArray) ++ ([((⟨#[98, 97, 115, 101, 32]⟩ : ByteArray) ++ ((hexP p.base).1))] : List ByteArray)), h, cvZ, (.refl _)⟩
 have h := h.2 (ndecF b15)
 refine zai ?_
 exact ⟨(g3, ([] : List D), ([] : List D)), ([] : List ByteArray), h, cvZ, (.refl _)⟩
 rintro ⟨cbgh3, pregh3, postgh3⟩ xs h
 have h : plines_J2 p Q xs := h
 unfold plines_J2 at h
 show wpA _ _ _ _ _ _
 iterate 2 refine zac ?_
 refine zaa ?_
 refine wL (OpA.fieldAddr rfl tf34_1 rfl ?_)
 refine wL (OpA.load rfl ti32 rfl (.tail (.tail .head)) rfl rfl ?_)
 refine wL (OpA.len rfl rfl rfl rfl ts32.desc (.inl ⟨_, _, rfl, (List.length_map _).symm⟩) ?_)
 refine wL (OpA.m ?_)
 refine zab (zag ?_)
 refine wpA_lfp (S := (List ByteArray) × Int) (G := Nat × List D × List D) (cbgh3, pregh3, postgh3) (fun gg ss => asg [(2, (encL 1 D.s) ([] : List ByteArray)), (3, .ptr c2 1 0 0), (4, .fn (.func 129) [] [.ptr c2 1 0 0]), (26, (encL 3 encHunk) p.hunks), (27, D.i (p.hunks.length : Int)), (28, D.i ss.2)]) (fun gg ss => [(gg.1, .cells 1 (winL D.s gg.2.1 ss.1 gg.2.2)), (c2, .cells 1 [.own gg.1 1 gg.2.1.length ss.1.length]), (c1, .cells 2 [encPatch p])]) h cvZ (.refl _) ?_
 rintro again4 ⟨cbgh31, pregh31, postgh31⟩ ⟨xs1, x⟩ h
 have h : plines_L1 p Q again4 xs1 x := h
 unfold plines_L1 at h
 show wpA _ _ _ _ _ _
 refine zac (zaa ?_)
 refine wL (OpA.lss rfl rfl rfl ?_)
 refine zab (zac ?_)
 refine zae rfl (fun b5 => ?_) (fun b5 => ?_)
 have h := h.1 (decT b5)
 refine zai (zac (zag (zac ?_)))
 obtain ⟨q1, h⟩ := h
 refine zaa ?_
 refine wL (OpA.iixV (enc := encHunk) rfl ts32 rfl rfl rfl q1 ?_)
 refine wL (OpA.iload_whole rfl ti118 rfl ⟨_, rfl, rfl⟩ ?_)
 refine wL (OpA.alloc (sz := 3) (d := .agg ([D.i 0, D.i 0, .v (.slice none 0 0)])) rfl tz118 (fun _ _ => .agg (.cons (.v _) (.cons (.v _) (.cons (.v _) .nil)))) (.of rfl) (fun c6 _ => ?_))
 refine wE (OpA.storeW rfl ti118 rfl zW (.of rfl) rfl rfl .head ?_)
 refine zab (zac (zaa (wL (OpA.a (zab ?_)))))
 iterate 2 refine zac ?_
 refine zaa ?_
 refine wL (OpA.fieldAddr rfl tf118_0 rfl ?_)
 refine wL (OpA.load rfl ti3 rfl .head rfl rfl ?_)
 refine zab ?_
 refine wpA_join (S := ByteArray) (G := Unit) (fun gg ss => asg [(2, (encL 1 D.s) ([] : List ByteArray)), (3, .ptr c2 1 0 0), (4, .fn (.func 129) [] [.ptr c2 1 0 0]), (8, .ptr c6 3 0 0), (9, D.s ss), (26, (encL 3 encHunk) p.hunks), (27, D.i (p.hunks.length : Int)), (28, D.i x)]) (fun gg ss => [(c6, .cells 3 [encHunk (gi p.hunks x)]), (cbgh31, .cells 1 (winL D.s pregh31 xs1 postgh31)), (c2, .cells 1 [.own cbgh31 1 pregh31.length xs1.length]), (c1, .cells 2 [encPatch p])]) (fun ss => plines_J1 p xs1 x again4 ss) ?_ ?_
 refine zag (zac (zaa ?_))
 refine wL (OpA.eql rfl rfl rfl ?_)
 refine wL (OpA.a ?_)
 refine zab ?_
 refine zae rfl (fun b13 => ?_) (fun b13 => ?_)
 have h := h.1 (beqT b13)
 refine zaa (wL (OpA.a (zab ?_)))
 exact ⟨(), (⟨#[100, 114, 111, 112, 32]⟩ : ByteArray), h, cvZ, (.refl _)⟩
 have h := h.2 (beqF b13)
 refine zac (zaa ?_)
 refine wL (OpA.eql rfl rfl rfl ?_)
 refine wL (OpA.a ?_)
 refine zab ?_
 refine zae rfl (fun b14 => ?_) (fun b14 => ?_)
 have h := h.1 (beqT b14)
 refine zaa (wL (OpA.a (zab ?_)))
 exact ⟨(), (⟨#[97, 100, 100, 32]⟩ : ByteArray), h, cvZ, (.refl _)⟩
 have h := h.2 (beqF b14)
 refine zai ?_
 exact ⟨(), (⟨#[107, 101, 101, 112, 32]⟩ : ByteArray), h, cvZ, (.refl _)⟩
 rintro _ word h
 have h : plines_J1 p xs1 x again4 word := h
 unfold plines_J1 at h
 show wpA _ _ _ _ _ _
 refine zac ?_
 obtain ⟨q1, q2, q3, q4, q5, h⟩ := h
 refine zaa ?_
 iterate 2 refine wL (OpA.m ?_)
 refine wL (OpA.fieldAddr rfl tf118_1 rfl ?_)
 refine wL (OpA.load rfl ti3 rfl .head rfl rfl ?_)
 refine wL (OpA.call rfl rfl rfl en103 (itoa_c ((gi p.hunks x).n) q1 q2) ?_)
 rintro _ rfl
 refine wL (OpA.sadd rfl rfl rfl q3 ?_)
 refine wL (OpA.ibuildSliceO rfl ts25 rfl (.cons (.of (sz := 1) rfl) .nil) (by decide) ?_)
 refine wL (OpA.callH rfl rfl rfl en129 (h1 := [(c2, .cells 1 [.own cbgh31 1 pregh31.length xs1.length]), (cbgh31, .cells 1 (winL D.s pregh31 xs1 postgh31))]) (h2 := [(c6, .cells 3 [encHunk (gi p.hunks x)]), (c1, .cells 2 [encPatch p])]) (pull2.trans (.cons _ pull1)) (plines1_c ([(word ++ (itoaF ((gi p.hunks x).n)))] : List ByteArray) xs1 c2 cbgh31 pregh31 postgh31 q4 q5) ?_)
 rintro _ _ ⟨⟨c7, pre8, post9⟩, rfl, rfl⟩
 refine wpL_perm (h' := [(c6, .cells 3 [encHunk (gi p.hunks x)]), (c7, .cells 1 (winL D.s pre8 (xs1 ++ ([(word ++ (itoaF ((gi p.hunks x).n)))] : List ByteArray)) post9)), (c2, .cells 1 [.own c7 1 pre8.length (xs1 ++ ([(word ++ (itoaF ((gi p.hunks x).n)))] : List ByteArray)).length]), (c1, .cells 2 [encPatch p])]) (pull2.trans (.cons _ pull1)) ?_
 refine zab ?_
 obtain ⟨q1, q2, h⟩ := h
 refine zaa (wL (OpA.m ?_))
 refine wL (OpA.fieldAddr rfl tf118_2 rfl ?_)
 refine wL (OpA.load rfl ti25 rfl .head rfl rfl ?_)
 refine wL (OpA.callH rfl rfl rfl en129 (h1 := [(c2, .cells 1 [.own c7 1 pre8.length (xs1 ++ ([(word ++ (itoaF ((gi p.hunks x).n)))] : List ByteArray)).length]), (c7, .cells 1 (winL D.s pre8 (xs1 ++ ([(word ++ (itoaF ((gi p.hunks x).n)))] : List ByteArray)) post9))]) (h2 := [(c6, .cells 3 [encHunk (gi p.hunks x)]), (c1, .cells 2 [encPatch p])]) (pull2.trans (.cons _ pull1)) (plines1_c ((gi p.hunks x).lines) (xs1 ++ ([(word ++ (itoaF ((gi p.hunks x).n)))] : List ByteArray)) c2 c7 pre8 post9 q1 q2) ?_)
 rintro _ _ ⟨⟨c10, pre11, post12⟩, rfl, rfl⟩
 refine wpL_perm (h' := [(c6, .cells 3 [encHunk (gi p.hunks x)]), (c10, .cells 1 (winL D.s pre11 ((xs1 ++ ([(word ++ (itoaF ((gi p.hunks x).n)))] : List ByteArray)) ++ ((gi p.hunks x).lines)) post12)), (c2, .cells 1 [.own c10 1 pre11.length ((xs1 ++ ([(word ++ (itoaF ((gi p.hunks x).n)))] : List ByteArray)) ++ ((gi p.hunks x).lines)).length]), (c1, .cells 2 [encPatch p])]) (pull2.trans (.cons _ pull1)) ?_
 refine zab ?_
 obtain ⟨q1, h⟩ := h
 refine zaa ?_
 refine wL (OpA.addi rfl rfl rfl q1 ?_)
 refine wL (OpA.m ?_)
 refine zab ?_
 exact ⟨(c10, pre11, post12), (((xs1 ++ ([(word ++ (itoaF ((gi p.hunks x).n)))] : List ByteArray)) ++ ((gi p.hunks x).lines)), (x + 1)), h, cvZ, (.cons _ (.refl _))⟩
 have h := h.2 (decF b5)
 refine wpA_exit ?_
 refine zac (zaa ?_)
 refine wL (OpA.load rfl ti25 rfl (.tail .head) rfl rfl ?_)
 refine wL (OpA.a ?_)
 refine zab (zal ?_)
 exact ⟨_, (.tmp (d := .own cbgh31 1 pregh31.length xs1.length) rfl .nil), _, (.win .head (by intro hf; cases hf) .nil), ⟨xs1, rfl, h⟩⟩
theorem plines_c (p : Patch) (hp0 : okP4 p) : Fun false Tryz.prog 83 [encPatch p] (fun d => d = (encL 1 D.s) (linesP p)) :=
 Fun.at (enc := fun r => (encL 1 D.s) r) (v := linesP p) (plines_w p  (fun r => r = linesP p) (plines_ok p _ hp0 rfl))
theorem pcheck_w (p : Patch) (Q : ByteArray × Bool → Prop) (h : pcheck_vc p Q) : Fun false Tryz.prog 37 [encPatch p] (fun d => ∃ r, d = .tup [D.s (r.1), D.b (r.2)] ∧ Q r) := by
 unfold pcheck_vc at h
 refine Fun.of_body Tryz.func37 rfl Tryz.ntmps37 rfl ?_
 refine zac (zaa ?_)
 refine wL (OpA.bx (sz := 2) rfl zW (.of rfl) (fun c1 _ => ?_))
 iterate 2 refine wL (OpA.a ?_)
 refine zab ?_
 iterate 2 refine zac ?_
 refine wpA_mid (asg [(1, .ptr c1 2 0 0), (2, D.s (⟨#[]⟩ : ByteArray)), (3, D.b false), (25, D.b (((!decide (p.base = (⟨#[]⟩ : ByteArray))) && ((p.base.size : Int) != 32)) || (decide ((p.hunks.length : Int) > 3072))))]) [(c1, .cells 2 [encPatch p])] ?_ ?_
 refine zaa ?_
 refine wL (OpA.fieldAddr rfl tf34_0 rfl ?_)
 refine wL (OpA.load rfl ti9 rfl .head rfl rfl ?_)
 refine wL (OpA.sneq rfl rfl rfl ?_)
 refine wL (OpA.m ?_)
 refine zam (s := 14) rfl (fun b15 => ?_) (fun b15 => ?_)
 refine wG (OpA.fieldAddr rfl tf34_0 rfl ?_)
 refine wG (OpA.load rfl ti9 rfl .head rfl rfl ?_)
 refine wG (OpA.slen rfl rfl rfl rfl td9 rfl ?_)
 refine wG (OpA.neq rfl rfl rfl ?_)
 refine wL (OpA.p ?_)
 refine wL (OpA.m ?_)
 refine zam (s := 20) rfl (fun b16 => ?_) (fun b16 => ?_)
 iterate 4 refine wS ?_
 refine wL (OpA.p ?_)
 refine zab ?_
 exact ⟨(Cov.asg ⟨rfl, rfl, rfl, (congrArg D.b (Eq.symm (orS (andN b15 b16)))), trivial⟩), (.refl _)⟩
 refine wG (OpA.fieldAddr rfl tf34_1 rfl ?_)
 refine wG (OpA.load rfl ti32 rfl .head rfl rfl ?_)
 refine wG (OpA.len rfl rfl rfl rfl ts32.desc (.inl ⟨_, _, rfl, (List.length_map _).symm⟩) ?_)
 refine wG (OpA.gtr rfl rfl rfl ?_)
 refine wL (OpA.p ?_)
 refine zab ?_
 exact ⟨(Cov.asg ⟨rfl, rfl, rfl, (congrArg D.b (Eq.symm (orN (andN b15 b16) rfl))), trivial⟩), (.refl _)⟩
 iterate 4 refine wS ?_
 refine wL (OpA.p ?_)
 refine wL (OpA.m ?_)
 refine wG (OpA.fieldAddr rfl tf34_1 rfl ?_)
 refine wG (OpA.load rfl ti32 rfl .head rfl rfl ?_)
 refine wG (OpA.len rfl rfl rfl rfl ts32.desc (.inl ⟨_, _, rfl, (List.length_map _).symm⟩) ?_)
 refine wG (OpA.gtr rfl rfl rfl ?_)
 refine wL (OpA.p ?_)
 refine zab ?_
 exact ⟨(Cov.asg ⟨rfl, rfl, rfl, (congrArg D.b (Eq.symm (orN (andS b15) rfl))), trivial⟩), (.refl _)⟩
 show wpA _ _ _ _ _ _
 refine zae rfl (fun b2 => ?_) (fun b2 => ?_)
 have h := h.1 ((or0 b2).imp (fun hh => ⟨(ndecT (and1 hh)), (bneT (and2 hh))⟩) (fun hh => (decT hh)))
 refine zac (zaa ?_)
 iterate 2 refine wL (OpA.a ?_)
 refine zab (zal ?_)
 exact ⟨_, (.tmp (d := D.s (⟨#[]⟩ : ByteArray)) rfl (.tmp (d := D.b false) rfl .nil)), _, (.tup (.same rfl (.same rfl .nil)) .nil), ⟨((⟨#[]⟩ : ByteArray), false), rfl, h⟩⟩
 have h := h.2 ⟨((and0 (or1 b2)).imp (fun hh => (ndecF hh)) (fun hh => (bneF hh))), (decF (or2 b2))⟩
 refine zai ?_
 iterate 2 refine zac ?_
 refine zaa ?_
 refine wL (OpA.fieldAddr rfl tf34_1 rfl ?_)
 refine wL (OpA.load rfl ti32 rfl .head rfl rfl ?_)
 refine wL (OpA.len rfl rfl rfl rfl ts32.desc (.inl ⟨_, _, rfl, (List.length_map _).symm⟩) ?_)
 refine wL (OpA.m ?_)
 refine zab (zag ?_)
 refine wpA_lfp (S := Int) (G := Unit) () (fun gg ss => asg [(1, .ptr c1 2 0 0), (2, D.s (⟨#[]⟩ : ByteArray)), (3, D.b false), (27, (encL 3 encHunk) p.hunks), (28, D.i (p.hunks.length : Int)), (29, D.i ss)]) (fun gg ss => [(c1, .cells 2 [encPatch p])]) h cvZ (.refl _) ?_
 rintro again3 _ x h
 have h : pcheck_L1 p Q again3 x := h
 unfold pcheck_L1 at h
 show wpA _ _ _ _ _ _
 refine zac (zaa ?_)
 refine wL (OpA.lss rfl rfl rfl ?_)
 refine zab (zac ?_)
 refine zae rfl (fun b4 => ?_) (fun b4 => ?_)
 have h := h.1 (decT b4)
 refine zai (zac (zag (zac ?_)))
 obtain ⟨q1, h⟩ := h
 refine zaa (wL (OpA.m ?_))
 refine wL (OpA.iixV (enc := encHunk) rfl ts32 rfl rfl rfl q1 ?_)
 refine wL (OpA.iload_whole rfl ti118 rfl ⟨_, rfl, rfl⟩ ?_)
 refine wL (OpA.alloc (sz := 3) (d := .agg ([D.i 0, D.i 0, .v (.slice none 0 0)])) rfl tz118 (fun _ _ => .agg (.cons (.v _) (.cons (.v _) (.cons (.v _) .nil)))) (.of rfl) (fun c5 _ => ?_))
 refine wL (OpA.a ?_)
 refine wE (OpA.storeW rfl ti118 rfl zW (.of rfl) rfl rfl .head ?_)
 refine zab (zac ?_)
 obtain ⟨q1, q2, h⟩ := h
 refine wpA_mid (asg [(1, .ptr c1 2 0 0), (2, D.s (⟨#[]⟩ : ByteArray)), (3, D.b false), (27, (encL 3 encHunk) p.hunks), (28, D.i (p.hunks.length : Int)), (29, D.i x), (67, D.b ((!(hunkB (gi p.hunks x))) || ((decide (x > 0)) && ((((gi p.hunks (x - 1)).kind) == ((gi p.hunks x).kind)) || ((((gi p.hunks (x - 1)).kind) == 3) && (((gi p.hunks x).kind) == 2))))))]) [(c5, .cells 3 [encHunk (gi p.hunks x)]), (c1, .cells 2 [encPatch p])] ?_ ?_
 refine wpA_draw (m := 34) mo zK rfl ?_
 refine dL (OpA.load_whole rfl ti118 rfl rfl .head rfl ⟨_, rfl⟩ ⟨rfl, rfl⟩) ?_
 refine dL (OpA.call rfl rfl rfl en81 (phunk_c (gi p.hunks x) q1) (by rintro _ rfl; exact ⟨rfl, rfl⟩)) ?_
 refine dL (OpA.not rfl rfl ⟨rfl, rfl⟩) ?_
 refine dL (OpA.m ⟨rfl, rfl⟩) ?_
 refine DetK_split (s := 37) rfl (fun b7 => ?_) (fun b7 => ?_)
 iterate 3 refine dS ?_
 iterate 25 refine DetK.skipU rfl rfl rfl ?_
 refine dS ?_
 refine dL (OpA.p ⟨rfl, rfl⟩) ?_
 refine DetK.nil ?_
 refine zab ?_
 exact ⟨(Cov.asg ⟨rfl, rfl, rfl, rfl, rfl, rfl, (congrArg D.b (Eq.symm (orS b7))), trivial⟩), (.refl _)⟩
 refine dG (OpA.m ⟨rfl, rfl⟩) ?_
 refine dG (OpA.gtr rfl rfl rfl ⟨rfl, rfl⟩) ?_
 refine dG (OpA.m ⟨rfl, rfl⟩) ?_
 refine DetK_split (s := 40) rfl (fun b8 => ?_) (fun b8 => ?_)
 refine dG (OpA.fieldAddr rfl tf34_1 rfl ⟨rfl, rfl⟩) ?_
 refine dG (OpA.load rfl ti32 rfl (.tail .head) rfl rfl ⟨rfl, rfl⟩) ?_
 refine dG (OpA.m ⟨rfl, rfl⟩) ?_
 refine dG (OpA.subi rfl rfl rfl ((q2 (notF b7)) (decT b8)).1 ⟨rfl, rfl⟩) ?_
 refine dG (OpA.iixV (enc := encHunk) rfl ts32 rfl rfl rfl ((q2 (notF b7)) (decT b8)).2 ⟨rfl, rfl⟩) ?_
 refine dG (OpA.ifieldAddr rfl tf118_0 rfl ⟨rfl, rfl⟩) ?_
 refine dG (OpA.iload rfl ti3 rfl rfl ⟨rfl, rfl⟩) ?_
 refine dG (OpA.fieldAddr rfl tf118_0 rfl ⟨rfl, rfl⟩) ?_
 refine dG (OpA.load rfl ti3 rfl .head rfl rfl ⟨rfl, rfl⟩) ?_
 refine dG (OpA.eql rfl rfl rfl ⟨rfl, rfl⟩) ?_
 refine dG (OpA.m ⟨rfl, rfl⟩) ?_
 refine DetK_split (s := 51) rfl (fun b9 => ?_) (fun b9 => ?_)
 iterate 9 refine dS ?_
 iterate 3 refine DetK.skipU rfl rfl rfl ?_
 refine dS ?_
 iterate 2 refine dG (OpA.p ⟨rfl, rfl⟩) ?_
 refine dL (OpA.p ⟨rfl, rfl⟩) ?_
 refine DetK.nil ?_
 refine zab ?_
 exact ⟨(Cov.asg ⟨rfl, rfl, rfl, rfl, rfl, rfl, (congrArg D.b (Eq.symm (orN b7 (andN b8 (orS b9))))), trivial⟩), (.refl _)⟩
 refine dG (OpA.fieldAddr rfl tf34_1 rfl ⟨rfl, rfl⟩) ?_
 refine dG (OpA.load rfl ti32 rfl (.tail .head) rfl rfl ⟨rfl, rfl⟩) ?_
 refine dG (OpA.m ⟨rfl, rfl⟩) ?_
 refine dG (OpA.subi rfl rfl rfl ((q2 (notF b7)) (decT b8)).1 ⟨rfl, rfl⟩) ?_
 refine dG (OpA.iixV (enc := encHunk) rfl ts32 rfl rfl rfl ((q2 (notF b7)) (decT b8)).2 ⟨rfl, rfl⟩) ?_
 refine dG (OpA.ifieldAddr rfl tf118_0 rfl ⟨rfl, rfl⟩) ?_
 refine dG (OpA.iload rfl ti3 rfl rfl ⟨rfl, rfl⟩) ?_
 refine dG (OpA.eql rfl rfl rfl ⟨rfl, rfl⟩) ?_
 refine dG (OpA.m ⟨rfl, rfl⟩) ?_
 refine DetK_split (s := 60) rfl (fun b10 => ?_) (fun b10 => ?_)
 refine dG (OpA.fieldAddr rfl tf118_0 rfl ⟨rfl, rfl⟩) ?_
 refine dG (OpA.load rfl ti3 rfl .head rfl rfl ⟨rfl, rfl⟩) ?_
 refine dG (OpA.eql rfl rfl rfl ⟨rfl, rfl⟩) ?_
 iterate 3 refine dG (OpA.p ⟨rfl, rfl⟩) ?_
 refine dL (OpA.p ⟨rfl, rfl⟩) ?_
 refine DetK.nil ?_
 refine zab ?_
 exact ⟨(Cov.asg ⟨rfl, rfl, rfl, rfl, rfl, rfl, (congrArg D.b (Eq.symm (orN b7 (andN b8 (orN b9 (andN b10 rfl)))))), trivial⟩), (.refl _)⟩
 iterate 3 refine dS ?_
 iterate 3 refine dG (OpA.p ⟨rfl, rfl⟩) ?_
 refine dL (OpA.p ⟨rfl, rfl⟩) ?_
 refine DetK.nil ?_
 refine zab ?_
 exact ⟨(Cov.asg ⟨rfl, rfl, rfl, rfl, rfl, rfl, (congrArg D.b (Eq.symm (orN b7 (andN b8 (orN b9 (andS b10)))))), trivial⟩), (.refl _)⟩
 iterate 11 refine dS ?_
 iterate 13 refine DetK.skipU rfl rfl rfl ?_
 refine dS ?_
 refine dG (OpA.p ⟨rfl, rfl⟩) ?_
 refine dL (OpA.p ⟨rfl, rfl⟩) ?_
 refine DetK.nil ?_
 refine zab ?_
 exact ⟨(Cov.asg ⟨rfl, rfl, rfl, rfl, rfl, rfl, (congrArg D.b (Eq.symm (orN b7 (andS b8)))), trivial⟩), (.refl _)⟩
 show wpA _ _ _ _ _ _
 refine zae rfl (fun b6 => ?_) (fun b6 => ?_)
 have h := h.1 ((or0 b6).imp (fun hh => (notT hh)) (fun hh => ⟨(decT (and1 hh)), ((or0 (and2 hh)).imp (fun hh => (beqT hh)) (fun hh => ⟨(beqT (and1 hh)), (beqT (and2 hh))⟩))⟩))
 refine zac (zaa ?_)
 iterate 2 refine wL (OpA.a ?_)
 refine zab (zal ?_)
 exact ⟨_, (.tmp (d := D.s (⟨#[]⟩ : ByteArray)) rfl (.tmp (d := D.b false) rfl .nil)), _, (.tup (.same rfl (.same rfl .nil)) .nil), ⟨((⟨#[]⟩ : ByteArray), false), rfl, h⟩⟩
 have h := h.2 ⟨(notF (or1 b6)), ((and0 (or2 b6)).imp (fun hh => (decF hh)) (fun hh => ⟨(beqF (or1 hh)), ((and0 (or2 hh)).imp (fun hh => (beqF hh)) (fun hh => (beqF hh)))⟩))⟩
 refine zai ?_
 obtain ⟨q1, h⟩ := h
 refine zaa ?_
 refine wL (OpA.addi rfl rfl rfl q1 ?_)
 refine wL (OpA.m ?_)
 refine zab ?_
 exact ⟨(), (x + 1), h, cvZ, (.cons _ (.refl _))⟩
 have h := h.2 (decF b4)
 refine wpA_exit ?_
 refine zac ?_
 obtain ⟨q1, h⟩ := h
 refine zaa ?_
 refine wL (OpA.load_whole rfl ti34 rfl rfl .head rfl ⟨_, rfl⟩ ?_)
 refine wL (OpA.call rfl rfl rfl en38 (psizes_c p q1) ?_)
 rintro _ rfl
 refine wL (OpA.m ?_)
 iterate 3 refine wL (OpA.extract rfl rfl rfl ?_)
 iterate 3 refine wL (OpA.a ?_)
 refine zab ?_
 iterate 2 refine zac ?_
 obtain ⟨q1, q2, q3, h⟩ := h
 refine wpA_mid (asg [(1, .ptr c1 2 0 0), (2, D.s (⟨#[]⟩ : ByteArray)), (3, D.b false), (96, D.b ((((decide ((((sizesP p).1) + ((sizesP p).2.1)) < 1)) || (decide ((((sizesP p).1) + ((sizesP p).2.1)) > 1024))) || (decide ((((sizesP p).1) + ((sizesP p).2.2)) < 1))) || (decide ((((sizesP p).1) + ((sizesP p).2.2)) > 1024))))]) [(c1, .cells 2 [encPatch p])] ?_ ?_
 refine zaa ?_
 iterate 2 refine wL (OpA.m ?_)
 refine wL (OpA.addi rfl rfl rfl q1 ?_)
 refine wL (OpA.lss rfl rfl rfl ?_)
 refine wL (OpA.m ?_)
 refine zam (s := 79) rfl (fun b12 => ?_) (fun b12 => ?_)
 iterate 4 refine wS ?_
 refine wL (OpA.p ?_)
 refine wL (OpA.m ?_)
 iterate 4 refine wS ?_
 refine wL (OpA.p ?_)
 refine wL (OpA.m ?_)
 iterate 4 refine wS ?_
 refine wL (OpA.p ?_)
 refine zab ?_
 exact ⟨(Cov.asg ⟨rfl, rfl, rfl, (congrArg D.b (Eq.symm (orS (orS (orS b12))))), trivial⟩), (.refl _)⟩
 iterate 2 refine wG (OpA.m ?_)
 refine wG (OpA.addi rfl rfl rfl q1 ?_)
 refine wG (OpA.gtr rfl rfl rfl ?_)
 refine wL (OpA.p ?_)
 refine wL (OpA.m ?_)
 refine zam (s := 85) rfl (fun b13 => ?_) (fun b13 => ?_)
 iterate 4 refine wS ?_
 refine wL (OpA.p ?_)
 refine wL (OpA.m ?_)
 iterate 4 refine wS ?_
 refine wL (OpA.p ?_)
 refine zab ?_
 exact ⟨(Cov.asg ⟨rfl, rfl, rfl, (congrArg D.b (Eq.symm (orS (orS (orN b12 b13))))), trivial⟩), (.refl _)⟩
 iterate 2 refine wG (OpA.m ?_)
 refine wG (OpA.addi rfl rfl rfl (q2 ⟨(decF b12), (decF b13)⟩) ?_)
 refine wG (OpA.lss rfl rfl rfl ?_)
 refine wL (OpA.p ?_)
 refine wL (OpA.m ?_)
 refine zam (s := 91) rfl (fun b14 => ?_) (fun b14 => ?_)
 iterate 4 refine wS ?_
 refine wL (OpA.p ?_)
 refine zab ?_
 exact ⟨(Cov.asg ⟨rfl, rfl, rfl, (congrArg D.b (Eq.symm (orS (orN (orN b12 b13) b14)))), trivial⟩), (.refl _)⟩
 iterate 2 refine wG (OpA.m ?_)
 refine wG (OpA.addi rfl rfl rfl (q3 ⟨⟨(decF b12), (decF b13)⟩, (decF b14)⟩) ?_)
 refine wG (OpA.gtr rfl rfl rfl ?_)
 refine wL (OpA.p ?_)
 refine zab ?_
 exact ⟨(Cov.asg ⟨rfl, rfl, rfl, (congrArg D.b (Eq.symm (orN (orN (orN b12 b13) b14) rfl))), trivial⟩), (.refl _)⟩
 show wpA _ _ _ _ _ _
 refine zae rfl (fun b11 => ?_) (fun b11 => ?_)
 have h := h.1 ((or0 b11).imp (fun hh => ((or0 hh).imp (fun hh => ((or0 hh).imp (fun hh => (decT hh)) (fun hh => (decT hh)))) (fun hh => (decT hh)))) (fun hh => (decT hh)))
 refine zac (zaa ?_)
 iterate 2 refine wL (OpA.a ?_)
 refine zab (zal ?_)
 exact ⟨_, (.tmp (d := D.s (⟨#[]⟩ : ByteArray)) rfl (.tmp (d := D.b false) rfl .nil)), _, (.tup (.same rfl (.same rfl .nil)) .nil), ⟨((⟨#[]⟩ : ByteArray), false), rfl, h⟩⟩
 have h := h.2 ⟨⟨⟨(decF (or1 (or1 (or1 b11)))), (decF (or2 (or1 (or1 b11))))⟩, (decF (or2 (or1 b11)))⟩, (decF (or2 b11))⟩
 refine zai (zac ?_)
 obtain ⟨q1, q2, q3, h⟩ := h
 refine zaa ?_
 refine wL (OpA.load_whole rfl ti34 rfl rfl .head rfl ⟨_, rfl⟩ ?_)
 refine wL (OpA.call rfl rfl rfl en83 (plines_c p q1) ?_)
 rintro _ rfl
 refine wL (OpA.call rfl rfl rfl en82 (tjoin_c (linesP p) q2 q3) ?_)
 rintro _ rfl
 refine wL (OpA.m ?_)
 iterate 2 refine wL (OpA.extract rfl rfl rfl ?_)
 iterate 2 refine wL (OpA.a ?_)
 refine zab (zac (zaa ?_))
 iterate 2 refine wL (OpA.m ?_)
 refine wL (OpA.eql rfl rfl rfl ?_)
 iterate 2 refine wL (OpA.a ?_)
 refine zab (zal ?_)
 exact ⟨_, (.tmp (d := D.s ((joinT (linesP p)).1)) rfl (.tmp (d := D.b (((joinT (linesP p)).2) == 0)) rfl .nil)), _, (.tup (.same rfl (.same rfl .nil)) .nil), ⟨((joinT (linesP p)).1, (((joinT (linesP p)).2) == 0)), rfl, h⟩⟩
theorem pcheck_c (p : Patch) (hp0 : okP4 p) : Fun false Tryz.prog 37 [encPatch p] (fun d => d = .tup [D.s ((checkP p).1), D.b ((checkP p).2)]) :=
 Fun.at (enc := fun r => .tup [D.s (r.1), D.b (r.2)]) (v := checkP p) (pcheck_w p  (fun r => r = checkP p) (pcheck_ok p _ hp0 rfl))
theorem pcost_w (p : Patch) (Q : Int × Int → Prop) (h : pcost_vc p Q) : Fun false Tryz.prog 10 [encPatch p] (fun d => ∃ r, d = .tup [D.i (r.1), D.i (r.2)] ∧ Q r) := by
 unfold pcost_vc at h
 refine Fun.of_body Tryz.func10 rfl Tryz.ntmps10 rfl ?_
 refine zac (zaa ?_)
 refine wL (OpA.bx (sz := 2) rfl zW (.of rfl) (fun c1 _ => ?_))
 iterate 2 refine wL (OpA.a ?_)
 refine zab ?_
 iterate 2 refine zac ?_
 obtain ⟨q1, h⟩ := h
 refine zaa ?_
 refine wL (OpA.load_whole rfl ti34 rfl rfl .head rfl ⟨_, rfl⟩ ?_)
 refine wL (OpA.call rfl rfl rfl en37 (pcheck_c p q1) ?_)
 rintro _ rfl
 refine wL (OpA.m ?_)
 iterate 2 refine wL (OpA.extract rfl rfl rfl ?_)
 iterate 2 refine wL (OpA.a ?_)
 refine zab (zac (zaa (wL (OpA.m ?_))))
 refine wL (OpA.not rfl rfl ?_)
 refine zab ?_
 refine zae rfl (fun b2 => ?_) (fun b2 => ?_)
 have h := h.1 (notT b2)
 refine zac (zaa ?_)
 iterate 2 refine wL (OpA.a ?_)
 refine zab (zal ?_)
 exact ⟨_, (.tmp (d := D.i 0) rfl (.tmp (d := D.i 1) rfl .nil)), _, (.tup (.same rfl (.same rfl .nil)) .nil), ⟨(0, 1), rfl, h⟩⟩
 have h := h.2 (notF b2)
 refine zai (zac ?_)
 obtain ⟨q1, h⟩ := h
 refine zaa ?_
 refine wL (OpA.load_whole rfl ti34 rfl rfl .head rfl ⟨_, rfl⟩ ?_)
 refine wL (OpA.call rfl rfl rfl en38 (psizes_c p q1) ?_)
 rintro _ rfl
 refine wL (OpA.m ?_)
 iterate 3 refine wL (OpA.extract rfl rfl rfl ?_)
 iterate 3 refine wL (OpA.a ?_)
 refine zab (zac ?_)
 obtain ⟨q1, h⟩ := h
 refine zaa ?_
 iterate 2 refine wL (OpA.m ?_)
 refine wL (OpA.addi rfl rfl rfl q1 ?_)
 iterate 2 refine wL (OpA.a ?_)
 refine zab (zal ?_)
 exact ⟨_, (.tmp (d := D.i (((sizesP p).2.1) + ((sizesP p).2.2))) rfl (.tmp (d := D.i 0) rfl .nil)), _, (.tup (.same rfl (.same rfl .nil)) .nil), ⟨((((sizesP p).2.1) + ((sizesP p).2.2)), 0), rfl, h⟩⟩
theorem pcost_c (p : Patch) (hp0 : okP4 p) : Fun false Tryz.prog 10 [encPatch p] (fun d => d = .tup [D.i ((costP p).1), D.i ((costP p).2)]) :=
 Fun.at (enc := fun r => .tup [D.i (r.1), D.i (r.2)]) (v := costP p) (pcost_w p  (fun r => r = costP p) (pcost_ok p _ hp0 rfl))
theorem papply_w (p : Patch) (data : ByteArray) (Q : (List ByteArray) × (List ByteArray) × Int → Prop) (h : papply_vc p data Q) : Fun false Tryz.prog 43 [encPatch p, D.s data] (fun d => ∃ r, d = .tup [(encL 1 D.s) (r.1), (encL 1 D.s) (r.2.1), D.i (r.2.2)] ∧ Q r) := by
 unfold papply_vc at h
 refine Fun.of_body Tryz.func43 rfl Tryz.ntmps43 rfl ?_
 refine zac (zaa ?_)
 refine wL (OpA.bx (sz := 2) rfl zW (.of rfl) (fun c1 _ => ?_))
 refine wL (OpA.asnN (T := ByteArray) (enc := D.s) (sz := 1) rfl rfl ?_)
 iterate 2 refine wL (OpA.a ?_)
 refine zab ?_
 iterate 2 refine zac ?_
 obtain ⟨q1, h⟩ := h
 refine zaa ?_
 refine wL (OpA.load_whole rfl ti34 rfl rfl .head rfl ⟨_, rfl⟩ ?_)
 refine wL (OpA.call rfl rfl rfl en37 (pcheck_c p q1) ?_)
 rintro _ rfl
 refine wL (OpA.m ?_)
 iterate 2 refine wL (OpA.extract rfl rfl rfl ?_)
 iterate 2 refine wL (OpA.a ?_)
 refine zab (zac (zaa (wL (OpA.m ?_))))
 refine wL (OpA.not rfl rfl ?_)
 refine zab ?_
 refine zae rfl (fun b2 => ?_) (fun b2 => ?_)
 have h := h.1 (notT b2)
 refine zac (zaa ?_)
 refine wL (OpA.asnN (T := ByteArray) (enc := D.s) (sz := 1) rfl rfl ?_)
 iterate 2 refine wL (OpA.a ?_)
 refine zab (zal ?_)
 exact ⟨_, (.tmp (d := (encL 1 D.s) ([] : List ByteArray)) rfl (.tmp (d := .v (.slice none 0 0)) rfl (.tmp (d := D.i 1) rfl .nil))), _, (.tup (.same rfl (.nilv (sz := 1) (.same rfl .nil))) .nil), ⟨(([] : List ByteArray), [], 1), rfl, h⟩⟩
 have h := h.2 (notF b2)
 refine zai (zac ?_)
 obtain ⟨q1, h⟩ := h
 refine zaa (wL (OpA.m ?_))
 refine wL (OpA.call rfl rfl rfl en8 (tlines_c data q1) ?_)
 rintro _ rfl
 refine wL (OpA.m ?_)
 iterate 2 refine wL (OpA.extract rfl rfl rfl ?_)
 iterate 2 refine wL (OpA.a ?_)
 refine zab ?_
 iterate 2 refine zac ?_
 refine zaa (wL (OpA.m ?_))
 refine wL (OpA.neq rfl rfl rfl ?_)
 refine zab ?_
 refine zae rfl (fun b3 => ?_) (fun b3 => ?_)
 have h := h.1 (bneT b3)
 refine zac (zaa (wL (OpA.m ?_)))
 refine wL (OpA.asnN (T := ByteArray) (enc := D.s) (sz := 1) rfl rfl ?_)
 iterate 2 refine wL (OpA.a ?_)
 refine zab (zal ?_)
 exact ⟨_, (.tmp (d := (encL 1 D.s) ([] : List ByteArray)) rfl (.tmp (d := .v (.slice none 0 0)) rfl (.tmp (d := D.i ((zaf data).2)) rfl .nil))), _, (.tup (.same rfl (.nilv (sz := 1) (.same rfl .nil))) .nil), ⟨(([] : List ByteArray), [], (zaf data).2), rfl, h⟩⟩
 have h := h.2 (bneF b3)
 refine zai (zac ?_)
 obtain ⟨q1, h⟩ := h
 refine zaa ?_
 refine wL (OpA.load_whole rfl ti34 rfl rfl .head rfl ⟨_, rfl⟩ ?_)
 refine wL (OpA.call rfl rfl rfl en38 (psizes_c p q1) ?_)
 rintro _ rfl
 refine wL (OpA.m ?_)
 iterate 3 refine wL (OpA.extract rfl rfl rfl ?_)
 iterate 3 refine wL (OpA.a ?_)
 refine zab ?_
 iterate 2 refine zac ?_
 obtain ⟨q1, q2, h⟩ := h
 refine wpA_mid (asg [(2, .ptr c1 2 0 0), (4, (encL 1 D.s) ([] : List ByteArray)), (5, .v (.slice none 0 0)), (6, D.i 0), (9, (encL 1 D.s) ((zaf data).1)), (58, D.b (((((sizesP p).1) + ((sizesP p).2.1)) != (((zaf data).1).length : Int)) || ((!decide (p.base = (⟨#[]⟩ : ByteArray))) && (!decide (p.base = (sumP data))))))]) [(c1, .cells 2 [encPatch p])] ?_ ?_
 refine wpA_draw (m := 18) mo zK rfl ?_
 iterate 2 refine dL (OpA.m ⟨rfl, rfl⟩) ?_
 refine dL (OpA.addi rfl rfl rfl q1 ⟨rfl, rfl⟩) ?_
 refine dL (OpA.m ⟨rfl, rfl⟩) ?_
 refine dL (OpA.len rfl rfl rfl rfl ts25.desc (.inl ⟨_, _, rfl, (List.length_map _).symm⟩) ⟨rfl, rfl⟩) ?_
 refine dL (OpA.neq rfl rfl rfl ⟨rfl, rfl⟩) ?_
 refine dL (OpA.m ⟨rfl, rfl⟩) ?_
 refine DetK_split (s := 47) rfl (fun b16 => ?_) (fun b16 => ?_)
 iterate 4 refine dS ?_
 iterate 5 refine DetK.skipU rfl rfl rfl ?_
 refine dS ?_
 refine dL (OpA.p ⟨rfl, rfl⟩) ?_
 refine DetK.nil ?_
 refine zab ?_
 exact ⟨(Cov.asg ⟨rfl, rfl, rfl, rfl, rfl, (congrArg D.b (Eq.symm (orS b16))), trivial⟩), (.refl _)⟩
 refine dG (OpA.fieldAddr rfl tf34_0 rfl ⟨rfl, rfl⟩) ?_
 refine dG (OpA.load rfl ti9 rfl .head rfl rfl ⟨rfl, rfl⟩) ?_
 refine dG (OpA.sneq rfl rfl rfl ⟨rfl, rfl⟩) ?_
 refine dG (OpA.m ⟨rfl, rfl⟩) ?_
 refine DetK_split (s := 51) rfl (fun b17 => ?_) (fun b17 => ?_)
 refine dG (OpA.fieldAddr rfl tf34_0 rfl ⟨rfl, rfl⟩) ?_
 refine dG (OpA.load rfl ti9 rfl .head rfl rfl ⟨rfl, rfl⟩) ?_
 refine dG (OpA.m ⟨rfl, rfl⟩) ?_
 refine dG (OpA.call rfl rfl rfl en86 (sum_c data ((q2 (bneF b16)) (ndecT b17))) (by rintro _ rfl; exact ⟨rfl, rfl⟩)) ?_
 refine dG (OpA.sneq rfl rfl rfl ⟨rfl, rfl⟩) ?_
 refine dG (OpA.p ⟨rfl, rfl⟩) ?_
 refine dL (OpA.p ⟨rfl, rfl⟩) ?_
 refine DetK.nil ?_
 refine zab ?_
 exact ⟨(Cov.asg ⟨rfl, rfl, rfl, rfl, rfl, (congrArg D.b (Eq.symm (orN b16 (andN b17 rfl)))), trivial⟩), (.refl _)⟩
 iterate 5 refine dS ?_
 refine dG (OpA.p ⟨rfl, rfl⟩) ?_
 refine dL (OpA.p ⟨rfl, rfl⟩) ?_
 refine DetK.nil ?_
 refine zab ?_
 exact ⟨(Cov.asg ⟨rfl, rfl, rfl, rfl, rfl, (congrArg D.b (Eq.symm (orN b16 (andS b17)))), trivial⟩), (.refl _)⟩
 show wpA _ _ _ _ _ _
 refine zae rfl (fun b4 => ?_) (fun b4 => ?_)
 have h := h.1 ((or0 b4).imp (fun hh => (bneT hh)) (fun hh => ⟨(ndecT (and1 hh)), (ndecT (and2 hh))⟩))
 refine zac (zaa ?_)
 refine wL (OpA.asnN (T := ByteArray) (enc := D.s) (sz := 1) rfl rfl ?_)
 iterate 2 refine wL (OpA.a ?_)
 refine zab (zal ?_)
 exact ⟨_, (.tmp (d := (encL 1 D.s) ([] : List ByteArray)) rfl (.tmp (d := .v (.slice none 0 0)) rfl (.tmp (d := D.i 9) rfl .nil))), _, (.tup (.same rfl (.nilv (sz := 1) (.same rfl .nil))) .nil), ⟨(([] : List ByteArray), [], 9), rfl, h⟩⟩
 have h := h.2 ⟨(bneF (or1 b4)), ((and0 (or2 b4)).imp (fun hh => (ndecF hh)) (fun hh => (ndecF hh)))⟩
 refine zai (zac (zaa ?_))
 refine wL (OpA.asnG (T := ByteArray) (enc := D.s) (sz := 1) rfl rfl (fun c14_g5 => ?_))
 refine zab (zac (zaa (wL (OpA.a (zab ?_)))))
 iterate 2 refine zac ?_
 refine zaa ?_
 refine wL (OpA.fieldAddr rfl tf34_1 rfl ?_)
 refine wL (OpA.load rfl ti32 rfl (.tail .head) rfl rfl ?_)
 refine wL (OpA.len rfl rfl rfl rfl ts32.desc (.inl ⟨_, _, rfl, (List.length_map _).symm⟩) ?_)
 refine wL (OpA.m ?_)
 refine zab (zag ?_)
 refine wpA_lfp (S := (List ByteArray) × Int × Int) (G := Nat × List D × List D) (c14_g5, ([] : List D), ([] : List D)) (fun gg ss => asg [(4, (encL 1 D.s) ([] : List ByteArray)), (5, .v (.slice none 0 0)), (6, D.i 0), (9, (encL 1 D.s) ((zaf data).1)), (14, .own gg.1 1 gg.2.1.length ss.1.length), (15, D.i ss.2.1), (60, (encL 3 encHunk) p.hunks), (61, D.i (p.hunks.length : Int)), (62, D.i ss.2.2)]) (fun gg ss => [(gg.1, .cells 1 (winL D.s gg.2.1 ss.1 gg.2.2)), (c1, .cells 2 [encPatch p])]) h cvZ (.refl _) ?_
 rintro again6 ⟨cb14, pre14, post14⟩ ⟨out, at_, x⟩ h
 have h : papply_L1 p data Q again6 out at_ x := h
 unfold papply_L1 at h
 show wpA _ _ _ _ _ _
 refine zac (zaa ?_)
 refine wL (OpA.lss rfl rfl rfl ?_)
 refine zab (zac ?_)
 refine zae rfl (fun b7 => ?_) (fun b7 => ?_)
 have h := h.1 (decT b7)
 refine zai (zac (zag (zac ?_)))
 obtain ⟨q1, h⟩ := h
 refine zaa ?_
 refine wL (OpA.iixV (enc := encHunk) rfl ts32 rfl rfl rfl q1 ?_)
 refine wL (OpA.iload_whole rfl ti118 rfl ⟨_, rfl, rfl⟩ ?_)
 refine wL (OpA.alloc (sz := 3) (d := .agg ([D.i 0, D.i 0, .v (.slice none 0 0)])) rfl tz118 (fun _ _ => .agg (.cons (.v _) (.cons (.v _) (.cons (.v _) .nil)))) (.of rfl) (fun c8 _ => ?_))
 refine wE (OpA.storeW rfl ti118 rfl zW (.of rfl) rfl rfl .head ?_)
 refine zab (zac (zaa ?_))
 refine wL (OpA.fieldAddr rfl tf118_0 rfl ?_)
 refine wL (OpA.load rfl ti3 rfl .head rfl rfl ?_)
 refine zab (zag (zac (zaa ?_)))
 refine wL (OpA.eql rfl rfl rfl ?_)
 refine wL (OpA.a ?_)
 refine zab ?_
 refine zae rfl (fun b9 => ?_) (fun b9 => ?_)
 have h := h.1 (beqT b9)
 refine zac ?_
 obtain ⟨q1, q2, q3, h⟩ := h
 refine zaa ?_
 iterate 4 refine wL (OpA.m ?_)
 refine wL (OpA.fieldAddr rfl tf118_1 rfl ?_)
 refine wL (OpA.load rfl ti3 rfl .head rfl rfl ?_)
 refine wL (OpA.addi rfl rfl rfl q1 ?_)
 refine wL (OpA.isliceV (enc := D.s) rfl ts25 rfl (.some rfl) (.some rfl) q2 ?_)
 refine wL (OpA.appendW (enc := D.s) rfl rfl rfl rfl ts25 rfl (fun _ _ => (.tail .head)) (.list (ys := (lsub ((zaf data).1) at_ (at_ + ((gi p.hunks x).n))))) q3 (fun c10 pre11 => ?_))
 refine wL (OpA.a ?_)
 refine zab ?_
 obtain ⟨q1, h⟩ := h
 refine zaa (wL (OpA.m ?_))
 refine wL (OpA.fieldAddr rfl tf118_1 rfl ?_)
 refine wL (OpA.load rfl ti3 rfl .head rfl rfl ?_)
 refine wL (OpA.addi rfl rfl rfl q1 ?_)
 refine wL (OpA.a ?_)
 refine zab ?_
 obtain ⟨q1, h⟩ := h
 refine zaa ?_
 refine wL (OpA.addi rfl rfl rfl q1 ?_)
 refine wL (OpA.m ?_)
 refine zab ?_
 exact ⟨(c10, pre11, ([] : List D)), ((out ++ (lsub ((zaf data).1) at_ (at_ + ((gi p.hunks x).n)))), (at_ + ((gi p.hunks x).n)), (x + 1)), h, cvZ, (.cons _ (.refl _))⟩
 have h := h.2 (beqF b9)
 refine zac (zaa ?_)
 refine wL (OpA.eql rfl rfl rfl ?_)
 refine wL (OpA.a ?_)
 refine zab ?_
 refine zae rfl (fun b12 => ?_) (fun b12 => ?_)
 have h := h.1 (beqT b12)
 obtain ⟨q1, h⟩ := h
 refine zaa (wL (OpA.m ?_))
 refine wL (OpA.fieldAddr rfl tf118_1 rfl ?_)
 refine wL (OpA.load rfl ti3 rfl .head rfl rfl ?_)
 refine wL (OpA.addi rfl rfl rfl q1 ?_)
 refine wL (OpA.a ?_)
 refine zab ?_
 obtain ⟨q1, h⟩ := h
 refine zaa ?_
 refine wL (OpA.addi rfl rfl rfl q1 ?_)
 refine wL (OpA.m ?_)
 refine zab ?_
 exact ⟨(cb14, pre14, post14), (out, (at_ + ((gi p.hunks x).n)), (x + 1)), h, cvZ, (.cons _ (.refl _))⟩
 have h := h.2 (beqF b12)
 obtain ⟨q1, h⟩ := h
 refine zaa (wL (OpA.m ?_))
 refine wL (OpA.fieldAddr rfl tf118_2 rfl ?_)
 refine wL (OpA.load rfl ti25 rfl .head rfl rfl ?_)
 refine wL (OpA.appendW (enc := D.s) rfl rfl rfl rfl ts25 rfl (fun _ _ => (.tail .head)) (.list (ys := (gi p.hunks x).lines)) q1 (fun c13 pre14 => ?_))
 refine wL (OpA.a ?_)
 refine zab ?_
 obtain ⟨q1, h⟩ := h
 refine zaa ?_
 refine wL (OpA.addi rfl rfl rfl q1 ?_)
 refine wL (OpA.m ?_)
 refine zab ?_
 exact ⟨(c13, pre14, ([] : List D)), ((out ++ ((gi p.hunks x).lines)), at_, (x + 1)), h, cvZ, (.cons _ (.refl _))⟩
 have h := h.2 (decF b7)
 refine wpA_exit ?_
 iterate 2 refine zac ?_
 refine wpA_freeze (s := 14) (d := .own cb14 1 pre14.length out.length) (d' := (encL 1 D.s) out) (.refl _) rfl (.win (enc := D.s) .head (by intro hf; cases hf) .nil) ?_
 obtain ⟨q1, q2, h⟩ := h
 refine zaa (wL (OpA.m ?_))
 refine wL (OpA.call rfl rfl rfl en82 (tjoin_c out q1 q2) ?_)
 rintro _ rfl
 refine wL (OpA.m ?_)
 iterate 2 refine wL (OpA.extract rfl rfl rfl ?_)
 iterate 2 refine wL (OpA.a ?_)
 refine zab (zac (zaa (wL (OpA.m ?_))))
 refine wL (OpA.neq rfl rfl rfl ?_)
 refine zab ?_
 refine zae rfl (fun b15 => ?_) (fun b15 => ?_)
 have h := h.1 (bneT b15)
 refine zac (zaa (wL (OpA.m ?_)))
 refine wL (OpA.asnN (T := ByteArray) (enc := D.s) (sz := 1) rfl rfl ?_)
 iterate 2 refine wL (OpA.a ?_)
 refine zab (zal ?_)
 exact ⟨_, (.tmp (d := (encL 1 D.s) ([] : List ByteArray)) rfl (.tmp (d := .v (.slice none 0 0)) rfl (.tmp (d := D.i ((joinT out).2)) rfl .nil))), _, (.tup (.same rfl (.nilv (sz := 1) (.same rfl .nil))) .nil), ⟨(([] : List ByteArray), [], (joinT out).2), rfl, h⟩⟩
 have h := h.2 (bneF b15)
 refine zai (zac (zaa ?_))
 iterate 2 refine wL (OpA.m ?_)
 iterate 3 refine wL (OpA.a ?_)
 refine zab (zal ?_)
 exact ⟨_, (.tmp (d := (encL 1 D.s) ((zaf data).1)) rfl (.tmp (d := (encL 1 D.s) out) rfl (.tmp (d := D.i 0) rfl .nil))), _, (.tup (.same rfl (.same rfl (.same rfl .nil))) .nil), ⟨((zaf data).1, out, 0), rfl, h⟩⟩
theorem papply_c (p : Patch) (data : ByteArray) (hp0 : okP4 p) (hp1 : data.size ≤ 1000000) : Fun false Tryz.prog 43 [encPatch p, D.s data] (fun d => d = .tup [(encL 1 D.s) ((applyP p data).1), (encL 1 D.s) ((applyP p data).2.1), D.i ((applyP p data).2.2)]) :=
 Fun.at (enc := fun r => .tup [(encL 1 D.s) (r.1), (encL 1 D.s) (r.2.1), D.i (r.2.2)]) (v := applyP p data) (papply_w p data  (fun r => r = applyP p data) (papply_ok p data _ hp0 hp1 rfl))
theorem pApply_w (p : Patch) (data : ByteArray) (Q : ByteArray × Int → Prop) (h : pApply_vc p data Q) : Fun false Tryz.prog 14 [encPatch p, D.s data] (fun d => ∃ r, d = .tup [D.s (r.1), D.i (r.2)] ∧ Q r) := by
 unfold pApply_vc at h
 refine Fun.of_body Tryz.func14 rfl Tryz.ntmps14 rfl ?_
 refine zac (zaa ?_)
 refine wL (OpA.bx (sz := 2) rfl zW (.of rfl) (fun c1 _ => ?_))
 iterate 2 refine wL (OpA.a ?_)
 refine zab (zac ?_)
 obtain ⟨q1, q2, h⟩ := h
 refine zaa ?_
 refine wL (OpA.load_whole rfl ti34 rfl rfl .head rfl ⟨_, rfl⟩ ?_)
 refine wL (OpA.m ?_)
 refine wL (OpA.call rfl rfl rfl en43 (papply_c p data q1 q2) ?_)
 rintro _ rfl
 refine wL (OpA.m ?_)
 iterate 3 refine wL (OpA.extract rfl rfl rfl ?_)
 iterate 3 refine wL (OpA.a ?_)
 refine zab (zac ?_)
 obtain ⟨q1, q2, q3, h⟩ := h
 refine zaa (wL (OpA.m ?_))
 refine wL (OpA.call rfl rfl rfl en44 (join_c ((applyP p data).2.1) (⟨#[10]⟩ : ByteArray) q1 q2 q3) ?_)
 rintro _ rfl
 refine wL (OpA.m ?_)
 iterate 2 refine wL (OpA.a ?_)
 refine zab (zal ?_)
 exact ⟨_, (.tmp (d := D.s (joinS ((applyP p data).2.1) (⟨#[10]⟩ : ByteArray))) rfl (.tmp (d := D.i ((applyP p data).2.2)) rfl .nil)), _, (.tup (.same rfl (.same rfl .nil)) .nil), ⟨((joinS ((applyP p data).2.1) (⟨#[10]⟩ : ByteArray)), (applyP p data).2.2), rfl, h⟩⟩
theorem pApply_c (p : Patch) (data : ByteArray) (hp0 : okP4 p) (hp1 : data.size ≤ 1000000) : Fun false Tryz.prog 14 [encPatch p, D.s data] (fun d => d = .tup [D.s ((applyF p data).1), D.i ((applyF p data).2)]) :=
 Fun.at (enc := fun r => .tup [D.s (r.1), D.i (r.2)]) (v := applyF p data) (pApply_w p data  (fun r => r = applyF p data) (pApply_ok p data _ hp0 hp1 rfl))
end Go.Proofs.YtkifpidbpoghlaaGreatDoor
