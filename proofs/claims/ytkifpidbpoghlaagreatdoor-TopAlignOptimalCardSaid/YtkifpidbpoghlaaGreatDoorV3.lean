/-
  walks and contracts
-/
import Derived.Test.YtkifpidbpoghlaaGreatDoorV2
set_option maxRecDepth 10000
set_option maxHeartbeats 2000000
set_option linter.all false
namespace Go.Proofs.YtkifpidbpoghlaaGreatDoor
open Go Go.Lic Go.Sort Go.Proofs
attribute [local irreducible] addP badR blankF cloneCmp clonesF cmpI codeF countF fewTs fewW findC gramsF guarF hashF indexF itoaF lenF lookF mul64F mulP orF partF pathF powF printsF pushF rightL rollF selectF sizeF splitF splitG validT
theorem wsize_w (n : Int) (Q : Bool → Prop) (h : wsize_vc n Q) : Fun false Tryz.prog 121 [D.i n] (fun d => ∃ r, d = D.b r ∧ Q r) := by
 unfold wsize_vc at h
 refine Fun.of_body Tryz.func121 rfl Tryz.ntmps121 rfl ?_
 refine zac (zaa (wL (OpA.a (zab (zac ?_)))))
 refine wpA_mid (asg [(2, D.b ((decide (n ≥ 1)) && (decide (n ≤ 1024))))]) [] ?_ ?_
 refine zaa (wL (OpA.m ?_))
 refine wL (OpA.geq rfl rfl rfl ?_)
 refine wL (OpA.m ?_)
 refine zam (s := 5) rfl (fun b1 => ?_) (fun b1 => ?_)
 refine wG (OpA.m ?_)
 refine wG (OpA.leq rfl rfl rfl ?_)
 refine wL (OpA.p ?_)
 refine wL (OpA.a ?_)
 refine zab ?_
 exact ⟨(Cov.asg ⟨(congrArg D.b (Eq.symm (andN b1 rfl))), trivial⟩), (.refl _)⟩
 iterate 2 refine wS ?_
 refine wL (OpA.p ?_)
 refine wL (OpA.a ?_)
 refine zab ?_
 exact ⟨(Cov.asg ⟨(congrArg D.b (Eq.symm (andS b1))), trivial⟩), (.refl _)⟩
 show wpA _ _ _ _ _ _
 refine zal ?_
 exact ⟨_, (.tmp (d := D.b ((decide (n ≥ 1)) && (decide (n ≤ 1024)))) rfl .nil), _, (.same rfl .nil), ⟨((decide (n ≥ 1)) && (decide (n ≤ 1024))), rfl, h⟩⟩
theorem wsize_c (n : Int)  : Fun false Tryz.prog 121 [D.i n] (fun d => d = D.b (sizeF n)) :=
 Fun.at (enc := fun r => D.b r) (v := sizeF n) (wsize_w n  (fun r => r = sizeF n) (wsize_ok n _  rfl))
theorem wselect_w (l : (List Int)) (w : Int) (Q : (List Int) × Int → Prop) (h : wselect_vc l w Q) : Fun false Tryz.prog 159 [(encL 1 D.i) l, D.i w] (fun d => ∃ r, d = .tup [(encL 1 D.i) (r.1), D.i (r.2)] ∧ Q r) := by
 unfold wselect_vc at h
 refine Fun.of_body Tryz.func159 rfl Tryz.ntmps159 rfl ?_
 refine zac (zaa ?_)
 iterate 2 refine wL (OpA.a ?_)
 refine zab (zac (zag (zac (zaa (wL (OpA.m ?_))))))
 refine wL (OpA.call rfl rfl rfl en121 (wsize_c w ) ?_)
 rintro _ rfl
 refine wL (OpA.not rfl rfl ?_)
 refine wL (OpA.a ?_)
 refine zab ?_
 refine zae rfl (fun b1 => ?_) (fun b1 => ?_)
 have h := h.1 (notT b1)
 refine zac (zaa ?_)
 iterate 2 refine wL (OpA.a ?_)
 refine zab (zal ?_)
 exact ⟨_, (.tmp (d := .v (.slice none 0 0)) rfl (.tmp (d := D.i 3) rfl .nil)), _, (.tup (.nilv (sz := 1) (.same rfl .nil)) .nil), ⟨([], 3), rfl, h⟩⟩
 have h := h.2 (notF b1)
 refine zac (zaa (wL (OpA.m ?_)))
 refine wL (OpA.len rfl rfl rfl rfl ts41.desc (.inl ⟨_, _, rfl, (List.length_map _).symm⟩) ?_)
 refine wL (OpA.gtr rfl rfl rfl ?_)
 refine wL (OpA.a ?_)
 refine zab ?_
 refine zae rfl (fun b2 => ?_) (fun b2 => ?_)
 have h := h.1 (decT b2)
 refine zac (zaa ?_)
 iterate 2 refine wL (OpA.a ?_)
 refine zab (zal ?_)
 exact ⟨_, (.tmp (d := .v (.slice none 0 0)) rfl (.tmp (d := D.i 10) rfl .nil)), _, (.tup (.nilv (sz := 1) (.same rfl .nil)) .nil), ⟨([], 10), rfl, h⟩⟩
 have h := h.2 (decF b2)
 refine zai (zac (zaa ?_))
 refine wL (OpA.asnG (T := Int) (enc := D.i) (sz := 1) rfl rfl (fun c6_g3 => ?_))
 refine wL (OpA.asnG (T := Int) (enc := D.i) (sz := 1) rfl rfl (fun c7_g4 => ?_))
 refine zab ?_
 iterate 2 refine zac ?_
 refine zaa (wL (OpA.m ?_))
 refine wL (OpA.len rfl rfl rfl rfl ts41.desc (.inl ⟨_, _, rfl, (List.length_map _).symm⟩) ?_)
 refine wL (OpA.m ?_)
 refine zab (zag ?_)
 refine wpA_lfp (S := (List Int) × (List Int) × Int) (G := Nat × List D × List D × Nat × List D × List D) (c7_g4, ([] : List D), ([] : List D), c6_g3, ([] : List D), ([] : List D)) (fun gg ss => asg [(0, (encL 1 D.i) l), (1, D.i w), (4, .v (.slice none 0 0)), (5, D.i 0), (6, .own gg.2.2.2.1 1 gg.2.2.2.2.1.length ss.2.1.length), (7, .own gg.1 1 gg.2.1.length ss.1.length), (18, D.i (l.length : Int)), (19, D.i ss.2.2)]) (fun gg ss => [(gg.1, .cells 1 (winL D.i gg.2.1 ss.1 gg.2.2.1)), (gg.2.2.2.1, .cells 1 (winL D.i gg.2.2.2.2.1 ss.2.1 gg.2.2.2.2.2))]) h cvZ (.refl _) ?_
 rintro again5 ⟨cb7, pre7, post7, cb6, pre6, post6⟩ ⟨list_, out, x⟩ h
 have h : wselect_L1 l w Q again5 list_ out x := h
 unfold wselect_L1 at h
 show wpA _ _ _ _ _ _
 refine zac (zaa ?_)
 refine wL (OpA.lss rfl rfl rfl ?_)
 refine zab (zac ?_)
 refine zae rfl (fun b6 => ?_) (fun b6 => ?_)
 have h := h.1 (decT b6)
 refine zai (zac (zag (zac (zaa (wL (OpA.m (wL (OpA.a (zab (zac (zag ?_)))))))))))
 refine wpA_lfp (S := (List Int)) (G := Nat × List D × List D) (cb7, pre7, post7) (fun gg ss => asg [(0, (encL 1 D.i) l), (1, D.i w), (4, .v (.slice none 0 0)), (5, D.i 0), (6, .own cb6 1 pre6.length out.length), (7, .own gg.1 1 gg.2.1.length ss.length), (8, D.i x), (18, D.i (l.length : Int)), (19, D.i x)]) (fun gg ss => [(gg.1, .cells 1 (winL D.i gg.2.1 ss gg.2.2)), (cb6, .cells 1 (winL D.i pre6 out post6))]) h cvZ (.refl _) ?_
 rintro again7 ⟨cb71, pre71, post71⟩ list_1 h
 have h : wselect_L2 l w out x again5 again7 list_1 := h
 unfold wselect_L2 at h
 show wpA _ _ _ _ _ _
 iterate 2 refine zac ?_
 obtain ⟨q1, h⟩ := h
 refine wpA_mid (asg [(0, (encL 1 D.i) l), (1, D.i w), (4, .v (.slice none 0 0)), (5, D.i 0), (6, .own cb6 1 pre6.length out.length), (7, .own cb71 1 pre71.length list_1.length), (8, D.i x), (18, D.i (l.length : Int)), (19, D.i x), (40, D.b ((decide ((list_1.length : Int) > 0)) && (decide ((gi l (gi list_1 ((list_1.length : Int) - 1))) ≥ (gi l x)))))]) [(cb71, .cells 1 (winL D.i pre71 list_1 post71)), (cb6, .cells 1 (winL D.i pre6 out post6))] ?_ ?_
 refine wpA_draw (m := 19) mo zK rfl ?_
 refine dL (OpA.m ⟨rfl, rfl⟩) ?_
 refine dL (OpA.len rfl rfl rfl rfl ts41.desc (.inr (.inl ⟨_, _, _, rfl⟩)) ⟨rfl, rfl⟩) ?_
 refine dL (OpA.gtr rfl rfl rfl ⟨rfl, rfl⟩) ?_
 refine dL (OpA.m ⟨rfl, rfl⟩) ?_
 refine DetK_split (s := 25) rfl (fun b17 => ?_) (fun b17 => ?_)
 iterate 3 refine dG (OpA.m ⟨rfl, rfl⟩) ?_
 refine dG (OpA.len rfl rfl rfl rfl ts41.desc (.inr (.inl ⟨_, _, _, rfl⟩)) ⟨rfl, rfl⟩) ?_
 refine dG (OpA.subi rfl rfl rfl (q1 (decT b17)).1 ⟨rfl, rfl⟩) ?_
 refine dG (OpA.ixV rfl ts41 rfl rfl (q1 (decT b17)).2.1 ⟨rfl, rfl⟩) ?_
 refine dG (OpA.load rfl ti3 rfl .head (getV (enc := D.i) (q1 (decT b17)).2.1) rfl ⟨rfl, rfl⟩) ?_
 refine dG (OpA.iixV (enc := D.i) rfl ts41 rfl rfl rfl (q1 (decT b17)).2.2.1 ⟨rfl, rfl⟩) ?_
 refine dG (OpA.iload rfl ti3 rfl rfl ⟨rfl, rfl⟩) ?_
 iterate 2 refine dG (OpA.m ⟨rfl, rfl⟩) ?_
 refine dG (OpA.iixV (enc := D.i) rfl ts41 rfl rfl rfl (q1 (decT b17)).2.2.2 ⟨rfl, rfl⟩) ?_
 refine dG (OpA.iload rfl ti3 rfl rfl ⟨rfl, rfl⟩) ?_
 refine dG (OpA.geq rfl rfl rfl ⟨rfl, rfl⟩) ?_
 refine dL (OpA.p ⟨rfl, rfl⟩) ?_
 refine DetK.nil ?_
 refine zab ?_
 exact ⟨(Cov.asg ⟨rfl, rfl, rfl, rfl, rfl, rfl, rfl, rfl, rfl, (congrArg D.b (Eq.symm (andN b17 rfl))), trivial⟩), (.refl _)⟩
 iterate 14 refine dS ?_
 refine dL (OpA.p ⟨rfl, rfl⟩) ?_
 refine DetK.nil ?_
 refine zab ?_
 exact ⟨(Cov.asg ⟨rfl, rfl, rfl, rfl, rfl, rfl, rfl, rfl, rfl, (congrArg D.b (Eq.symm (andS b17))), trivial⟩), (.refl _)⟩
 show wpA _ _ _ _ _ _
 refine zae rfl (fun b8 => ?_) (fun b8 => ?_)
 have h := h.1 ⟨(decT (and1 b8)), (decT (and2 b8))⟩
 refine zai (zag ?_)
 obtain ⟨q1, q2, h⟩ := h
 refine zaa ?_
 iterate 2 refine wL (OpA.m ?_)
 refine wL (OpA.len rfl rfl rfl rfl ts41.desc (.inr (.inl ⟨_, _, _, rfl⟩)) ?_)
 refine wL (OpA.subi rfl rfl rfl q1 ?_)
 refine wL (OpA.sliceV (enc := D.i) rfl ts41 rfl (.none _) (.some rfl) q2 .head ?_)
 refine wL (OpA.a ?_)
 refine zab ?_
 exact ⟨(cb71, (pre71 ++ (list_1.take (Int.toNat 0)).map D.i), ((list_1.drop (Int.toNat ((list_1.length : Int) - 1))).map D.i ++ post71)), (lsub list_1 0 ((list_1.length : Int) - 1)), h, cvZ, (.refl _)⟩
 have h := h.2 ((and0 b8).imp (fun hh => (decF hh)) (fun hh => (decF hh)))
 refine wpA_exit ?_
 refine zac ?_
 obtain ⟨q1, h⟩ := h
 refine zaa ?_
 iterate 2 refine wL (OpA.m ?_)
 refine wL (OpA.ibuildSliceO rfl ts41 rfl (.cons (.of (sz := 1) rfl) .nil) (by decide) ?_)
 refine wL (OpA.appendW (enc := D.i) rfl rfl rfl rfl ts41 rfl (fun _ _ => .head) (.list (ys := ([x] : List Int))) q1 (fun c9 pre10 => ?_))
 refine wL (OpA.a ?_)
 refine zab ?_
 iterate 2 refine zac ?_
 obtain ⟨q1, q2, h⟩ := h
 refine zaa (wL (OpA.m ?_))
 refine wL (OpA.ixV rfl ts41 rfl rfl q1 ?_)
 refine wL (OpA.load rfl ti3 rfl .head (getV (enc := D.i) q1) rfl ?_)
 iterate 2 refine wL (OpA.m ?_)
 refine wL (OpA.subi rfl rfl rfl q2 ?_)
 refine wL (OpA.leq rfl rfl rfl ?_)
 refine zab ?_
 refine wpA_join (S := (List Int)) (G := List D × List D) (fun gg ss => asg [(0, (encL 1 D.i) l), (1, D.i w), (4, .v (.slice none 0 0)), (5, D.i 0), (6, .own cb6 1 pre6.length out.length), (7, .own c9 1 gg.1.length ss.length), (8, D.i x), (18, D.i (l.length : Int)), (19, D.i x)]) (fun gg ss => [(c9, .cells 1 (winL D.i gg.1 ss gg.2)), (cb6, .cells 1 (winL D.i pre6 out post6))]) (fun ss => wselect_J1 w out x again5 ss) ?_ ?_
 refine zae rfl (fun b16 => ?_) (fun b16 => ?_)
 have h := h.1 (decT b16)
 obtain ⟨q1, h⟩ := h
 refine zaa (wL (OpA.m ?_))
 refine wL (OpA.sliceV (enc := D.i) rfl ts41 rfl (.some rfl) (.none _) q1 .head ?_)
 refine wL (OpA.a ?_)
 refine zab ?_
 exact ⟨((pre10 ++ ((list_1 ++ ([x] : List Int)).take (Int.toNat 1)).map D.i), (((list_1 ++ ([x] : List Int)).drop (Int.toNat ((list_1 ++ ([x] : List Int)).length : Int))).map D.i ++ ([] : List D))), (lsub (list_1 ++ ([x] : List Int)) 1 ((list_1 ++ ([x] : List Int)).length : Int)), h, cvZ, (.refl _)⟩
 have h := h.2 (decF b16)
 refine zai ?_
 exact ⟨(pre10, ([] : List D)), (list_1 ++ ([x] : List Int)), h, cvZ, (.refl _)⟩
 rintro ⟨pre72, post72⟩ list_2 h
 have h : wselect_J1 w out x again5 list_2 := h
 unfold wselect_J1 at h
 show wpA _ _ _ _ _ _
 refine zac ?_
 obtain ⟨q1, q2, h⟩ := h
 refine wpA_mid (asg [(0, (encL 1 D.i) l), (1, D.i w), (4, .v (.slice none 0 0)), (5, D.i 0), (6, .own cb6 1 pre6.length out.length), (7, .own c9 1 pre72.length list_2.length), (18, D.i (l.length : Int)), (19, D.i x), (79, D.b ((decide (x ≥ (w - 1))) && (((out.length : Int) == 0) || ((gi out ((out.length : Int) - 1)) != (gi list_2 0)))))]) [(c9, .cells 1 (winL D.i pre72 list_2 post72)), (cb6, .cells 1 (winL D.i pre6 out post6))] ?_ ?_
 refine wpA_draw (m := 21) mo zK rfl ?_
 iterate 2 refine dL (OpA.m ⟨rfl, rfl⟩) ?_
 refine dL (OpA.subi rfl rfl rfl q1 ⟨rfl, rfl⟩) ?_
 refine dL (OpA.geq rfl rfl rfl ⟨rfl, rfl⟩) ?_
 refine dL (OpA.m ⟨rfl, rfl⟩) ?_
 refine DetK_split (s := 63) rfl (fun b14 => ?_) (fun b14 => ?_)
 refine dG (OpA.m ⟨rfl, rfl⟩) ?_
 refine dG (OpA.len rfl rfl rfl rfl ts41.desc (.inr (.inl ⟨_, _, _, rfl⟩)) ⟨rfl, rfl⟩) ?_
 refine dG (OpA.eql rfl rfl rfl ⟨rfl, rfl⟩) ?_
 refine dG (OpA.m ⟨rfl, rfl⟩) ?_
 refine DetK_split (s := 67) rfl (fun b15 => ?_) (fun b15 => ?_)
 iterate 10 refine dS ?_
 refine dG (OpA.p ⟨rfl, rfl⟩) ?_
 refine dL (OpA.p ⟨rfl, rfl⟩) ?_
 refine DetK.nil ?_
 refine zab ?_
 exact ⟨(Cov.asg ⟨rfl, rfl, rfl, rfl, rfl, rfl, rfl, rfl, (congrArg D.b (Eq.symm (andN b14 (orS b15)))), trivial⟩), (.refl _)⟩
 iterate 2 refine dG (OpA.m ⟨rfl, rfl⟩) ?_
 refine dG (OpA.len rfl rfl rfl rfl ts41.desc (.inr (.inl ⟨_, _, _, rfl⟩)) ⟨rfl, rfl⟩) ?_
 refine dG (OpA.subi rfl rfl rfl ((q2 (decT b14)) (beqF b15)).1 ⟨rfl, rfl⟩) ?_
 refine dG (OpA.ixV rfl ts41 rfl rfl ((q2 (decT b14)) (beqF b15)).2.1 ⟨rfl, rfl⟩) ?_
 refine dG (OpA.load rfl ti3 rfl (.tail .head) (getV (enc := D.i) ((q2 (decT b14)) (beqF b15)).2.1) rfl ⟨rfl, rfl⟩) ?_
 refine dG (OpA.m ⟨rfl, rfl⟩) ?_
 refine dG (OpA.ixV rfl ts41 rfl rfl ((q2 (decT b14)) (beqF b15)).2.2 ⟨rfl, rfl⟩) ?_
 refine dG (OpA.load rfl ti3 rfl .head (getV (enc := D.i) ((q2 (decT b14)) (beqF b15)).2.2) rfl ⟨rfl, rfl⟩) ?_
 refine dG (OpA.neq rfl rfl rfl ⟨rfl, rfl⟩) ?_
 refine dG (OpA.p ⟨rfl, rfl⟩) ?_
 refine dL (OpA.p ⟨rfl, rfl⟩) ?_
 refine DetK.nil ?_
 refine zab ?_
 exact ⟨(Cov.asg ⟨rfl, rfl, rfl, rfl, rfl, rfl, rfl, rfl, (congrArg D.b (Eq.symm (andN b14 (orN b15 rfl)))), trivial⟩), (.refl _)⟩
 iterate 4 refine dS ?_
 iterate 10 refine DetK.skipU rfl rfl rfl ?_
 refine dS ?_
 refine dL (OpA.p ⟨rfl, rfl⟩) ?_
 refine DetK.nil ?_
 refine zab ?_
 exact ⟨(Cov.asg ⟨rfl, rfl, rfl, rfl, rfl, rfl, rfl, rfl, (congrArg D.b (Eq.symm (andS b14))), trivial⟩), (.refl _)⟩
 show wpA _ _ _ _ _ _
 refine zae rfl (fun b11 => ?_) (fun b11 => ?_)
 have h := h.1 ⟨(decT (and1 b11)), ((or0 (and2 b11)).imp (fun hh => (beqT hh)) (fun hh => (bneT hh)))⟩
 obtain ⟨q1, q2, h⟩ := h
 refine zaa ?_
 iterate 2 refine wL (OpA.m ?_)
 refine wL (OpA.ixV rfl ts41 rfl rfl q1 ?_)
 refine wL (OpA.load rfl ti3 rfl .head (getV (enc := D.i) q1) rfl ?_)
 refine wL (OpA.ibuildSliceO rfl ts41 rfl (.cons (.of (sz := 1) rfl) .nil) (by decide) ?_)
 refine wL (OpA.appendW (enc := D.i) rfl rfl rfl rfl ts41 rfl (fun _ _ => (.tail .head)) (.list (ys := ([(gi list_2 0)] : List Int))) q2 (fun c12 pre13 => ?_))
 refine wL (OpA.a ?_)
 refine zab ?_
 obtain ⟨q1, h⟩ := h
 refine zaa ?_
 refine wL (OpA.addi rfl rfl rfl q1 ?_)
 refine wL (OpA.m ?_)
 refine zab ?_
 exact ⟨(c9, pre72, post72, c12, pre13, ([] : List D)), (list_2, (out ++ ([(gi list_2 0)] : List Int)), (x + 1)), h, cvZ, (.refl _)⟩
 have h := h.2 ((and0 b11).imp (fun hh => (decF hh)) (fun hh => ⟨(beqF (or1 hh)), (bneF (or2 hh))⟩))
 refine zai ?_
 obtain ⟨q1, h⟩ := h
 refine zaa ?_
 refine wL (OpA.addi rfl rfl rfl q1 ?_)
 refine wL (OpA.m ?_)
 refine zab ?_
 exact ⟨(c9, pre72, post72, cb6, pre6, post6), (list_2, out, (x + 1)), h, cvZ, (.refl _)⟩
 have h := h.2 (decF b6)
 refine wpA_exit ?_
 refine zac (zaa (wL (OpA.m ?_)))
 iterate 2 refine wL (OpA.a ?_)
 refine zab (zal ?_)
 exact ⟨_, (.tmp (d := .own cb6 1 pre6.length out.length) rfl (.tmp (d := D.i 0) rfl .nil)), _, (.tup (.win (.tail .head) (by intro hf; cases hf) (.same rfl .nil)) .nil), ⟨(out, 0), rfl, h⟩⟩
theorem wselect_c (l : (List Int)) (w : Int) (hp0 : l.length ≤ 1000000) : Fun false Tryz.prog 159 [(encL 1 D.i) l, D.i w] (fun d => d = .tup [(encL 1 D.i) ((selectF l w).1), D.i ((selectF l w).2)]) :=
 Fun.at (enc := fun r => .tup [(encL 1 D.i) (r.1), D.i (r.2)]) (v := selectF l w) (wselect_w l w  (fun r => r = selectF l w) (wselect_ok l w _ hp0 rfl))
theorem wprints_w (t : Text) (k : Int) (w : Int) (Q : (List Print) × Int → Prop) (h : wprints_vc t k w Q) : Fun false Tryz.prog 117 [zak t, D.i k, D.i w] (fun d => ∃ r, d = .tup [(encL 2 zaj) (r.1), D.i (r.2)] ∧ Q r) := by
 unfold wprints_vc at h
 refine Fun.of_body Tryz.func117 rfl Tryz.ntmps117 rfl ?_
 refine zac (zaa ?_)
 refine wL (OpA.bx (sz := 2) rfl zW (.of rfl) (fun c1 _ => ?_))
 iterate 2 refine wL (OpA.a ?_)
 refine zab (zac (zag (zac ?_)))
 obtain ⟨q1, h⟩ := h
 refine zaa ?_
 refine wL (OpA.load_whole rfl ti57 rfl rfl .head rfl ⟨_, rfl⟩ ?_)
 refine wL (OpA.call rfl rfl rfl en58 (nvalid_c t q1) ?_)
 rintro _ rfl
 refine wL (OpA.not rfl rfl ?_)
 refine wL (OpA.a ?_)
 refine zab ?_
 refine zae rfl (fun b2 => ?_) (fun b2 => ?_)
 have h := h.1 (notT b2)
 refine zac (zaa ?_)
 iterate 2 refine wL (OpA.a ?_)
 refine zab (zal ?_)
 exact ⟨_, (.tmp (d := .v (.slice none 0 0)) rfl (.tmp (d := D.i 1) rfl .nil)), _, (.tup (.nilv (sz := 2) (.same rfl .nil)) .nil), ⟨([], 1), rfl, h⟩⟩
 have h := h.2 (notF b2)
 refine zac ?_
 refine wpA_mid (asg [(1, D.i k), (2, D.i w), (3, .ptr c1 2 0 0), (6, .v (.slice none 0 0)), (7, D.i 0), (18, D.b ((!(sizeF k)) || (!(sizeF w))))]) [(c1, .cells 2 [zak t])] ?_ ?_
 refine zaa (wL (OpA.m ?_))
 refine wL (OpA.call rfl rfl rfl en121 (wsize_c k ) ?_)
 rintro _ rfl
 refine wL (OpA.not rfl rfl ?_)
 refine wL (OpA.m ?_)
 refine zam (s := 22) rfl (fun b11 => ?_) (fun b11 => ?_)
 iterate 3 refine wS ?_
 refine wL (OpA.p ?_)
 refine wL (OpA.a ?_)
 refine zab ?_
 exact ⟨(Cov.asg ⟨rfl, rfl, rfl, rfl, rfl, (congrArg D.b (Eq.symm (orS b11))), trivial⟩), (.refl _)⟩
 refine wG (OpA.m ?_)
 refine wG (OpA.call rfl rfl rfl en121 (wsize_c w ) ?_)
 rintro _ rfl
 refine wG (OpA.not rfl rfl ?_)
 refine wL (OpA.p ?_)
 refine wL (OpA.a ?_)
 refine zab ?_
 exact ⟨(Cov.asg ⟨rfl, rfl, rfl, rfl, rfl, (congrArg D.b (Eq.symm (orN b11 rfl))), trivial⟩), (.refl _)⟩
 show wpA _ _ _ _ _ _
 refine zae rfl (fun b3 => ?_) (fun b3 => ?_)
 have h := h.1 ((or0 b3).imp (fun hh => (notT hh)) (fun hh => (notT hh)))
 refine zac (zaa ?_)
 iterate 2 refine wL (OpA.a ?_)
 refine zab (zal ?_)
 exact ⟨_, (.tmp (d := .v (.slice none 0 0)) rfl (.tmp (d := D.i 3) rfl .nil)), _, (.tup (.nilv (sz := 2) (.same rfl .nil)) .nil), ⟨([], 3), rfl, h⟩⟩
 have h := h.2 ⟨(notF (or1 b3)), (notF (or2 b3))⟩
 refine zai (zac ?_)
 obtain ⟨q1, h⟩ := h
 refine zaa ?_
 refine wL (OpA.fieldAddr rfl tf57_1 rfl ?_)
 refine wL (OpA.load rfl ti24 rfl .head rfl rfl ?_)
 refine wL (OpA.m ?_)
 refine wL (OpA.call rfl rfl rfl en158 (ggrams_c t.words k q1) ?_)
 rintro _ rfl
 refine wL (OpA.m ?_)
 iterate 2 refine wL (OpA.extract rfl rfl rfl ?_)
 iterate 2 refine wL (OpA.a ?_)
 refine zab ?_
 iterate 2 refine zac ?_
 refine zaa (wL (OpA.m ?_))
 refine wL (OpA.neq rfl rfl rfl ?_)
 refine zab ?_
 refine zae rfl (fun b4 => ?_) (fun b4 => ?_)
 have h := h.1 (bneT b4)
 refine zac (zaa (wL (OpA.m ?_)))
 iterate 2 refine wL (OpA.a ?_)
 refine zab (zal ?_)
 exact ⟨_, (.tmp (d := .v (.slice none 0 0)) rfl (.tmp (d := D.i ((gramsF t.words k).2)) rfl .nil)), _, (.tup (.nilv (sz := 2) (.same rfl .nil)) .nil), ⟨([], (gramsF t.words k).2), rfl, h⟩⟩
 have h := h.2 (bneF b4)
 refine zai (zac ?_)
 obtain ⟨q1, h⟩ := h
 refine zaa ?_
 iterate 2 refine wL (OpA.m ?_)
 refine wL (OpA.call rfl rfl rfl en159 (wselect_c ((gramsF t.words k).1) w q1) ?_)
 rintro _ rfl
 refine wL (OpA.m ?_)
 iterate 2 refine wL (OpA.extract rfl rfl rfl ?_)
 iterate 2 refine wL (OpA.a ?_)
 refine zab ?_
 iterate 2 refine zac ?_
 refine zaa (wL (OpA.m ?_))
 refine wL (OpA.neq rfl rfl rfl ?_)
 refine zab ?_
 refine zae rfl (fun b5 => ?_) (fun b5 => ?_)
 have h := h.1 (bneT b5)
 refine zac (zaa (wL (OpA.m ?_)))
 iterate 2 refine wL (OpA.a ?_)
 refine zab (zal ?_)
 exact ⟨_, (.tmp (d := .v (.slice none 0 0)) rfl (.tmp (d := D.i ((selectF ((gramsF t.words k).1) w).2)) rfl .nil)), _, (.tup (.nilv (sz := 2) (.same rfl .nil)) .nil), ⟨([], (selectF ((gramsF t.words k).1) w).2), rfl, h⟩⟩
 have h := h.2 (bneF b5)
 refine zai (zac (zaa ?_))
 refine wL (OpA.asnG (T := Print) (enc := zaj) (sz := 2) rfl rfl (fun c11_g6 => ?_))
 refine zab ?_
 iterate 2 refine zac ?_
 refine zaa (wL (OpA.m ?_))
 refine wL (OpA.len rfl rfl rfl rfl ts41.desc (.inl ⟨_, _, rfl, (List.length_map _).symm⟩) ?_)
 refine wL (OpA.m ?_)
 refine zab (zag ?_)
 refine wpA_lfp (S := (List Print) × Int) (G := Nat × List D × List D) (c11_g6, ([] : List D), ([] : List D)) (fun gg ss => asg [(6, .v (.slice none 0 0)), (7, D.i 0), (8, (encL 1 D.i) ((gramsF t.words k).1)), (11, .own gg.1 2 gg.2.1.length ss.1.length), (46, (encL 1 D.i) ((selectF ((gramsF t.words k).1) w).1)), (47, D.i (((selectF ((gramsF t.words k).1) w).1).length : Int)), (48, D.i ss.2)]) (fun gg ss => [(gg.1, .cells 2 (winL zaj gg.2.1 ss.1 gg.2.2)), (c1, .cells 2 [zak t])]) h cvZ (.refl _) ?_
 rintro again7 ⟨cb11, pre11, post11⟩ ⟨out, x⟩ h
 have h : wprints_L1 t k w Q again7 out x := h
 unfold wprints_L1 at h
 show wpA _ _ _ _ _ _
 refine zac (zaa ?_)
 refine wL (OpA.lss rfl rfl rfl ?_)
 refine zab (zac ?_)
 refine zae rfl (fun b8 => ?_) (fun b8 => ?_)
 have h := h.1 (decT b8)
 refine zai (zac (zag (zac ?_)))
 obtain ⟨q1, h⟩ := h
 refine zaa ?_
 refine wL (OpA.iixV (enc := D.i) rfl ts41 rfl rfl rfl q1 ?_)
 refine wL (OpA.iload rfl ti3 rfl rfl ?_)
 refine wL (OpA.a ?_)
 refine zab ?_
 obtain ⟨q1, q2, h⟩ := h
 refine zaa ?_
 iterate 3 refine wL (OpA.m ?_)
 refine wL (OpA.iixV (enc := D.i) rfl ts41 rfl rfl rfl q1 ?_)
 refine wL (OpA.iload rfl ti3 rfl rfl ?_)
 refine wL (OpA.m ?_)
 refine wL (OpA.buildO (zs := [.v (.int .i64 0), .v (.int .i64 0)]) rfl tp205 tz205 (fun _ _ => (.cons (.v _) (.cons (.v _) .nil))) (.cons (.of (sz := 1) rfl) (.cons (.of (sz := 1) rfl) .nil)) rfl ?_)
 refine wL (OpA.ibuildSliceO rfl ts201 rfl (.cons (.of (sz := 2) rfl) .nil) (by decide) ?_)
 refine wL (OpA.appendW (enc := zaj) rfl rfl rfl rfl ts201 rfl (fun _ _ => .head) (.list (ys := ([(Print.mk (gi ((gramsF t.words k).1) (gi ((selectF ((gramsF t.words k).1) w).1) x)) (gi ((selectF ((gramsF t.words k).1) w).1) x))] : List Print))) q2 (fun c9 pre10 => ?_))
 refine wL (OpA.a ?_)
 refine zab ?_
 obtain ⟨q1, h⟩ := h
 refine zaa ?_
 refine wL (OpA.addi rfl rfl rfl q1 ?_)
 refine wL (OpA.m ?_)
 refine zab ?_
 exact ⟨(c9, pre10, ([] : List D)), ((out ++ ([(Print.mk (gi ((gramsF t.words k).1) (gi ((selectF ((gramsF t.words k).1) w).1) x)) (gi ((selectF ((gramsF t.words k).1) w).1) x))] : List Print)), (x + 1)), h, cvZ, (.refl _)⟩
 have h := h.2 (decF b8)
 refine wpA_exit ?_
 refine zac (zaa (wL (OpA.m ?_)))
 iterate 2 refine wL (OpA.a ?_)
 refine zab (zal ?_)
 exact ⟨_, (.tmp (d := .own cb11 2 pre11.length out.length) rfl (.tmp (d := D.i 0) rfl .nil)), _, (.tup (.win .head (by intro hf; cases hf) (.same rfl .nil)) .nil), ⟨(out, 0), rfl, h⟩⟩
theorem wprints_c (t : Text) (k : Int) (w : Int) (hp0 : okT t) : Fun false Tryz.prog 117 [zak t, D.i k, D.i w] (fun d => d = .tup [(encL 2 zaj) ((printsF t k w).1), D.i ((printsF t k w).2)]) :=
 Fun.at (enc := fun r => .tup [(encL 2 zaj) (r.1), D.i (r.2)]) (v := printsF t k w) (wprints_w t k w  (fun r => r = printsF t k w) (wprints_ok t k w _ hp0 rfl))
theorem wguar_w (k : Int) (w : Int) (Q : Int × Int → Prop) (h : wguar_vc k w Q) : Fun false Tryz.prog 77 [D.i k, D.i w] (fun d => ∃ r, d = .tup [D.i (r.1), D.i (r.2)] ∧ Q r) := by
 unfold wguar_vc at h
 refine Fun.of_body Tryz.func77 rfl Tryz.ntmps77 rfl ?_
 refine zac (zaa ?_)
 iterate 2 refine wL (OpA.a ?_)
 refine zab ?_
 iterate 2 refine zac ?_
 refine wpA_mid (asg [(0, D.i k), (1, D.i w), (4, D.i 0), (5, D.i 0), (13, D.b ((!(sizeF k)) || (!(sizeF w))))]) [] ?_ ?_
 refine zaa (wL (OpA.m ?_))
 refine wL (OpA.call rfl rfl rfl en121 (wsize_c k ) ?_)
 rintro _ rfl
 refine wL (OpA.not rfl rfl ?_)
 refine wL (OpA.m ?_)
 refine zam (s := 9) rfl (fun b2 => ?_) (fun b2 => ?_)
 iterate 3 refine wS ?_
 refine wL (OpA.p ?_)
 refine zab ?_
 exact ⟨(Cov.asg ⟨rfl, rfl, rfl, rfl, (congrArg D.b (Eq.symm (orS b2))), trivial⟩), (.refl _)⟩
 refine wG (OpA.m ?_)
 refine wG (OpA.call rfl rfl rfl en121 (wsize_c w ) ?_)
 rintro _ rfl
 refine wG (OpA.not rfl rfl ?_)
 refine wL (OpA.p ?_)
 refine zab ?_
 exact ⟨(Cov.asg ⟨rfl, rfl, rfl, rfl, (congrArg D.b (Eq.symm (orN b2 rfl))), trivial⟩), (.refl _)⟩
 show wpA _ _ _ _ _ _
 refine zae rfl (fun b1 => ?_) (fun b1 => ?_)
 have h := h.1 ((or0 b1).imp (fun hh => (notT hh)) (fun hh => (notT hh)))
 refine zac (zaa ?_)
 iterate 2 refine wL (OpA.a ?_)
 refine zab (zal ?_)
 exact ⟨_, (.tmp (d := D.i 0) rfl (.tmp (d := D.i 3) rfl .nil)), _, (.tup (.same rfl (.same rfl .nil)) .nil), ⟨(0, 3), rfl, h⟩⟩
 have h := h.2 ⟨(notF (or1 b1)), (notF (or2 b1))⟩
 refine zai (zac ?_)
 obtain ⟨q1, q2, h⟩ := h
 refine zaa ?_
 iterate 2 refine wL (OpA.m ?_)
 refine wL (OpA.addi rfl rfl rfl q1 ?_)
 refine wL (OpA.subi rfl rfl rfl q2 ?_)
 iterate 2 refine wL (OpA.a ?_)
 refine zab (zal ?_)
 exact ⟨_, (.tmp (d := D.i ((k + w) - 1)) rfl (.tmp (d := D.i 0) rfl .nil)), _, (.tup (.same rfl (.same rfl .nil)) .nil), ⟨(((k + w) - 1), 0), rfl, h⟩⟩
theorem wguar_c (k : Int) (w : Int)  : Fun false Tryz.prog 77 [D.i k, D.i w] (fun d => d = .tup [D.i ((guarF k w).1), D.i ((guarF k w).2)]) :=
 Fun.at (enc := fun r => .tup [D.i (r.1), D.i (r.2)]) (v := guarF k w) (wguar_w k w  (fun r => r = guarF k w) (wguar_ok k w _  rfl))
end Go.Proofs.YtkifpidbpoghlaaGreatDoor
