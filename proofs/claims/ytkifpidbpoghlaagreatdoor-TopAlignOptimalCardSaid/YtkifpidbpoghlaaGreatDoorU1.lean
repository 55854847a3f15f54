/-
  walks and contracts
-/
import Derived.Test.YtkifpidbpoghlaaGreatDoorV1
import Derived.Test.YtkifpidbpoghlaaGreatDoorPo
import Derived.Test.YtkifpidbpoghlaaGreatDoorUt
import Derived.Test.YtkifpidbpoghlaaGreatDoorQW8
import Derived.Test.YtkifpidbpoghlaaGreatDoorQW4
import Derived.Test.YtkifpidbpoghlaaGreatDoorQW1
set_option maxRecDepth 10000
set_option maxHeartbeats 2000000
set_option linter.all false
namespace Go.Proofs.YtkifpidbpoghlaaGreatDoor
open Go Go.Lic Go.Sort Go.Proofs
attribute [local irreducible] addP alCheck alPair alignR applyF applyP atoiO badR blankF boundF checkP classF cloneCmp clonesF cmpI codeF commonP costP countF digB fewTs fewW findC zan frontF gramsF guarF hashF hexP hunkB indexF itoaF joinS joinT keepB keptF lenF lexL linesP zaf lookF makeP mul64F mulP nlB normF noteF orF partF patchB pathF potF powF printsF pushF rightL rollF selectF sizeF sizesP splitF splitG stopB sumP validT wordB wordsL
theorem pot_w (a : (List Lexeme)) (b : (List Lexeme)) (c : Costs) (Q : (List (List Int)) × Int → Prop) (h : pot_vc a b c Q) : Fun false Tryz.prog 12 [(encL 2 encLex) a, (encL 2 encLex) b, encCosts c] (fun d => ∃ r, d = .tup [(encL 1 (encL 1 D.i)) (r.1), D.i (r.2)] ∧ Q r) := by
 unfold pot_vc at h
 refine Fun.of_body Tryz.func12 rfl Tryz.ntmps12 rfl ?_
 refine zac (zaa ?_)
 refine wL (OpA.bx (sz := 3) rfl zW (.of rfl) (fun c1 _ => ?_))
 refine wL (OpA.asnN (T := (List Int)) (enc := (encL 1 D.i)) (sz := 1) rfl rfl ?_)
 refine wL (OpA.a ?_)
 refine zab ?_
 iterate 2 refine zac ?_
 refine zaa ?_
 iterate 2 refine wL (OpA.m ?_)
 refine wL (OpA.load_whole rfl ti40 rfl rfl .head rfl ⟨_, rfl⟩ ?_)
 refine wL (OpA.call rfl rfl rfl en39 (check_fun a b c ) ?_)
 rintro _ rfl
 refine wL (OpA.a ?_)
 refine zab (zac (zaa (wL (OpA.m ?_))))
 refine wL (OpA.neq rfl rfl rfl ?_)
 refine zab ?_
 refine zae rfl (fun b2 => ?_) (fun b2 => ?_)
 have h := h.1 (bneT b2)
 refine zac (zaa (wL (OpA.m ?_)))
 refine wL (OpA.asnN (T := (List Int)) (enc := (encL 1 D.i)) (sz := 1) rfl rfl ?_)
 refine wL (OpA.a ?_)
 refine zab (zal ?_)
 exact ⟨_, (.tmp (d := (encL 1 (encL 1 D.i)) ([] : List (List Int))) rfl (.tmp (d := D.i (alCheck a b c)) rfl .nil)), _, (.tup (.same rfl (.same rfl .nil)) .nil), ⟨(([] : List (List Int)), (alCheck a b c)), rfl, h⟩⟩
 have h := h.2 (bneF b2)
 refine zai (zac ?_)
 obtain ⟨q1, h⟩ := h
 refine zaa ?_
 iterate 2 refine wL (OpA.m ?_)
 refine wL (OpA.load_whole rfl ti40 rfl rfl .head rfl ⟨_, rfl⟩ ?_)
 refine wL (OpA.call rfl rfl rfl en42 (fronts_fun a b c q1) ?_)
 rintro _ rfl
 iterate 2 refine wL (OpA.a ?_)
 refine zab (zal ?_)
 exact ⟨_, (.tmp (d := (encL 1 (encL 1 D.i)) (frontF a b c)) rfl (.tmp (d := D.i 0) rfl .nil)), _, (.tup (.same rfl (.same rfl .nil)) .nil), ⟨((frontF a b c), 0), rfl, h⟩⟩
theorem pot_c (a : (List Lexeme)) (b : (List Lexeme)) (c : Costs)  : Fun false Tryz.prog 12 [(encL 2 encLex) a, (encL 2 encLex) b, encCosts c] (fun d => d = .tup [(encL 1 (encL 1 D.i)) ((potF a b c).1), D.i ((potF a b c).2)]) :=
 Fun.at (enc := fun r => .tup [(encL 1 (encL 1 D.i)) (r.1), D.i (r.2)]) (v := potF a b c) (pot_w a b c  (fun r => r = potF a b c) (pot_ok a b c _  rfl))
abbrev bound_e0 (p : (List (List Int))) (x1 : Int) (x2 : Int) (c : Costs) := (((((decide ((gi (gi p x1) x2) ≥ 0)) && (decide ((gi (gi p x1) x2) ≤ 1099511627776))) && ((decide ((x1 + x2) > 0)) || ((gi (gi p x1) x2) == 0))) && ((x1 == 0) || (decide ((gi (gi p x1) x2) ≤ ((gi (gi p (x1 - 1)) x2) + c.drop))))) && ((x2 == 0) || (decide ((gi (gi p x1) x2) ≤ ((gi (gi p x1) (x2 - 1)) + c.add)))))
theorem bound_w (a : (List Lexeme)) (b : (List Lexeme)) (c : Costs) (p : (List (List Int))) (Q : Int × Int → Prop) (h : bound_vc a b c p Q) : Fun false Tryz.prog 13 [(encL 2 encLex) a, (encL 2 encLex) b, encCosts c, (encL 1 (encL 1 D.i)) p] (fun d => ∃ r, d = .tup [D.i (r.1), D.i (r.2)] ∧ Q r) := by
 unfold bound_vc at h
 refine Fun.of_body Tryz.func13 rfl Tryz.ntmps13 rfl ?_
 refine zac (zaa ?_)
 refine wL (OpA.bx (sz := 3) rfl zW (.of rfl) (fun c1 _ => ?_))
 iterate 2 refine wL (OpA.a ?_)
 refine zab ?_
 iterate 2 refine zac ?_
 refine zaa ?_
 iterate 2 refine wL (OpA.m ?_)
 refine wL (OpA.load_whole rfl ti40 rfl rfl .head rfl ⟨_, rfl⟩ ?_)
 refine wL (OpA.call rfl rfl rfl en39 (check_fun a b c ) ?_)
 rintro _ rfl
 refine wL (OpA.a ?_)
 refine zab (zac (zaa (wL (OpA.m ?_))))
 refine wL (OpA.neq rfl rfl rfl ?_)
 refine zab ?_
 refine zae rfl (fun b2 => ?_) (fun b2 => ?_)
 have h := h.1 (bneT b2)
 refine zac (zaa (wL (OpA.m ?_)))
 iterate 2 refine wL (OpA.a ?_)
 refine zab (zal ?_)
 exact ⟨_, (.tmp (d := D.i 0) rfl (.tmp (d := D.i (alCheck a b c)) rfl .nil)), _, (.tup (.same rfl (.same rfl .nil)) .nil), ⟨(0, (alCheck a b c)), rfl, h⟩⟩
 have h := h.2 (bneF b2)
 refine zai ?_
 iterate 2 refine zac ?_
 obtain ⟨q1, h⟩ := h
 refine zaa (wL (OpA.m ?_))
 refine wL (OpA.len rfl rfl rfl rfl ts46.desc (.inl ⟨_, _, rfl, (List.length_map _).symm⟩) ?_)
 refine wL (OpA.m ?_)
 refine wL (OpA.len rfl rfl rfl rfl ts24.desc (.inl ⟨_, _, rfl, (List.length_map _).symm⟩) ?_)
 refine wL (OpA.addi rfl rfl rfl q1 ?_)
 refine wL (OpA.neq rfl rfl rfl ?_)
 refine zab ?_
 refine zae rfl (fun b3 => ?_) (fun b3 => ?_)
 have h := h.1 (bneT b3)
 refine zac (zaa ?_)
 iterate 2 refine wL (OpA.a ?_)
 refine zab (zal ?_)
 exact ⟨_, (.tmp (d := D.i 0) rfl (.tmp (d := D.i 18) rfl .nil)), _, (.tup (.same rfl (.same rfl .nil)) .nil), ⟨(0, 18), rfl, h⟩⟩
 have h := h.2 (bneF b3)
 refine zai ?_
 iterate 2 refine zac ?_
 refine zaa (wL (OpA.m ?_))
 refine wL (OpA.len rfl rfl rfl rfl ts46.desc (.inl ⟨_, _, rfl, (List.length_map _).symm⟩) ?_)
 refine wL (OpA.m ?_)
 refine zab (zag ?_)
 refine wpA_lfp (S := Int) (G := Unit) () (fun gg ss => asg [(0, (encL 2 encLex) a), (1, (encL 2 encLex) b), (3, (encL 1 (encL 1 D.i)) p), (6, .ptr c1 3 0 0), (8, D.i 0), (9, D.i 0), (31, (encL 1 (encL 1 D.i)) p), (32, D.i (p.length : Int)), (33, D.i ss)]) (fun gg ss => [(c1, .cells 3 [encCosts c])]) h cvZ (.refl _) ?_
 rintro again4 _ x h
 have h : bound_L1 a b c p Q again4 x := h
 unfold bound_L1 at h
 show wpA _ _ _ _ _ _
 refine zac (zaa ?_)
 refine wL (OpA.lss rfl rfl rfl ?_)
 refine zab (zac ?_)
 refine zae rfl (fun b5 => ?_) (fun b5 => ?_)
 have h := h.1 (decT b5)
 refine zai (zac (zag (zac ?_)))
 obtain ⟨q1, h⟩ := h
 refine zaa ?_
 refine wL (OpA.iixV (enc := (encL 1 D.i)) rfl ts46 rfl rfl rfl q1 ?_)
 refine wL (OpA.iload rfl ti41 rfl rfl ?_)
 refine wL (OpA.a ?_)
 refine zab (zac ?_)
 obtain ⟨q1, h⟩ := h
 refine zaa (wL (OpA.m ?_))
 refine wL (OpA.len rfl rfl rfl rfl ts41.desc (.inl ⟨_, _, rfl, (List.length_map _).symm⟩) ?_)
 refine wL (OpA.m ?_)
 refine wL (OpA.len rfl rfl rfl rfl ts24.desc (.inl ⟨_, _, rfl, (List.length_map _).symm⟩) ?_)
 refine wL (OpA.addi rfl rfl rfl q1 ?_)
 refine wL (OpA.neq rfl rfl rfl ?_)
 refine zab ?_
 refine zae rfl (fun b6 => ?_) (fun b6 => ?_)
 have h := h.1 (bneT b6)
 refine zac (zaa ?_)
 iterate 2 refine wL (OpA.a ?_)
 refine zab (zal ?_)
 exact ⟨_, (.tmp (d := D.i 0) rfl (.tmp (d := D.i 18) rfl .nil)), _, (.tup (.same rfl (.same rfl .nil)) .nil), ⟨(0, 18), rfl, h⟩⟩
 have h := h.2 (bneF b6)
 refine zai ?_
 obtain ⟨q1, h⟩ := h
 refine zaa ?_
 refine wL (OpA.addi rfl rfl rfl q1 ?_)
 refine wL (OpA.m ?_)
 refine zab ?_
 exact ⟨(), (x + 1), h, cvZ, (.refl _)⟩
 have h := h.2 (decF b5)
 refine wpA_exit ?_
 iterate 2 refine zac ?_
 refine zaa (wL (OpA.m ?_))
 refine wL (OpA.len rfl rfl rfl rfl ts46.desc (.inl ⟨_, _, rfl, (List.length_map _).symm⟩) ?_)
 refine wL (OpA.m ?_)
 refine zab (zag ?_)
 refine wpA_lfp (S := Int) (G := Unit) () (fun gg ss => asg [(0, (encL 2 encLex) a), (1, (encL 2 encLex) b), (3, (encL 1 (encL 1 D.i)) p), (6, .ptr c1 3 0 0), (8, D.i 0), (9, D.i 0), (44, (encL 1 (encL 1 D.i)) p), (45, D.i (p.length : Int)), (46, D.i ss)]) (fun gg ss => [(c1, .cells 3 [encCosts c])]) h cvZ (.refl _) ?_
 rintro again7 _ x1 h
 have h : bound_L2 a b c p Q again7 x1 := h
 unfold bound_L2 at h
 show wpA _ _ _ _ _ _
 refine zac (zaa ?_)
 refine wL (OpA.lss rfl rfl rfl ?_)
 refine zab (zac ?_)
 refine zae rfl (fun b8 => ?_) (fun b8 => ?_)
 have h := h.1 (decT b8)
 refine zai (zac (zag (zac ?_)))
 obtain ⟨q1, h⟩ := h
 refine zaa (wL (OpA.m ?_))
 refine wL (OpA.iixV (enc := (encL 1 D.i)) rfl ts46 rfl rfl rfl q1 ?_)
 refine wL (OpA.iload rfl ti41 rfl rfl ?_)
 iterate 2 refine wL (OpA.a ?_)
 refine zab (zac (zaa (wL (OpA.m ?_))))
 refine wL (OpA.len rfl rfl rfl rfl ts41.desc (.inl ⟨_, _, rfl, (List.length_map _).symm⟩) ?_)
 refine wL (OpA.m ?_)
 refine zab (zag ?_)
 refine wpA_lfp (S := Int) (G := Unit) () (fun gg ss => asg [(0, (encL 2 encLex) a), (1, (encL 2 encLex) b), (3, (encL 1 (encL 1 D.i)) p), (6, .ptr c1 3 0 0), (8, D.i 0), (9, D.i 0), (13, D.i x1), (14, (encL 1 D.i) (gi p x1)), (44, (encL 1 (encL 1 D.i)) p), (45, D.i (p.length : Int)), (46, D.i x1), (51, (encL 1 D.i) (gi p x1)), (52, D.i ((gi p x1).length : Int)), (53, D.i ss)]) (fun gg ss => [(c1, .cells 3 [encCosts c])]) h cvZ (.refl _) ?_
 rintro again9 _ x2 h
 have h : bound_L3 a b c p x1 Q again7 again9 x2 := h
 unfold bound_L3 at h
 show wpA _ _ _ _ _ _
 refine zac (zaa ?_)
 refine wL (OpA.lss rfl rfl rfl ?_)
 refine zab (zac ?_)
 refine zae rfl (fun b10 => ?_) (fun b10 => ?_)
 have h := h.1 (decT b10)
 refine zai (zac (zag (zac ?_)))
 obtain ⟨q1, h⟩ := h
 refine zaa (wL (OpA.m ?_))
 refine wL (OpA.iixV (enc := D.i) rfl ts41 rfl rfl rfl q1 ?_)
 refine wL (OpA.iload rfl ti3 rfl rfl ?_)
 iterate 2 refine wL (OpA.a ?_)
 refine zab (zac ?_)
 obtain ⟨q1, h⟩ := h
 refine wpA_mid (asg [(0, (encL 2 encLex) a), (1, (encL 2 encLex) b), (3, (encL 1 (encL 1 D.i)) p), (6, .ptr c1 3 0 0), (8, D.i 0), (9, D.i 0), (13, D.i x1), (14, (encL 1 D.i) (gi p x1)), (15, D.i x2), (16, D.i (gi (gi p x1) x2)), (17, D.b (((decide ((gi (gi p x1) x2) ≥ 0)) && (decide ((gi (gi p x1) x2) ≤ 1099511627776))) && ((decide ((x1 + x2) > 0)) || ((gi (gi p x1) x2) == 0)))), (44, (encL 1 (encL 1 D.i)) p), (45, D.i (p.length : Int)), (46, D.i x1), (51, (encL 1 D.i) (gi p x1)), (52, D.i ((gi p x1).length : Int)), (53, D.i x2)]) [(c1, .cells 3 [encCosts c])] ?_ ?_
 refine zaa (wL (OpA.m ?_))
 refine wL (OpA.geq rfl rfl rfl ?_)
 refine wL (OpA.m ?_)
 refine zam (s := 60) rfl (fun b20 => ?_) (fun b20 => ?_)
 refine wG (OpA.m ?_)
 refine wG (OpA.leq rfl rfl rfl ?_)
 refine wL (OpA.p ?_)
 refine wL (OpA.m ?_)
 refine zam (s := 64) rfl (fun b21 => ?_) (fun b21 => ?_)
 iterate 2 refine wG (OpA.m ?_)
 refine wG (OpA.addi rfl rfl rfl (q1 ⟨(decT b20), (decT b21)⟩) ?_)
 refine wG (OpA.gtr rfl rfl rfl ?_)
 refine wG (OpA.m ?_)
 refine zam (s := 69) rfl (fun b22 => ?_) (fun b22 => ?_)
 iterate 2 refine wS ?_
 refine wG (OpA.p ?_)
 refine wL (OpA.p ?_)
 refine wL (OpA.a ?_)
 refine zab ?_
 exact ⟨(Cov.asg ⟨rfl, rfl, rfl, rfl, rfl, rfl, rfl, rfl, rfl, rfl, (congrArg D.b (Eq.symm (andN (andN b20 b21) (orS b22)))), rfl, rfl, rfl, rfl, rfl, rfl, trivial⟩), (.refl _)⟩
 refine wG (OpA.m ?_)
 refine wG (OpA.eql rfl rfl rfl ?_)
 refine wG (OpA.p ?_)
 refine wL (OpA.p ?_)
 refine wL (OpA.a ?_)
 refine zab ?_
 exact ⟨(Cov.asg ⟨rfl, rfl, rfl, rfl, rfl, rfl, rfl, rfl, rfl, rfl, (congrArg D.b (Eq.symm (andN (andN b20 b21) (orN b22 rfl)))), rfl, rfl, rfl, rfl, rfl, rfl, trivial⟩), (.refl _)⟩
 iterate 5 refine wS ?_
 iterate 2 refine wpL_skipU rfl rfl rfl rfl rfl ?_
 refine wS ?_
 refine wL (OpA.p ?_)
 refine wL (OpA.a ?_)
 refine zab ?_
 exact ⟨(Cov.asg ⟨rfl, rfl, rfl, rfl, rfl, rfl, rfl, rfl, rfl, rfl, (congrArg D.b (Eq.symm (andS (andN b20 b21)))), rfl, rfl, rfl, rfl, rfl, rfl, trivial⟩), (.refl _)⟩
 iterate 2 refine wS ?_
 refine wL (OpA.p ?_)
 refine wL (OpA.m ?_)
 iterate 5 refine wS ?_
 iterate 2 refine wpL_skipU rfl rfl rfl rfl rfl ?_
 refine wS ?_
 refine wL (OpA.p ?_)
 refine wL (OpA.a ?_)
 refine zab ?_
 exact ⟨(Cov.asg ⟨rfl, rfl, rfl, rfl, rfl, rfl, rfl, rfl, rfl, rfl, (congrArg D.b (Eq.symm (andS (andS b20)))), rfl, rfl, rfl, rfl, rfl, rfl, trivial⟩), (.refl _)⟩
 show wpA _ _ _ _ _ _
 refine zac ?_
 obtain ⟨q1, q2, h⟩ := h
 refine wpA_mid (asg [(0, (encL 2 encLex) a), (1, (encL 2 encLex) b), (3, (encL 1 (encL 1 D.i)) p), (6, .ptr c1 3 0 0), (8, D.i 0), (9, D.i 0), (13, D.i x1), (14, (encL 1 D.i) (gi p x1)), (15, D.i x2), (16, D.i (gi (gi p x1) x2)), (17, D.b (bound_e0 p x1 x2 c)), (44, (encL 1 (encL 1 D.i)) p), (45, D.i (p.length : Int)), (46, D.i x1), (51, (encL 1 D.i) (gi p x1)), (52, D.i ((gi p x1).length : Int)), (53, D.i x2)]) [(c1, .cells 3 [encCosts c])] ?_ ?_
 refine wpA_draw (m := 37) mo zK rfl ?_
 iterate 2 refine dL (OpA.m ⟨rfl, rfl⟩) ?_
 refine DetK_split (s := 75) rfl (fun b15 => ?_) (fun b15 => ?_)
 refine dG (OpA.m ⟨rfl, rfl⟩) ?_
 refine dG (OpA.eql rfl rfl rfl ⟨rfl, rfl⟩) ?_
 refine dG (OpA.m ⟨rfl, rfl⟩) ?_
 refine DetK_split (s := 78) rfl (fun b16 => ?_) (fun b16 => ?_)
 iterate 13 refine dS ?_
 refine dG (OpA.p ⟨rfl, rfl⟩) ?_
 refine dL (OpA.p ⟨rfl, rfl⟩) ?_
 refine dL (OpA.m ⟨rfl, rfl⟩) ?_
 refine dG (OpA.m ⟨rfl, rfl⟩) ?_
 refine dG (OpA.eql rfl rfl rfl ⟨rfl, rfl⟩) ?_
 refine dG (OpA.m ⟨rfl, rfl⟩) ?_
 refine DetK_split (s := 97) rfl (fun b17 => ?_) (fun b17 => ?_)
 iterate 10 refine dS ?_
 refine dG (OpA.p ⟨rfl, rfl⟩) ?_
 refine dL (OpA.p ⟨rfl, rfl⟩) ?_
 refine dL (OpA.a ⟨rfl, rfl⟩) ?_
 refine DetK.nil ?_
 refine zab ?_
 exact ⟨(Cov.asg ⟨rfl, rfl, rfl, rfl, rfl, rfl, rfl, rfl, rfl, rfl, (congrArg D.b (Eq.symm (andN (andN b15 (orS b16)) (orS b17)))), rfl, rfl, rfl, rfl, rfl, rfl, trivial⟩), (.refl _)⟩
 iterate 3 refine dG (OpA.m ⟨rfl, rfl⟩) ?_
 refine dG (OpA.subi rfl rfl rfl ((q2 ⟨⟨⟨(decT (and1 (and1 b15))), (decT (and2 (and1 b15)))⟩, ((or0 (and2 b15)).imp (fun hh => (decT hh)) (fun hh => (beqT hh)))⟩, (.inl (beqT b16))⟩) (beqF b17)).1 ⟨rfl, rfl⟩) ?_
 refine dG (OpA.iixV (enc := D.i) rfl ts41 rfl rfl rfl ((q2 ⟨⟨⟨(decT (and1 (and1 b15))), (decT (and2 (and1 b15)))⟩, ((or0 (and2 b15)).imp (fun hh => (decT hh)) (fun hh => (beqT hh)))⟩, (.inl (beqT b16))⟩) (beqF b17)).2.1 ⟨rfl, rfl⟩) ?_
 refine dG (OpA.iload rfl ti3 rfl rfl ⟨rfl, rfl⟩) ?_
 refine dG (OpA.fieldAddr rfl tf40_2 rfl ⟨rfl, rfl⟩) ?_
 refine dG (OpA.load rfl ti3 rfl .head rfl rfl ⟨rfl, rfl⟩) ?_
 refine dG (OpA.addi rfl rfl rfl ((q2 ⟨⟨⟨(decT (and1 (and1 b15))), (decT (and2 (and1 b15)))⟩, ((or0 (and2 b15)).imp (fun hh => (decT hh)) (fun hh => (beqT hh)))⟩, (.inl (beqT b16))⟩) (beqF b17)).2.2 ⟨rfl, rfl⟩) ?_
 refine dG (OpA.leq rfl rfl rfl ⟨rfl, rfl⟩) ?_
 refine dG (OpA.p ⟨rfl, rfl⟩) ?_
 refine dL (OpA.p ⟨rfl, rfl⟩) ?_
 refine dL (OpA.a ⟨rfl, rfl⟩) ?_
 refine DetK.nil ?_
 refine zab ?_
 exact ⟨(Cov.asg ⟨rfl, rfl, rfl, rfl, rfl, rfl, rfl, rfl, rfl, rfl, (congrArg D.b (Eq.symm (andN (andN b15 (orS b16)) (orN b17 rfl)))), rfl, rfl, rfl, rfl, rfl, rfl, trivial⟩), (.refl _)⟩
 iterate 3 refine dG (OpA.m ⟨rfl, rfl⟩) ?_
 refine dG (OpA.subi rfl rfl rfl ((q1 ⟨⟨(decT (and1 (and1 b15))), (decT (and2 (and1 b15)))⟩, ((or0 (and2 b15)).imp (fun hh => (decT hh)) (fun hh => (beqT hh)))⟩) (beqF b16)).1 ⟨rfl, rfl⟩) ?_
 refine dG (OpA.iixV (enc := (encL 1 D.i)) rfl ts46 rfl rfl rfl ((q1 ⟨⟨(decT (and1 (and1 b15))), (decT (and2 (and1 b15)))⟩, ((or0 (and2 b15)).imp (fun hh => (decT hh)) (fun hh => (beqT hh)))⟩) (beqF b16)).2.1 ⟨rfl, rfl⟩) ?_
 refine dG (OpA.iload rfl ti41 rfl rfl ⟨rfl, rfl⟩) ?_
 refine dG (OpA.m ⟨rfl, rfl⟩) ?_
 refine dG (OpA.iixV (enc := D.i) rfl ts41 rfl rfl rfl ((q1 ⟨⟨(decT (and1 (and1 b15))), (decT (and2 (and1 b15)))⟩, ((or0 (and2 b15)).imp (fun hh => (decT hh)) (fun hh => (beqT hh)))⟩) (beqF b16)).2.2.1 ⟨rfl, rfl⟩) ?_
 refine dG (OpA.iload rfl ti3 rfl rfl ⟨rfl, rfl⟩) ?_
 refine dG (OpA.fieldAddr rfl tf40_1 rfl ⟨rfl, rfl⟩) ?_
 refine dG (OpA.load rfl ti3 rfl .head rfl rfl ⟨rfl, rfl⟩) ?_
 refine dG (OpA.addi rfl rfl rfl ((q1 ⟨⟨(decT (and1 (and1 b15))), (decT (and2 (and1 b15)))⟩, ((or0 (and2 b15)).imp (fun hh => (decT hh)) (fun hh => (beqT hh)))⟩) (beqF b16)).2.2.2 ⟨rfl, rfl⟩) ?_
 refine dG (OpA.leq rfl rfl rfl ⟨rfl, rfl⟩) ?_
 refine dG (OpA.p ⟨rfl, rfl⟩) ?_
 refine dL (OpA.p ⟨rfl, rfl⟩) ?_
 refine dL (OpA.m ⟨rfl, rfl⟩) ?_
 refine DetK_split (s := 94) rfl (fun b18 => ?_) (fun b18 => ?_)
 refine dG (OpA.m ⟨rfl, rfl⟩) ?_
 refine dG (OpA.eql rfl rfl rfl ⟨rfl, rfl⟩) ?_
 refine dG (OpA.m ⟨rfl, rfl⟩) ?_
 refine DetK_split (s := 97) rfl (fun b19 => ?_) (fun b19 => ?_)
 iterate 10 refine dS ?_
 refine dG (OpA.p ⟨rfl, rfl⟩) ?_
 refine dL (OpA.p ⟨rfl, rfl⟩) ?_
 refine dL (OpA.a ⟨rfl, rfl⟩) ?_
 refine DetK.nil ?_
 refine zab ?_
 exact ⟨(Cov.asg ⟨rfl, rfl, rfl, rfl, rfl, rfl, rfl, rfl, rfl, rfl, (congrArg D.b (Eq.symm (andN (andN b15 (orN b16 b18)) (orS b19)))), rfl, rfl, rfl, rfl, rfl, rfl, trivial⟩), (.refl _)⟩
 iterate 3 refine dG (OpA.m ⟨rfl, rfl⟩) ?_
 refine dG (OpA.subi rfl rfl rfl ((q2 ⟨⟨⟨(decT (and1 (and1 b15))), (decT (and2 (and1 b15)))⟩, ((or0 (and2 b15)).imp (fun hh => (decT hh)) (fun hh => (beqT hh)))⟩, (.inr (decT b18))⟩) (beqF b19)).1 ⟨rfl, rfl⟩) ?_
 refine dG (OpA.iixV (enc := D.i) rfl ts41 rfl rfl rfl ((q2 ⟨⟨⟨(decT (and1 (and1 b15))), (decT (and2 (and1 b15)))⟩, ((or0 (and2 b15)).imp (fun hh => (decT hh)) (fun hh => (beqT hh)))⟩, (.inr (decT b18))⟩) (beqF b19)).2.1 ⟨rfl, rfl⟩) ?_
 refine dG (OpA.iload rfl ti3 rfl rfl ⟨rfl, rfl⟩) ?_
 refine dG (OpA.fieldAddr rfl tf40_2 rfl ⟨rfl, rfl⟩) ?_
 refine dG (OpA.load rfl ti3 rfl .head rfl rfl ⟨rfl, rfl⟩) ?_
 refine dG (OpA.addi rfl rfl rfl ((q2 ⟨⟨⟨(decT (and1 (and1 b15))), (decT (and2 (and1 b15)))⟩, ((or0 (and2 b15)).imp (fun hh => (decT hh)) (fun hh => (beqT hh)))⟩, (.inr (decT b18))⟩) (beqF b19)).2.2 ⟨rfl, rfl⟩) ?_
 refine dG (OpA.leq rfl rfl rfl ⟨rfl, rfl⟩) ?_
 refine dG (OpA.p ⟨rfl, rfl⟩) ?_
 refine dL (OpA.p ⟨rfl, rfl⟩) ?_
 refine dL (OpA.a ⟨rfl, rfl⟩) ?_
 refine DetK.nil ?_
 refine zab ?_
 exact ⟨(Cov.asg ⟨rfl, rfl, rfl, rfl, rfl, rfl, rfl, rfl, rfl, rfl, (congrArg D.b (Eq.symm (andN (andN b15 (orN b16 b18)) (orN b19 rfl)))), rfl, rfl, rfl, rfl, rfl, rfl, trivial⟩), (.refl _)⟩
 iterate 3 refine dS ?_
 iterate 10 refine DetK.skipU rfl rfl rfl ?_
 refine dS ?_
 refine dL (OpA.p ⟨rfl, rfl⟩) ?_
 refine dL (OpA.a ⟨rfl, rfl⟩) ?_
 refine DetK.nil ?_
 refine zab ?_
 exact ⟨(Cov.asg ⟨rfl, rfl, rfl, rfl, rfl, rfl, rfl, rfl, rfl, rfl, (congrArg D.b (Eq.symm (andS (andN b15 (orN b16 b18))))), rfl, rfl, rfl, rfl, rfl, rfl, trivial⟩), (.refl _)⟩
 iterate 3 refine dS ?_
 iterate 13 refine DetK.skipU rfl rfl rfl ?_
 refine dS ?_
 refine dL (OpA.p ⟨rfl, rfl⟩) ?_
 refine dL (OpA.m ⟨rfl, rfl⟩) ?_
 iterate 3 refine dS ?_
 iterate 10 refine DetK.skipU rfl rfl rfl ?_
 refine dS ?_
 refine dL (OpA.p ⟨rfl, rfl⟩) ?_
 refine dL (OpA.a ⟨rfl, rfl⟩) ?_
 refine DetK.nil ?_
 refine zab ?_
 exact ⟨(Cov.asg ⟨rfl, rfl, rfl, rfl, rfl, rfl, rfl, rfl, rfl, rfl, (congrArg D.b (Eq.symm (andS (andS b15)))), rfl, rfl, rfl, rfl, rfl, rfl, trivial⟩), (.refl _)⟩
 show wpA _ _ _ _ _ _
 refine zac ?_
 obtain ⟨q1, h⟩ := h
 refine wpA_mid (asg [(0, (encL 2 encLex) a), (1, (encL 2 encLex) b), (3, (encL 1 (encL 1 D.i)) p), (6, .ptr c1 3 0 0), (8, D.i 0), (9, D.i 0), (13, D.i x1), (14, (encL 1 D.i) (gi p x1)), (44, (encL 1 (encL 1 D.i)) p), (45, D.i (p.length : Int)), (46, D.i x1), (51, (encL 1 D.i) (gi p x1)), (52, D.i ((gi p x1).length : Int)), (53, D.i x2), (145, D.b ((!(bound_e0 p x1 x2 c)) || (((decide (x1 > 0)) && (decide (x2 > 0))) && (decide ((gi (gi p x1) x2) > ((gi (gi p (x1 - 1)) (x2 - 1)) + (alPair (gi a (x1 - 1)) (gi b (x2 - 1)) c)))))))]) [(c1, .cells 3 [encCosts c])] ?_ ?_
 refine wpA_draw (m := 36) mo zK rfl ?_
 refine dL (OpA.m ⟨rfl, rfl⟩) ?_
 refine dL (OpA.not rfl rfl ⟨rfl, rfl⟩) ?_
 refine dL (OpA.m ⟨rfl, rfl⟩) ?_
 refine DetK_split (s := 112) rfl (fun b12 => ?_) (fun b12 => ?_)
 iterate 3 refine dS ?_
 iterate 2 refine DetK.skipU rfl rfl rfl ?_
 iterate 2 refine dS ?_
 iterate 24 refine DetK.skipU rfl rfl rfl ?_
 refine dS ?_
 refine dL (OpA.p ⟨rfl, rfl⟩) ?_
 refine DetK.nil ?_
 refine zab ?_
 exact ⟨(Cov.asg ⟨rfl, rfl, rfl, rfl, rfl, rfl, rfl, rfl, rfl, rfl, rfl, rfl, rfl, rfl, (congrArg D.b (Eq.symm (orS b12))), trivial⟩), (.refl _)⟩
 refine dG (OpA.m ⟨rfl, rfl⟩) ?_
 refine dG (OpA.gtr rfl rfl rfl ⟨rfl, rfl⟩) ?_
 refine dG (OpA.m ⟨rfl, rfl⟩) ?_
 refine DetK_split (s := 115) rfl (fun b13 => ?_) (fun b13 => ?_)
 refine dG (OpA.m ⟨rfl, rfl⟩) ?_
 refine dG (OpA.gtr rfl rfl rfl ⟨rfl, rfl⟩) ?_
 refine dG (OpA.p ⟨rfl, rfl⟩) ?_
 refine dG (OpA.m ⟨rfl, rfl⟩) ?_
 refine DetK_split (s := 119) rfl (fun b14 => ?_) (fun b14 => ?_)
 iterate 3 refine dG (OpA.m ⟨rfl, rfl⟩) ?_
 refine dG (OpA.subi rfl rfl rfl ((q1 ⟨⟨⟨⟨(decT (and1 (and1 (and1 (and1 (notF b12)))))), (decT (and2 (and1 (and1 (and1 (notF b12))))))⟩, ((or0 (and2 (and1 (and1 (notF b12))))).imp (fun hh => (decT hh)) (fun hh => (beqT hh)))⟩, ((or0 (and2 (and1 (notF b12)))).imp (fun hh => (beqT hh)) (fun hh => (decT hh)))⟩, ((or0 (and2 (notF b12))).imp (fun hh => (beqT hh)) (fun hh => (decT hh)))⟩) ⟨(decT b13), (decT b14)⟩).1 ⟨rfl, rfl⟩) ?_
 refine dG (OpA.iixV (enc := (encL 1 D.i)) rfl ts46 rfl rfl rfl ((q1 ⟨⟨⟨⟨(decT (and1 (and1 (and1 (and1 (notF b12)))))), (decT (and2 (and1 (and1 (and1 (notF b12))))))⟩, ((or0 (and2 (and1 (and1 (notF b12))))).imp (fun hh => (decT hh)) (fun hh => (beqT hh)))⟩, ((or0 (and2 (and1 (notF b12)))).imp (fun hh => (beqT hh)) (fun hh => (decT hh)))⟩, ((or0 (and2 (notF b12))).imp (fun hh => (beqT hh)) (fun hh => (decT hh)))⟩) ⟨(decT b13), (decT b14)⟩).2.1 ⟨rfl, rfl⟩) ?_
 refine dG (OpA.iload rfl ti41 rfl rfl ⟨rfl, rfl⟩) ?_
 refine dG (OpA.m ⟨rfl, rfl⟩) ?_
 refine dG (OpA.subi rfl rfl rfl ((q1 ⟨⟨⟨⟨(decT (and1 (and1 (and1 (and1 (notF b12)))))), (decT (and2 (and1 (and1 (and1 (notF b12))))))⟩, ((or0 (and2 (and1 (and1 (notF b12))))).imp (fun hh => (decT hh)) (fun hh => (beqT hh)))⟩, ((or0 (and2 (and1 (notF b12)))).imp (fun hh => (beqT hh)) (fun hh => (decT hh)))⟩, ((or0 (and2 (notF b12))).imp (fun hh => (beqT hh)) (fun hh => (decT hh)))⟩) ⟨(decT b13), (decT b14)⟩).2.2.1 ⟨rfl, rfl⟩) ?_
 refine dG (OpA.iixV (enc := D.i) rfl ts41 rfl rfl rfl ((q1 ⟨⟨⟨⟨(decT (and1 (and1 (and1 (and1 (notF b12)))))), (decT (and2 (and1 (and1 (and1 (notF b12))))))⟩, ((or0 (and2 (and1 (and1 (notF b12))))).imp (fun hh => (decT hh)) (fun hh => (beqT hh)))⟩, ((or0 (and2 (and1 (notF b12)))).imp (fun hh => (beqT hh)) (fun hh => (decT hh)))⟩, ((or0 (and2 (notF b12))).imp (fun hh => (beqT hh)) (fun hh => (decT hh)))⟩) ⟨(decT b13), (decT b14)⟩).2.2.2.1 ⟨rfl, rfl⟩) ?_
 refine dG (OpA.iload rfl ti3 rfl rfl ⟨rfl, rfl⟩) ?_
 iterate 2 refine dG (OpA.m ⟨rfl, rfl⟩) ?_
 refine dG (OpA.subi rfl rfl rfl ((q1 ⟨⟨⟨⟨(decT (and1 (and1 (and1 (and1 (notF b12)))))), (decT (and2 (and1 (and1 (and1 (notF b12))))))⟩, ((or0 (and2 (and1 (and1 (notF b12))))).imp (fun hh => (decT hh)) (fun hh => (beqT hh)))⟩, ((or0 (and2 (and1 (notF b12)))).imp (fun hh => (beqT hh)) (fun hh => (decT hh)))⟩, ((or0 (and2 (notF b12))).imp (fun hh => (beqT hh)) (fun hh => (decT hh)))⟩) ⟨(decT b13), (decT b14)⟩).1 ⟨rfl, rfl⟩) ?_
 refine dG (OpA.iixV (enc := encLex) rfl ts24 rfl rfl rfl ((q1 ⟨⟨⟨⟨(decT (and1 (and1 (and1 (and1 (notF b12)))))), (decT (and2 (and1 (and1 (and1 (notF b12))))))⟩, ((or0 (and2 (and1 (and1 (notF b12))))).imp (fun hh => (decT hh)) (fun hh => (beqT hh)))⟩, ((or0 (and2 (and1 (notF b12)))).imp (fun hh => (beqT hh)) (fun hh => (decT hh)))⟩, ((or0 (and2 (notF b12))).imp (fun hh => (beqT hh)) (fun hh => (decT hh)))⟩) ⟨(decT b13), (decT b14)⟩).2.2.2.2.1 ⟨rfl, rfl⟩) ?_
 refine dG (OpA.iload_whole rfl ti30 rfl ⟨_, rfl, rfl⟩ ⟨rfl, rfl⟩) ?_
 iterate 2 refine dG (OpA.m ⟨rfl, rfl⟩) ?_
 refine dG (OpA.subi rfl rfl rfl ((q1 ⟨⟨⟨⟨(decT (and1 (and1 (and1 (and1 (notF b12)))))), (decT (and2 (and1 (and1 (and1 (notF b12))))))⟩, ((or0 (and2 (and1 (and1 (notF b12))))).imp (fun hh => (decT hh)) (fun hh => (beqT hh)))⟩, ((or0 (and2 (and1 (notF b12)))).imp (fun hh => (beqT hh)) (fun hh => (decT hh)))⟩, ((or0 (and2 (notF b12))).imp (fun hh => (beqT hh)) (fun hh => (decT hh)))⟩) ⟨(decT b13), (decT b14)⟩).2.2.1 ⟨rfl, rfl⟩) ?_
 refine dG (OpA.iixV (enc := encLex) rfl ts24 rfl rfl rfl ((q1 ⟨⟨⟨⟨(decT (and1 (and1 (and1 (and1 (notF b12)))))), (decT (and2 (and1 (and1 (and1 (notF b12))))))⟩, ((or0 (and2 (and1 (and1 (notF b12))))).imp (fun hh => (decT hh)) (fun hh => (beqT hh)))⟩, ((or0 (and2 (and1 (notF b12)))).imp (fun hh => (beqT hh)) (fun hh => (decT hh)))⟩, ((or0 (and2 (notF b12))).imp (fun hh => (beqT hh)) (fun hh => (decT hh)))⟩) ⟨(decT b13), (decT b14)⟩).2.2.2.2.2.1 ⟨rfl, rfl⟩) ?_
 refine dG (OpA.iload_whole rfl ti30 rfl ⟨_, rfl, rfl⟩ ⟨rfl, rfl⟩) ?_
 refine dG (OpA.load_whole rfl ti40 rfl rfl .head rfl ⟨_, rfl⟩ ⟨rfl, rfl⟩) ?_
 refine dG (OpA.call rfl rfl rfl en41 (pair_fun (gi a (x1 - 1)) (gi b (x2 - 1)) c ) (by rintro _ rfl; exact ⟨rfl, rfl⟩)) ?_
 refine dG (OpA.addi rfl rfl rfl ((q1 ⟨⟨⟨⟨(decT (and1 (and1 (and1 (and1 (notF b12)))))), (decT (and2 (and1 (and1 (and1 (notF b12))))))⟩, ((or0 (and2 (and1 (and1 (notF b12))))).imp (fun hh => (decT hh)) (fun hh => (beqT hh)))⟩, ((or0 (and2 (and1 (notF b12)))).imp (fun hh => (beqT hh)) (fun hh => (decT hh)))⟩, ((or0 (and2 (notF b12))).imp (fun hh => (beqT hh)) (fun hh => (decT hh)))⟩) ⟨(decT b13), (decT b14)⟩).2.2.2.2.2.2 ⟨rfl, rfl⟩) ?_
 refine dG (OpA.gtr rfl rfl rfl ⟨rfl, rfl⟩) ?_
 refine dG (OpA.p ⟨rfl, rfl⟩) ?_
 refine dL (OpA.p ⟨rfl, rfl⟩) ?_
 refine DetK.nil ?_
 refine zab ?_
 exact ⟨(Cov.asg ⟨rfl, rfl, rfl, rfl, rfl, rfl, rfl, rfl, rfl, rfl, rfl, rfl, rfl, rfl, (congrArg D.b (Eq.symm (orN b12 (andN (andN b13 b14) rfl)))), trivial⟩), (.refl _)⟩
 iterate 24 refine dS ?_
 refine dG (OpA.p ⟨rfl, rfl⟩) ?_
 refine dL (OpA.p ⟨rfl, rfl⟩) ?_
 refine DetK.nil ?_
 refine zab ?_
 exact ⟨(Cov.asg ⟨rfl, rfl, rfl, rfl, rfl, rfl, rfl, rfl, rfl, rfl, rfl, rfl, rfl, rfl, (congrArg D.b (Eq.symm (orN b12 (andS (andN b13 b14))))), trivial⟩), (.refl _)⟩
 iterate 2 refine dS ?_
 refine dG (OpA.p ⟨rfl, rfl⟩) ?_
 refine dG (OpA.m ⟨rfl, rfl⟩) ?_
 iterate 24 refine dS ?_
 refine dG (OpA.p ⟨rfl, rfl⟩) ?_
 refine dL (OpA.p ⟨rfl, rfl⟩) ?_
 refine DetK.nil ?_
 refine zab ?_
 exact ⟨(Cov.asg ⟨rfl, rfl, rfl, rfl, rfl, rfl, rfl, rfl, rfl, rfl, rfl, rfl, rfl, rfl, (congrArg D.b (Eq.symm (orN b12 (andS (andS b13))))), trivial⟩), (.refl _)⟩
 show wpA _ _ _ _ _ _
 refine zae rfl (fun b11 => ?_) (fun b11 => ?_)
 have h := h.1 ((or0 b11).imp (fun hh => ((and0 (notT hh)).imp (fun hh => ((and0 hh).imp (fun hh => ((and0 hh).imp (fun hh => ((and0 hh).imp (fun hh => (decF hh)) (fun hh => (decF hh)))) (fun hh => ⟨(decF (or1 hh)), (beqF (or2 hh))⟩))) (fun hh => ⟨(beqF (or1 hh)), (decF (or2 hh))⟩))) (fun hh => ⟨(beqF (or1 hh)), (decF (or2 hh))⟩))) (fun hh => ⟨⟨(decT (and1 (and1 hh))), (decT (and2 (and1 hh)))⟩, (decT (and2 hh))⟩))
 refine zac (zaa ?_)
 iterate 2 refine wL (OpA.a ?_)
 refine zab (zal ?_)
 exact ⟨_, (.tmp (d := D.i 0) rfl (.tmp (d := D.i 18) rfl .nil)), _, (.tup (.same rfl (.same rfl .nil)) .nil), ⟨(0, 18), rfl, h⟩⟩
 have h := h.2 ⟨⟨⟨⟨⟨(decT (and1 (and1 (and1 (and1 (notF (or1 b11))))))), (decT (and2 (and1 (and1 (and1 (notF (or1 b11)))))))⟩, ((or0 (and2 (and1 (and1 (notF (or1 b11)))))).imp (fun hh => (decT hh)) (fun hh => (beqT hh)))⟩, ((or0 (and2 (and1 (notF (or1 b11))))).imp (fun hh => (beqT hh)) (fun hh => (decT hh)))⟩, ((or0 (and2 (notF (or1 b11)))).imp (fun hh => (beqT hh)) (fun hh => (decT hh)))⟩, ((and0 (or2 b11)).imp (fun hh => ((and0 hh).imp (fun hh => (decF hh)) (fun hh => (decF hh)))) (fun hh => (decF hh)))⟩
 refine zai ?_
 obtain ⟨q1, h⟩ := h
 refine zaa ?_
 refine wL (OpA.addi rfl rfl rfl q1 ?_)
 refine wL (OpA.m ?_)
 refine zab ?_
 exact ⟨(), (x2 + 1), h, cvZ, (.refl _)⟩
 have h := h.2 (decF b10)
 refine wpA_exit ?_
 obtain ⟨q1, h⟩ := h
 refine zaa ?_
 refine wL (OpA.addi rfl rfl rfl q1 ?_)
 refine wL (OpA.m ?_)
 refine zab ?_
 exact ⟨(), (x1 + 1), h, cvZ, (.refl _)⟩
 have h := h.2 (decF b8)
 refine wpA_exit ?_
 refine zac ?_
 obtain ⟨q1, q2, h⟩ := h
 refine zaa ?_
 iterate 2 refine wL (OpA.m ?_)
 refine wL (OpA.len rfl rfl rfl rfl ts24.desc (.inl ⟨_, _, rfl, (List.length_map _).symm⟩) ?_)
 refine wL (OpA.iixV (enc := (encL 1 D.i)) rfl ts46 rfl rfl rfl q1 ?_)
 refine wL (OpA.iload rfl ti41 rfl rfl ?_)
 refine wL (OpA.m ?_)
 refine wL (OpA.len rfl rfl rfl rfl ts24.desc (.inl ⟨_, _, rfl, (List.length_map _).symm⟩) ?_)
 refine wL (OpA.iixV (enc := D.i) rfl ts41 rfl rfl rfl q2 ?_)
 refine wL (OpA.iload rfl ti3 rfl rfl ?_)
 iterate 2 refine wL (OpA.a ?_)
 refine zab (zal ?_)
 exact ⟨_, (.tmp (d := D.i (gi (gi p (a.length : Int)) (b.length : Int))) rfl (.tmp (d := D.i 0) rfl .nil)), _, (.tup (.same rfl (.same rfl .nil)) .nil), ⟨((gi (gi p (a.length : Int)) (b.length : Int)), 0), rfl, h⟩⟩
theorem bound_c (a : (List Lexeme)) (b : (List Lexeme)) (c : Costs) (p : (List (List Int))) (hp0 : (p).length ≤ 42) (hp1 : ∀ r ∈ p, r.length ≤ 42) : Fun false Tryz.prog 13 [(encL 2 encLex) a, (encL 2 encLex) b, encCosts c, (encL 1 (encL 1 D.i)) p] (fun d => d = .tup [D.i ((boundF a b c p).1), D.i ((boundF a b c p).2)]) :=
 Fun.at (enc := fun r => .tup [D.i (r.1), D.i (r.2)]) (v := boundF a b c p) (bound_w a b c p  (fun r => r = boundF a b c p) (bound_ok a b c p _ hp0 hp1 rfl))
theorem ndigit_w (c : Int) (Q : Bool → Prop) (h : ndigit_vc c Q) : Fun false Tryz.prog 104 [(D.k .u8) c] (fun d => ∃ r, d = D.b r ∧ Q r) := by
 unfold ndigit_vc at h
 refine Fun.of_body Tryz.func104 rfl Tryz.ntmps104 rfl ?_
 refine zac (zaa (wL (OpA.a (zab (zac ?_)))))
 refine wpA_mid (asg [(2, D.b ((decide (48 ≤ c)) && (decide (c ≤ 57))))]) [] ?_ ?_
 refine zaa (wL (OpA.m ?_))
 refine wL (OpA.leq rfl rfl rfl ?_)
 refine wL (OpA.m ?_)
 refine zam (s := 5) rfl (fun b1 => ?_) (fun b1 => ?_)
 refine wG (OpA.m ?_)
 refine wG (OpA.leq rfl rfl rfl ?_)
 refine wL (OpA.p ?_)
 refine wL (OpA.a ?_)
 refine zab ?_
 exact ⟨(Cov.asg ⟨(congrArg D.b (Eq.symm (andN b1 rfl))), trivial⟩), (.refl _)⟩
 iterate 2 refine wS ?_
 refine wL (OpA.p ?_)
 refine wL (OpA.a ?_)
 refine zab ?_
 exact ⟨(Cov.asg ⟨(congrArg D.b (Eq.symm (andS b1))), trivial⟩), (.refl _)⟩
 show wpA _ _ _ _ _ _
 refine zal ?_
 exact ⟨_, (.tmp (d := D.b ((decide (48 ≤ c)) && (decide (c ≤ 57)))) rfl .nil), _, (.same rfl .nil), ⟨((decide (48 ≤ c)) && (decide (c ≤ 57))), rfl, h⟩⟩
theorem ndigit_c (c : Int)  : Fun false Tryz.prog 104 [(D.k .u8) c] (fun d => d = D.b (digB c)) :=
 Fun.at (enc := fun r => D.b r) (v := digB c) (ndigit_w c  (fun r => r = digB c) (ndigit_ok c _  rfl))
theorem npart_w (c : Int) (Q : Bool → Prop) (h : npart_vc c Q) : Fun false Tryz.prog 100 [(D.k .u8) c] (fun d => ∃ r, d = D.b r ∧ Q r) := by
 unfold npart_vc at h
 refine Fun.of_body Tryz.func100 rfl Tryz.ntmps100 rfl ?_
 refine zac (zaa (wL (OpA.a (zab (zac ?_)))))
 refine wpA_mid (asg [(2, D.b (((((decide (97 ≤ c)) && (decide (c ≤ 122))) || ((decide (65 ≤ c)) && (decide (c ≤ 90)))) || (digB c)) || (c == 95)))]) [] ?_ ?_
 refine zaa (wL (OpA.m ?_))
 refine wL (OpA.leq rfl rfl rfl ?_)
 refine wL (OpA.m ?_)
 refine zam (s := 5) rfl (fun b1 => ?_) (fun b1 => ?_)
 refine wG (OpA.m ?_)
 refine wG (OpA.leq rfl rfl rfl ?_)
 refine wL (OpA.p ?_)
 refine wL (OpA.m ?_)
 refine zam (s := 9) rfl (fun b2 => ?_) (fun b2 => ?_)
 iterate 3 refine wS ?_
 iterate 2 refine wpL_skipU rfl rfl rfl rfl rfl ?_
 refine wS ?_
 refine wL (OpA.p ?_)
 refine wL (OpA.m ?_)
 iterate 2 refine wS ?_
 refine wL (OpA.p ?_)
 refine wL (OpA.m ?_)
 iterate 2 refine wS ?_
 refine wL (OpA.p ?_)
 refine wL (OpA.a ?_)
 refine zab ?_
 exact ⟨(Cov.asg ⟨(congrArg D.b (Eq.symm (orS (orS (orS (andN b1 b2)))))), trivial⟩), (.refl _)⟩
 refine wG (OpA.m ?_)
 refine wG (OpA.leq rfl rfl rfl ?_)
 refine wG (OpA.m ?_)
 refine zam (s := 12) rfl (fun b3 => ?_) (fun b3 => ?_)
 refine wG (OpA.m ?_)
 refine wG (OpA.leq rfl rfl rfl ?_)
 refine wG (OpA.p ?_)
 refine wL (OpA.p ?_)
 refine wL (OpA.m ?_)
 refine zam (s := 17) rfl (fun b4 => ?_) (fun b4 => ?_)
 iterate 2 refine wS ?_
 refine wL (OpA.p ?_)
 refine wL (OpA.m ?_)
 iterate 2 refine wS ?_
 refine wL (OpA.p ?_)
 refine wL (OpA.a ?_)
 refine zab ?_
 exact ⟨(Cov.asg ⟨(congrArg D.b (Eq.symm (orS (orS (orN (andN b1 b2) (andN b3 b4)))))), trivial⟩), (.refl _)⟩
 refine wG (OpA.m ?_)
 refine wG (OpA.call rfl rfl rfl en104 (ndigit_c c ) ?_)
 rintro _ rfl
 refine wL (OpA.p ?_)
 refine wL (OpA.m ?_)
 refine zam (s := 21) rfl (fun b5 => ?_) (fun b5 => ?_)
 iterate 2 refine wS ?_
 refine wL (OpA.p ?_)
 refine wL (OpA.a ?_)
 refine zab ?_
 exact ⟨(Cov.asg ⟨(congrArg D.b (Eq.symm (orS (orN (orN (andN b1 b2) (andN b3 b4)) b5)))), trivial⟩), (.refl _)⟩
 refine wG (OpA.m ?_)
 refine wG (OpA.eql rfl rfl rfl ?_)
 refine wL (OpA.p ?_)
 refine wL (OpA.a ?_)
 refine zab ?_
 exact ⟨(Cov.asg ⟨(congrArg D.b (Eq.symm (orN (orN (orN (andN b1 b2) (andN b3 b4)) b5) rfl))), trivial⟩), (.refl _)⟩
 iterate 2 refine wS ?_
 refine wG (OpA.p ?_)
 refine wL (OpA.p ?_)
 refine wL (OpA.m ?_)
 refine wG (OpA.m ?_)
 refine wG (OpA.call rfl rfl rfl en104 (ndigit_c c ) ?_)
 rintro _ rfl
 refine wL (OpA.p ?_)
 refine wL (OpA.m ?_)
 refine zam (s := 21) rfl (fun b6 => ?_) (fun b6 => ?_)
 iterate 2 refine wS ?_
 refine wL (OpA.p ?_)
 refine wL (OpA.a ?_)
 refine zab ?_
 exact ⟨(Cov.asg ⟨(congrArg D.b (Eq.symm (orS (orN (orN (andN b1 b2) (andS b3)) b6)))), trivial⟩), (.refl _)⟩
 refine wG (OpA.m ?_)
 refine wG (OpA.eql rfl rfl rfl ?_)
 refine wL (OpA.p ?_)
 refine wL (OpA.a ?_)
 refine zab ?_
 exact ⟨(Cov.asg ⟨(congrArg D.b (Eq.symm (orN (orN (orN (andN b1 b2) (andS b3)) b6) rfl))), trivial⟩), (.refl _)⟩
 iterate 2 refine wS ?_
 refine wL (OpA.p ?_)
 refine wL (OpA.m ?_)
 refine wG (OpA.m ?_)
 refine wG (OpA.leq rfl rfl rfl ?_)
 refine wG (OpA.m ?_)
 refine zam (s := 12) rfl (fun b7 => ?_) (fun b7 => ?_)
 refine wG (OpA.m ?_)
 refine wG (OpA.leq rfl rfl rfl ?_)
 refine wG (OpA.p ?_)
 refine wL (OpA.p ?_)
 refine wL (OpA.m ?_)
 refine zam (s := 17) rfl (fun b8 => ?_) (fun b8 => ?_)
 iterate 2 refine wS ?_
 refine wL (OpA.p ?_)
 refine wL (OpA.m ?_)
 iterate 2 refine wS ?_
 refine wL (OpA.p ?_)
 refine wL (OpA.a ?_)
 refine zab ?_
 exact ⟨(Cov.asg ⟨(congrArg D.b (Eq.symm (orS (orS (orN (andS b1) (andN b7 b8)))))), trivial⟩), (.refl _)⟩
 refine wG (OpA.m ?_)
 refine wG (OpA.call rfl rfl rfl en104 (ndigit_c c ) ?_)
 rintro _ rfl
 refine wL (OpA.p ?_)
 refine wL (OpA.m ?_)
 refine zam (s := 21) rfl (fun b9 => ?_) (fun b9 => ?_)
 iterate 2 refine wS ?_
 refine wL (OpA.p ?_)
 refine wL (OpA.a ?_)
 refine zab ?_
 exact ⟨(Cov.asg ⟨(congrArg D.b (Eq.symm (orS (orN (orN (andS b1) (andN b7 b8)) b9)))), trivial⟩), (.refl _)⟩
 refine wG (OpA.m ?_)
 refine wG (OpA.eql rfl rfl rfl ?_)
 refine wL (OpA.p ?_)
 refine wL (OpA.a ?_)
 refine zab ?_
 exact ⟨(Cov.asg ⟨(congrArg D.b (Eq.symm (orN (orN (orN (andS b1) (andN b7 b8)) b9) rfl))), trivial⟩), (.refl _)⟩
 iterate 2 refine wS ?_
 refine wG (OpA.p ?_)
 refine wL (OpA.p ?_)
 refine wL (OpA.m ?_)
 refine wG (OpA.m ?_)
 refine wG (OpA.call rfl rfl rfl en104 (ndigit_c c ) ?_)
 rintro _ rfl
 refine wL (OpA.p ?_)
 refine wL (OpA.m ?_)
 refine zam (s := 21) rfl (fun b10 => ?_) (fun b10 => ?_)
 iterate 2 refine wS ?_
 refine wL (OpA.p ?_)
 refine wL (OpA.a ?_)
 refine zab ?_
 exact ⟨(Cov.asg ⟨(congrArg D.b (Eq.symm (orS (orN (orN (andS b1) (andS b7)) b10)))), trivial⟩), (.refl _)⟩
 refine wG (OpA.m ?_)
 refine wG (OpA.eql rfl rfl rfl ?_)
 refine wL (OpA.p ?_)
 refine wL (OpA.a ?_)
 refine zab ?_
 exact ⟨(Cov.asg ⟨(congrArg D.b (Eq.symm (orN (orN (orN (andS b1) (andS b7)) b10) rfl))), trivial⟩), (.refl _)⟩
 show wpA _ _ _ _ _ _
 refine zal ?_
 exact ⟨_, (.tmp (d := D.b (((((decide (97 ≤ c)) && (decide (c ≤ 122))) || ((decide (65 ≤ c)) && (decide (c ≤ 90)))) || (digB c)) || (c == 95))) rfl .nil), _, (.same rfl .nil), ⟨(((((decide (97 ≤ c)) && (decide (c ≤ 122))) || ((decide (65 ≤ c)) && (decide (c ≤ 90)))) || (digB c)) || (c == 95)), rfl, h⟩⟩
theorem npart_c (c : Int)  : Fun false Tryz.prog 100 [(D.k .u8) c] (fun d => d = D.b (wordB c)) :=
 Fun.at (enc := fun r => D.b r) (v := wordB c) (npart_w c  (fun r => r = wordB c) (npart_ok c _  rfl))
theorem nsplit1_w (r_ : Int) (Q : Bool → Prop) (h : nsplit1_vc r_ Q) : Fun false Tryz.prog 102 [(D.k .i32) r_] (fun d => ∃ r, d = D.b r ∧ Q r) := by
 unfold nsplit1_vc at h
 refine Fun.of_body Tryz.func102 rfl Tryz.ntmps102 rfl ?_
 refine zac (zaa (wL (OpA.a (zab (zac ?_)))))
 refine wpA_mid (asg [(2, D.b ((decide (r_ > 126)) || (!(wordB (IntKind.u8.wrap r_)))))]) [] ?_ ?_
 refine zaa (wL (OpA.m ?_))
 refine wL (OpA.gtr rfl rfl rfl ?_)
 refine wL (OpA.m ?_)
 refine zam (s := 5) rfl (fun b1 => ?_) (fun b1 => ?_)
 iterate 4 refine wS ?_
 refine wL (OpA.p ?_)
 refine wL (OpA.a ?_)
 refine zab ?_
 exact ⟨(Cov.asg ⟨(congrArg D.b (Eq.symm (orS b1))), trivial⟩), (.refl _)⟩
 refine wG (OpA.m ?_)
 refine wG (OpA.conv rfl td21 td5 rfl ?_)
 refine wG (OpA.call rfl rfl rfl en100 (npart_c (IntKind.u8.wrap r_) ) ?_)
 rintro _ rfl
 refine wG (OpA.not rfl rfl ?_)
 refine wL (OpA.p ?_)
 refine wL (OpA.a ?_)
 refine zab ?_
 exact ⟨(Cov.asg ⟨(congrArg D.b (Eq.symm (orN b1 rfl))), trivial⟩), (.refl _)⟩
 show wpA _ _ _ _ _ _
 refine zal ?_
 exact ⟨_, (.tmp (d := D.b ((decide (r_ > 126)) || (!(wordB (IntKind.u8.wrap r_))))) rfl .nil), _, (.same rfl .nil), ⟨((decide (r_ > 126)) || (!(wordB (IntKind.u8.wrap r_)))), rfl, h⟩⟩
theorem nsplit1_c (r_ : Int)  : Fun false Tryz.prog 102 [(D.k .i32) r_] (fun d => d = D.b (stopB r_)) :=
 Fun.at (enc := fun r => D.b r) (v := stopB r_) (nsplit1_w r_  (fun r => r = stopB r_) (nsplit1_ok r_ _  rfl))
theorem nsplit_w (line : ByteArray) (Q : (List ByteArray) → Prop) (h : nsplit_vc line Q) : Fun false Tryz.prog 52 [D.s line] (fun d => ∃ r, d = (encL 1 D.s) r ∧ Q r) := by
 unfold nsplit_vc at h
 refine Fun.of_body Tryz.func52 rfl Tryz.ntmps52 rfl ?_
 refine zac (zaa (wL (OpA.a (zab (zac (zaa ?_))))))
 refine wL (OpA.asnG (T := ByteArray) (enc := D.s) (sz := 1) rfl rfl (fun c3_g1 => ?_))
 refine zab (zac (zag ?_))
 refine wpA_lfp (S := (List ByteArray) × ByteArray) (G := Nat × List D × List D) (c3_g1, ([] : List D), ([] : List D)) (fun gg ss => asg [(0, D.s ss.2), (2, .v (.slice none 0 0)), (3, .own gg.1 1 gg.2.1.length ss.1.length)]) (fun gg ss => [(gg.1, .cells 1 (winL D.s gg.2.1 ss.1 gg.2.2))]) h cvZ (.refl _) ?_
 rintro again2 ⟨cb3, pre3, post3⟩ ⟨out, line1⟩ h
 have h : nsplit_L1 Q again2 out line1 := h
 unfold nsplit_L1 at h
 show wpA _ _ _ _ _ _
 iterate 2 refine zac ?_
 refine zaa (wL (OpA.m ?_))
 refine wL (OpA.sneq rfl rfl rfl ?_)
 refine zab ?_
 refine zae rfl (fun b3 => ?_) (fun b3 => ?_)
 have h := h.1 (ndecT b3)
 refine zai (zag (zac (zaa (wL (OpA.a (zab (zac ?_)))))))
 refine wpA_join (S := Int) (G := Unit) (fun gg ss => asg [(0, D.s line1), (2, .v (.slice none 0 0)), (3, .own cb3 1 pre3.length out.length), (4, D.i ss)]) (fun gg ss => [(cb3, .cells 1 (winL D.s pre3 out post3))]) (fun ss => nsplit_J1 out line1 again2 ss) ?_ ?_
 refine zag (zac ?_)
 obtain ⟨q1, h⟩ := h
 refine zaa (wL (OpA.m ?_))
 refine wL (OpA.sixV rfl td9 rfl rfl q1 ?_)
 refine wL (OpA.call rfl rfl rfl en99 (blank_c (sgi line1 0) ) ?_)
 rintro _ rfl
 refine wL (OpA.a ?_)
 refine zab ?_
 refine zae rfl (fun b6 => ?_) (fun b6 => ?_)
 have h := h.1 b6
 refine zac ?_
 obtain ⟨q1, h⟩ := h
 refine zaa (wL (OpA.m ?_))
 refine wL (OpA.ssliceV rfl td9 rfl (.some rfl) (.none _) q1 ?_)
 refine wL (OpA.a ?_)
 refine zab ?_
 refine wpA_exit ?_
 exact ⟨(cb3, pre3, post3), (out, (ssub line1 1 (line1.size : Int))), h, cvZ, (.refl _)⟩
 have h := h.2 b6
 refine zac ?_
 obtain ⟨q1, h⟩ := h
 refine zaa (wL (OpA.m ?_))
 refine wL (OpA.sixV rfl td9 rfl rfl q1 ?_)
 refine wL (OpA.call rfl rfl rfl en100 (npart_c (sgi line1 0) ) ?_)
 rintro _ rfl
 refine wL (OpA.a ?_)
 refine zab ?_
 refine zae rfl (fun b7 => ?_) (fun b7 => ?_)
 have h := h.1 b7
 refine zac ?_
 obtain ⟨q1, h⟩ := h
 refine zaa (wL (OpA.m ?_))
 refine wL (OpA.call rfl rfl rfl en101 (sixF_c line1 102 [] [] (fun (x0_ : Int) => stopB x0_) (fun (x0_ : Int) => True) en102 (fun x0_ _ => nsplit1_c x0_ ) q1) ?_)
 rintro _ rfl
 refine wL (OpA.a ?_)
 refine zab (zac (zaa (wL (OpA.m ?_))))
 refine wL (OpA.lss rfl rfl rfl ?_)
 refine zab ?_
 refine zae rfl (fun b8 => ?_) (fun b8 => ?_)
 have h := h.1 (decT b8)
 refine zaa (wL (OpA.m ?_))
 refine wL (OpA.slen rfl rfl rfl rfl td9 rfl ?_)
 refine wL (OpA.a ?_)
 refine zab ?_
 exact ⟨(), (line1.size : Int), h, cvZ, (.refl _)⟩
 have h := h.2 (decF b8)
 refine zai ?_
 exact ⟨(), (runeIx (fun (x0_ : Int) => stopB x0_) line1 true), h, cvZ, (.refl _)⟩
 have h := h.2 b7
 refine zai ?_
 exact ⟨(), 1, h, cvZ, (.refl _)⟩
 rintro _ n h
 have h : nsplit_J1 out line1 again2 n := h
 unfold nsplit_J1 at h
 show wpA _ _ _ _ _ _
 refine zac ?_
 obtain ⟨q1, q2, h⟩ := h
 refine zaa ?_
 iterate 3 refine wL (OpA.m ?_)
 refine wL (OpA.ssliceV rfl td9 rfl (.none _) (.some rfl) q1 ?_)
 refine wL (OpA.ibuildSliceO rfl ts25 rfl (.cons (.of (sz := 1) rfl) .nil) (by decide) ?_)
 refine wL (OpA.appendW (enc := D.s) rfl rfl rfl rfl ts25 rfl (fun _ _ => .head) (.list (ys := ([(ssub line1 0 n)] : List ByteArray))) q2 (fun c4 pre5 => ?_))
 refine wL (OpA.a ?_)
 refine zab ?_
 obtain ⟨q1, h⟩ := h
 refine zaa ?_
 iterate 2 refine wL (OpA.m ?_)
 refine wL (OpA.ssliceV rfl td9 rfl (.some rfl) (.none _) q1 ?_)
 refine wL (OpA.a ?_)
 refine zab ?_
 exact ⟨(c4, pre5, ([] : List D)), ((out ++ ([(ssub line1 0 n)] : List ByteArray)), (ssub line1 n (line1.size : Int))), h, cvZ, (.refl _)⟩
 have h := h.2 (ndecF b3)
 refine wpA_exit ?_
 refine zac (zaa (wL (OpA.m (wL (OpA.a (zab (zal ?_)))))))
 exact ⟨_, (.tmp (d := .own cb3 1 pre3.length out.length) rfl .nil), _, (.win .head (by intro hf; cases hf) .nil), ⟨out, rfl, h⟩⟩
theorem nsplit_c (line : ByteArray) (hp0 : line.size ≤ 1000000) : Fun false Tryz.prog 52 [D.s line] (fun d => d = (encL 1 D.s) (wordsL line)) :=
 Fun.at (enc := fun r => (encL 1 D.s) r) (v := wordsL line) (nsplit_w line  (fun r => r = wordsL line) (nsplit_ok line _ hp0 rfl))
theorem nnote_w (words : (List ByteArray)) (Q : Int → Prop) (h : nnote_vc words Q) : Fun false Tryz.prog 53 [(encL 1 D.s) words] (fun d => ∃ r, d = D.i r ∧ Q r) := by
 unfold nnote_vc at h
 refine Fun.of_body Tryz.func53 rfl Tryz.ntmps53 rfl ?_
 refine zac (zaa (wL (OpA.a (zab ?_))))
 iterate 2 refine zac ?_
 obtain ⟨q1, q2, h⟩ := h
 refine wpA_mid (asg [(0, (encL 1 D.s) words), (2, D.i 0), (20, D.b ((((words.length : Int) != 2) || (!decide ((gi words 0) = (⟨#[110, 111, 116, 101]⟩ : ByteArray)))) || (decide (((gi words 1).size : Int) > 4))))]) [] ?_ ?_
 refine zaa (wL (OpA.m ?_))
 refine wL (OpA.len rfl rfl rfl rfl ts25.desc (.inl ⟨_, _, rfl, (List.length_map _).symm⟩) ?_)
 refine wL (OpA.neq rfl rfl rfl ?_)
 refine wL (OpA.m ?_)
 refine zam (s := 8) rfl (fun b4 => ?_) (fun b4 => ?_)
 iterate 4 refine wS ?_
 refine wL (OpA.p ?_)
 refine wL (OpA.m ?_)
 iterate 5 refine wS ?_
 refine wL (OpA.p ?_)
 refine zab ?_
 exact ⟨(Cov.asg ⟨rfl, rfl, (congrArg D.b (Eq.symm (orS (orS b4)))), trivial⟩), (.refl _)⟩
 refine wG (OpA.m ?_)
 refine wG (OpA.iixV (enc := D.s) rfl ts25 rfl rfl rfl (q1 (bneF b4)) ?_)
 refine wG (OpA.iload rfl ti9 rfl rfl ?_)
 refine wG (OpA.sneq rfl rfl rfl ?_)
 refine wL (OpA.p ?_)
 refine wL (OpA.m ?_)
 refine zam (s := 14) rfl (fun b5 => ?_) (fun b5 => ?_)
 iterate 5 refine wS ?_
 refine wL (OpA.p ?_)
 refine zab ?_
 exact ⟨(Cov.asg ⟨rfl, rfl, (congrArg D.b (Eq.symm (orS (orN b4 b5)))), trivial⟩), (.refl _)⟩
 refine wG (OpA.m ?_)
 refine wG (OpA.iixV (enc := D.s) rfl ts25 rfl rfl rfl (q2 ⟨(bneF b4), (ndecF b5)⟩) ?_)
 refine wG (OpA.iload rfl ti9 rfl rfl ?_)
 refine wG (OpA.slen rfl rfl rfl rfl td9 rfl ?_)
 refine wG (OpA.gtr rfl rfl rfl ?_)
 refine wL (OpA.p ?_)
 refine zab ?_
 exact ⟨(Cov.asg ⟨rfl, rfl, (congrArg D.b (Eq.symm (orN (orN b4 b5) rfl))), trivial⟩), (.refl _)⟩
 show wpA _ _ _ _ _ _
 refine zae rfl (fun b1 => ?_) (fun b1 => ?_)
 have h := h.1 ((or0 b1).imp (fun hh => ((or0 hh).imp (fun hh => (bneT hh)) (fun hh => (ndecT hh)))) (fun hh => (decT hh)))
 refine zac (zaa (wL (OpA.a (zab (zal ?_)))))
 exact ⟨_, (.tmp (d := D.i (-1)) rfl .nil), _, (.same rfl .nil), ⟨(-1), rfl, h⟩⟩
 have h := h.2 ⟨⟨(bneF (or1 (or1 b1))), (ndecF (or2 (or1 b1)))⟩, (decF (or2 b1))⟩
 refine zai (zac (zaa (wL (OpA.m ?_))))
 obtain ⟨q1, h⟩ := h
 refine wL (OpA.iixV (enc := D.s) rfl ts25 rfl rfl rfl q1 ?_)
 refine wL (OpA.iload rfl ti9 rfl rfl ?_)
 obtain ⟨q1, h⟩ := h
 refine wL (OpA.call rfl rfl rfl en48 (atoi_c (gi words 1) q1) ?_)
 rintro _ ⟨num, e2, rfl, he2⟩
 rcases he2 with ⟨he2, rfl⟩ | ⟨he2, te2, xe2, rfl⟩
 have h := h.1 num (atoiO_some he2)
 refine wL (OpA.m ?_)
 iterate 2 refine wL (OpA.extract rfl rfl rfl ?_)
 iterate 2 refine wL (OpA.a ?_)
 refine zab ?_
 iterate 2 refine zac ?_
 obtain ⟨q1, q2, q3, h⟩ := h
 refine wpA_draw (m := 10) mo zK rfl ?_
 refine dL (OpA.m ⟨rfl, rfl⟩) ?_
 refine dL (OpA.neqNil0 rfl errD rfl rfl ⟨rfl, rfl⟩) ?_
 refine dL (OpA.m ⟨rfl, rfl⟩) ?_
 refine dG (OpA.m ⟨rfl, rfl⟩) ?_
 refine dG (OpA.call rfl rfl rfl en103 (itoa_c num q1 q2) (by rintro _ rfl; exact ⟨rfl, rfl⟩)) ?_
 refine dG (OpA.m ⟨rfl, rfl⟩) ?_
 refine dG (OpA.iixV (enc := D.s) rfl ts25 rfl rfl rfl q3 ⟨rfl, rfl⟩) ?_
 refine dG (OpA.iload rfl ti9 rfl rfl ⟨rfl, rfl⟩) ?_
 refine dG (OpA.sneq rfl rfl rfl ⟨rfl, rfl⟩) ?_
 refine dL (OpA.p ⟨rfl, rfl⟩) ?_
 refine DetK.nil ?_
 refine zab ?_
 refine zae rfl (fun b3 => ?_) (fun b3 => ?_)
 have h := h.1 (ndecT b3)
 refine zac (zaa (wL (OpA.a (zab (zal ?_)))))
 exact ⟨_, (.tmp (d := D.i (-1)) rfl .nil), _, (.same rfl .nil), ⟨(-1), rfl, h⟩⟩
 have h := h.2 (ndecF b3)
 refine zai (zac (zaa (wL (OpA.m (wL (OpA.a (zab (zal ?_))))))))
 exact ⟨_, (.tmp (d := D.i num) rfl .nil), _, (.same rfl .nil), ⟨num, rfl, h⟩⟩
 have h := h.2 num (atoiO_none he2)
 refine wL (OpA.m ?_)
 iterate 2 refine wL (OpA.extract rfl rfl rfl ?_)
 iterate 2 refine wL (OpA.a ?_)
 refine zab ?_
 iterate 2 refine zac ?_
 refine wpA_draw (m := 10) mo zK rfl ?_
 refine dL (OpA.m ⟨rfl, rfl⟩) ?_
 refine dL (OpA.neqNil1 rfl errD rfl rfl ⟨rfl, rfl⟩) ?_
 refine dL (OpA.m ⟨rfl, rfl⟩) ?_
 iterate 6 refine dS ?_
 refine dL (OpA.p ⟨rfl, rfl⟩) ?_
 refine DetK.nil ?_
 refine zab ?_
 refine wpA_condT rfl ?_
 refine zac (zaa (wL (OpA.a (zab (zal ?_)))))
 exact ⟨_, (.tmp (d := D.i (-1)) rfl .nil), _, (.same rfl .nil), ⟨(-1), rfl, h⟩⟩
theorem nnote_c (words : (List ByteArray)) (hp0 : words.length ≤ 1000000) : Fun false Tryz.prog 53 [(encL 1 D.s) words] (fun d => d = D.i (noteF words)) :=
 Fun.at (enc := fun r => D.i r) (v := noteF words) (nnote_w words  (fun r => r = noteF words) (nnote_ok words _ hp0 rfl))
theorem nclass_w (word : ByteArray) (names : Bool) (numbers : Bool) (Q : ByteArray → Prop) (h : nclass_vc word names numbers Q) : Fun false Tryz.prog 54 [D.s word, D.b names, D.b numbers] (fun d => ∃ r, d = D.s r ∧ Q r) := by
 unfold nclass_vc at h
 refine Fun.of_body Tryz.func54 rfl Tryz.ntmps54 rfl ?_
 refine zac (zaa (wL (OpA.a (zab ?_))))
 iterate 2 refine zac ?_
 obtain ⟨q1, h⟩ := h
 refine zaa (wL (OpA.m ?_))
 refine wL (OpA.sixV rfl td9 rfl rfl q1 ?_)
 refine wL (OpA.a ?_)
 refine zab (zag (zac ?_))
 refine wpA_mid (asg [(0, D.s word), (1, D.b names), (6, D.s (⟨#[]⟩ : ByteArray)), (7, (D.k .u8) (sgi word 0)), (10, D.b ((digB (sgi word 0)) && numbers))]) [] ?_ ?_
 refine zaa (wL (OpA.m ?_))
 refine wL (OpA.call rfl rfl rfl en104 (ndigit_c (sgi word 0) ) ?_)
 rintro _ rfl
 refine wL (OpA.m ?_)
 refine zam (s := 13) rfl (fun b5 => ?_) (fun b5 => ?_)
 refine wG (OpA.m ?_)
 refine wL (OpA.p ?_)
 refine wL (OpA.a ?_)
 refine zab ?_
 exact ⟨(Cov.asg ⟨rfl, rfl, rfl, rfl, (congrArg D.b (Eq.symm (andN b5 rfl))), trivial⟩), (.refl _)⟩
 refine wS ?_
 refine wL (OpA.p ?_)
 refine wL (OpA.a ?_)
 refine zab ?_
 exact ⟨(Cov.asg ⟨rfl, rfl, rfl, rfl, (congrArg D.b (Eq.symm (andS b5))), trivial⟩), (.refl _)⟩
 show wpA _ _ _ _ _ _
 refine zae rfl (fun b1 => ?_) (fun b1 => ?_)
 have h := h.1 ⟨(and1 b1), (and2 b1)⟩
 refine zac (zaa (wL (OpA.a (zab (zal ?_)))))
 exact ⟨_, (.tmp (d := D.s (⟨#[36, 48]⟩ : ByteArray)) rfl .nil), _, (.same rfl .nil), ⟨(⟨#[36, 48]⟩ : ByteArray), rfl, h⟩⟩
 have h := h.2 ((and0 b1).imp (fun hh => hh) (fun hh => hh))
 refine zac ?_
 refine wpA_mid (asg [(0, D.s word), (6, D.s (⟨#[]⟩ : ByteArray)), (16, D.b (((wordB (sgi word 0)) && (!(digB (sgi word 0)))) && names))]) [] ?_ ?_
 refine zaa (wL (OpA.m ?_))
 refine wL (OpA.call rfl rfl rfl en100 (npart_c (sgi word 0) ) ?_)
 rintro _ rfl
 refine wL (OpA.m ?_)
 refine zam (s := 19) rfl (fun b3 => ?_) (fun b3 => ?_)
 refine wG (OpA.m ?_)
 refine wG (OpA.call rfl rfl rfl en104 (ndigit_c (sgi word 0) ) ?_)
 rintro _ rfl
 refine wG (OpA.not rfl rfl ?_)
 refine wL (OpA.p ?_)
 refine wL (OpA.m ?_)
 refine zam (s := 24) rfl (fun b4 => ?_) (fun b4 => ?_)
 refine wG (OpA.m ?_)
 refine wL (OpA.p ?_)
 refine wL (OpA.a ?_)
 refine zab ?_
 exact ⟨(Cov.asg ⟨rfl, rfl, (congrArg D.b (Eq.symm (andN (andN b3 b4) rfl))), trivial⟩), (.refl _)⟩
 refine wS ?_
 refine wL (OpA.p ?_)
 refine wL (OpA.a ?_)
 refine zab ?_
 exact ⟨(Cov.asg ⟨rfl, rfl, (congrArg D.b (Eq.symm (andS (andN b3 b4)))), trivial⟩), (.refl _)⟩
 iterate 3 refine wS ?_
 refine wL (OpA.p ?_)
 refine wL (OpA.m ?_)
 refine wS ?_
 refine wL (OpA.p ?_)
 refine wL (OpA.a ?_)
 refine zab ?_
 exact ⟨(Cov.asg ⟨rfl, rfl, (congrArg D.b (Eq.symm (andS (andS b3)))), trivial⟩), (.refl _)⟩
 show wpA _ _ _ _ _ _
 refine zae rfl (fun b2 => ?_) (fun b2 => ?_)
 have h := h.1 ⟨⟨(and1 (and1 b2)), (notT (and2 (and1 b2)))⟩, (and2 b2)⟩
 refine zac (zaa (wL (OpA.a (zab (zal ?_)))))
 exact ⟨_, (.tmp (d := D.s (⟨#[36, 110]⟩ : ByteArray)) rfl .nil), _, (.same rfl .nil), ⟨(⟨#[36, 110]⟩ : ByteArray), rfl, h⟩⟩
 have h := h.2 ((and0 b2).imp (fun hh => ((and0 hh).imp (fun hh => hh) (fun hh => (notF hh)))) (fun hh => hh))
 refine zai (zac (zaa (wL (OpA.m (wL (OpA.a (zab (zal ?_))))))))
 exact ⟨_, (.tmp (d := D.s word) rfl .nil), _, (.same rfl .nil), ⟨word, rfl, h⟩⟩
theorem nclass_c (word : ByteArray) (names : Bool) (numbers : Bool) (hp0 : 0 < word.size) : Fun false Tryz.prog 54 [D.s word, D.b names, D.b numbers] (fun d => d = D.s (classF word names numbers)) :=
 Fun.at (enc := fun r => D.s r) (v := classF word names numbers) (nclass_w word names numbers  (fun r => r = classF word names numbers) (nclass_ok word names numbers _ hp0 rfl))
theorem nwords_w (path : ByteArray) (data : ByteArray) (names : Bool) (numbers : Bool) (Q : Text × Int → Prop) (h : nwords_vc path data names numbers Q) : Fun false Tryz.prog 18 [D.s path, D.s data, D.b names, D.b numbers] (fun d => ∃ r, d = .tup [zak (r.1), D.i (r.2)] ∧ Q r) := by
 unfold nwords_vc at h
 refine Fun.of_body Tryz.func18 rfl Tryz.ntmps18 rfl ?_
 refine zac (zaa ?_)
 refine wL (OpA.bx (sz := 1) rfl zW (.of rfl) (fun c1 _ => ?_))
 refine wL (OpA.bx (sz := 1) rfl zW (.of rfl) (fun c2 _ => ?_))
 refine wL (OpA.alloc (sz := 2) (d := .agg ([D.s ByteArray.empty, .v (.slice none 0 0)])) rfl tz57 (fun _ _ => .agg (.cons (.v _) (.cons (.v _) .nil))) (.of rfl) (fun c3 _ => ?_))
 refine wL (OpA.a ?_)
 refine zab (zac (zag (zac ?_)))
 obtain ⟨q1, h⟩ := h
 refine zaa (wL (OpA.m ?_))
 refine wL (OpA.call rfl rfl rfl en50 (path_c path q1) ?_)
 rintro _ rfl
 refine wL (OpA.neq rfl rfl rfl ?_)
 refine wL (OpA.a ?_)
 refine zab ?_
 refine zae rfl (fun b4 => ?_) (fun b4 => ?_)
 have h := h.1 (bneT b4)
 refine zac (zaa ?_)
 refine wL (OpA.buildO (zs := [.v (.string ⟨#[]⟩), .v (.slice none 0 0)]) rfl tp57 tz57 (fun _ _ => (.cons (.v _) (.cons (.v _) .nil))) .nil rfl ?_)
 refine wE (OpA.storeW rfl ti57 rfl zW (.of rfl) rfl rfl .head ?_)
 refine wL (OpA.a ?_)
 refine zab (zal ?_)
 exact ⟨_, (.cell (.whole ti57 rfl rfl .head rfl ⟨_, rfl⟩) (.tmp (d := D.i 2) rfl .nil)), _, (.tup (.agg (.same rfl (.nilv (sz := 2) .nil)) (.same rfl .nil)) .nil), ⟨((Text.mk ByteArray.empty []), 2), rfl, h⟩⟩
 have h := h.2 (bneF b4)
 refine zac ?_
 obtain ⟨q1, h⟩ := h
 refine wpA_mid (asg [(0, D.s path), (1, D.s data), (6, .ptr c1 1 0 0), (7, .ptr c2 1 0 0), (8, .ptr c3 2 0 0), (9, D.i 0), (23, D.b ((decide ((data.size : Int) > 65536)) || (decide ((countF data (⟨#[10]⟩ : ByteArray)) ≥ 1024))))]) [(c3, .cells 2 [.agg ([D.s ByteArray.empty, .v (.slice none 0 0)])]), (c2, .cells 1 [D.b numbers]), (c1, .cells 1 [D.b names])] ?_ ?_
 refine zaa (wL (OpA.m ?_))
 refine wL (OpA.slen rfl rfl rfl rfl td9 rfl ?_)
 refine wL (OpA.gtr rfl rfl rfl ?_)
 refine wL (OpA.m ?_)
 refine zam (s := 27) rfl (fun b19 => ?_) (fun b19 => ?_)
 iterate 3 refine wS ?_
 refine wL (OpA.p ?_)
 refine wL (OpA.a ?_)
 refine zab ?_
 exact ⟨(Cov.asg ⟨rfl, rfl, rfl, rfl, rfl, rfl, (congrArg D.b (Eq.symm (orS b19))), trivial⟩), (.refl _)⟩
 refine wG (OpA.m ?_)
 refine wG (OpA.call rfl rfl rfl en6 (count_c data (⟨#[10]⟩ : ByteArray) (q1 (decF b19))) ?_)
 rintro _ rfl
 refine wG (OpA.geq rfl rfl rfl ?_)
 refine wL (OpA.p ?_)
 refine wL (OpA.a ?_)
 refine zab ?_
 exact ⟨(Cov.asg ⟨rfl, rfl, rfl, rfl, rfl, rfl, (congrArg D.b (Eq.symm (orN b19 rfl))), trivial⟩), (.refl _)⟩
 show wpA _ _ _ _ _ _
 refine zae rfl (fun b5 => ?_) (fun b5 => ?_)
 have h := h.1 ((or0 b5).imp (fun hh => (decT hh)) (fun hh => (decT hh)))
 refine zac (zaa ?_)
 refine wL (OpA.buildO (zs := [.v (.string ⟨#[]⟩), .v (.slice none 0 0)]) rfl tp57 tz57 (fun _ _ => (.cons (.v _) (.cons (.v _) .nil))) .nil rfl ?_)
 refine wE (OpA.storeW rfl ti57 rfl zW (.of rfl) rfl rfl .head ?_)
 refine wL (OpA.a ?_)
 refine zab (zal ?_)
 exact ⟨_, (.cell (.whole ti57 rfl rfl .head rfl ⟨_, rfl⟩) (.tmp (d := D.i 10) rfl .nil)), _, (.tup (.agg (.same rfl (.nilv (sz := 2) .nil)) (.same rfl .nil)) .nil), ⟨((Text.mk ByteArray.empty []), 10), rfl, h⟩⟩
 have h := h.2 ⟨(decF (or1 b5)), (decF (or2 b5))⟩
 refine zai (zac (zaa (wL (OpA.m ?_))))
 refine wL (OpA.buildO (zs := [.v (.string ⟨#[]⟩), .v (.slice none 0 0)]) rfl tp57 tz57 (fun _ _ => (.cons (.v _) (.cons (.v _) .nil))) (.cons (.of (sz := 1) rfl) .nil) rfl ?_)
 refine wL (OpA.alloc (sz := 2) (d := .agg ([D.s ByteArray.empty, .v (.slice none 0 0)])) rfl tz57 (fun _ _ => .agg (.cons (.v _) (.cons (.v _) .nil))) (.of rfl) (fun c6 _ => ?_))
 refine wE (OpA.storeW rfl ti57 rfl zW (.of rfl) rfl rfl .head ?_)
 refine zab (zac (zaa ?_))
 refine wL (OpA.alloc (sz := 1) (d := D.i 0) rfl tz3 (fun _ _ => .v _) (.of rfl) (fun c7 _ => ?_))
 refine wL (OpA.alloc (sz := 1) (d := D.i 0) rfl tz3 (fun _ _ => .v _) (.of rfl) (fun c8 _ => ?_))
 refine wE (OpA.storeW rfl ti3 rfl zW (.of rfl) rfl rfl (.tail .head) ?_)
 refine wE (OpA.storeW rfl ti3 rfl zW (.of rfl) rfl rfl .head ?_)
 refine zab ?_
 iterate 2 refine zac ?_
 obtain ⟨q1, q2, h⟩ := h
 refine zaa (wL (OpA.m ?_))
 refine wL (OpA.callH rfl rfl rfl en51 (h1 := []) (h2 := [(c8, .cells 1 [D.i 0]), (c7, .cells 1 [D.i 0]), (c6, .cells 2 [.agg ([D.s path, .v (.slice none 0 0)])]), (c3, .cells 2 [.agg ([D.s ByteArray.empty, .v (.slice none 0 0)])]), (c2, .cells 1 [D.b numbers]), (c1, .cells 1 [D.b names])]) (.refl _) (splitSeq_c data (⟨#[10]⟩ : ByteArray)) ?_)
 rintro _ _ ⟨c9, rfl, rfl⟩
 have hq1 := q1
 have hq2 := q2
 refine zab (zag ?_)
 refine wpA_ghostM (c := c6) (sz1 := 2) (sz := 2) (es' := fun g10 => [.agg ([D.s path, .own g10 2 ([] : List D).length ([] : List Lexeme).length])]) (fun _ => (.tail (.tail (.tail .head)))) (fun _ => (.same (.turn .nil))) (fun _ => rfl) (fun _ => by rintro d (_ | ⟨_, hd⟩); exact .of rfl; cases hd) (fun g10 => ?_)
 refine wpA_cov (fr0 := asg [(6, .ptr c1 1 0 0), (7, .ptr c2 1 0 0), (8, .ptr c3 2 0 0), (9, D.i 0), (10, .ptr c6 2 0 0), (11, .ptr c7 1 0 0), (12, .ptr c8 1 0 0), (36, .fn (.func 145) [] [.iptr (D.s (⟨#[10]⟩ : ByteArray)) 0, .ptr c9 1 0 0, .iptr (D.i 0) 0])]) cvZ ?_
 refine wpA_seqs (hb := [(c9, .cells 1 [D.s data])]) (hr := [(g10, .cells 2 (winL encLex ([] : List D) ([] : List Lexeme) ([] : List D))), (c8, .cells 1 [D.i 0]), (c7, .cells 1 [D.i 0]), (c6, .cells 2 [.agg ([D.s path, .own g10 2 ([] : List D).length ([] : List Lexeme).length])]), (c3, .cells 2 [.agg ([D.s ByteArray.empty, .v (.slice none 0 0)])]), (c2, .cells 1 [D.b numbers]), (c1, .cells 1 [D.b names])]) (enc := D.s) (xs := (splitF data (⟨#[10]⟩ : ByteArray))) (S := (List Lexeme) × Int × Int) (G := Nat × List D × List D) (g10, ([] : List D), ([] : List D)) (fun gg ss => [(gg.1, .cells 2 (winL encLex gg.2.1 ss.1 gg.2.2)), (c8, .cells 1 [D.i ss.2.1]), (c7, .cells 1 [D.i ss.2.2]), (c6, .cells 2 [.agg ([D.s path, .own gg.1 2 gg.2.1.length ss.1.length])]), (c3, .cells 2 [.agg ([D.s ByteArray.empty, .v (.slice none 0 0)])]), (c2, .cells 1 [D.b numbers]), (c1, .cells 1 [D.b names])]) rfl en145 (splitSeq_it data (⟨#[10]⟩ : ByteArray) c9 (by assumption) (by assumption)) h (.swap _ _ _) (.refl _) rfl ?_ ?_
 · skip
   rintro again11 ⟨cbgh10, pregh10, postgh10⟩ ⟨xs, skip, at_⟩ ix hix h
   have h : nwords_L1 path data names numbers Q again11 xs skip at_ ix := h
   unfold nwords_L1 at h
   replace h := h.1 hix
   show wpA _ _ _ _ (upd (asg [(6, .ptr c1 1 0 0), (7, .ptr c2 1 0 0), (8, .ptr c3 2 0 0), (9, D.i 0), (10, .ptr c6 2 0 0), (11, .ptr c7 1 0 0), (12, .ptr c8 1 0 0), (36, .fn (.func 145) [] [.iptr (D.s (⟨#[10]⟩ : ByteArray)) 0, .ptr c9 1 0 0, .iptr (D.i 0) 0])]) 37 (D.s (gi (splitF data (⟨#[10]⟩ : ByteArray)) ix))) [(cbgh10, .cells 2 (winL encLex pregh10 xs postgh10)), (c8, .cells 1 [D.i skip]), (c7, .cells 1 [D.i at_]), (c6, .cells 2 [.agg ([D.s path, .own cbgh10 2 pregh10.length xs.length])]), (c3, .cells 2 [.agg ([D.s ByteArray.empty, .v (.slice none 0 0)])]), (c2, .cells 1 [D.b numbers]), (c1, .cells 1 [D.b names])]
   refine zaa (wL (OpA.a (zab (zag (zac ?_)))))
   obtain ⟨q1, h⟩ := h
   refine zaa (wL (OpA.m ?_))
   refine wL (OpA.call rfl rfl rfl en52 (nsplit_c (gi (splitF data (⟨#[10]⟩ : ByteArray)) ix) q1) ?_)
   rintro _ rfl
   refine wL (OpA.a ?_)
   refine zab ?_
   iterate 2 refine zac ?_
   obtain ⟨q1, h⟩ := h
   refine zaa (wL (OpA.m ?_))
   refine wL (OpA.call rfl rfl rfl en53 (nnote_c (wordsL (gi (splitF data (⟨#[10]⟩ : ByteArray)) ix)) q1) ?_)
   rintro _ rfl
   refine wL (OpA.a ?_)
   refine zab (zag (zac (zaa ?_)))
   refine wL (OpA.load rfl ti3 rfl (.tail .head) rfl rfl ?_)
   refine wL (OpA.gtr rfl rfl rfl ?_)
   refine wL (OpA.a ?_)
   refine zab ?_
   refine zae rfl (fun b12 => ?_) (fun b12 => ?_)
   have h := h.1 (decT b12)
   obtain ⟨q1, h⟩ := h
   refine zaa ?_
   refine wL (OpA.load rfl ti3 rfl (.tail .head) rfl rfl ?_)
   refine wL (OpA.subi rfl rfl rfl q1 ?_)
   refine wE (OpA.storeW rfl ti3 rfl zW (.of rfl) rfl rfl (.tail .head) ?_)
   refine zab ?_
   obtain ⟨q1, h⟩ := h
   refine zaa ?_
   refine wL (OpA.load rfl ti3 rfl (.tail (.tail .head)) rfl rfl ?_)
   refine wL (OpA.addi rfl rfl rfl q1 ?_)
   refine wE (OpA.storeW rfl ti3 rfl zW (.of rfl) rfl rfl (.tail (.tail .head)) ?_)
   refine zab ?_
   exact ⟨(cbgh10, pregh10, postgh10), (xs, (skip - 1), (at_ + 1)), h, (.refl _)⟩
   have h := h.2 (decF b12)
   refine zac (zaa (wL (OpA.m ?_)))
   refine wL (OpA.geq rfl rfl rfl ?_)
   refine wL (OpA.a ?_)
   refine zab ?_
   refine zae rfl (fun b13 => ?_) (fun b13 => ?_)
   have h := h.1 (decT b13)
   refine zaa (wL (OpA.m ?_))
   refine wE (OpA.storeW rfl ti3 rfl zW (.of rfl) rfl rfl (.tail .head) ?_)
   refine zab ?_
   obtain ⟨q1, h⟩ := h
   refine zaa ?_
   refine wL (OpA.load rfl ti3 rfl (.tail (.tail .head)) rfl rfl ?_)
   refine wL (OpA.addi rfl rfl rfl q1 ?_)
   refine wE (OpA.storeW rfl ti3 rfl zW (.of rfl) rfl rfl (.tail (.tail .head)) ?_)
   refine zab ?_
   exact ⟨(cbgh10, pregh10, postgh10), (xs, (noteF (wordsL (gi (splitF data (⟨#[10]⟩ : ByteArray)) ix))), (at_ + 1)), h, (.refl _)⟩
   have h := h.2 (decF b13)
   refine zac (zaa (wL (OpA.m ?_)))
   refine wL (OpA.len rfl rfl rfl rfl ts25.desc (.inl ⟨_, _, rfl, (List.length_map _).symm⟩) ?_)
   refine wL (OpA.m ?_)
   refine zab (zag ?_)
   refine wpA_lfp (S := (List Lexeme) × Int) (G := Nat × List D × List D) (cbgh10, pregh10, postgh10) (fun gg ss => asg [(6, .ptr c1 1 0 0), (7, .ptr c2 1 0 0), (10, .ptr c6 2 0 0), (11, .ptr c7 1 0 0), (42, (encL 1 D.s) (wordsL (gi (splitF data (⟨#[10]⟩ : ByteArray)) ix))), (43, D.i ((wordsL (gi (splitF data (⟨#[10]⟩ : ByteArray)) ix)).length : Int)), (44, D.i ss.2)]) (fun gg ss => [(gg.1, .cells 2 (winL encLex gg.2.1 ss.1 gg.2.2)), (c8, .cells 1 [D.i skip]), (c7, .cells 1 [D.i at_]), (c6, .cells 2 [.agg ([D.s path, .own gg.1 2 gg.2.1.length ss.1.length])]), (c3, .cells 2 [.agg ([D.s ByteArray.empty, .v (.slice none 0 0)])]), (c2, .cells 1 [D.b numbers]), (c1, .cells 1 [D.b names])]) h cvZ (.refl _) ?_
   rintro again14 ⟨cbgh101, pregh101, postgh101⟩ ⟨xs1, x⟩ h
   have h : nwords_L2 data names numbers skip at_ ix again11 again14 xs1 x := h
   unfold nwords_L2 at h
   show wpA _ _ _ _ _ _
   refine zac (zaa ?_)
   refine wL (OpA.lss rfl rfl rfl ?_)
   refine zab (zac ?_)
   refine zae rfl (fun b15 => ?_) (fun b15 => ?_)
   have h := h.1 (decT b15)
   refine zai (zac (zag (zac ?_)))
   obtain ⟨q1, h⟩ := h
   refine zaa ?_
   refine wL (OpA.iixV (enc := D.s) rfl ts25 rfl rfl rfl q1 ?_)
   refine wL (OpA.iload rfl ti9 rfl rfl ?_)
   refine wL (OpA.a ?_)
   refine zab ?_
   obtain ⟨q1, q2, h⟩ := h
   refine wpA_draw (m := 9) mo zK rfl ?_
   refine dL (OpA.fieldAddr rfl tf57_1 rfl ⟨rfl, rfl⟩) ?_
   refine dL (OpA.load rfl ti24 rfl (.tail (.tail (.tail .head))) rfl rfl ⟨rfl, rfl⟩) ?_
   refine dL (OpA.m ⟨rfl, rfl⟩) ?_
   refine dL (OpA.load rfl ti4 rfl (.tail (.tail (.tail (.tail (.tail (.tail .head)))))) rfl rfl ⟨rfl, rfl⟩) ?_
   refine dL (OpA.load rfl ti4 rfl (.tail (.tail (.tail (.tail (.tail .head))))) rfl rfl ⟨rfl, rfl⟩) ?_
   refine dL (OpA.call rfl rfl rfl en54 (nclass_c (gi (wordsL (gi (splitF data (⟨#[10]⟩ : ByteArray)) ix)) x) names numbers q1) (by rintro _ rfl; exact ⟨rfl, rfl⟩)) ?_
   refine dL (OpA.load rfl ti3 rfl (.tail (.tail .head)) rfl rfl ⟨rfl, rfl⟩) ?_
   refine dL (OpA.buildO (zs := [.v (.string ⟨#[]⟩), .v (.int .i64 0)]) rfl tp30 tz30 (fun _ _ => (.cons (.v _) (.cons (.v _) .nil))) (.cons (.of (sz := 1) rfl) (.cons (.of (sz := 1) rfl) .nil)) rfl ⟨rfl, rfl⟩) ?_
   refine dL (OpA.ibuildSliceO rfl ts24 rfl (.cons (.of (sz := 2) rfl) .nil) (by decide) ⟨rfl, rfl⟩) ?_
   refine DetK.nil ?_
   refine wL (OpA.appendW (enc := encLex) rfl rfl rfl rfl ts24 rfl (fun _ _ => .head) (.list (ys := ([(Lexeme.mk (classF (gi (wordsL (gi (splitF data (⟨#[10]⟩ : ByteArray)) ix)) x) names numbers) at_)] : List Lexeme))) q2 (fun c16 pre17 => ?_))
   refine wL (OpA.fieldAddr rfl tf57_1 rfl ?_)
   refine wE (OpA.store (e' := .agg ([D.s path, .own c16 2 pre17.length (xs1 ++ ([(Lexeme.mk (classF (gi (wordsL (gi (splitF data (⟨#[10]⟩ : ByteArray)) ix)) x) names numbers) at_)] : List Lexeme)).length])) rfl ti24 rfl (.of rfl) rfl (Nat.le_of_ble_eq_true rfl) rfl (.tail (.tail (.tail .head))) ?_)
   refine zab ?_
   obtain ⟨q1, h⟩ := h
   refine zaa ?_
   refine wL (OpA.addi rfl rfl rfl q1 ?_)
   refine wL (OpA.m ?_)
   refine zab ?_
   exact ⟨(c16, pre17, ([] : List D)), ((xs1 ++ ([(Lexeme.mk (classF (gi (wordsL (gi (splitF data (⟨#[10]⟩ : ByteArray)) ix)) x) names numbers) at_)] : List Lexeme)), (x + 1)), h, cvZ, (.refl _)⟩
   have h := h.2 (decF b15)
   refine wpA_exit ?_
   obtain ⟨q1, h⟩ := h
   refine zaa ?_
   refine wL (OpA.load rfl ti3 rfl (.tail (.tail .head)) rfl rfl ?_)
   refine wL (OpA.addi rfl rfl rfl q1 ?_)
   refine wE (OpA.storeW rfl ti3 rfl zW (.of rfl) rfl rfl (.tail (.tail .head)) ?_)
   refine zab ?_
   exact ⟨(cbgh101, pregh101, postgh101), (xs1, skip, (at_ + 1)), h, (.refl _)⟩
 · skip
   rintro again11 ⟨cbgh10, pregh10, postgh10⟩ ⟨xs, skip, at_⟩ ix hix h
   have h : nwords_L1 path data names numbers Q again11 xs skip at_ ix := h
   unfold nwords_L1 at h
   replace h := h.2 hix
   iterate 2 refine zac ?_
   refine zaa ?_
   refine wL (OpA.fieldAddr rfl tf57_1 rfl ?_)
   refine wL (OpA.load rfl ti24 rfl (.tail (.tail (.tail .head))) rfl rfl ?_)
   refine wL (OpA.len rfl rfl rfl rfl ts24.desc (.inr (.inl ⟨_, _, _, rfl⟩)) ?_)
   refine wL (OpA.gtr rfl rfl rfl ?_)
   refine zab ?_
   refine zae rfl (fun b18 => ?_) (fun b18 => ?_)
   have h := h.1 (decT b18)
   refine zac (zaa ?_)
   refine wL (OpA.buildO (zs := [.v (.string ⟨#[]⟩), .v (.slice none 0 0)]) rfl tp57 tz57 (fun _ _ => (.cons (.v _) (.cons (.v _) .nil))) .nil rfl ?_)
   refine wE (OpA.storeW rfl ti57 rfl zW (.of rfl) rfl rfl (.tail (.tail (.tail (.tail .head)))) ?_)
   refine wL (OpA.a ?_)
   refine zab (zal ?_)
   exact ⟨_, (.cell (.whole ti57 rfl rfl (.tail (.tail (.tail (.tail .head)))) rfl ⟨_, rfl⟩) (.tmp (d := D.i 10) rfl .nil)), _, (.tup (.agg (.same rfl (.nilv (sz := 2) .nil)) (.same rfl .nil)) .nil), ⟨((Text.mk ByteArray.empty []), 10), rfl, h⟩⟩
   have h := h.2 (decF b18)
   refine zai (zac (zaa ?_))
   refine wL (OpA.load_whole rfl ti57 rfl rfl (.tail (.tail (.tail .head))) rfl ⟨_, rfl⟩ ?_)
   refine wE (OpA.storeW rfl ti57 rfl zW (.of rfl) rfl rfl (.tail (.tail (.tail (.tail .head)))) ?_)
   refine wL (OpA.a ?_)
   refine zab (zal ?_)
   exact ⟨_, (.cell (.whole ti57 rfl rfl (.tail (.tail (.tail (.tail .head)))) rfl ⟨_, rfl⟩) (.tmp (d := D.i 0) rfl .nil)), _, (.tup (.agg (.same rfl (.win .head (by intro hf; cases hf) .nil)) (.same rfl .nil)) .nil), ⟨((Text.mk path xs), 0), rfl, h⟩⟩
theorem nwords_c (path : ByteArray) (data : ByteArray) (names : Bool) (numbers : Bool) (hp0 : path.size ≤ 1000000) (hp1 : data.size ≤ 1000000) : Fun false Tryz.prog 18 [D.s path, D.s data, D.b names, D.b numbers] (fun d => d = .tup [zak ((normF path data names numbers).1), D.i ((normF path data names numbers).2)]) :=
 Fun.at (enc := fun r => .tup [zak (r.1), D.i (r.2)]) (v := normF path data names numbers) (nwords_w path data names numbers  (fun r => r = normF path data names numbers) (nwords_ok path data names numbers _ hp0 hp1 rfl))
theorem scont_w (s_ : ByteArray) (substr : ByteArray) (Q : Bool → Prop) (h : scont_vc s_ substr Q) : Fun false Tryz.prog 16 [D.s s_, D.s substr] (fun d => ∃ r, d = D.b r ∧ Q r) := by
 unfold scont_vc at h
 refine Fun.of_body Tryz.func16 rfl Tryz.ntmps16 rfl ?_
 refine zac (zaa (wL (OpA.a (zab (zac ?_)))))
 obtain ⟨q1, h⟩ := h
 refine zaa ?_
 iterate 2 refine wL (OpA.m ?_)
 refine wL (OpA.call rfl rfl rfl en32 (index_c s_ substr q1) ?_)
 rintro _ rfl
 refine wL (OpA.geq rfl rfl rfl ?_)
 refine wL (OpA.a ?_)
 refine zab (zal ?_)
 exact ⟨_, (.tmp (d := D.b (decide ((indexF s_ substr) ≥ 0))) rfl .nil), _, (.same rfl .nil), ⟨(decide ((indexF s_ substr) ≥ 0)), rfl, h⟩⟩
theorem scont_c (s_ : ByteArray) (substr : ByteArray) (hp0 : substr.size = 1) : Fun false Tryz.prog 16 [D.s s_, D.s substr] (fun d => d = D.b ((decide (0 ≤ indexF s_ substr)))) :=
 Fun.at (enc := fun r => D.b r) (v := (decide (0 ≤ indexF s_ substr))) (scont_w s_ substr  (fun r => r = (decide (0 ≤ indexF s_ substr))) (scont_ok s_ substr _ hp0 rfl))
theorem tlines_w (data : ByteArray) (Q : (List ByteArray) × Int → Prop) (h : tlines_vc data Q) : Fun false Tryz.prog 8 [D.s data] (fun d => ∃ r, d = .tup [(encL 1 D.s) (r.1), D.i (r.2)] ∧ Q r) := by
 unfold tlines_vc at h
 refine Fun.of_body Tryz.func8 rfl Tryz.ntmps8 rfl ?_
 refine zac (zaa ?_)
 refine wL (OpA.asnN (T := ByteArray) (enc := D.s) (sz := 1) rfl rfl ?_)
 refine wL (OpA.a ?_)
 refine zab ?_
 iterate 2 refine zac ?_
 obtain ⟨q1, h⟩ := h
 refine wpA_mid (asg [(0, D.s data), (2, (encL 1 D.s) ([] : List ByteArray)), (3, D.i 0), (11, D.b ((decide ((data.size : Int) > 65536)) || (decide ((countF data (⟨#[10]⟩ : ByteArray)) ≥ 1024))))]) [] ?_ ?_
 refine zaa (wL (OpA.m ?_))
 refine wL (OpA.slen rfl rfl rfl rfl td9 rfl ?_)
 refine wL (OpA.gtr rfl rfl rfl ?_)
 refine wL (OpA.m ?_)
 refine zam (s := 7) rfl (fun b2 => ?_) (fun b2 => ?_)
 iterate 3 refine wS ?_
 refine wL (OpA.p ?_)
 refine zab ?_
 exact ⟨(Cov.asg ⟨rfl, rfl, rfl, (congrArg D.b (Eq.symm (orS b2))), trivial⟩), (.refl _)⟩
 refine wG (OpA.m ?_)
 refine wG (OpA.call rfl rfl rfl en6 (count_c data (⟨#[10]⟩ : ByteArray) (q1 (decF b2))) ?_)
 rintro _ rfl
 refine wG (OpA.geq rfl rfl rfl ?_)
 refine wL (OpA.p ?_)
 refine zab ?_
 exact ⟨(Cov.asg ⟨rfl, rfl, rfl, (congrArg D.b (Eq.symm (orN b2 rfl))), trivial⟩), (.refl _)⟩
 show wpA _ _ _ _ _ _
 refine zae rfl (fun b1 => ?_) (fun b1 => ?_)
 have h := h.1 ((or0 b1).imp (fun hh => (decT hh)) (fun hh => (decT hh)))
 refine zac (zaa ?_)
 refine wL (OpA.asnN (T := ByteArray) (enc := D.s) (sz := 1) rfl rfl ?_)
 refine wL (OpA.a ?_)
 refine zab (zal ?_)
 exact ⟨_, (.tmp (d := (encL 1 D.s) ([] : List ByteArray)) rfl (.tmp (d := D.i 10) rfl .nil)), _, (.tup (.same rfl (.same rfl .nil)) .nil), ⟨(([] : List ByteArray), 10), rfl, h⟩⟩
 have h := h.2 ⟨(decF (or1 b1)), (decF (or2 b1))⟩
 refine zai (zac ?_)
 obtain ⟨q1, q2, h⟩ := h
 refine zaa (wL (OpA.m ?_))
 refine wL (OpA.call rfl rfl rfl en33 (split_c data (⟨#[10]⟩ : ByteArray) q1 q2) ?_)
 rintro _ rfl
 iterate 2 refine wL (OpA.a ?_)
 refine zab (zal ?_)
 exact ⟨_, (.tmp (d := (encL 1 D.s) (splitF data (⟨#[10]⟩ : ByteArray))) rfl (.tmp (d := D.i 0) rfl .nil)), _, (.tup (.same rfl (.same rfl .nil)) .nil), ⟨((splitF data (⟨#[10]⟩ : ByteArray)), 0), rfl, h⟩⟩
theorem tlines_c (data : ByteArray) (hp0 : data.size ≤ 1000000) : Fun false Tryz.prog 8 [D.s data] (fun d => d = .tup [(encL 1 D.s) ((zaf data).1), D.i ((zaf data).2)]) :=
 Fun.at (enc := fun r => .tup [(encL 1 D.s) (r.1), D.i (r.2)]) (v := zaf data) (tlines_w data  (fun r => r = zaf data) (tlines_ok data _ hp0 rfl))
theorem tjoin1_w (s_ : ByteArray) (Q : Bool → Prop) (h : tjoin1_vc s_ Q) : Fun false Tryz.prog 128 [D.s s_] (fun d => ∃ r, d = D.b r ∧ Q r) := by
 unfold tjoin1_vc at h
 refine Fun.of_body Tryz.func128 rfl Tryz.ntmps128 rfl ?_
 refine zac (zaa (wL (OpA.a (zab (zac ?_)))))
 obtain ⟨q1, h⟩ := h
 refine zaa (wL (OpA.m ?_))
 refine wL (OpA.call rfl rfl rfl en16 (scont_c s_ (⟨#[10]⟩ : ByteArray) q1) ?_)
 rintro _ rfl
 refine wL (OpA.a ?_)
 refine zab (zal ?_)
 exact ⟨_, (.tmp (d := D.b (decide (0 ≤ indexF s_ (⟨#[10]⟩ : ByteArray)))) rfl .nil), _, (.same rfl .nil), ⟨(decide (0 ≤ indexF s_ (⟨#[10]⟩ : ByteArray))), rfl, h⟩⟩
theorem tjoin1_c (s_ : ByteArray)  : Fun false Tryz.prog 128 [D.s s_] (fun d => d = D.b (nlB s_)) :=
 Fun.at (enc := fun r => D.b r) (v := nlB s_) (tjoin1_w s_  (fun r => r = nlB s_) (tjoin1_ok s_ _  rfl))
theorem tjoin_w (lines : (List ByteArray)) (Q : ByteArray × Int → Prop) (h : tjoin_vc lines Q) : Fun false Tryz.prog 82 [(encL 1 D.s) lines] (fun d => ∃ r, d = .tup [D.s (r.1), D.i (r.2)] ∧ Q r) := by
 unfold tjoin_vc at h
 refine Fun.of_body Tryz.func82 rfl Tryz.ntmps82 rfl ?_
 refine zac (zaa ?_)
 iterate 2 refine wL (OpA.a ?_)
 refine zab ?_
 iterate 2 refine zac ?_
 obtain ⟨q1, h⟩ := h
 refine wpA_mid (asg [(0, (encL 1 D.s) lines), (2, D.s (⟨#[]⟩ : ByteArray)), (3, D.i 0), (13, D.b (((lines.length : Int) == 0) || (lines.any (fun (x0_ : ByteArray) => nlB x0_))))]) [] ?_ ?_
 refine zaa (wL (OpA.m ?_))
 refine wL (OpA.len rfl rfl rfl rfl ts25.desc (.inl ⟨_, _, rfl, (List.length_map _).symm⟩) ?_)
 refine wL (OpA.eql rfl rfl rfl ?_)
 refine wL (OpA.m ?_)
 refine zam (s := 10) rfl (fun b6 => ?_) (fun b6 => ?_)
 iterate 2 refine wS ?_
 refine wL (OpA.p ?_)
 refine zab ?_
 exact ⟨(Cov.asg ⟨rfl, rfl, rfl, (congrArg D.b (Eq.symm (orS b6))), trivial⟩), (.refl _)⟩
 refine wG (OpA.m ?_)
 refine wG (OpA.call rfl rfl rfl en95 (cfStr_c lines 128 [] [] (fun (x0_ : ByteArray) => nlB x0_) (fun (x0_ : ByteArray) => True) en128 (fun x0_ _ => tjoin1_c x0_ ) (q1 (beqF b6)).1 (q1 (beqF b6)).2) ?_)
 rintro _ rfl
 refine wL (OpA.p ?_)
 refine zab ?_
 exact ⟨(Cov.asg ⟨rfl, rfl, rfl, (congrArg D.b (Eq.symm (orN b6 rfl))), trivial⟩), (.refl _)⟩
 show wpA _ _ _ _ _ _
 refine zae rfl (fun b1 => ?_) (fun b1 => ?_)
 have h := h.1 ((or0 b1).imp (fun hh => (beqT hh)) (fun hh => hh))
 refine zac (zaa ?_)
 iterate 2 refine wL (OpA.a ?_)
 refine zab (zal ?_)
 exact ⟨_, (.tmp (d := D.s (⟨#[]⟩ : ByteArray)) rfl (.tmp (d := D.i 1) rfl .nil)), _, (.tup (.same rfl (.same rfl .nil)) .nil), ⟨((⟨#[]⟩ : ByteArray), 1), rfl, h⟩⟩
 have h := h.2 ⟨(beqF (or1 b1)), (or2 b1)⟩
 refine zai (zac ?_)
 obtain ⟨q1, h⟩ := h
 refine zaa (wL (OpA.m ?_))
 refine wL (OpA.len rfl rfl rfl rfl ts25.desc (.inl ⟨_, _, rfl, (List.length_map _).symm⟩) ?_)
 refine wL (OpA.subi rfl rfl rfl q1 ?_)
 refine wL (OpA.a ?_)
 refine zab ?_
 iterate 2 refine zac ?_
 refine zaa (wL (OpA.m ?_))
 refine wL (OpA.len rfl rfl rfl rfl ts25.desc (.inl ⟨_, _, rfl, (List.length_map _).symm⟩) ?_)
 refine wL (OpA.m ?_)
 refine zab (zag ?_)
 refine wpA_lfp (S := Int × Int) (G := Unit) () (fun gg ss => asg [(0, (encL 1 D.s) lines), (2, D.s (⟨#[]⟩ : ByteArray)), (3, D.i 0), (4, D.i ss.1), (17, (encL 1 D.s) lines), (18, D.i (lines.length : Int)), (19, D.i ss.2)]) (fun gg ss => []) h cvZ (.refl _) ?_
 rintro again2 _ ⟨size, x⟩ h
 have h : tjoin_L1 lines Q again2 size x := h
 unfold tjoin_L1 at h
 show wpA _ _ _ _ _ _
 refine zac (zaa ?_)
 refine wL (OpA.lss rfl rfl rfl ?_)
 refine zab (zac ?_)
 refine zae rfl (fun b3 => ?_) (fun b3 => ?_)
 have h := h.1 (decT b3)
 refine zai (zac (zag (zac ?_)))
 obtain ⟨q1, h⟩ := h
 refine zaa ?_
 refine wL (OpA.iixV (enc := D.s) rfl ts25 rfl rfl rfl q1 ?_)
 refine wL (OpA.iload rfl ti9 rfl rfl ?_)
 refine wL (OpA.a ?_)
 refine zab ?_
 obtain ⟨q1, h⟩ := h
 refine zaa ?_
 iterate 2 refine wL (OpA.m ?_)
 refine wL (OpA.slen rfl rfl rfl rfl td9 rfl ?_)
 refine wL (OpA.addi rfl rfl rfl q1 ?_)
 refine wL (OpA.a ?_)
 refine zab ?_
 obtain ⟨q1, h⟩ := h
 refine zaa ?_
 refine wL (OpA.addi rfl rfl rfl q1 ?_)
 refine wL (OpA.m ?_)
 refine zab ?_
 exact ⟨(), ((size + ((gi lines x).size : Int)), (x + 1)), h, cvZ, (.refl _)⟩
 have h := h.2 (decF b3)
 refine wpA_exit ?_
 iterate 2 refine zac ?_
 refine wpA_mid (asg [(0, (encL 1 D.s) lines), (2, D.s (⟨#[]⟩ : ByteArray)), (3, D.i 0), (34, D.b ((decide ((lines.length : Int) > 1024)) || (decide (size > 65536))))]) [] ?_ ?_
 refine zaa (wL (OpA.m ?_))
 refine wL (OpA.len rfl rfl rfl rfl ts25.desc (.inl ⟨_, _, rfl, (List.length_map _).symm⟩) ?_)
 refine wL (OpA.gtr rfl rfl rfl ?_)
 refine wL (OpA.m ?_)
 refine zam (s := 31) rfl (fun b5 => ?_) (fun b5 => ?_)
 iterate 2 refine wS ?_
 refine wL (OpA.p ?_)
 refine zab ?_
 exact ⟨(Cov.asg ⟨rfl, rfl, rfl, (congrArg D.b (Eq.symm (orS b5))), trivial⟩), (.refl _)⟩
 refine wG (OpA.m ?_)
 refine wG (OpA.gtr rfl rfl rfl ?_)
 refine wL (OpA.p ?_)
 refine zab ?_
 exact ⟨(Cov.asg ⟨rfl, rfl, rfl, (congrArg D.b (Eq.symm (orN b5 rfl))), trivial⟩), (.refl _)⟩
 show wpA _ _ _ _ _ _
 refine zae rfl (fun b4 => ?_) (fun b4 => ?_)
 have h := h.1 ((or0 b4).imp (fun hh => (decT hh)) (fun hh => (decT hh)))
 refine zac (zaa ?_)
 iterate 2 refine wL (OpA.a ?_)
 refine zab (zal ?_)
 exact ⟨_, (.tmp (d := D.s (⟨#[]⟩ : ByteArray)) rfl (.tmp (d := D.i 10) rfl .nil)), _, (.tup (.same rfl (.same rfl .nil)) .nil), ⟨((⟨#[]⟩ : ByteArray), 10), rfl, h⟩⟩
 have h := h.2 ⟨(decF (or1 b4)), (decF (or2 b4))⟩
 refine zai (zac ?_)
 obtain ⟨q1, q2, q3, h⟩ := h
 refine zaa (wL (OpA.m ?_))
 refine wL (OpA.call rfl rfl rfl en44 (join_c lines (⟨#[10]⟩ : ByteArray) q1 q2 q3) ?_)
 rintro _ rfl
 iterate 2 refine wL (OpA.a ?_)
 refine zab (zal ?_)
 exact ⟨_, (.tmp (d := D.s (joinS lines (⟨#[10]⟩ : ByteArray))) rfl (.tmp (d := D.i 0) rfl .nil)), _, (.tup (.same rfl (.same rfl .nil)) .nil), ⟨((joinS lines (⟨#[10]⟩ : ByteArray)), 0), rfl, h⟩⟩
theorem tjoin_c (lines : (List ByteArray)) (hp0 : lines.length ≤ 1000000) (hp1 : ∀ z_ ∈ lines, z_.size ≤ 1000000) : Fun false Tryz.prog 82 [(encL 1 D.s) lines] (fun d => d = .tup [D.s ((joinT lines).1), D.i ((joinT lines).2)]) :=
 Fun.at (enc := fun r => .tup [D.s (r.1), D.i (r.2)]) (v := joinT lines) (tjoin_w lines  (fun r => r = joinT lines) (tjoin_ok lines _ hp0 hp1 rfl))
end Go.Proofs.YtkifpidbpoghlaaGreatDoor
