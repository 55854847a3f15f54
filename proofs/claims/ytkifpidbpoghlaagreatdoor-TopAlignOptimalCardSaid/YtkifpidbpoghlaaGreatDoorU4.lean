/-
  walks and contracts
-/
import Derived.Test.YtkifpidbpoghlaaGreatDoorV8
import Derived.Test.YtkifpidbpoghlaaGreatDoorU3
set_option maxRecDepth 10000
set_option maxHeartbeats 2000000
set_option linter.all false
namespace Go.Proofs.YtkifpidbpoghlaaGreatDoor
open Go Go.Lic Go.Sort Go.Proofs
attribute [local irreducible] addP badR blankF cloneCmp clonesF cmpI codeF countF fewTs fewW findC gramsF guarF hashF indexF itoaF lenF lookF mul64F mulP orF partF pathF powF printsF pushF rightL rollF selectF sizeF splitF splitG validT
theorem eqClones_w (s1 : (List Clone)) (s2 : (List Clone)) (Q : Bool → Prop) (h : eqClones_vc s1 s2 Q) : Fun false Tryz.prog 29 [(encL 5 encClone) s1, (encL 5 encClone) s2] (fun d => ∃ r, d = D.b r ∧ Q r) := by
 unfold eqClones_vc at h
 refine Fun.of_body Tryz.func29 rfl Tryz.ntmps29 rfl ?_
 refine zac (zaa (wL (OpA.a (zab ?_))))
 iterate 2 refine zac ?_
 refine zaa (wL (OpA.m ?_))
 refine wL (OpA.len rfl rfl rfl rfl ts77.desc (.inl ⟨_, _, rfl, (List.length_map _).symm⟩) ?_)
 refine wL (OpA.m ?_)
 refine wL (OpA.len rfl rfl rfl rfl ts77.desc (.inl ⟨_, _, rfl, (List.length_map _).symm⟩) ?_)
 refine wL (OpA.neq rfl rfl rfl ?_)
 refine zab ?_
 refine zae rfl (fun b1 => ?_) (fun b1 => ?_)
 have h := h.1 (bneT b1)
 refine zac (zaa (wL (OpA.a (zab (zal ?_)))))
 exact ⟨_, (.tmp (d := D.b false) rfl .nil), _, (.same rfl .nil), ⟨false, rfl, h⟩⟩
 have h := h.2 (bneF b1)
 refine zai ?_
 iterate 2 refine zac ?_
 refine zaa (wL (OpA.m ?_))
 refine wL (OpA.len rfl rfl rfl rfl ts77.desc (.inl ⟨_, _, rfl, (List.length_map _).symm⟩) ?_)
 refine wL (OpA.m ?_)
 refine zab (zag ?_)
 refine wpA_lfp (S := Int) (G := Unit) () (fun gg ss => asg [(0, (encL 5 encClone) s1), (1, (encL 5 encClone) s2), (4, D.b false), (12, D.i (s1.length : Int)), (13, D.i ss)]) (fun gg ss => []) h cvZ (.refl _) ?_
 rintro again2 _ x h
 have h : eqClones_L1 s1 s2 Q again2 x := h
 unfold eqClones_L1 at h
 show wpA _ _ _ _ _ _
 refine zac (zaa ?_)
 refine wL (OpA.lss rfl rfl rfl ?_)
 refine zab (zac ?_)
 refine zae rfl (fun b3 => ?_) (fun b3 => ?_)
 have h := h.1 (decT b3)
 refine zai (zac (zag (zac (zaa (wL (OpA.m (wL (OpA.a (zab (zac ?_))))))))))
 obtain ⟨q1, q2, h⟩ := h
 refine wpA_draw (m := 9) mo zK rfl ?_
 iterate 2 refine dL (OpA.m ⟨rfl, rfl⟩) ?_
 refine dL (OpA.iixV (enc := encClone) rfl ts77 rfl rfl rfl q1 ⟨rfl, rfl⟩) ?_
 refine dL (OpA.iload_whole rfl ti84 rfl ⟨_, rfl, rfl⟩ ⟨rfl, rfl⟩) ?_
 iterate 2 refine dL (OpA.m ⟨rfl, rfl⟩) ?_
 refine dL (OpA.iixV (enc := encClone) rfl ts77 rfl rfl rfl q2 ⟨rfl, rfl⟩) ?_
 refine dL (OpA.iload_whole rfl ti84 rfl ⟨_, rfl, rfl⟩ ⟨rfl, rfl⟩) ?_
 refine dL (OpA.structcmp (xs := [.int .i64 ((gi s1 x).a), .int .i64 ((gi s1 x).atA), .int .i64 ((gi s1 x).b), .int .i64 ((gi s1 x).atB), .int .i64 ((gi s1 x).len)]) (ys := [.int .i64 ((gi s2 x).a), .int .i64 ((gi s2 x).atA), .int .i64 ((gi s2 x).b), .int .i64 ((gi s2 x).atB), .int .i64 ((gi s2 x).len)]) (r := (eqClone (gi s1 x) (gi s2 x))) rfl eg84 su84.1 su84.2.1 su84.2.2 rfl rfl (.int td3 ti3 rfl rfl (.int td3 ti3 rfl rfl (.int td3 ti3 rfl rfl (.int td3 ti3 rfl rfl (.int td3 ti3 rfl rfl .nil))))) (.inr ⟨rfl, rfl⟩) ⟨rfl, rfl⟩) ?_
 refine DetK.nil ?_
 refine zab ?_
 refine zae rfl (fun b4 => ?_) (fun b4 => ?_)
 have h := h.1 (notT b4)
 refine zac (zaa (wL (OpA.a (zab (zal ?_)))))
 exact ⟨_, (.tmp (d := D.b false) rfl .nil), _, (.same rfl .nil), ⟨false, rfl, h⟩⟩
 have h := h.2 (notF b4)
 refine zai ?_
 obtain ⟨q1, h⟩ := h
 refine zaa ?_
 refine wL (OpA.addi rfl rfl rfl q1 ?_)
 refine wL (OpA.m ?_)
 refine zab ?_
 exact ⟨(), (x + 1), h, cvZ, (.refl _)⟩
 have h := h.2 (decF b3)
 refine wpA_exit ?_
 refine zac (zaa (wL (OpA.a (zab (zal ?_)))))
 exact ⟨_, (.tmp (d := D.b true) rfl .nil), _, (.same rfl .nil), ⟨true, rfl, h⟩⟩
theorem eqClones_c (s1 : (List Clone)) (s2 : (List Clone)) (hp0 : s1.length ≤ 9223372036854775807) : Fun false Tryz.prog 29 [(encL 5 encClone) s1, (encL 5 encClone) s2] (fun d => d = D.b ((decide (s1 = s2)))) :=
 Fun.at (enc := fun r => D.b r) (v := (decide (s1 = s2))) (eqClones_w s1 s2  (fun r => r = (decide (s1 = s2))) (eqClones_ok s1 s2 _ hp0 rfl))
end Go.Proofs.YtkifpidbpoghlaaGreatDoor
set_option linter.all false
namespace Go.Proofs.YtkifpidbpoghlaaGreatDoor
open Go Go.Lic Go.Sort Go.Proofs
attribute [local irreducible] addP alCheck alPair alignR applyF applyP atoiO badR blankF boundF checkP classF cloneCmp clonesF cmpI codeF commonP costP countF digB fewTs fewW findC zan frontF gramsF guarF hashF hexP hunkB indexF itoaF joinS joinT keepB keptF lenF lexL linesP zaf lookF makeP mul64F mulP nlB normF noteF orF partF patchB pathF potF powF printsF pushF rightL rollF selectF sizeF sizesP splitF splitG stopB sumP validT wordB wordsL
abbrev cawake_e0 := ((((((normF (⟨#[97]⟩ : ByteArray) (⟨#[120, 32, 61, 32, 121, 32, 43, 32, 49]⟩ : ByteArray) false false).2) == 0) && (((normF (⟨#[98]⟩ : ByteArray) (⟨#[122, 32, 61, 32, 121, 32, 43, 32, 50]⟩ : ByteArray) false false).2) == 0)) && (((findC ([(normF (⟨#[97]⟩ : ByteArray) (⟨#[120, 32, 61, 32, 121, 32, 43, 32, 49]⟩ : ByteArray) false false).1, (normF (⟨#[98]⟩ : ByteArray) (⟨#[122, 32, 61, 32, 121, 32, 43, 32, 50]⟩ : ByteArray) false false).1] : List Text) 2 2).2) == 0)) && (decide (((findC ([(normF (⟨#[97]⟩ : ByteArray) (⟨#[120, 32, 61, 32, 121, 32, 43, 32, 49]⟩ : ByteArray) false false).1, (normF (⟨#[98]⟩ : ByteArray) (⟨#[122, 32, 61, 32, 121, 32, 43, 32, 50]⟩ : ByteArray) false false).1] : List Text) 2 2).1) = ([(Clone.mk 0 1 1 1 3)] : List Clone))))
theorem cawake_w  (Q : Bool → Prop) (h : cawake_vc  Q) : Fun false Tryz.prog 5 [] (fun d => ∃ r, d = D.b r ∧ Q r) := by
 unfold cawake_vc at h
 refine Fun.of_body Tryz.func5 rfl Tryz.ntmps5 rfl ?_
 refine zac (zaa (wL (OpA.a (zab (zac ?_)))))
 obtain ⟨q1, q2, h⟩ := h
 refine zaa ?_
 refine wL (OpA.call rfl rfl rfl en18 (nwords_c (⟨#[97]⟩ : ByteArray) (⟨#[120, 32, 61, 32, 121, 32, 43, 32, 49]⟩ : ByteArray) false false q1 q2) ?_)
 rintro _ rfl
 refine wL (OpA.m ?_)
 iterate 2 refine wL (OpA.extract rfl rfl rfl ?_)
 refine wL (OpA.alloc (sz := 2) (d := .agg ([D.s ByteArray.empty, .v (.slice none 0 0)])) rfl tz57 (fun _ _ => .agg (.cons (.v _) (.cons (.v _) .nil))) (.of rfl) (fun c1 _ => ?_))
 refine wE (OpA.storeW rfl ti57 rfl zW (.of rfl) rfl rfl .head ?_)
 refine wL (OpA.a ?_)
 refine zab (zac ?_)
 obtain ⟨q1, q2, h⟩ := h
 refine zaa ?_
 refine wL (OpA.call rfl rfl rfl en18 (nwords_c (⟨#[98]⟩ : ByteArray) (⟨#[122, 32, 61, 32, 121, 32, 43, 32, 50]⟩ : ByteArray) false false q1 q2) ?_)
 rintro _ rfl
 refine wL (OpA.m ?_)
 iterate 2 refine wL (OpA.extract rfl rfl rfl ?_)
 refine wL (OpA.alloc (sz := 2) (d := .agg ([D.s ByteArray.empty, .v (.slice none 0 0)])) rfl tz57 (fun _ _ => .agg (.cons (.v _) (.cons (.v _) .nil))) (.of rfl) (fun c2 _ => ?_))
 refine wE (OpA.storeW rfl ti57 rfl zW (.of rfl) rfl rfl .head ?_)
 refine wL (OpA.a ?_)
 refine zab (zac ?_)
 obtain ⟨q1, h⟩ := h
 refine zaa ?_
 refine wL (OpA.load_whole rfl ti57 rfl rfl (.tail .head) rfl ⟨_, rfl⟩ ?_)
 refine wL (OpA.load_whole rfl ti57 rfl rfl .head rfl ⟨_, rfl⟩ ?_)
 refine wL (OpA.ibuildSliceO rfl ts61 rfl (.cons (.of (sz := 2) rfl) (.cons (.of (sz := 2) rfl) .nil)) (by decide) ?_)
 refine wL (OpA.call rfl rfl rfl en28 (kfind_c ([(normF (⟨#[97]⟩ : ByteArray) (⟨#[120, 32, 61, 32, 121, 32, 43, 32, 49]⟩ : ByteArray) false false).1, (normF (⟨#[98]⟩ : ByteArray) (⟨#[122, 32, 61, 32, 121, 32, 43, 32, 50]⟩ : ByteArray) false false).1] : List Text) 2 2 q1) ?_)
 rintro _ rfl
 refine wL (OpA.m ?_)
 iterate 2 refine wL (OpA.extract rfl rfl rfl ?_)
 iterate 2 refine wL (OpA.a ?_)
 refine zab (zac ?_)
 obtain ⟨q1, h⟩ := h
 refine wpA_mid (asg [(0, D.b cawake_e0)]) [(c2, .cells 2 [zak ((normF (⟨#[98]⟩ : ByteArray) (⟨#[122, 32, 61, 32, 121, 32, 43, 32, 50]⟩ : ByteArray) false false).1)]), (c1, .cells 2 [zak ((normF (⟨#[97]⟩ : ByteArray) (⟨#[120, 32, 61, 32, 121, 32, 43, 32, 49]⟩ : ByteArray) false false).1)])] ?_ ?_
 refine zaa (wL (OpA.m ?_))
 refine wL (OpA.eql rfl rfl rfl ?_)
 refine wL (OpA.m ?_)
 refine zam (s := 24) rfl (fun b3 => ?_) (fun b3 => ?_)
 refine wG (OpA.m ?_)
 refine wG (OpA.eql rfl rfl rfl ?_)
 refine wL (OpA.p ?_)
 refine wL (OpA.m ?_)
 refine zam (s := 28) rfl (fun b4 => ?_) (fun b4 => ?_)
 refine wG (OpA.m ?_)
 refine wG (OpA.eql rfl rfl rfl ?_)
 refine wL (OpA.p ?_)
 refine wL (OpA.m ?_)
 refine zam (s := 32) rfl (fun b5 => ?_) (fun b5 => ?_)
 refine wG (OpA.m ?_)
 refine wG (OpA.buildO (zs := [.v (.int .i64 0), .v (.int .i64 0), .v (.int .i64 0), .v (.int .i64 0), .v (.int .i64 0)]) rfl tp84 tz84 (fun _ _ => (.cons (.v _) (.cons (.v _) (.cons (.v _) (.cons (.v _) (.cons (.v _) .nil)))))) (.cons (.of (sz := 1) rfl) (.cons (.of (sz := 1) rfl) (.cons (.of (sz := 1) rfl) (.cons (.of (sz := 1) rfl) (.cons (.of (sz := 1) rfl) .nil))))) rfl ?_)
 refine wG (OpA.ibuildSliceO rfl ts77 rfl (.cons (.of (sz := 5) rfl) .nil) (by decide) ?_)
 refine wG (OpA.call rfl rfl rfl en29 (eqClones_c ((findC ([(normF (⟨#[97]⟩ : ByteArray) (⟨#[120, 32, 61, 32, 121, 32, 43, 32, 49]⟩ : ByteArray) false false).1, (normF (⟨#[98]⟩ : ByteArray) (⟨#[122, 32, 61, 32, 121, 32, 43, 32, 50]⟩ : ByteArray) false false).1] : List Text) 2 2).1) ([(Clone.mk 0 1 1 1 3)] : List Clone) (q1 ⟨⟨(beqT b3), (beqT b4)⟩, (beqT b5)⟩)) ?_)
 rintro _ rfl
 refine wL (OpA.p ?_)
 refine wL (OpA.a ?_)
 refine zab ?_
 exact ⟨(Cov.asg ⟨(congrArg D.b (Eq.symm (andN (andN (andN b3 b4) b5) rfl))), trivial⟩), (.refl _)⟩
 iterate 4 refine wS ?_
 refine wL (OpA.p ?_)
 refine wL (OpA.a ?_)
 refine zab ?_
 exact ⟨(Cov.asg ⟨(congrArg D.b (Eq.symm (andS (andN (andN b3 b4) b5)))), trivial⟩), (.refl _)⟩
 iterate 2 refine wS ?_
 refine wL (OpA.p ?_)
 refine wL (OpA.m ?_)
 iterate 4 refine wS ?_
 refine wL (OpA.p ?_)
 refine wL (OpA.a ?_)
 refine zab ?_
 exact ⟨(Cov.asg ⟨(congrArg D.b (Eq.symm (andS (andS (andN b3 b4))))), trivial⟩), (.refl _)⟩
 iterate 2 refine wS ?_
 refine wL (OpA.p ?_)
 refine wL (OpA.m ?_)
 iterate 2 refine wS ?_
 refine wL (OpA.p ?_)
 refine wL (OpA.m ?_)
 iterate 4 refine wS ?_
 refine wL (OpA.p ?_)
 refine wL (OpA.a ?_)
 refine zab ?_
 exact ⟨(Cov.asg ⟨(congrArg D.b (Eq.symm (andS (andS (andS b3))))), trivial⟩), (.refl _)⟩
 show wpA _ _ _ _ _ _
 refine zal ?_
 exact ⟨_, (.tmp (d := D.b cawake_e0) rfl .nil), _, (.same rfl .nil), ⟨cawake_e0, rfl, h⟩⟩
theorem cawake_c  : Fun false Tryz.prog 5 [] (fun d => d = D.b (true)) :=
 Fun.at (enc := fun r => D.b r) (v := true) (cawake_w   (fun r => r = true) (cawake_ok  _  rfl))
theorem twords_w (s_ : ByteArray) (Q : (List Lexeme) → Prop) (h : twords_vc s_ Q) : Fun false Tryz.prog 7 [D.s s_] (fun d => ∃ r, d = (encL 2 encLex) r ∧ Q r) := by
 unfold twords_vc at h
 refine Fun.of_body Tryz.func7 rfl Tryz.ntmps7 rfl ?_
 refine zac (zaa (wL (OpA.a (zab (zac ?_)))))
 obtain ⟨q1, h⟩ := h
 refine zaa (wL (OpA.m ?_))
 refine wL (OpA.call rfl rfl rfl en8 (tlines_c s_ q1) ?_)
 rintro _ rfl
 refine wL (OpA.m ?_)
 iterate 2 refine wL (OpA.extract rfl rfl rfl ?_)
 iterate 2 refine wL (OpA.a ?_)
 refine zab (zac (zaa ?_))
 refine wL (OpA.asnG (T := Lexeme) (enc := encLex) (sz := 2) rfl rfl (fun c5_g1 => ?_))
 refine zab ?_
 iterate 2 refine zac ?_
 refine zaa (wL (OpA.m ?_))
 refine wL (OpA.len rfl rfl rfl rfl ts25.desc (.inl ⟨_, _, rfl, (List.length_map _).symm⟩) ?_)
 refine wL (OpA.m ?_)
 refine zab (zag ?_)
 refine wpA_lfp (S := (List Lexeme) × Int) (G := Nat × List D × List D) (c5_g1, ([] : List D), ([] : List D)) (fun gg ss => asg [(2, .v (.slice none 0 0)), (5, .own gg.1 2 gg.2.1.length ss.1.length), (13, (encL 1 D.s) ((zaf s_).1)), (14, D.i (((zaf s_).1).length : Int)), (15, D.i ss.2)]) (fun gg ss => [(gg.1, .cells 2 (winL encLex gg.2.1 ss.1 gg.2.2))]) h cvZ (.refl _) ?_
 rintro again2 ⟨cb5, pre5, post5⟩ ⟨out, x⟩ h
 have h : twords_L1 s_ Q again2 out x := h
 unfold twords_L1 at h
 show wpA _ _ _ _ _ _
 refine zac (zaa ?_)
 refine wL (OpA.lss rfl rfl rfl ?_)
 refine zab (zac ?_)
 refine zae rfl (fun b3 => ?_) (fun b3 => ?_)
 have h := h.1 (decT b3)
 refine zai (zac (zag (zac ?_)))
 obtain ⟨q1, h⟩ := h
 refine zaa (wL (OpA.m ?_))
 refine wL (OpA.iixV (enc := D.s) rfl ts25 rfl rfl rfl q1 ?_)
 refine wL (OpA.iload rfl ti9 rfl rfl ?_)
 iterate 2 refine wL (OpA.a ?_)
 refine zab ?_
 obtain ⟨q1, h⟩ := h
 refine zaa ?_
 iterate 3 refine wL (OpA.m ?_)
 refine wL (OpA.buildO (zs := [.v (.string ⟨#[]⟩), .v (.int .i64 0)]) rfl tp30 tz30 (fun _ _ => (.cons (.v _) (.cons (.v _) .nil))) (.cons (.of (sz := 1) rfl) (.cons (.of (sz := 1) rfl) .nil)) rfl ?_)
 refine wL (OpA.ibuildSliceO rfl ts24 rfl (.cons (.of (sz := 2) rfl) .nil) (by decide) ?_)
 refine wL (OpA.appendW (enc := encLex) rfl rfl rfl rfl ts24 rfl (fun _ _ => .head) (.list (ys := ([(Lexeme.mk (gi ((zaf s_).1) x) x)] : List Lexeme))) q1 (fun c4 pre5 => ?_))
 refine wL (OpA.a ?_)
 refine zab ?_
 obtain ⟨q1, h⟩ := h
 refine zaa ?_
 refine wL (OpA.addi rfl rfl rfl q1 ?_)
 refine wL (OpA.m ?_)
 refine zab ?_
 exact ⟨(c4, pre5, ([] : List D)), ((out ++ ([(Lexeme.mk (gi ((zaf s_).1) x) x)] : List Lexeme)), (x + 1)), h, cvZ, (.refl _)⟩
 have h := h.2 (decF b3)
 refine wpA_exit ?_
 refine zac (zaa (wL (OpA.m (wL (OpA.a (zab (zal ?_)))))))
 exact ⟨_, (.tmp (d := .own cb5 2 pre5.length out.length) rfl .nil), _, (.win .head (by intro hf; cases hf) .nil), ⟨out, rfl, h⟩⟩
theorem twords_c (s_ : ByteArray) (hp0 : s_.size ≤ 1000000) : Fun false Tryz.prog 7 [D.s s_] (fun d => d = (encL 2 encLex) (lexL s_)) :=
 Fun.at (enc := fun r => (encL 2 encLex) r) (v := lexL s_) (twords_w s_  (fun r => r = lexL s_) (twords_ok s_ _ hp0 rfl))
noncomputable abbrev lawAlign_e0 (s_ : ByteArray) (t : ByteArray) := ((((((((((((makeP s_ t).2) == 0) && (((costP ((makeP s_ t).1)).2) == 0)) && (((alignR (lexL s_) (lexL t) (Costs.mk 2 1 1)).2) == 0)) && (((potF (lexL s_) (lexL t) (Costs.mk 2 1 1)).2) == 0)) && (((boundF (lexL s_) (lexL t) (Costs.mk 2 1 1) ((potF (lexL s_) (lexL t) (Costs.mk 2 1 1)).1)).2) == 0)) && (((applyF ((makeP s_ t).1) s_).2) == 0)) && (decide ((applyF ((makeP s_ t).1) s_).1 = t))) && ((((alignR (lexL s_) (lexL t) (Costs.mk 2 1 1)).1).cost) == ((costP ((makeP s_ t).1)).1))) && (((boundF (lexL s_) (lexL t) (Costs.mk 2 1 1) ((potF (lexL s_) (lexL t) (Costs.mk 2 1 1)).1)).1) == ((costP ((makeP s_ t).1)).1))) && (((((lexL s_).length : Int) + ((lexL t).length : Int)) - ((costP ((makeP s_ t).1)).1)) == (2 * ((keptF ((alignR (lexL s_) (lexL t) (Costs.mk 2 1 1)).1)).length : Int))))
theorem lawAlign_w (s_ : ByteArray) (t : ByteArray) (Q : Bool → Prop) (h : lawAlign_vc s_ t Q) : Fun false Tryz.prog 3 [D.s s_, D.s t] (fun d => ∃ r, d = D.b r ∧ Q r) := by
 unfold lawAlign_vc at h
 refine Fun.of_body Tryz.func3 rfl Tryz.ntmps3 rfl ?_
 refine zac (zaa (wL (OpA.a (zab ?_))))
 iterate 2 refine zac ?_
 refine zaa ?_
 refine wL (OpA.call rfl rfl rfl en5 (cawake_c  ) ?_)
 rintro _ rfl
 refine wL (OpA.not rfl rfl ?_)
 refine zab ?_
 refine zae rfl (fun b1 => ?_) (fun b1 => ?_)
 have h := h.1 (notT b1)
 refine zac (zaa (wL (OpA.a (zab (zal ?_)))))
 exact ⟨_, (.tmp (d := D.b false) rfl .nil), _, (.same rfl .nil), ⟨false, rfl, h⟩⟩
 have h := h.2 (notF b1)
 refine zai ?_
 iterate 2 refine zac ?_
 obtain ⟨q1, q2, h⟩ := h
 refine wpA_mid (asg [(0, D.s s_), (1, D.s t), (4, D.b false), (40, D.b ((((decide ((s_.size : Int) > 1000)) || (decide ((t.size : Int) > 1000))) || (decide ((countF s_ (⟨#[10]⟩ : ByteArray)) > 39))) || (decide ((countF t (⟨#[10]⟩ : ByteArray)) > 39))))]) [] ?_ ?_
 refine zaa (wL (OpA.m ?_))
 refine wL (OpA.slen rfl rfl rfl rfl td9 rfl ?_)
 refine wL (OpA.gtr rfl rfl rfl ?_)
 refine wL (OpA.m ?_)
 refine zam (s := 26) rfl (fun b15 => ?_) (fun b15 => ?_)
 iterate 3 refine wS ?_
 refine wL (OpA.p ?_)
 refine wL (OpA.m ?_)
 iterate 3 refine wS ?_
 refine wL (OpA.p ?_)
 refine wL (OpA.m ?_)
 iterate 3 refine wS ?_
 refine wL (OpA.p ?_)
 refine zab ?_
 exact ⟨(Cov.asg ⟨rfl, rfl, rfl, (congrArg D.b (Eq.symm (orS (orS (orS b15))))), trivial⟩), (.refl _)⟩
 refine wG (OpA.m ?_)
 refine wG (OpA.slen rfl rfl rfl rfl td9 rfl ?_)
 refine wG (OpA.gtr rfl rfl rfl ?_)
 refine wL (OpA.p ?_)
 refine wL (OpA.m ?_)
 refine zam (s := 31) rfl (fun b16 => ?_) (fun b16 => ?_)
 iterate 3 refine wS ?_
 refine wL (OpA.p ?_)
 refine wL (OpA.m ?_)
 iterate 3 refine wS ?_
 refine wL (OpA.p ?_)
 refine zab ?_
 exact ⟨(Cov.asg ⟨rfl, rfl, rfl, (congrArg D.b (Eq.symm (orS (orS (orN b15 b16))))), trivial⟩), (.refl _)⟩
 refine wG (OpA.m ?_)
 refine wG (OpA.call rfl rfl rfl en6 (count_c s_ (⟨#[10]⟩ : ByteArray) (q1 ⟨(decF b15), (decF b16)⟩)) ?_)
 rintro _ rfl
 refine wG (OpA.gtr rfl rfl rfl ?_)
 refine wL (OpA.p ?_)
 refine wL (OpA.m ?_)
 refine zam (s := 36) rfl (fun b17 => ?_) (fun b17 => ?_)
 iterate 3 refine wS ?_
 refine wL (OpA.p ?_)
 refine zab ?_
 exact ⟨(Cov.asg ⟨rfl, rfl, rfl, (congrArg D.b (Eq.symm (orS (orN (orN b15 b16) b17)))), trivial⟩), (.refl _)⟩
 refine wG (OpA.m ?_)
 refine wG (OpA.call rfl rfl rfl en6 (count_c t (⟨#[10]⟩ : ByteArray) (q2 ⟨⟨(decF b15), (decF b16)⟩, (decF b17)⟩)) ?_)
 rintro _ rfl
 refine wG (OpA.gtr rfl rfl rfl ?_)
 refine wL (OpA.p ?_)
 refine zab ?_
 exact ⟨(Cov.asg ⟨rfl, rfl, rfl, (congrArg D.b (Eq.symm (orN (orN (orN b15 b16) b17) rfl))), trivial⟩), (.refl _)⟩
 show wpA _ _ _ _ _ _
 refine zae rfl (fun b2 => ?_) (fun b2 => ?_)
 have h := h.1 ((or0 b2).imp (fun hh => ((or0 hh).imp (fun hh => ((or0 hh).imp (fun hh => (decT hh)) (fun hh => (decT hh)))) (fun hh => (decT hh)))) (fun hh => (decT hh)))
 refine zac (zaa (wL (OpA.a (zab (zal ?_)))))
 exact ⟨_, (.tmp (d := D.b true) rfl .nil), _, (.same rfl .nil), ⟨true, rfl, h⟩⟩
 have h := h.2 ⟨⟨⟨(decF (or1 (or1 (or1 b2)))), (decF (or2 (or1 (or1 b2))))⟩, (decF (or2 (or1 b2)))⟩, (decF (or2 b2))⟩
 refine zai (zac (zaa (wL (OpA.a (zab (zac ?_))))))
 obtain ⟨q1, q2, q3, q4, h⟩ := h
 refine zaa ?_
 iterate 2 refine wL (OpA.m ?_)
 refine wL (OpA.call rfl rfl rfl en9 (pmake_c s_ t q1 q2 q3 q4) ?_)
 rintro _ rfl
 refine wL (OpA.m ?_)
 iterate 2 refine wL (OpA.extract rfl rfl rfl ?_)
 refine wL (OpA.alloc (sz := 2) (d := .agg ([D.s ByteArray.empty, .v (.slice none 0 0)])) rfl tz34 (fun _ _ => .agg (.cons (.v _) (.cons (.v _) .nil))) (.of rfl) (fun c3 _ => ?_))
 refine wE (OpA.storeW rfl ti34 rfl zW (.of rfl) rfl rfl .head ?_)
 refine wL (OpA.a ?_)
 refine zab (zac ?_)
 obtain ⟨q1, h⟩ := h
 refine zaa ?_
 refine wL (OpA.load_whole rfl ti34 rfl rfl .head rfl ⟨_, rfl⟩ ?_)
 refine wL (OpA.call rfl rfl rfl en10 (pcost_c ((makeP s_ t).1) q1) ?_)
 rintro _ rfl
 refine wL (OpA.m ?_)
 iterate 2 refine wL (OpA.extract rfl rfl rfl ?_)
 iterate 2 refine wL (OpA.a ?_)
 refine zab (zac ?_)
 obtain ⟨q1, q2, h⟩ := h
 refine zaa ?_
 iterate 2 refine wL (OpA.m ?_)
 refine wL (OpA.call rfl rfl rfl en7 (twords_c s_ q1) ?_)
 rintro _ rfl
 iterate 2 refine wL (OpA.m ?_)
 refine wL (OpA.call rfl rfl rfl en7 (twords_c t q2) ?_)
 rintro _ rfl
 refine wL (OpA.buildO (zs := [.v (.int .i64 0), .v (.int .i64 0), .v (.int .i64 0)]) rfl tp40 tz40 (fun _ _ => (.cons (.v _) (.cons (.v _) (.cons (.v _) .nil)))) (.cons (.of (sz := 1) rfl) (.cons (.of (sz := 1) rfl) (.cons (.of (sz := 1) rfl) .nil))) rfl ?_)
 refine wL (OpA.alloc (sz := 3) (d := encCosts (Costs.mk 0 0 0)) rfl tz40 (fun _ _ => .agg (.cons (.v _) (.cons (.v _) (.cons (.v _) .nil)))) (.of rfl) (fun c4 _ => ?_))
 iterate 2 refine wL (OpA.a ?_)
 refine wE (OpA.storeW rfl ti40 rfl zW (.of rfl) rfl rfl .head ?_)
 refine zab (zac (zaa ?_))
 iterate 2 refine wL (OpA.m ?_)
 refine wL (OpA.load_whole rfl ti40 rfl rfl .head rfl ⟨_, rfl⟩ ?_)
 refine wL (OpA.call rfl rfl rfl en11 (align_fun (lexL s_) (lexL t) (Costs.mk 2 1 1) ) ?_)
 rintro _ rfl
 refine wL (OpA.m ?_)
 iterate 2 refine wL (OpA.extract rfl rfl rfl ?_)
 refine wL (OpA.alloc (sz := 2) (d := .agg ([D.i 0, .v (.slice none 0 0)])) rfl tz43 (fun _ _ => .agg (.cons (.v _) (.cons (.v _) .nil))) (.of rfl) (fun c5 _ => ?_))
 refine wE (OpA.storeW rfl ti43 rfl zW (.of rfl) rfl rfl .head ?_)
 refine wL (OpA.a ?_)
 refine zab (zac (zaa ?_))
 iterate 2 refine wL (OpA.m ?_)
 refine wL (OpA.load_whole rfl ti40 rfl rfl (.tail .head) rfl ⟨_, rfl⟩ ?_)
 refine wL (OpA.call rfl rfl rfl en12 (pot_c (lexL s_) (lexL t) (Costs.mk 2 1 1) ) ?_)
 rintro _ rfl
 refine wL (OpA.m ?_)
 iterate 2 refine wL (OpA.extract rfl rfl rfl ?_)
 iterate 2 refine wL (OpA.a ?_)
 refine zab (zac ?_)
 obtain ⟨q1, q2, h⟩ := h
 refine zaa ?_
 iterate 2 refine wL (OpA.m ?_)
 refine wL (OpA.load_whole rfl ti40 rfl rfl (.tail .head) rfl ⟨_, rfl⟩ ?_)
 refine wL (OpA.m ?_)
 refine wL (OpA.call rfl rfl rfl en13 (bound_c (lexL s_) (lexL t) (Costs.mk 2 1 1) ((potF (lexL s_) (lexL t) (Costs.mk 2 1 1)).1) q1 q2) ?_)
 rintro _ rfl
 refine wL (OpA.m ?_)
 iterate 2 refine wL (OpA.extract rfl rfl rfl ?_)
 iterate 2 refine wL (OpA.a ?_)
 refine zab (zac ?_)
 obtain ⟨q1, q2, h⟩ := h
 refine zaa ?_
 refine wL (OpA.load_whole rfl ti34 rfl rfl (.tail (.tail .head)) rfl ⟨_, rfl⟩ ?_)
 refine wL (OpA.m ?_)
 refine wL (OpA.call rfl rfl rfl en14 (pApply_c ((makeP s_ t).1) s_ q1 q2) ?_)
 rintro _ rfl
 refine wL (OpA.m ?_)
 iterate 2 refine wL (OpA.extract rfl rfl rfl ?_)
 iterate 2 refine wL (OpA.a ?_)
 refine zab (zac ?_)
 obtain ⟨q1, h⟩ := h
 refine wpA_mid (asg [(4, D.b (lawAlign_e0 s_ t))]) [(c5, .cells 2 [encAl ((alignR (lexL s_) (lexL t) (Costs.mk 2 1 1)).1)]), (c4, .cells 3 [encCosts (Costs.mk 2 1 1)]), (c3, .cells 2 [encPatch ((makeP s_ t).1)])] ?_ ?_
 refine zaa (wL (OpA.m ?_))
 refine wL (OpA.eql rfl rfl rfl ?_)
 refine wL (OpA.m ?_)
 refine zam (s := 89) rfl (fun b6 => ?_) (fun b6 => ?_)
 refine wG (OpA.m ?_)
 refine wG (OpA.eql rfl rfl rfl ?_)
 refine wL (OpA.p ?_)
 refine wL (OpA.m ?_)
 refine zam (s := 93) rfl (fun b7 => ?_) (fun b7 => ?_)
 refine wG (OpA.m ?_)
 refine wG (OpA.eql rfl rfl rfl ?_)
 refine wL (OpA.p ?_)
 refine wL (OpA.m ?_)
 refine zam (s := 97) rfl (fun b8 => ?_) (fun b8 => ?_)
 refine wG (OpA.m ?_)
 refine wG (OpA.eql rfl rfl rfl ?_)
 refine wL (OpA.p ?_)
 refine wL (OpA.m ?_)
 refine zam (s := 101) rfl (fun b9 => ?_) (fun b9 => ?_)
 refine wG (OpA.m ?_)
 refine wG (OpA.eql rfl rfl rfl ?_)
 refine wL (OpA.p ?_)
 refine wL (OpA.m ?_)
 refine zam (s := 105) rfl (fun b10 => ?_) (fun b10 => ?_)
 refine wG (OpA.m ?_)
 refine wG (OpA.eql rfl rfl rfl ?_)
 refine wL (OpA.p ?_)
 refine wL (OpA.m ?_)
 refine zam (s := 109) rfl (fun b11 => ?_) (fun b11 => ?_)
 iterate 2 refine wG (OpA.m ?_)
 refine wG (OpA.seql rfl rfl rfl ?_)
 refine wL (OpA.p ?_)
 refine wL (OpA.m ?_)
 refine zam (s := 114) rfl (fun b12 => ?_) (fun b12 => ?_)
 refine wG (OpA.fieldAddr rfl tf43_0 rfl ?_)
 refine wG (OpA.load rfl ti3 rfl .head rfl rfl ?_)
 refine wG (OpA.m ?_)
 refine wG (OpA.eql rfl rfl rfl ?_)
 refine wL (OpA.p ?_)
 refine wL (OpA.m ?_)
 refine zam (s := 120) rfl (fun b13 => ?_) (fun b13 => ?_)
 iterate 2 refine wG (OpA.m ?_)
 refine wG (OpA.eql rfl rfl rfl ?_)
 refine wL (OpA.p ?_)
 refine wL (OpA.m ?_)
 refine zam (s := 125) rfl (fun b14 => ?_) (fun b14 => ?_)
 refine wG (OpA.m ?_)
 refine wG (OpA.len rfl rfl rfl rfl ts24.desc (.inl ⟨_, _, rfl, (List.length_map _).symm⟩) ?_)
 refine wG (OpA.m ?_)
 refine wG (OpA.len rfl rfl rfl rfl ts24.desc (.inl ⟨_, _, rfl, (List.length_map _).symm⟩) ?_)
 refine wG (OpA.addi rfl rfl rfl (q1 ⟨⟨⟨⟨⟨⟨⟨⟨(beqT b6), (beqT b7)⟩, (beqT b8)⟩, (beqT b9)⟩, (beqT b10)⟩, (beqT b11)⟩, (decT b12)⟩, (beqT b13)⟩, (beqT b14)⟩).1 ?_)
 refine wG (OpA.m ?_)
 refine wG (OpA.subi rfl rfl rfl (q1 ⟨⟨⟨⟨⟨⟨⟨⟨(beqT b6), (beqT b7)⟩, (beqT b8)⟩, (beqT b9)⟩, (beqT b10)⟩, (beqT b11)⟩, (decT b12)⟩, (beqT b13)⟩, (beqT b14)⟩).2.1 ?_)
 refine wG (OpA.load_whole rfl ti43 rfl rfl .head rfl ⟨_, rfl⟩ ?_)
 refine wG (OpA.call rfl rfl rfl en15 (kept_fun ((alignR (lexL s_) (lexL t) (Costs.mk 2 1 1)).1) (q1 ⟨⟨⟨⟨⟨⟨⟨⟨(beqT b6), (beqT b7)⟩, (beqT b8)⟩, (beqT b9)⟩, (beqT b10)⟩, (beqT b11)⟩, (decT b12)⟩, (beqT b13)⟩, (beqT b14)⟩).2.2.1) ?_)
 rintro _ rfl
 refine wG (OpA.len rfl rfl rfl rfl ts52.desc (.inl ⟨_, _, rfl, (List.length_map _).symm⟩) ?_)
 refine wG (OpA.muli rfl rfl rfl (q1 ⟨⟨⟨⟨⟨⟨⟨⟨(beqT b6), (beqT b7)⟩, (beqT b8)⟩, (beqT b9)⟩, (beqT b10)⟩, (beqT b11)⟩, (decT b12)⟩, (beqT b13)⟩, (beqT b14)⟩).2.2.2 ?_)
 refine wG (OpA.eql rfl rfl rfl ?_)
 refine wL (OpA.p ?_)
 refine wL (OpA.a ?_)
 refine zab ?_
 exact ⟨(Cov.asg ⟨(congrArg D.b (Eq.symm (andN (andN (andN (andN (andN (andN (andN (andN (andN b6 b7) b8) b9) b10) b11) b12) b13) b14) rfl))), trivial⟩), (.refl _)⟩
 iterate 12 refine wS ?_
 refine wL (OpA.p ?_)
 refine wL (OpA.a ?_)
 refine zab ?_
 exact ⟨(Cov.asg ⟨(congrArg D.b (Eq.symm (andS (andN (andN (andN (andN (andN (andN (andN (andN b6 b7) b8) b9) b10) b11) b12) b13) b14)))), trivial⟩), (.refl _)⟩
 iterate 3 refine wS ?_
 refine wL (OpA.p ?_)
 refine wL (OpA.m ?_)
 iterate 12 refine wS ?_
 refine wL (OpA.p ?_)
 refine wL (OpA.a ?_)
 refine zab ?_
 exact ⟨(Cov.asg ⟨(congrArg D.b (Eq.symm (andS (andS (andN (andN (andN (andN (andN (andN (andN b6 b7) b8) b9) b10) b11) b12) b13))))), trivial⟩), (.refl _)⟩
 iterate 4 refine wS ?_
 refine wL (OpA.p ?_)
 refine wL (OpA.m ?_)
 iterate 3 refine wS ?_
 refine wL (OpA.p ?_)
 refine wL (OpA.m ?_)
 iterate 12 refine wS ?_
 refine wL (OpA.p ?_)
 refine wL (OpA.a ?_)
 refine zab ?_
 exact ⟨(Cov.asg ⟨(congrArg D.b (Eq.symm (andS (andS (andS (andN (andN (andN (andN (andN (andN b6 b7) b8) b9) b10) b11) b12)))))), trivial⟩), (.refl _)⟩
 iterate 3 refine wS ?_
 refine wL (OpA.p ?_)
 refine wL (OpA.m ?_)
 iterate 4 refine wS ?_
 refine wL (OpA.p ?_)
 refine wL (OpA.m ?_)
 iterate 3 refine wS ?_
 refine wL (OpA.p ?_)
 refine wL (OpA.m ?_)
 iterate 12 refine wS ?_
 refine wL (OpA.p ?_)
 refine wL (OpA.a ?_)
 refine zab ?_
 exact ⟨(Cov.asg ⟨(congrArg D.b (Eq.symm (andS (andS (andS (andS (andN (andN (andN (andN (andN b6 b7) b8) b9) b10) b11))))))), trivial⟩), (.refl _)⟩
 iterate 2 refine wS ?_
 refine wL (OpA.p ?_)
 refine wL (OpA.m ?_)
 iterate 3 refine wS ?_
 refine wL (OpA.p ?_)
 refine wL (OpA.m ?_)
 iterate 4 refine wS ?_
 refine wL (OpA.p ?_)
 refine wL (OpA.m ?_)
 iterate 3 refine wS ?_
 refine wL (OpA.p ?_)
 refine wL (OpA.m ?_)
 iterate 12 refine wS ?_
 refine wL (OpA.p ?_)
 refine wL (OpA.a ?_)
 refine zab ?_
 exact ⟨(Cov.asg ⟨(congrArg D.b (Eq.symm (andS (andS (andS (andS (andS (andN (andN (andN (andN b6 b7) b8) b9) b10)))))))), trivial⟩), (.refl _)⟩
 iterate 2 refine wS ?_
 refine wL (OpA.p ?_)
 refine wL (OpA.m ?_)
 iterate 2 refine wS ?_
 refine wL (OpA.p ?_)
 refine wL (OpA.m ?_)
 iterate 3 refine wS ?_
 refine wL (OpA.p ?_)
 refine wL (OpA.m ?_)
 iterate 4 refine wS ?_
 refine wL (OpA.p ?_)
 refine wL (OpA.m ?_)
 iterate 3 refine wS ?_
 refine wL (OpA.p ?_)
 refine wL (OpA.m ?_)
 iterate 12 refine wS ?_
 refine wL (OpA.p ?_)
 refine wL (OpA.a ?_)
 refine zab ?_
 exact ⟨(Cov.asg ⟨(congrArg D.b (Eq.symm (andS (andS (andS (andS (andS (andS (andN (andN (andN b6 b7) b8) b9))))))))), trivial⟩), (.refl _)⟩
 iterate 2 refine wS ?_
 refine wL (OpA.p ?_)
 refine wL (OpA.m ?_)
 iterate 2 refine wS ?_
 refine wL (OpA.p ?_)
 refine wL (OpA.m ?_)
 iterate 2 refine wS ?_
 refine wL (OpA.p ?_)
 refine wL (OpA.m ?_)
 iterate 3 refine wS ?_
 refine wL (OpA.p ?_)
 refine wL (OpA.m ?_)
 iterate 4 refine wS ?_
 refine wL (OpA.p ?_)
 refine wL (OpA.m ?_)
 iterate 3 refine wS ?_
 refine wL (OpA.p ?_)
 refine wL (OpA.m ?_)
 iterate 12 refine wS ?_
 refine wL (OpA.p ?_)
 refine wL (OpA.a ?_)
 refine zab ?_
 exact ⟨(Cov.asg ⟨(congrArg D.b (Eq.symm (andS (andS (andS (andS (andS (andS (andS (andN (andN b6 b7) b8)))))))))), trivial⟩), (.refl _)⟩
 iterate 2 refine wS ?_
 refine wL (OpA.p ?_)
 refine wL (OpA.m ?_)
 iterate 2 refine wS ?_
 refine wL (OpA.p ?_)
 refine wL (OpA.m ?_)
 iterate 2 refine wS ?_
 refine wL (OpA.p ?_)
 refine wL (OpA.m ?_)
 iterate 2 refine wS ?_
 refine wL (OpA.p ?_)
 refine wL (OpA.m ?_)
 iterate 3 refine wS ?_
 refine wL (OpA.p ?_)
 refine wL (OpA.m ?_)
 iterate 4 refine wS ?_
 refine wL (OpA.p ?_)
 refine wL (OpA.m ?_)
 iterate 3 refine wS ?_
 refine wL (OpA.p ?_)
 refine wL (OpA.m ?_)
 iterate 12 refine wS ?_
 refine wL (OpA.p ?_)
 refine wL (OpA.a ?_)
 refine zab ?_
 exact ⟨(Cov.asg ⟨(congrArg D.b (Eq.symm (andS (andS (andS (andS (andS (andS (andS (andS (andN b6 b7))))))))))), trivial⟩), (.refl _)⟩
 iterate 2 refine wS ?_
 refine wL (OpA.p ?_)
 refine wL (OpA.m ?_)
 iterate 2 refine wS ?_
 refine wL (OpA.p ?_)
 refine wL (OpA.m ?_)
 iterate 2 refine wS ?_
 refine wL (OpA.p ?_)
 refine wL (OpA.m ?_)
 iterate 2 refine wS ?_
 refine wL (OpA.p ?_)
 refine wL (OpA.m ?_)
 iterate 2 refine wS ?_
 refine wL (OpA.p ?_)
 refine wL (OpA.m ?_)
 iterate 3 refine wS ?_
 refine wL (OpA.p ?_)
 refine wL (OpA.m ?_)
 iterate 4 refine wS ?_
 refine wL (OpA.p ?_)
 refine wL (OpA.m ?_)
 iterate 3 refine wS ?_
 refine wL (OpA.p ?_)
 refine wL (OpA.m ?_)
 iterate 12 refine wS ?_
 refine wL (OpA.p ?_)
 refine wL (OpA.a ?_)
 refine zab ?_
 exact ⟨(Cov.asg ⟨(congrArg D.b (Eq.symm (andS (andS (andS (andS (andS (andS (andS (andS (andS b6))))))))))), trivial⟩), (.refl _)⟩
 show wpA _ _ _ _ _ _
 refine zal ?_
 exact ⟨_, (.tmp (d := D.b (lawAlign_e0 s_ t)) rfl .nil), _, (.same rfl .nil), ⟨(lawAlign_e0 s_ t), rfl, h⟩⟩
theorem lawAlign_c (s_ : ByteArray) (t : ByteArray)  : Fun false Tryz.prog 3 [D.s s_, D.s t] (fun d => d = D.b (true)) :=
 Fun.at (enc := fun r => D.b r) (v := true) (lawAlign_w s_ t  (fun r => r = true) (lawAlign_ok s_ t _  rfl))
end Go.Proofs.YtkifpidbpoghlaaGreatDoor
