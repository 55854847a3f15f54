/-
  Conditions of functions of chapter 29 hold: orders, checks, and the reference's search. No program in sight.
-/
import Derived.Test.YtkifpidbpoghlaaGreatDoorKo2
import Derived.Test.YtkifpidbpoghlaaGreatDoorV3
set_option maxRecDepth 10000
set_option maxHeartbeats 2000000
set_option linter.all false
namespace Go.Lic
open Go.Proofs Go.Sort Go.Shelf
theorem sortiC_ok (data : (List Clone)) (a : Int) (b : Int) (p : Clone → Clone → Int) (pD : Clone → Clone → Prop) (Q : Unit → Prop) (hp0 : data = ([] : List Clone)) (hp1 : a = (0 : Int)) (hp2 : b = (0 : Int)) (h : Q (())) : sortiC_vc data a b p pD Q := by
 subst hp0 hp1 hp2
 refine ⟨by omega, fun I hI => hI _ ⟨fun h => by omega, fun _ => h⟩⟩
theorem sortpC_ok (data : (List Clone)) (a : Int) (b : Int) (limit : Int) (p : Clone → Clone → Int) (pD : Clone → Clone → Prop) (Q : Unit → Prop) (hp0 : data = ([] : List Clone)) (hp1 : a = (0 : Int)) (hp2 : b = (0 : Int)) (h : Q (())) : sortpC_vc data a b limit p pD Q := by
 subst hp0 hp1 hp2
 exact fun I hI => hI _ ⟨by omega, fun _ => ⟨rfl, rfl, rfl, h⟩, fun hn => absurd hn (by omega)⟩
theorem sort0C_ok (x : (List Clone)) (p : Clone → Clone → Int) (pD : Clone → Clone → Prop) (Q : Unit → Prop) (hp0 : x = ([] : List Clone)) (h : Q (())) : sort0C_vc x p pD Q := by
 subst hp0
 exact ⟨by decide, by decide, rfl, rfl, rfl, h⟩
theorem rightL_iff (l : List Text) : rightL l = true ↔ l.length ≤ 64 ∧ checkT none l = 0 := by simp [rightL]
theorem right_rest {l : List Text} {x : Int} (hx : inL x l.length) (h : checkT (pathAt l x) (l.drop x.toNat) = 0) : validT (gi l x) = true ∧ (x > 0 → sless (gi l (x - 1)).path (gi l x).path = true) ∧ checkT (pathAt l (x + 1)) (l.drop (x + 1).toNat) = 0 := by
 rw [checkT_at hx] at h
 split at h
 · next hv =>
   split at h
   · next hs => exact ⟨hv, hs, h⟩
   · cases h
 · cases h
theorem right_loop (l : List Text) (Q : Bool → Prop) (f : (Int → Prop) → Int → Prop) (h : Q (rightL l)) (hl : l.length ≤ 64)
   (round : ∀ x : Int, 0 ≤ x → x ≤ l.length → ∀ again : Int → Prop, (x < l.length → ¬ (validT (gi l x) = true ∧ (x > 0 → sless (gi l (x - 1)).path (gi l x).path = true)) → Q false) → (x < l.length → validT (gi l x) = true → (x > 0 → sless (gi l (x - 1)).path (gi l x).path = true) → again (x + 1)) → (¬ x < l.length → Q true) → f again x) : lfp (S := Int) (fun again x => f again x) 0 := by
 refine lfp_of (fun x : Int => 0 ≤ x ∧ x ≤ l.length ∧ (checkT (pathAt l x) (l.drop x.toNat) = 0 ↔ checkT none l = 0)) (fun x => (l.length - x).toNat) (fun x hst again hag => ?_) ⟨by omega, by omega, Iff.rfl⟩
 obtain ⟨h0, h1, h2⟩ := hst
 refine round x h0 h1 again (fun hlt hn => ?_) (fun hlt hv hs => hag _ ⟨by omega, by omega, ?_⟩ (by omega)) (fun hn => ?_)
 · have : rightL l = false := by
     rw [Bool.eq_false_iff]
     intro hr
     have := right_rest ⟨h0, hlt⟩ (h2.2 ((rightL_iff l).1 hr).2)
     exact hn ⟨this.1, this.2.1⟩
   rw [this] at h; exact h
 · rw [checkT_at ⟨h0, hlt⟩, if_pos hv, if_pos hs] at h2
   exact h2
 · rw [drop_end hn] at h2
   have : rightL l = true := (rightL_iff l).2 ⟨hl, h2.1 (by simp [checkT])⟩
   rw [this] at h; exact h
theorem rightL_big {l : List Text} (h : (l.length : Int) > 64) : rightL l = false := by
 rw [Bool.eq_false_iff]; intro hr; have := ((rightL_iff l).1 hr).1; omega
theorem kright_ok (l : (List Text)) (Q : Bool → Prop) (hp0 : okTs l) (h : Q (rightL l)) : kright_vc l Q := by
 refine ⟨fun hb => by rw [rightL_big hb] at h; exact h, fun hs => right_loop l Q (kright_L1 l Q) h (by omega) (fun x h0 h1 again k1 k2 k3 => ?_)⟩
 refine ⟨fun hlt => ⟨by omega, hp0.2 _ (gi_mem (by omega)), fun _ hx => ⟨by omega, by omega⟩, fun hb => k1 hlt ?_, fun hg => ⟨by omega, k2 hlt hg.1 (fun hx => ?_)⟩⟩, fun hn => k3 hn⟩
 · rintro ⟨h2, h3⟩
   rcases hb with hb | ⟨hx, hb⟩
   · rw [hb] at h2; cases h2
   · exact (le_sless _ _).1 hb (h3 hx)
 · rcases hg.2 with hg | hg
   · exact absurd hx hg
   · by_cases hs : sless (gi l (x - 1)).path (gi l x).path = true
     · exact hs
     · rw [(le_sless _ _).2 hs] at hg; cases hg
theorem kcompare_ok (a : Clone) (b : Clone) (Q : Int → Prop) (h : Q (cloneCmp a b)) : kcompare_vc a b Q := ⟨by simp, h⟩
theorem kfind_ok (l : (List Text)) (k : Int) (w : Int) (Q : (List Clone) × Int → Prop) (hp0 : okTs l) (h : Q (findC l k w)) : kfind_vc l k w Q := by
 unfold findC at h
 refine ⟨hp0, fun hb => by rw [if_neg (by rw [hb]; simp)] at h; exact h, fun hg => ?_⟩
 rw [if_pos hg] at h
 unfold guarF
 by_cases hs : (sizeF k && sizeF w) = true
 · rw [if_pos hs] at h ⊢
   refine ⟨fun hb => absurd rfl hb, fun _ => ⟨hp0, ((checkT_none l).1 ((rightL_iff l).1 hg).2).1, (Bool.and_eq_true_iff.1 hs).1, (Bool.and_eq_true_iff.1 hs).2, by omega, h⟩⟩
 · rw [if_neg hs] at h ⊢
   exact ⟨fun _ => h, fun hb => by cases hb⟩
theorem eqClone_iff (a b : Clone) : eqClone a b = true ↔ a = b := by
 obtain ⟨a1, a2, a3, a4, a5⟩ := a; obtain ⟨b1, b2, b3, b4, b5⟩ := b
 simp [eqClone]
theorem eqClones_ok (s1 : (List Clone)) (s2 : (List Clone)) (Q : Bool → Prop) (hp0 : s1.length ≤ 9223372036854775807) (h : Q ((decide (s1 = s2)))) : eqClones_vc s1 s2 Q := eq_gen eqClone eqClone_iff s1 s2 Q hp0 h
end Go.Lic
set_option linter.all false
namespace Go.Lic
open Go.Proofs Go.Sort Go.Shelf
end Go.Lic
set_option linter.all false
namespace Go.Lic
open Go.Proofs Go.Sort Go.Shelf
end Go.Lic
set_option linter.all false
namespace Go.Lic
open Go.Proofs Go.Sort Go.Shelf
end Go.Lic
set_option linter.all false
namespace Go.Proofs.YtkifpidbpoghlaaGreatDoor
open Go Go.Lic Go.Sort Go.Proofs
variable [Fl]
attribute [local irreducible] addP badR blankF cloneCmp clonesF cmpI codeF countF fewTs fewW findC gramsF guarF hashF indexF itoaF lenF lookF mul64F mulP orF partF pathF powF printsF pushF rightL rollF selectF sizeF splitF splitG validT
theorem sortiC_w (data : (List Clone)) (a : Int) (b : Int) (g_p : Nat) (fs_p cs_p : List D) (p : Clone → Clone → Int) (pD : Clone → Clone → Prop) (hen_p : entersB Tryz.prog g_p = true) (hg_p : ∀ x0_ x1_, pD x0_ x1_ → Fun false Tryz.prog g_p (fs_p ++ [encClone x0_, encClone x1_] ++ cs_p) (fun d => d = D.i (p x0_ x1_))) (Q : Unit → Prop) (h : sortiC_vc data a b p pD Q) : Fun false Tryz.prog 182 [(encL 5 encClone) data, D.i a, D.i b, .fn (.func g_p) fs_p cs_p] (fun d => ∃ r, d = .tup [] ∧ Q r) := by
 unfold sortiC_vc at h
 refine Fun.of_body Tryz.func182 rfl Tryz.ntmps182 rfl ?_
 refine zac ?_
 obtain ⟨q1, h⟩ := h
 refine zaa (wL (OpA.m ?_))
 refine wL (OpA.addi rfl rfl rfl q1 ?_)
 refine wL (OpA.a ?_)
 refine zab (zag ?_)
 refine wpA_lfp (S := Int) (G := Unit) () (fun gg ss => asg [(0, (encL 5 encClone) data), (1, D.i a), (2, D.i b), (3, .fn (.func g_p) fs_p cs_p), (8, D.i ss)]) (fun gg ss => []) h cvZ (.refl _) ?_
 rintro again1 _ i h
 have h : sortiC_L1 data a b p pD Q again1 i := h
 unfold sortiC_L1 at h
 show wpA _ _ _ _ _ _
 iterate 2 refine zac ?_
 refine zaa ?_
 iterate 2 refine wL (OpA.m ?_)
 refine wL (OpA.lss rfl rfl rfl ?_)
 refine zab ?_
 refine zae rfl (fun b2 => ?_) (fun b2 => ?_)
 have h := h.1 (decT b2)
 refine zai (zac (zag (zac (zaa (wL (OpA.m (wL (OpA.a (zab (zag ?_))))))))))
 refine wpA_lfp (S := Unit) (G := Unit) () (fun gg ss => asg [(0, (encL 5 encClone) data), (1, D.i a), (2, D.i b), (3, .fn (.func g_p) fs_p cs_p), (8, D.i i), (9, D.i i)]) (fun gg ss => []) h cvZ (.refl _) ?_
 rintro again3 _ _ h
 have h : sortiC_L2 data a p pD i again1 again3  := h
 unfold sortiC_L2 at h
 show wpA _ _ _ _ _ _
 iterate 2 refine zac ?_
 obtain ⟨q1, h⟩ := h
 refine wpA_mid (asg [(0, (encL 5 encClone) data), (1, D.i a), (2, D.i b), (3, .fn (.func g_p) fs_p cs_p), (8, D.i i), (9, D.i i), (34, D.b ((decide (i > a)) && (decide ((p (gi data i) (gi data (i - 1))) < 0))))]) [] ?_ ?_
 refine wpA_draw (m := 17) mo zK rfl ?_
 iterate 2 refine dL (OpA.m ⟨rfl, rfl⟩) ?_
 refine dL (OpA.gtr rfl rfl rfl ⟨rfl, rfl⟩) ?_
 refine dL (OpA.m ⟨rfl, rfl⟩) ?_
 refine DetK_split (s := 21) rfl (fun b5 => ?_) (fun b5 => ?_)
 iterate 3 refine dG (OpA.m ⟨rfl, rfl⟩) ?_
 refine dG (OpA.iixV (enc := encClone) rfl ts77 rfl rfl rfl (q1 (decT b5)).1 ⟨rfl, rfl⟩) ?_
 refine dG (OpA.iload_whole rfl ti84 rfl ⟨_, rfl, rfl⟩ ⟨rfl, rfl⟩) ?_
 iterate 2 refine dG (OpA.m ⟨rfl, rfl⟩) ?_
 refine dG (OpA.subi rfl rfl rfl (q1 (decT b5)).2.1 ⟨rfl, rfl⟩) ?_
 refine dG (OpA.iixV (enc := encClone) rfl ts77 rfl rfl rfl (q1 (decT b5)).2.2.1 ⟨rfl, rfl⟩) ?_
 refine dG (OpA.iload_whole rfl ti84 rfl ⟨_, rfl, rfl⟩ ⟨rfl, rfl⟩) ?_
 refine dG (OpA.call rfl rfl rfl hen_p (hg_p (gi data i) (gi data (i - 1)) (q1 (decT b5)).2.2.2) (by rintro _ rfl; exact ⟨rfl, rfl⟩)) ?_
 refine dG (OpA.lss rfl rfl rfl ⟨rfl, rfl⟩) ?_
 refine dL (OpA.p ⟨rfl, rfl⟩) ?_
 refine DetK.nil ?_
 refine zab ?_
 exact ⟨(Cov.asg ⟨rfl, rfl, rfl, rfl, rfl, rfl, (congrArg D.b (Eq.symm (andN b5 rfl))), trivial⟩), (.refl _)⟩
 iterate 12 refine dS ?_
 refine dL (OpA.p ⟨rfl, rfl⟩) ?_
 refine DetK.nil ?_
 refine zab ?_
 exact ⟨(Cov.asg ⟨rfl, rfl, rfl, rfl, rfl, rfl, (congrArg D.b (Eq.symm (andS b5))), trivial⟩), (.refl _)⟩
 show wpA _ _ _ _ _ _
 refine zae rfl (fun b4 => ?_) (fun b4 => ?_)
 have h := h.1 ⟨(decT (and1 b4)), (decT (and2 b4))⟩
 exact h.elim
 have h := h.2 ((and0 b4).imp (fun hh => (decF hh)) (fun hh => (decF hh)))
 refine wpA_exit ?_
 obtain ⟨q1, h⟩ := h
 refine zaa (wL (OpA.m ?_))
 refine wL (OpA.addi rfl rfl rfl q1 ?_)
 refine wL (OpA.a ?_)
 refine zab ?_
 exact ⟨(), (i + 1), h, cvZ, (.refl _)⟩
 have h := h.2 (decF b2)
 refine wpA_exit ?_
 exact ⟨_, .nil, _, (.tup .nil .nil), ⟨(), rfl, h⟩⟩
theorem sortiC_c (data : (List Clone)) (a : Int) (b : Int) (g_p : Nat) (fs_p cs_p : List D) (p : Clone → Clone → Int) (pD : Clone → Clone → Prop) (hen_p : entersB Tryz.prog g_p = true) (hg_p : ∀ x0_ x1_, pD x0_ x1_ → Fun false Tryz.prog g_p (fs_p ++ [encClone x0_, encClone x1_] ++ cs_p) (fun d => d = D.i (p x0_ x1_))) (hp0 : data = ([] : List Clone)) (hp1 : a = (0 : Int)) (hp2 : b = (0 : Int)) : Fun false Tryz.prog 182 [(encL 5 encClone) data, D.i a, D.i b, .fn (.func g_p) fs_p cs_p] (fun d => d = .tup []) :=
 Fun.at (enc := fun r => .tup []) (v := ()) (sortiC_w data a b g_p fs_p cs_p p pD hen_p hg_p (fun r => r = ()) (sortiC_ok data a b p pD _ hp0 hp1 hp2 rfl))
theorem sortpC_w (data : (List Clone)) (a : Int) (b : Int) (limit : Int) (g_p : Nat) (fs_p cs_p : List D) (p : Clone → Clone → Int) (pD : Clone → Clone → Prop) (hen_p : entersB Tryz.prog g_p = true) (hg_p : ∀ x0_ x1_, pD x0_ x1_ → Fun false Tryz.prog g_p (fs_p ++ [encClone x0_, encClone x1_] ++ cs_p) (fun d => d = D.i (p x0_ x1_))) (Q : Unit → Prop) (h : sortpC_vc data a b limit p pD Q) : Fun false Tryz.prog 160 [(encL 5 encClone) data, D.i a, D.i b, D.i limit, .fn (.func g_p) fs_p cs_p] (fun d => ∃ r, d = .tup [] ∧ Q r) := by
 unfold sortpC_vc at h
 refine Fun.of_body Tryz.func160 rfl Tryz.ntmps160 rfl ?_
 refine zac (zaa (wL (OpA.a (zab (zac (zaa (wL (OpA.a (zab (zag ?_))))))))))
 refine wpA_lfp (S := Unit) (G := Unit) () (fun gg ss => asg [(0, (encL 5 encClone) data), (1, D.i a), (2, D.i b), (3, D.i limit), (4, .fn (.func g_p) fs_p cs_p), (10, D.b true), (11, D.b true)]) (fun gg ss => []) h cvZ (.refl _) ?_
 rintro again1 _ _ h
 have h : sortpC_L1 data a b limit Q again1  := h
 unfold sortpC_L1 at h
 show wpA _ _ _ _ _ _
 refine zag (zac ?_)
 obtain ⟨q1, h⟩ := h
 refine zaa ?_
 iterate 2 refine wL (OpA.m ?_)
 refine wL (OpA.subi rfl rfl rfl q1 ?_)
 refine wL (OpA.a ?_)
 refine zab ?_
 iterate 2 refine zac ?_
 refine zaa (wL (OpA.m ?_))
 refine wL (OpA.leq rfl rfl rfl ?_)
 refine zab ?_
 refine zae rfl (fun b2 => ?_) (fun b2 => ?_)
 have h := h.1 (decT b2)
 refine zac ?_
 obtain ⟨q1, q2, q3, h⟩ := h
 refine zaa ?_
 iterate 4 refine wL (OpA.m ?_)
 refine wL (OpA.call rfl rfl rfl en182 (sortiC_c data a b g_p fs_p cs_p p pD hen_p hg_p q1 q2 q3) ?_)
 rintro _ rfl
 refine zab (zal ?_)
 exact ⟨_, .nil, _, (.tup .nil .nil), ⟨(), rfl, h⟩⟩
 have h := h.2 (decF b2)
 refine zai ?_
 iterate 2 refine zac ?_
 refine zaa (wL (OpA.m ?_))
 refine wL (OpA.eql rfl rfl rfl ?_)
 refine zab ?_
 refine zae rfl (fun b3 => ?_) (fun b3 => ?_)
 have h := h.1 (beqT b3)
 exact h.elim
 have h := h.2 (beqF b3)
 exact h.elim
theorem sortpC_c (data : (List Clone)) (a : Int) (b : Int) (limit : Int) (g_p : Nat) (fs_p cs_p : List D) (p : Clone → Clone → Int) (pD : Clone → Clone → Prop) (hen_p : entersB Tryz.prog g_p = true) (hg_p : ∀ x0_ x1_, pD x0_ x1_ → Fun false Tryz.prog g_p (fs_p ++ [encClone x0_, encClone x1_] ++ cs_p) (fun d => d = D.i (p x0_ x1_))) (hp0 : data = ([] : List Clone)) (hp1 : a = (0 : Int)) (hp2 : b = (0 : Int)) : Fun false Tryz.prog 160 [(encL 5 encClone) data, D.i a, D.i b, D.i limit, .fn (.func g_p) fs_p cs_p] (fun d => d = .tup []) :=
 Fun.at (enc := fun r => .tup []) (v := ()) (sortpC_w data a b limit g_p fs_p cs_p p pD hen_p hg_p (fun r => r = ()) (sortpC_ok data a b limit p pD _ hp0 hp1 hp2 rfl))
theorem sort0C_w (x : (List Clone)) (g_p : Nat) (fs_p cs_p : List D) (p : Clone → Clone → Int) (pD : Clone → Clone → Prop) (hen_p : entersB Tryz.prog g_p = true) (hg_p : ∀ x0_ x1_, pD x0_ x1_ → Fun false Tryz.prog g_p (fs_p ++ [encClone x0_, encClone x1_] ++ cs_p) (fun d => d = D.i (p x0_ x1_))) (Q : Unit → Prop) (h : sort0C_vc x p pD Q) : Fun false Tryz.prog 119 [(encL 5 encClone) x, .fn (.func g_p) fs_p cs_p] (fun d => ∃ r, d = .tup [] ∧ Q r) := by
 unfold sort0C_vc at h
 refine Fun.of_body Tryz.func119 rfl Tryz.ntmps119 rfl ?_
 refine zac (zaa (wL (OpA.m ?_)))
 refine wL (OpA.len rfl rfl rfl rfl ts77.desc (.inl ⟨_, _, rfl, (List.length_map _).symm⟩) ?_)
 refine wL (OpA.a ?_)
 refine zab ?_
 obtain ⟨q1, q2, q3, q4, q5, h⟩ := h
 refine zaa ?_
 iterate 3 refine wL (OpA.m ?_)
 refine wL (OpA.conv rfl td3 td169 rfl ?_)
 refine wL (OpA.call rfl rfl rfl en161 (len_c (IntKind.u64.wrap (x.length : Int)) q1 q2) ?_)
 rintro _ rfl
 refine wL (OpA.m ?_)
 refine wL (OpA.call rfl rfl rfl en160 (sortpC_c x 0 (x.length : Int) (lenF (IntKind.u64.wrap (x.length : Int))) g_p fs_p cs_p p pD hen_p hg_p q3 q4 q5) ?_)
 rintro _ rfl
 refine zab ?_
 exact ⟨_, .nil, _, (.tup .nil .nil), ⟨(), rfl, h⟩⟩
theorem sort0C_c (x : (List Clone)) (g_p : Nat) (fs_p cs_p : List D) (p : Clone → Clone → Int) (pD : Clone → Clone → Prop) (hen_p : entersB Tryz.prog g_p = true) (hg_p : ∀ x0_ x1_, pD x0_ x1_ → Fun false Tryz.prog g_p (fs_p ++ [encClone x0_, encClone x1_] ++ cs_p) (fun d => d = D.i (p x0_ x1_))) (hp0 : x = ([] : List Clone)) : Fun false Tryz.prog 119 [(encL 5 encClone) x, .fn (.func g_p) fs_p cs_p] (fun d => d = .tup []) :=
 Fun.at (enc := fun r => .tup []) (v := ()) (sort0C_w x g_p fs_p cs_p p pD hen_p hg_p (fun r => r = ()) (sort0C_ok x p pD _ hp0 rfl))
theorem kcompare_w (a : Clone) (b : Clone) (Q : Int → Prop) (h : kcompare_vc a b Q) : Fun false Tryz.prog 120 [encClone a, encClone b] (fun d => ∃ r, d = D.i r ∧ Q r) := by
 unfold kcompare_vc at h
 refine Fun.of_body Tryz.func120 rfl Tryz.ntmps120 rfl ?_
 refine zac (zaa ?_)
 refine wL (OpA.bx (sz := 5) rfl zW (.of rfl) (fun c1 _ => ?_))
 refine wL (OpA.bx (sz := 5) rfl zW (.of rfl) (fun c2 _ => ?_))
 refine wL (OpA.a ?_)
 refine zab (zac ?_)
 obtain ⟨q1, h⟩ := h
 refine wpA_draw (m := 23) mo zK rfl ?_
 refine dL (OpA.fieldAddr rfl tf84_0 rfl ⟨rfl, rfl⟩) ?_
 refine dL (OpA.load rfl ti3 rfl (.tail .head) rfl rfl ⟨rfl, rfl⟩) ?_
 refine dL (OpA.fieldAddr rfl tf84_0 rfl ⟨rfl, rfl⟩) ?_
 refine dL (OpA.load rfl ti3 rfl .head rfl rfl ⟨rfl, rfl⟩) ?_
 refine dL (OpA.call rfl rfl rfl en153 (iCompare_c a.a b.a ) (by rintro _ rfl; exact ⟨rfl, rfl⟩)) ?_
 refine dL (OpA.fieldAddr rfl tf84_1 rfl ⟨rfl, rfl⟩) ?_
 refine dL (OpA.load rfl ti3 rfl (.tail .head) rfl rfl ⟨rfl, rfl⟩) ?_
 refine dL (OpA.fieldAddr rfl tf84_1 rfl ⟨rfl, rfl⟩) ?_
 refine dL (OpA.load rfl ti3 rfl .head rfl rfl ⟨rfl, rfl⟩) ?_
 refine dL (OpA.call rfl rfl rfl en153 (iCompare_c a.atA b.atA ) (by rintro _ rfl; exact ⟨rfl, rfl⟩)) ?_
 refine dL (OpA.fieldAddr rfl tf84_2 rfl ⟨rfl, rfl⟩) ?_
 refine dL (OpA.load rfl ti3 rfl (.tail .head) rfl rfl ⟨rfl, rfl⟩) ?_
 refine dL (OpA.fieldAddr rfl tf84_2 rfl ⟨rfl, rfl⟩) ?_
 refine dL (OpA.load rfl ti3 rfl .head rfl rfl ⟨rfl, rfl⟩) ?_
 refine dL (OpA.call rfl rfl rfl en153 (iCompare_c a.b b.b ) (by rintro _ rfl; exact ⟨rfl, rfl⟩)) ?_
 refine dL (OpA.fieldAddr rfl tf84_3 rfl ⟨rfl, rfl⟩) ?_
 refine dL (OpA.load rfl ti3 rfl (.tail .head) rfl rfl ⟨rfl, rfl⟩) ?_
 refine dL (OpA.fieldAddr rfl tf84_3 rfl ⟨rfl, rfl⟩) ?_
 refine dL (OpA.load rfl ti3 rfl .head rfl rfl ⟨rfl, rfl⟩) ?_
 refine dL (OpA.call rfl rfl rfl en153 (iCompare_c a.atB b.atB ) (by rintro _ rfl; exact ⟨rfl, rfl⟩)) ?_
 refine dL (OpA.ibuildSliceO rfl ts41 rfl (.cons (.of (sz := 1) rfl) (.cons (.of (sz := 1) rfl) (.cons (.of (sz := 1) rfl) (.cons (.of (sz := 1) rfl) .nil)))) (by decide) ⟨rfl, rfl⟩) ?_
 refine dL (OpA.call rfl rfl rfl en156 (or_c ([(cmpI a.a b.a), (cmpI a.atA b.atA), (cmpI a.b b.b), (cmpI a.atB b.atB)] : List Int) q1) (by rintro _ rfl; exact ⟨rfl, rfl⟩)) ?_
 refine dL (OpA.a ⟨rfl, rfl⟩) ?_
 refine DetK.nil ?_
 refine zab (zal ?_)
 exact ⟨_, (.tmp (d := D.i (orF ([(cmpI a.a b.a), (cmpI a.atA b.atA), (cmpI a.b b.b), (cmpI a.atB b.atB)] : List Int))) rfl .nil), _, (.same rfl .nil), ⟨(orF ([(cmpI a.a b.a), (cmpI a.atA b.atA), (cmpI a.b b.b), (cmpI a.atB b.atB)] : List Int)), rfl, h⟩⟩
theorem kcompare_c (a : Clone) (b : Clone)  : Fun false Tryz.prog 120 [encClone a, encClone b] (fun d => d = D.i (cloneCmp a b)) :=
 Fun.at (enc := fun r => D.i r) (v := cloneCmp a b) (kcompare_w a b  (fun r => r = cloneCmp a b) (kcompare_ok a b _  rfl))
end Go.Proofs.YtkifpidbpoghlaaGreatDoor
