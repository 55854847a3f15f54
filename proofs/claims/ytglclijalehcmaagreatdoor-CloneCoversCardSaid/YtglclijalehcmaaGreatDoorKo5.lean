/-
  Conditions of functions of chapter 29 hold: orders, checks, and the reference's search. No program in sight.
-/
import Derived.Test.YtglclijalehcmaaGreatDoorKo2
set_option linter.all false
namespace Go.Lic
open Go.Proofs Go.Sort Go.Shelf
theorem sortiC_ok (data : (List Clone)) (a : Int) (b : Int) (p : Clone → Clone → Int) (pD : Clone → Clone → Prop) (Q : Unit → Prop) (hp0 : data = ([] : List Clone)) (hp1 : a = (0 : Int)) (hp2 : b = (0 : Int)) (h : Q (())) : sortiC_vc data a b p pD Q := by
 subst hp0 hp1 hp2
 refine ⟨by omega, fun I hI => hI _ ⟨fun h => by omega, fun _ => h⟩⟩
theorem sortpC_ok (data : (List Clone)) (a : Int) (b : Int) (limit : Int) (p : Clone → Clone → Int) (pD : Clone → Clone → Prop) (Q : Unit → Prop) (hp0 : data = ([] : List Clone)) (hp1 : a = (0 : Int)) (hp2 : b = (0 : Int)) (h : Q (())) : sortpC_vc data a b limit p pD Q := by
 subst hp0 hp1 hp2
 exact fun I hI => hI _ ⟨by omega, fun _ => ⟨rfl, rfl, rfl, h⟩, fun hn => absurd hn (by omega)⟩
theorem sort0C_ok (x : (List Clone)) (p : Clone → Clone → Int) (pD : Clone → Clone → Prop) (Q : Unit → Prop) (hp0 : x = ([] : List Clone)) (h : Q (())) : sort0C_vc x p pD Q := by
 subst hp0
 exact ⟨by decide, by decide, rfl, rfl, rfl, h⟩
theorem rightL_iff (l : List Text) : rightL l = true ↔ l.length ≤ 64 ∧ checkT none l = 0 := by simp [rightL]
theorem right_rest {l : List Text} {x : Int} (hx : inL x l.length) (h : checkT (pathAt l x) (l.drop x.toNat) = 0) : validT (gi l x) = true ∧ (x > 0 → sless (gi l (x - 1)).path (gi l x).path = true) ∧ checkT (pathAt l (x + 1)) (l.drop (x + 1).toNat) = 0 := by
 rw [checkT_at hx] at h
 split at h
 · next hv =>
   split at h
   · next hs => exact ⟨hv, hs, h⟩
   · cases h
 · cases h
theorem right_loop (l : List Text) (Q : Bool → Prop) (f : (Int → Prop) → Int → Prop) (h : Q (rightL l)) (hl : l.length ≤ 64)
   (round : ∀ x : Int, 0 ≤ x → x ≤ l.length → ∀ again : Int → Prop, (x < l.length → ¬ (validT (gi l x) = true ∧ (x > 0 → sless (gi l (x - 1)).path (gi l x).path = true)) → Q false) → (x < l.length → validT (gi l x) = true → (x > 0 → sless (gi l (x - 1)).path (gi l x).path = true) → again (x + 1)) → (¬ x < l.length → Q true) → f again x) : lfp (S := Int) (fun again x => f again x) 0 := by
 refine lfp_of (fun x : Int => 0 ≤ x ∧ x ≤ l.length ∧ (checkT (pathAt l x) (l.drop x.toNat) = 0 ↔ checkT none l = 0)) (fun x => (l.length - x).toNat) (fun x hst again hag => ?_) ⟨by omega, by omega, Iff.rfl⟩
 obtain ⟨h0, h1, h2⟩ := hst
 refine round x h0 h1 again (fun hlt hn => ?_) (fun hlt hv hs => hag _ ⟨by omega, by omega, ?_⟩ (by omega)) (fun hn => ?_)
 · have : rightL l = false := by
     rw [Bool.eq_false_iff]
     intro hr
     have := right_rest ⟨h0, hlt⟩ (h2.2 ((rightL_iff l).1 hr).2)
     exact hn ⟨this.1, this.2.1⟩
   rw [this] at h; exact h
 · rw [checkT_at ⟨h0, hlt⟩, if_pos hv, if_pos hs] at h2
   exact h2
 · rw [drop_end hn] at h2
   have : rightL l = true := (rightL_iff l).2 ⟨hl, h2.1 (by simp [checkT])⟩
   rw [this] at h; exact h
theorem rightL_big {l : List Text} (h : (l.length : Int) > 64) : rightL l = false := by
 rw [Bool.eq_false_iff]; intro hr; have := ((rightL_iff l).1 hr).1; omega
theorem kright_ok (l : (List Text)) (Q : Bool → Prop) (hp0 : okTs l) (h : Q (rightL l)) : kright_vc l Q := by
 refine ⟨fun hb => by rw [rightL_big hb] at h; exact h, fun hs => right_loop l Q (kright_L1 l Q) h (by omega) (fun x h0 h1 again k1 k2 k3 => ?_)⟩
 refine ⟨fun hlt => ⟨by omega, hp0.2 _ (gi_mem (by omega)), fun _ hx => ⟨by omega, by omega⟩, fun hb => k1 hlt ?_, fun hg => ⟨by omega, k2 hlt hg.1 (fun hx => ?_)⟩⟩, fun hn => k3 hn⟩
 · rintro ⟨h2, h3⟩
   rcases hb with hb | ⟨hx, hb⟩
   · rw [hb] at h2; cases h2
   · exact (le_sless _ _).1 hb (h3 hx)
 · rcases hg.2 with hg | hg
   · exact absurd hx hg
   · by_cases hs : sless (gi l (x - 1)).path (gi l x).path = true
     · exact hs
     · rw [(le_sless _ _).2 hs] at hg; cases hg
theorem kcompare_ok (a : Clone) (b : Clone) (Q : Int → Prop) (h : Q (cloneCmp a b)) : kcompare_vc a b Q := ⟨by simp, h⟩
theorem kinside_ok (t : Text) (at_ : Int) (n : Int) (Q : Bool → Prop) (hp0 : t.words.length ≤ 1000000) (hp1 : 0 ≤ n) (h : Q (insideT t at_ n)) : kinside_vc t at_ n Q := ⟨fun _ => by omega, h⟩
theorem kcheck1_ok (i : Int) (a : (List Lexeme)) (x : Clone) (b : (List Lexeme)) (Q : Bool → Prop) (hp0 : inI (x.atA + i)) (hp1 : inL (x.atA + i) a.length) (hp2 : inI (x.atB + i)) (hp3 : inL (x.atB + i) b.length) (h : Q ((sameAt i a x b))) : kcheck1_vc i a x b Q := ⟨hp0, hp1, hp2, hp3, h⟩
theorem kfind_ok (l : (List Text)) (k : Int) (w : Int) (Q : (List Clone) × Int → Prop) (hp0 : okTs l) (h : Q (findC l k w)) : kfind_vc l k w Q := by
 unfold findC at h
 refine ⟨hp0, fun hb => by rw [if_neg (by rw [hb]; simp)] at h; exact h, fun hg => ?_⟩
 rw [if_pos hg] at h
 unfold guarF
 by_cases hs : (sizeF k && sizeF w) = true
 · rw [if_pos hs] at h ⊢
   refine ⟨fun hb => absurd rfl hb, fun _ => ⟨hp0, ((checkT_none l).1 ((rightL_iff l).1 hg).2).1, (Bool.and_eq_true_iff.1 hs).1, (Bool.and_eq_true_iff.1 hs).2, by omega, h⟩⟩
 · rw [if_neg hs] at h ⊢
   exact ⟨fun _ => h, fun hb => by cases hb⟩
theorem toN_room (A B : List Lexeme) (i j : Nat) : toN A B i j ≤ A.length - i ∧ toN A B i j ≤ B.length - j := by
 have := common_le (A.drop i) (B.drop j)
 simp only [List.length_drop] at this
 exact this
theorem eqClone_iff (a b : Clone) : eqClone a b = true ↔ a = b := by
 obtain ⟨a1, a2, a3, a4, a5⟩ := a; obtain ⟨b1, b2, b3, b4, b5⟩ := b
 simp [eqClone]
theorem eqClones_ok (s1 : (List Clone)) (s2 : (List Clone)) (Q : Bool → Prop) (hp0 : s1.length ≤ 9223372036854775807) (h : Q ((decide (s1 = s2)))) : eqClones_vc s1 s2 Q := eq_gen eqClone eqClone_iff s1 s2 Q hp0 h
theorem ixClone_ok (s_ : (List Clone)) (p : Clone → Bool) (pD : Clone → Prop) (Q : Int → Prop) (hp0 : s_.length ≤ 9223372036854775807) (hp1 : ∀ z_ ∈ s_, pD z_) (h : Q ((idxOf p s_))) : ixClone_vc s_ p pD Q := ix_gen s_ p pD Q hp0 hp1 h
theorem cfClone_ok (s_ : (List Clone)) (p : Clone → Bool) (pD : Clone → Prop) (Q : Bool → Prop) (hp0 : s_.length ≤ 9223372036854775807) (hp1 : ∀ z_ ∈ s_, pD z_) (h : Q ((s_.any p))) : cfClone_vc s_ p pD Q := ⟨hp0, hp1, by rw [idx_nn]; exact h⟩
end Go.Lic
set_option linter.all false
namespace Go.Lic
open Go.Proofs Go.Sort Go.Shelf
theorem ordered_iff (l : List Text) (x : Clone) : orderedC l x = true ↔ 0 ≤ x.a ∧ x.b < l.length ∧ 0 ≤ x.atA ∧ 0 ≤ x.atB ∧ 1 ≤ x.len ∧ (x.a < x.b ∨ x.a = x.b ∧ x.atA < x.atB) := by
 simp only [orderedC, Bool.and_eq_true, Bool.or_eq_true, decide_eq_true_eq]
 constructor
 · rintro ⟨⟨⟨⟨⟨h1, h2⟩, h3⟩, h4⟩, h5⟩, h6⟩; exact ⟨h1, h2, h3, h4, h5, h6⟩
 · rintro ⟨h1, h2, h3, h4, h5, h6⟩; exact ⟨⟨⟨⟨⟨h1, h2⟩, h3⟩, h4⟩, h5⟩, h6⟩
theorem sameAt_iff {A B : List Lexeme} {x : Clone} {i : Int} (h1 : inL (x.atA + i) A.length) (h2 : inL (x.atB + i) B.length) : sameAt i A x B = true ↔ eqAt A B (x.atA + i).toNat (x.atB + i).toNat := by
 rw [eqAt_int h1.1 h2.1]
 simp only [sameAt, decide_eq_true_eq]
 exact ⟨fun h => ⟨h1.2, h2.2, h⟩, fun h => h.2.2⟩
theorem inside_iff (t : Text) (at_ n : Int) : insideT t at_ n = true ↔ n ≤ t.words.length ∧ at_ ≤ t.words.length - n := by simp [insideT]
theorem kcheckL_ok (l : (List Text)) (x : Clone) (n : Int) (Q : Int → Prop) (hp0 : okTs l) (h : Q (checkC l x n)) : kcheckL_vc l x n Q := by
 unfold checkC at h
 refine ⟨fun hb => ?_, fun hg => ?_⟩
 · rw [if_neg] at h
   · exact h
   · rw [ordered_iff]; omega
 · have ho : 0 ≤ x.a ∧ x.b < l.length ∧ 0 ≤ x.atA ∧ 0 ≤ x.atB ∧ 1 ≤ x.len ∧ (x.a < x.b ∨ x.a = x.b ∧ x.atA < x.atB) := by omega
   rw [if_pos ((ordered_iff l x).2 ho)] at h
   obtain ⟨o1, o2, o3, o4, o5, o6⟩ := ho
   have ia : inL x.a l.length := by omega
   have ib : inL x.b l.length := by omega
   have wa := (hp0.2 _ (gi_mem ia)).2.1
   have wb := (hp0.2 _ (gi_mem ib)).2.1
   obtain ⟨i, hi⟩ : ∃ i : Nat, x.atA = i := ⟨x.atA.toNat, by omega⟩
   obtain ⟨j, hj⟩ : ∃ j : Nat, x.atB = j := ⟨x.atB.toNat, by omega⟩
   have hlen := lenC_pos (a := gi l x.a) (b := gi l x.b) (i := i) (j := j)
   have hof := lenC_of (a := gi l x.a) (b := gi l x.b) (i := i) (j := j)
   rw [hi, hj] at h
   obtain ⟨r1, r2⟩ := toN_room (gi l x.a).words (gi l x.b).words i j
   have bad : ∀ k : Int, 0 ≤ k → k < x.len → ¬ eqAt (gi l x.a).words (gi l x.b).words (i + k.toNat) (j + k.toNat) → ¬ lenC (gi l x.a) i (gi l x.b) j = x.len := fun k k0 k1 hk e => by
     have := (hlen (by omega)).2
     exact hk (toN_lt (by omega))
   refine ⟨ia, wa, by omega, fun _ => ⟨ib, wb⟩, fun hb => ?_, fun hg2 => ⟨ia, ib, ?_⟩⟩
   · rw [if_neg] at h
     · exact h
     · intro e
       have := (hlen (by omega)).2
       have h1 : insideT (gi l x.a) x.atA x.len = true := (inside_iff _ _ _).2 (by omega)
       have h2 : insideT (gi l x.b) x.atB x.len = true := (inside_iff _ _ _).2 (by omega)
       rw [h1, h2] at hb
       rcases hb with hb | hb <;> cases hb
   · obtain ⟨a1, a2⟩ := (inside_iff _ _ _).1 hg2.1
     obtain ⟨b1, b2⟩ := (inside_iff _ _ _).1 hg2.2
     refine lfp_of (fun k : Int => 0 ≤ k ∧ k ≤ x.len ∧ ∀ s : Int, 0 ≤ s → s < k → eqAt (gi l x.a).words (gi l x.b).words (i + s.toNat) (j + s.toNat)) (fun k => (x.len - k).toNat) (fun k hk again hag => ?_) ⟨by omega, by omega, fun s _ _ => by omega⟩
     obtain ⟨k0, k1, k2⟩ := hk
     refine ⟨fun hlt => ?_, fun hn => ?_⟩
     · have e := sameAt_iff (A := (gi l x.a).words) (B := (gi l x.b).words) (x := x) (i := k) (by omega) (by omega)
       rw [show (x.atA + k).toNat = i + k.toNat by omega, show (x.atB + k).toNat = j + k.toNat by omega] at e
       refine ⟨by omega, by omega, by omega, by omega, fun hs => ?_, fun hs => ⟨by omega, hag _ ⟨by omega, by omega, fun s s0 s1 => ?_⟩ (by omega)⟩⟩
       · rw [if_neg (bad k k0 hlt (fun q => by rw [e.2 q] at hs; cases hs))] at h; exact h
       · by_cases es : s = k
         · subst es; exact e.1 hs
         · exact k2 s s0 (by omega)
     · have ek : k = x.len := by omega
       subst ek
       refine ⟨fun hh => ⟨by omega, by omega, by omega, by omega⟩, by omega, fun _ => by omega, fun hh => ⟨by omega, by omega, by omega⟩, fun hb => ?_, fun hg3 => ?_⟩
       · rw [if_neg] at h
         · exact h
         · intro e
           have hp := hlen (by omega)
           rcases hb with ⟨hh, hs⟩ | ⟨hh, hs⟩
           · rw [sameAt_iff (by omega) (by omega), show (x.atA + -1).toNat = i - 1 by omega, show (x.atB + -1).toNat = j - 1 by omega] at hs
             exact hp.1 ⟨by omega, by omega, hs⟩
           · rw [sameAt_iff (by omega) (by omega), show (x.atA + x.len).toNat = i + toN (gi l x.a).words (gi l x.b).words i j by omega, show (x.atB + x.len).toNat = j + toN (gi l x.a).words (gi l x.b).words i j by omega] at hs
             exact toN_end hs
       · have hpre : ¬ preN (gi l x.a).words (gi l x.b).words i j := by
           rintro ⟨p1, p2, p3⟩
           rcases hg3.1 with (q | q) | q
           · omega
           · omega
           · rw [Bool.eq_false_iff] at q
             apply q
             rw [sameAt_iff (by omega) (by omega), show (x.atA + -1).toNat = i - 1 by omega, show (x.atB + -1).toNat = j - 1 by omega]
             exact p3
         have hto : toN (gi l x.a).words (gi l x.b).words i j = x.len.toNat := toN_uniq (fun s hs => by
           have := k2 (s : Int) (by omega) (by omega)
           rwa [show ((s : Int)).toNat = s by omega] at this) (fun hq => by
           obtain ⟨l1, l2⟩ := eqAt_lt hq
           rcases hg3.2 with (q | q) | q
           · omega
           · omega
           · rw [Bool.eq_false_iff] at q
             apply q
             rw [sameAt_iff (by omega) (by omega), show (x.atA + x.len).toNat = i + x.len.toNat by omega, show (x.atB + x.len).toNat = j + x.len.toNat by omega]
             exact hq)
         rw [if_pos (by rw [hof hpre, hto]; omega)] at h
         exact ⟨fun hs => by rw [if_pos hs] at h; exact h, fun hs => by rw [if_neg hs] at h; exact h⟩
theorem kcheck_ok (l : (List Text)) (x : Clone) (n : Int) (Q : Int → Prop) (hp0 : okTs l) (h : Q (checkF29 l x n)) : kcheck_vc l x n Q := by
 unfold checkF29 at h
 exact ⟨hp0, fun hb => by rw [if_neg (by rw [hb]; simp)] at h; exact h, fun hg => ⟨hp0, by rw [if_pos hg] at h; exact h⟩⟩
end Go.Lic
set_option linter.all false
namespace Go.Lic
open Go.Proofs Go.Sort Go.Shelf
end Go.Lic
