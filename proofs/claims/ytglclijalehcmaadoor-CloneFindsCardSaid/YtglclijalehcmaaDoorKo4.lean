/-
  The conditions of checks of clones hold. No program in sight.
-/
import Derived.Test.YtglclijalehcmaaDoorKo3
set_option linter.all false
namespace Go.Lic
open Go.Proofs Go.Sort Go.Shelf
theorem ordered_iff (l : List Text) (x : Clone) : orderedC l x = true ↔ 0 ≤ x.a ∧ x.b < l.length ∧ 0 ≤ x.atA ∧ 0 ≤ x.atB ∧ 1 ≤ x.len ∧ (x.a < x.b ∨ x.a = x.b ∧ x.atA < x.atB) := by
 simp only [orderedC, Bool.and_eq_true, Bool.or_eq_true, decide_eq_true_eq]
 constructor
 · rintro ⟨⟨⟨⟨⟨h1, h2⟩, h3⟩, h4⟩, h5⟩, h6⟩; exact ⟨h1, h2, h3, h4, h5, h6⟩
 · rintro ⟨h1, h2, h3, h4, h5, h6⟩; exact ⟨⟨⟨⟨⟨h1, h2⟩, h3⟩, h4⟩, h5⟩, h6⟩
theorem sameAt_iff {A B : List Lexeme} {x : Clone} {i : Int} (h1 : inL (x.atA + i) A.length) (h2 : inL (x.atB + i) B.length) : sameAt i A x B = true ↔ eqAt A B (x.atA + i).toNat (x.atB + i).toNat := by
 rw [eqAt_int h1.1 h2.1]
 simp only [sameAt, decide_eq_true_eq]
 exact ⟨fun h => ⟨h1.2, h2.2, h⟩, fun h => h.2.2⟩
theorem inside_iff (t : Text) (at_ n : Int) : insideT t at_ n = true ↔ n ≤ t.words.length ∧ at_ ≤ t.words.length - n := by simp [insideT]
theorem kcheckL_ok (l : (List Text)) (x : Clone) (n : Int) (Q : Int → Prop) (hp0 : okTs l) (h : Q (checkC l x n)) : kcheckL_vc l x n Q := by
 unfold checkC at h
 refine ⟨fun hb => ?_, fun hg => ?_⟩
 · rw [if_neg] at h
   · exact h
   · rw [ordered_iff]; omega
 · have ho : 0 ≤ x.a ∧ x.b < l.length ∧ 0 ≤ x.atA ∧ 0 ≤ x.atB ∧ 1 ≤ x.len ∧ (x.a < x.b ∨ x.a = x.b ∧ x.atA < x.atB) := by omega
   rw [if_pos ((ordered_iff l x).2 ho)] at h
   obtain ⟨o1, o2, o3, o4, o5, o6⟩ := ho
   have ia : inL x.a l.length := by omega
   have ib : inL x.b l.length := by omega
   have wa := (hp0.2 _ (gi_mem ia)).2.1
   have wb := (hp0.2 _ (gi_mem ib)).2.1
   obtain ⟨i, hi⟩ : ∃ i : Nat, x.atA = i := ⟨x.atA.toNat, by omega⟩
   obtain ⟨j, hj⟩ : ∃ j : Nat, x.atB = j := ⟨x.atB.toNat, by omega⟩
   have hlen := lenC_pos (a := gi l x.a) (b := gi l x.b) (i := i) (j := j)
   have hof := lenC_of (a := gi l x.a) (b := gi l x.b) (i := i) (j := j)
   rw [hi, hj] at h
   obtain ⟨r1, r2⟩ := toN_room (gi l x.a).words (gi l x.b).words i j
   have bad : ∀ k : Int, 0 ≤ k → k < x.len → ¬ eqAt (gi l x.a).words (gi l x.b).words (i + k.toNat) (j + k.toNat) → ¬ lenC (gi l x.a) i (gi l x.b) j = x.len := fun k k0 k1 hk e => by
     have := (hlen (by omega)).2
     exact hk (toN_lt (by omega))
   refine ⟨ia, wa, by omega, fun _ => ⟨ib, wb⟩, fun hb => ?_, fun hg2 => ⟨ia, ib, ?_⟩⟩
   · rw [if_neg] at h
     · exact h
     · intro e
       have := (hlen (by omega)).2
       have h1 : insideT (gi l x.a) x.atA x.len = true := (inside_iff _ _ _).2 (by omega)
       have h2 : insideT (gi l x.b) x.atB x.len = true := (inside_iff _ _ _).2 (by omega)
       rw [h1, h2] at hb
       rcases hb with hb | hb <;> cases hb
   · obtain ⟨a1, a2⟩ := (inside_iff _ _ _).1 hg2.1
     obtain ⟨b1, b2⟩ := (inside_iff _ _ _).1 hg2.2
     refine lfp_of (fun k : Int => 0 ≤ k ∧ k ≤ x.len ∧ ∀ s : Int, 0 ≤ s → s < k → eqAt (gi l x.a).words (gi l x.b).words (i + s.toNat) (j + s.toNat)) (fun k => (x.len - k).toNat) (fun k hk again hag => ?_) ⟨by omega, by omega, fun s _ _ => by omega⟩
     obtain ⟨k0, k1, k2⟩ := hk
     refine ⟨fun hlt => ?_, fun hn => ?_⟩
     · have e := sameAt_iff (A := (gi l x.a).words) (B := (gi l x.b).words) (x := x) (i := k) (by omega) (by omega)
       rw [show (x.atA + k).toNat = i + k.toNat by omega, show (x.atB + k).toNat = j + k.toNat by omega] at e
       refine ⟨by omega, by omega, by omega, by omega, fun hs => ?_, fun hs => ⟨by omega, hag _ ⟨by omega, by omega, fun s s0 s1 => ?_⟩ (by omega)⟩⟩
       · rw [if_neg (bad k k0 hlt (fun q => by rw [e.2 q] at hs; cases hs))] at h; exact h
       · by_cases es : s = k
         · subst es; exact e.1 hs
         · exact k2 s s0 (by omega)
     · have ek : k = x.len := by omega
       subst ek
       refine ⟨fun hh => ⟨by omega, by omega, by omega, by omega⟩, by omega, fun _ => by omega, fun hh => ⟨by omega, by omega, by omega⟩, fun hb => ?_, fun hg3 => ?_⟩
       · rw [if_neg] at h
         · exact h
         · intro e
           have hp := hlen (by omega)
           rcases hb with ⟨hh, hs⟩ | ⟨hh, hs⟩
           · rw [sameAt_iff (by omega) (by omega), show (x.atA + -1).toNat = i - 1 by omega, show (x.atB + -1).toNat = j - 1 by omega] at hs
             exact hp.1 ⟨by omega, by omega, hs⟩
           · rw [sameAt_iff (by omega) (by omega), show (x.atA + x.len).toNat = i + toN (gi l x.a).words (gi l x.b).words i j by omega, show (x.atB + x.len).toNat = j + toN (gi l x.a).words (gi l x.b).words i j by omega] at hs
             exact toN_end hs
       · have hpre : ¬ preN (gi l x.a).words (gi l x.b).words i j := by
           rintro ⟨p1, p2, p3⟩
           rcases hg3.1 with (q | q) | q
           · omega
           · omega
           · rw [Bool.eq_false_iff] at q
             apply q
             rw [sameAt_iff (by omega) (by omega), show (x.atA + -1).toNat = i - 1 by omega, show (x.atB + -1).toNat = j - 1 by omega]
             exact p3
         have hto : toN (gi l x.a).words (gi l x.b).words i j = x.len.toNat := toN_uniq (fun s hs => by
           have := k2 (s : Int) (by omega) (by omega)
           rwa [show ((s : Int)).toNat = s by omega] at this) (fun hq => by
           obtain ⟨l1, l2⟩ := eqAt_lt hq
           rcases hg3.2 with (q | q) | q
           · omega
           · omega
           · rw [Bool.eq_false_iff] at q
             apply q
             rw [sameAt_iff (by omega) (by omega), show (x.atA + x.len).toNat = i + x.len.toNat by omega, show (x.atB + x.len).toNat = j + x.len.toNat by omega]
             exact hq)
         rw [if_pos (by rw [hof hpre, hto]; omega)] at h
         exact ⟨fun hs => by rw [if_pos hs] at h; exact h, fun hs => by rw [if_neg hs] at h; exact h⟩
theorem kcheck_ok (l : (List Text)) (x : Clone) (n : Int) (Q : Int → Prop) (hp0 : okTs l) (h : Q (checkF29 l x n)) : kcheck_vc l x n Q := by
 unfold checkF29 at h
 exact ⟨hp0, fun hb => by rw [if_neg (by rw [hb]; simp)] at h; exact h, fun hg => ⟨hp0, by rw [if_pos hg] at h; exact h⟩⟩
end Go.Lic
