/-
  The conditions of checks of clones hold. No program in sight.
-/
import Derived.Test.YtglclijalehcmaaGreatDoorKo3
set_option linter.all false
namespace Go.Lic
open Go.Proofs Go.Sort Go.Shelf
theorem ordered_iff (l : List Text) (x : Clone) : orderedC l x = true ↔ 0 ≤ x.a ∧ x.b < l.length ∧ 0 ≤ x.atA ∧ 0 ≤ x.atB ∧ 1 ≤ x.len ∧ (x.a < x.b ∨ x.a = x.b ∧ x.atA < x.atB) := by
 simp only [orderedC, Bool.and_eq_true, Bool.or_eq_true, decide_eq_true_eq]
 constructor
 · rintro ⟨⟨⟨⟨⟨h1, h2⟩, h3⟩, h4⟩, h5⟩, h6⟩; exact ⟨h1, h2, h3, h4, h5, h6⟩
 · rintro ⟨h1, h2, h3, h4, h5, h6⟩; exact ⟨⟨⟨⟨⟨h1, h2⟩, h3⟩, h4⟩, h5⟩, h6⟩
theorem sameAt_iff {A B : List Lexeme} {x : Clone} {i : Int} (h1 : inL (x.atA + i) A.length) (h2 : inL (x.atB + i) B.length) : sameAt i A x B = true ↔ eqAt A B (x.atA + i).toNat (x.atB + i).toNat := by
 rw [eqAt_int h1.1 h2.1]
 simp only [sameAt, decide_eq_true_eq]
 exact ⟨fun h => ⟨h1.2, h2.2, h⟩, fun h => h.2.2⟩
theorem inside_iff (t : Text) (at_ n : Int) : insideT t at_ n = true ↔ n ≤ t.words.length ∧ at_ ≤ t.words.length - n := by simp [insideT]
theorem kcheckL_ok (l : (List Text)) (x : Clone) (n : Int) (Q : Int → Prop) (hp0 : okTs l) (h : Q (checkC l x n)) : kcheckL_vc l x n Q := by
 unfold checkC at h
 refine ⟨fun hb => ?_, fun hg => ?_⟩
 · rw [if_neg] at h
   · exact h
   · rw [ordered_iff]; omega
 · have ho : 0 ≤ x.a ∧ x.b < l.length ∧ 0 ≤ x.atA ∧ 0 ≤ x.atB ∧ 1 ≤ x.len ∧ (x.a < x.b ∨ x.a = x.b ∧ x.atA < x.atB) := by omega
   rw [if_pos ((ordered_iff l x).2 ho)] at h
   obtain ⟨o1, o2, o3, o4, o5, o6⟩ := ho
   have ia : inL x.a l.length := by omega
   have ib : inL x.b l.length := by omega
   have wa := (hp0.2 _ (gi_mem ia)).2.1
   have wb := (hp0.2 _ (gi_mem ib)).2.1
   obtain ⟨i, hi⟩ : ∃ i : Nat, x.atA = i := ⟨x.atA.toNat, by omega⟩
   obtain ⟨j, hj⟩ : ∃ j : Nat, x.atB = j := ⟨x.atB.toNat, by omega⟩
   have hlen := lenC_pos (a := gi l x.a) (b := gi l x.b) (i := i) (j := j)
   have hof := lenC_of (a := gi l x.a) (b := gi l x.b) (i := i) (j := j)
   rw [hi, hj] at h
   obtain ⟨r1, r2⟩ := toN_room (gi l x.a).words (gi l x.b).words i j
   have bad : ∀ k : Int, 0 ≤ k → k < x.len → ¬ eqAt (gi l x.a).words (gi l x.b).words (i + k.toNat) (j + k.toNat) → ¬ lenC (gi l x.a) i (gi l x.b) j = x.len := fun k k0 k1 hk e => by
     have := (hlen (by omega)).2
     exact hk (toN_lt (by omega))
   refine ⟨ia, wa, by omega, fun _ => ⟨ib, wb⟩, fun hb => ?_, fun hg2 => ⟨ia, ib, ?_⟩⟩
   · rw [if_neg] at h
     · exact h
     · intro e
       have := (hlen (by omega)).2
       have h1 : insideT (gi l x.a) x.atA x.len = true := (inside_iff _ _ _).2 (by omega)
       have h2 : insideT (gi l x.b) x.atB x.len = true := (inside_iff _ _ _).2 (by omega)
       rw [h1, h2] at hb
       rcases hb with hb | hb <;> cases hb
   · obtain ⟨a1, a2⟩ := (inside_iff _ _ _).1 hg2.1
     obtain ⟨b1, b2⟩ := (inside_iff _ _ _).1 hg2.2
     refine lfp_of (fun k : Int => 0 ≤ k ∧ k ≤ x.len ∧ ∀ s : Int, 0 ≤ s → s < k → eqAt (gi l x.a).words (gi l x.b).words (i + s.toNat) (j + s.toNat)) (fun k => (x.len - k).toNat) (fun k hk again hag => ?_) ⟨by omega, by omega, fun s _ _ => by omega⟩
     obtain ⟨k0, k1, k2⟩ := hk
     refine ⟨fun hlt => ?_, fun hn => ?_⟩
     · have e := sameAt_iff (A := (gi l x.a).words) (B := (gi l x.b).words) (x := x) (i := k) (by omega) (by omega)
       rw [show (x.atA + k).toNat = i + k.toNat by omega, show (x.atB + k).toNat = j + k.toNat by omega] at e
       refine ⟨by omega, by omega, by omega, by omega, fun hs => ?_, fun hs => ⟨by omega, hag _ ⟨by omega, by omega, fun s s0 s1 => ?_⟩ (by omega)⟩⟩
       · rw [if_neg (bad k k0 hlt (fun q => by rw [e.2 q] at hs; cases hs))] at h; exact h
       · by_cases es : s = k
         · subst es; exact e.1 hs
         · exact k2 s s0 (by omega)
     · have ek : k = x.len := by omega
       subst ek
       refine ⟨fun hh => ⟨by omega, by omega, by omega, by omega⟩, by omega, fun _ => by omega, fun hh => ⟨by omega, by omega, by omega⟩, fun hb => ?_, fun hg3 => ?_⟩
       · rw [if_neg] at h
         · exact h
         · intro e
           have hp := hlen (by omega)
           rcases hb with ⟨hh, hs⟩ | ⟨hh, hs⟩
           · rw [sameAt_iff (by omega) (by omega), show (x.atA + -1).toNat = i - 1 by omega, show (x.atB + -1).toNat = j - 1 by omega] at hs
             exact hp.1 ⟨by omega, by omega, hs⟩
           · rw [sameAt_iff (by omega) (by omega), show (x.atA + x.len).toNat = i + toN (gi l x.a).words (gi l x.b).words i j by omega, show (x.atB + x.len).toNat = j + toN (gi l x.a).words (gi l x.b).words i j by omega] at hs
             exact toN_end hs
       · have hpre : ¬ preN (gi l x.a).words (gi l x.b).words i j := by
           rintro ⟨p1, p2, p3⟩
           rcases hg3.1 with (q | q) | q
           · omega
           · omega
           · rw [Bool.eq_false_iff] at q
             apply q
             rw [sameAt_iff (by omega) (by omega), show (x.atA + -1).toNat = i - 1 by omega, show (x.atB + -1).toNat = j - 1 by omega]
             exact p3
         have hto : toN (gi l x.a).words (gi l x.b).words i j = x.len.toNat := toN_uniq (fun s hs => by
           have := k2 (s : Int) (by omega) (by omega)
           rwa [show ((s : Int)).toNat = s by omega] at this) (fun hq => by
           obtain ⟨l1, l2⟩ := eqAt_lt hq
           rcases hg3.2 with (q | q) | q
           · omega
           · omega
           · rw [Bool.eq_false_iff] at q
             apply q
             rw [sameAt_iff (by omega) (by omega), show (x.atA + x.len).toNat = i + x.len.toNat by omega, show (x.atB + x.len).toNat = j + x.len.toNat by omega]
             exact hq)
         rw [if_pos (by rw [hof hpre, hto]; omega)] at h
         exact ⟨fun hs => by rw [if_pos hs] at h; exact h, fun hs => by rw [if_neg hs] at h; exact h⟩
theorem kcheck_ok (l : (List Text)) (x : Clone) (n : Int) (Q : Int → Prop) (hp0 : okTs l) (h : Q (checkF29 l x n)) : kcheck_vc l x n Q := by
 unfold checkF29 at h
 exact ⟨hp0, fun hb => by rw [if_neg (by rw [hb]; simp)] at h; exact h, fun hg => ⟨hp0, by rw [if_pos hg] at h; exact h⟩⟩
end Go.Lic
set_option linter.all false
namespace Go.Lic
open Go.Proofs Go.Sort Go.Shelf
theorem okB_last (m a : Nat) : (List.range (m + 1)).filter (okB (m : Int) a) = if a < m then [m] else [] := by
 rw [List.range_succ, List.filter_append]
 have h1 : (List.range m).filter (okB (m : Int) a) = [] := by
   rw [List.filter_eq_nil_iff]
   intro b hb
   have := List.mem_range.1 hb
   simp only [okB, Bool.and_eq_true, Bool.or_eq_true, decide_eq_true_eq]
   omega
 rw [h1, List.nil_append]
 by_cases h : a < m
 · rw [if_pos h, List.filter_cons, if_pos]
   · rfl
   · simp [okB]; omega
 · rw [if_neg h, List.filter_cons, if_neg]
   · rfl
   · simp [okB]; omega
theorem ref_last {l : List Text} {m : Nat} (hl : l.length = m + 1) (n : Int) : refL l n (m : Int) = (List.range m).flatMap fun a => (List.range (gi l (a : Nat)).words.length).flatMap fun i => pairF l (a : Nat) (i : Nat) (m : Nat) n := by
 unfold refL
 rw [hl]
 simp only [okB_last]
 rw [List.range_succ, List.flatMap_append]
 have h1 : [m].flatMap (fun a => (List.range (gi l (a : Nat)).words.length).flatMap fun i => (if a < m then [m] else []).flatMap fun b => pairF l (a : Nat) (i : Nat) (b : Nat) n) = [] := by
   simp only [List.flatMap_cons, List.flatMap_nil, List.append_nil, Nat.lt_irrefl, if_false]
   rw [List.flatMap_eq_nil_iff]
   intro i _; rfl
 rw [h1, List.append_nil]
 have key : ∀ L : List Nat, (∀ a ∈ L, a < m) → L.flatMap (fun a => (List.range (gi l (a : Nat)).words.length).flatMap fun i => (if a < m then [m] else []).flatMap fun b => pairF l (a : Nat) (i : Nat) (b : Nat) n) = L.flatMap fun a => (List.range (gi l (a : Nat)).words.length).flatMap fun i => pairF l (a : Nat) (i : Nat) (m : Nat) n := by
   intro L
   induction L with
   | nil => intro _; rfl
   | cons a L ih =>
     intro h
     rw [List.flatMap_cons, List.flatMap_cons, ih (fun b hb => h b (List.mem_cons_of_mem _ hb)), if_pos (h a (by simp))]
     simp
 exact key _ (fun a ha => List.mem_range.1 ha)
theorem against_texts {c : Corpus} {t : Text} (hp0 : okC c) (hp1 : okT t) (G : GoodC c) (hv : validT t = true) : okTs (c.texts ++ [t]) ∧ (∀ t_ ∈ (c.texts ++ [t]), validT t_ = true) ∧ c.texts.length ≤ 64 := by
 have hl := G.few
 refine ⟨⟨by simp; omega, fun u hu => ?_⟩, fun u hu => ?_, hl⟩
 · rcases List.mem_append.1 hu with hu | hu
   · exact hp0.1.2 u hu
   · simp at hu; subst hu; exact hp1
 · rcases List.mem_append.1 hu with hu | hu
   · exact G.val u hu
   · simp at hu; subst hu; exact hv
theorem kagainst_ok (c : Corpus) (t : Text) (Q : (List Clone) × Int → Prop) (hp0 : okC c) (hp1 : okT t) (h : Q (againstC c t)) : kagainst_vc c t Q := by
 unfold againstC at h
 refine ⟨hp0, fun _ => hp1, fun hb => ?_, fun hg => ?_⟩
 · rw [if_neg] at h
   · exact h
   · rintro ⟨h1, h2⟩
     rcases hb with hb | hb
     · exact hb h1
     · rw [h2] at hb; cases hb
 · rw [if_pos hg] at h
   have G := (checkF_iff c).1 hg.1
   obtain ⟨h1, h2, h3⟩ := against_texts hp0 hp1 G hg.2
   exact ⟨⟨⟨by simp; omega, by simp; omega⟩, by simp⟩, h1, h2, G.k, G.w, by omega, h⟩
theorem ragainst_ok (c : Corpus) (t : Text) (Q : (List Clone) × Int → Prop) (hp0 : okC c) (hp1 : okT t) (h : Q (againstC c t)) : ragainst_vc c t Q := by
 unfold againstC at h
 refine ⟨hp0, fun _ => hp1, fun hb => ?_, fun hg => ?_⟩
 · rw [if_neg] at h
   · exact h
   · rintro ⟨h1, h2⟩
     rcases hb with hb | hb
     · exact hb h1
     · rw [h2] at hb; cases hb
 · rw [if_pos hg] at h
   have G := (checkF_iff c).1 hg.1
   obtain ⟨h1, h2, h3⟩ := against_texts hp0 hp1 G hg.2
   have hk := sizeF_pos G.k; have hw := sizeF_pos G.w
   refine ⟨⟨by simp; omega, by simp; omega⟩, ⟨by simp; omega, by simp; omega⟩, ?_⟩
   unfold clonesF at h
   have hlen := ref_len (l := c.texts ++ [t]) (n := c.k + c.w - 1) (only := c.texts.length) (by simp; omega) h2
   have hL : (c.texts ++ [t]).length = c.texts.length + 1 := by simp
   have eR := ref_last hL (c.k + c.w - 1)
   generalize hn : c.k + c.w - 1 = n at *
   generalize hcl : c.texts ++ [t] = l at *
   generalize hm : c.texts.length = m at *
   generalize hR : refL l n (m : Int) = R at *
   refine lfp2 (ragainst_L1 c t Q) (fun (out : List Clone) (a : Int) => 0 ≤ a ∧ a ≤ m ∧ out ++ ((List.range m).drop a.toNat).flatMap (fun a => (List.range (gi l (a : Nat)).words.length).flatMap fun i => pairF l (a : Nat) (i : Nat) (m : Nat) n) = R) (fun _ a => (m - a).toNat) (fun out a hst again hag => ?_) ⟨by omega, by omega, by rw [eR]; rfl⟩
   obtain ⟨g0, g1, g2⟩ := hst
   unfold ragainst_L1
   rw [hm]
   refine ⟨fun hlt => ?_, fun hnn => ?_⟩
   · have ha : inL a l.length := by omega
     have hwa := (h1.2 _ (gi_mem ha)).2.1
     rw [range_drop (show inL a m by omega), List.flatMap_cons, show ((a.toNat : Nat) : Int) = a by omega] at g2
     generalize hrest : ((List.range m).drop (a + 1).toNat).flatMap (fun a => (List.range (gi l (a : Nat)).words.length).flatMap fun i => pairF l (a : Nat) (i : Nat) (m : Nat) n) = rest at *
     refine lfp2 (ragainst_L2 c t a again) (fun (out : List Clone) (i : Int) => 0 ≤ i ∧ i ≤ (gi l a).words.length ∧ out ++ (((List.range (gi l a).words.length).drop i.toNat).flatMap (fun i => pairF l a (i : Nat) (m : Nat) n) ++ rest) = R) (fun _ i => ((gi l a).words.length - i).toNat) (fun out i hst again6 hag6 => ?_) ⟨by omega, by omega, g2⟩
     obtain ⟨k0, k1, k2⟩ := hst
     unfold ragainst_L2
     rw [List.nil_append, hcl, hm, hn]
     refine ⟨ha, fun hlt1 => ?_, fun hn1 => ⟨by omega, hag _ _ ⟨by omega, by omega, ?_⟩ (by omega)⟩⟩
     · rw [range_drop ⟨k0, hlt1⟩, List.flatMap_cons, show ((i.toNat : Nat) : Int) = i by omega, List.append_assoc, ← List.append_assoc] at k2
       have k3 := congrArg List.length k2
       rw [List.length_append] at k3
       have k4 : (out ++ pairF l a i (m : Nat) n).length = out.length + (pairF l a i (m : Nat) n).length := List.length_append
       exact ⟨by omega, by omega, h1, ha, by omega, k0, by omega, ⟨by omega, by omega⟩, by omega, hag6 _ _ ⟨by omega, by omega, k2⟩ (by omega)⟩
     · rw [range_end hn1] at k2
       rw [hrest]
       exact k2
   · rw [range_end hnn] at g2
     simp only [List.flatMap_nil, List.append_nil] at g2
     subst g2
     exact ⟨fun hb => by rw [if_pos (by omega)] at h; exact h, fun hb => by rw [if_neg (by omega)] at h; exact h⟩
end Go.Lic
set_option linter.all false
namespace Go.Lic
open Go.Proofs Go.Sort Go.Shelf
end Go.Lic
