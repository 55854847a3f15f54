/-
  The conditions of the search for clones hold. No program in sight.
-/
import Derived.Test.YtkifpidbpoghlaaGreatDoorKv
import Derived.Test.YtkifpidbpoghlaaGreatDoorKq
set_option linter.all false
namespace Go.Lic
open Go.Proofs Go.Sort Go.Shelf
theorem eqAt_gi {A B : List Lexeme} {i j : Nat} : eqAt A B i j ↔ i < A.length ∧ j < B.length ∧ (gi A (i : Int)).text = (gi B (j : Int)).text := by
 constructor
 · rintro ⟨x, y, h1, h2, h3⟩
   obtain ⟨l1, e1⟩ := List.getElem?_eq_some_iff.1 h1
   obtain ⟨l2, e2⟩ := List.getElem?_eq_some_iff.1 h2
   exact ⟨l1, l2, by rw [gi_nat l1, gi_nat l2, e1, e2, h3]⟩
 · rintro ⟨h1, h2, h3⟩
   rw [gi_nat h1, gi_nat h2] at h3
   exact ⟨A[i], B[j], List.getElem?_eq_getElem h1, List.getElem?_eq_getElem h2, h3⟩
theorem eqAt_int {A B : List Lexeme} {i j : Int} (hi : 0 ≤ i) (hj : 0 ≤ j) : eqAt A B i.toNat j.toNat ↔ i < A.length ∧ j < B.length ∧ (gi A i).text = (gi B j).text := by
 rw [eqAt_gi, show ((i.toNat : Nat) : Int) = i by omega, show ((j.toNat : Nat) : Int) = j by omega]
 constructor <;> rintro ⟨h1, h2, h3⟩ <;> exact ⟨by omega, by omega, h3⟩
theorem toN_le (A B : List Lexeme) (i j : Nat) : toN A B i j ≤ A.length ∧ toN A B i j ≤ B.length := by
 have := common_le (A.drop i) (B.drop j)
 simp only [List.length_drop] at this
 unfold toN; omega
theorem klook_ok (texts : (List Text)) (least : Int) (seen : (List (CloneDiagonal × Int))) (found : (List (Clone × Unit))) (x : ClonePlace) (y : ClonePlace) (Q : (List (CloneDiagonal × Int)) × (List (Clone × Unit)) → Prop) (hp0 : okTs texts) (hp1 : OkP texts (x, y)) (h : Q (lookF texts least seen found x y)) : klook_vc texts least seen found x y Q := by
 obtain ⟨ha, hb, x0, x1, y0, y1⟩ := hp1
 simp only at ha hb x0 x1 y0 y1
 have hwa := (hp0.2 _ (gi_mem ha)).2.1
 have hwb := (hp0.2 _ (gi_mem hb)).2.1
 unfold lookF at h
 have eT : toP texts (x, y) = toN (gi texts x.text).words (gi texts y.text).words x.at_.toNat y.at_.toNat := rfl
 have eF : backP texts (x, y) = backN (gi texts x.text).words (gi texts y.text).words x.at_.toNat y.at_.toNat := rfl
 have ed : diagP (x, y) = CloneDiagonal.mk x.text y.text (y.at_ - x.at_) := rfl
 unfold cloneP at h
 simp only [eT, eF, ed] at h
 unfold klook_vc klook_L1 klook_L2
 generalize hA : (gi texts x.text).words = A at *
 generalize hB : (gi texts y.text).words = B at *
 obtain ⟨tA, tB⟩ := toN_le A B x.at_.toNat y.at_.toNat
 have hlt : ∀ s, s < toN A B x.at_.toNat y.at_.toNat → eqAt A B (x.at_.toNat + s) (y.at_.toNat + s) := fun s hs => toN_lt hs
 have hend : ¬ eqAt A B (x.at_.toNat + toN A B x.at_.toNat y.at_.toNat) (y.at_.toNat + toN A B x.at_.toNat y.at_.toNat) := toN_end
 obtain ⟨bA, bB⟩ := backN_le (A := A) (B := B) (i := x.at_.toNat) (j := y.at_.toNat) (by omega) (by omega)
 have hblt : ∀ s, s < backN A B x.at_.toNat y.at_.toNat → s < x.at_.toNat ∧ s < y.at_.toNat ∧ eqAt A B (x.at_.toNat - 1 - s) (y.at_.toNat - 1 - s) := fun s hs => backN_lt (by omega) (by omega) hs
 have hbend : backN A B x.at_.toNat y.at_.toNat < x.at_.toNat → backN A B x.at_.toNat y.at_.toNat < y.at_.toNat → ¬ eqAt A B (x.at_.toNat - 1 - backN A B x.at_.toNat y.at_.toNat) (y.at_.toNat - 1 - backN A B x.at_.toNat y.at_.toNat) := backN_end (by omega) (by omega)
 generalize toN A B x.at_.toNat y.at_.toNat = t at *
 generalize backN A B x.at_.toNat y.at_.toNat = f at *
 refine ⟨by omega, fun hgt => by rw [if_pos hgt] at h; exact h, fun hgt => ⟨ha, hb, ?_⟩⟩
 rw [if_neg hgt] at h
 refine lfp_of (fun to : Int => 0 ≤ to ∧ to ≤ t) (fun to => ((t : Int) + 1 - to).toNat) (fun to hto again hag => ?_) ⟨by omega, by omega⟩
 obtain ⟨t0, t1⟩ := hto
 by_cases hc : to < t
 · have hq := hlt to.toNat (by omega)
   rw [show x.at_.toNat + to.toNat = (x.at_ + to).toNat by omega, show y.at_.toNat + to.toNat = (y.at_ + to).toNat by omega, eqAt_int (by omega) (by omega)] at hq
   refine ⟨by omega, fun _ => by omega, fun _ => ⟨by omega, by omega, by omega⟩, fun _ => ⟨by omega, hag _ ⟨by omega, by omega⟩ (by omega)⟩, fun hn => ?_⟩
   exfalso
   rcases hn with (hn | hn) | hn
   · exact hn hq.1
   · exact hn hq.2.1
   · exact hn hq.2.2
 · have e : to = t := by omega
   subst e
   rw [show x.at_.toNat + t = (x.at_ + (t : Int)).toNat by omega, show y.at_.toNat + t = (y.at_ + (t : Int)).toNat by omega, eqAt_int (by omega) (by omega)] at hend
   refine ⟨by omega, fun _ => by omega, fun _ => ⟨by omega, by omega, by omega⟩, fun hq => absurd ⟨hq.1.1, hq.1.2, hq.2⟩ hend, fun _ => ⟨?_, ?_⟩⟩
   · simp only [gmax, List.foldl_cons, List.foldl_nil]; split <;> omega
   · have eg : gmax (t : Int) [1] = ((max t 1 : Nat) : Int) := by simp only [gmax, List.foldl_cons, List.foldl_nil]; split <;> omega
     rw [eg]
     rcases Nat.eq_zero_or_pos t with hz | hz
     · subst hz
       refine lfp_of (fun fr : Int => fr = 0) (fun _ => 0) (fun fr hfr again hag => ?_) rfl
       subst hfr
       refine ⟨fun hq => by omega, fun hq => by omega, fun _ => ⟨by omega, fun hq => by omega, fun _ => ?_⟩⟩
       rw [if_neg (by omega)] at h
       exact h
     · refine lfp_of (fun fr : Int => 0 ≤ fr ∧ fr ≤ f) (fun fr => ((f : Int) + 1 - fr).toNat) (fun fr hfr again hag => ?_) ⟨by omega, by omega⟩
       obtain ⟨f0, f1⟩ := hfr
       by_cases hc : fr < f
       · obtain ⟨q1, q2, q3⟩ := hblt fr.toNat (by omega)
         rw [show x.at_.toNat - 1 - fr.toNat = (x.at_ - fr - 1).toNat by omega, show y.at_.toNat - 1 - fr.toNat = (y.at_ - fr - 1).toNat by omega, eqAt_int (by omega) (by omega)] at q3
         refine ⟨fun _ => ⟨by omega, by omega, by omega, by omega, by omega, by omega⟩, fun _ => ⟨by omega, hag _ ⟨by omega, by omega⟩ (by omega)⟩, fun hn => ?_⟩
         exfalso
         rcases hn with ((hn | hn) | hn) | hn
         · omega
         · omega
         · omega
         · exact hn q3.2.2
       · have e : fr = f := by omega
         subst e
         refine ⟨fun hq => ⟨by omega, by omega, by omega, by omega, by omega, by omega⟩, fun hq => ?_, fun _ => ⟨by omega, fun hq => ⟨by omega, by omega, by omega, ?_⟩, fun hq => ?_⟩⟩
         · exfalso
           have := hbend (by omega) (by omega)
           rw [show x.at_.toNat - 1 - f = (x.at_ - (f : Int) - 1).toNat by omega, show y.at_.toNat - 1 - f = (y.at_ - (f : Int) - 1).toNat by omega, eqAt_int (by omega) (by omega)] at this
           exact this ⟨by omega, by omega, hq.2⟩
         · rw [if_pos ⟨by omega, by omega⟩] at h
           exact h
         · rw [if_neg (by omega)] at h
           exact h
end Go.Lic
set_option linter.all false
namespace Go.Lic
open Go.Proofs Go.Sort Go.Shelf
theorem gi_siK {α : Type} [Inhabited α] {l : List α} {i : Int} (h : inL i l.length) (v : α) {j : Int} (hj : 0 ≤ j) : gi (si l i v) j = if j = i then v else gi l j := by
 unfold gi si
 by_cases e : j = i
 · subst e; rw [if_pos rfl]; simp [List.getD, show j.toNat < l.length by omega]
 · rw [if_neg e]; simp only [List.getD, List.getElem?_set]; rw [if_neg (by omega)]
theorem flatP_appK (k w : Int) : ∀ (a b : List Text) (i : Nat), flatP i (a ++ b) k w = flatP i a k w ++ flatP (i + a.length) b k w
 | [], b, i => by simp [flatP]
 | t :: a, b, i => by
   rw [List.cons_append, flatP, flatP, flatP_appK k w a b (i + 1), List.append_assoc, show i + 1 + a.length = i + (t :: a).length by simp; omega]
theorem flatP_takeK {l : List Text} {x : Int} (h : inL x l.length) (k w : Int) : flatP 0 (l.take (x + 1).toNat) k w = flatP 0 (l.take x.toNat) k w ++ postsOf x.toNat (printsF (gi l x) k w).1 := by
 rw [tk_gi h, flatP_appK]
 simp only [flatP, List.append_nil, Nat.zero_add, List.length_take]
 rw [show min x.toNat l.length = x.toNat by omega]
theorem gi_posts {l : List Print} {x : Int} (h : inL x l.length) (i : Nat) : gi (postsOf i l) x = ⟨(gi l x).hash, (i : Int), (gi l x).at_⟩ := by
 unfold postsOf gi
 simp [List.getD, show x.toNat < l.length by omega]
theorem postsOf_lenK (i : Nat) (l : List Print) : (postsOf i l).length = l.length := by simp [postsOf]
theorem skip_iff {only : Int} {x y : ClonePlace} : skipF only x y = true ↔ (((eqClonePlace y x) = true ∨ y.text < x.text) ∨ (y.text = x.text ∧ y.at_ < x.at_)) ∨ (only ≥ 0 ∧ (¬ y.text = only ∨ x.text = only)) := by
 obtain ⟨xa, xb⟩ := x; obtain ⟨ya, yb⟩ := y
 simp only [skipF, eqClonePlace, Bool.or_eq_true, Bool.and_eq_true, decide_eq_true_eq, ClonePlace.mk.injEq, and_true, ge_iff_le, ne_eq]
theorem kclones_L6_ok {only : Int} {texts : List Text} {n : Int} (found : List (Clone × Unit)) (hl : found.length ≤ 1024) (hp : ∀ m : List Clone, m.Perm (found.map (·.1)) → sortF cloneCmp m = refL texts n only) (Q : (List Clone) × Int → Prop) (h : Q (refL texts n only, 0)) : lfp (S := (List Nat) × (List Clone)) (fun again193 ss => kclones_L6 found Q again193 ss.1 ss.2) (([] : List Nat), ([] : List Clone)) := by
 refine lfp2 (kclones_L6 found Q) (fun seen out => seen.Nodup ∧ (∀ i ∈ seen, i < found.length) ∧ out = seen.map (fun i => (gi found (i : Nat)).1)) (fun seen _ => found.length - seen.length) (fun seen out hst again hag => ?_) ⟨by simp, by simp, rfl⟩
 obtain ⟨h1, h2, rfl⟩ := hst
 have hlen : seen.length ≤ found.length := by
   have := nodup_leK (b := List.range found.length) h1 (fun x hx => by rw [List.mem_range]; exact h2 x hx)
   simpa using this
 refine ⟨fun hall => ⟨⟨cloneCmp_swo, by simp; omega⟩, ?_⟩, fun at_ ha hn => ⟨by simp; omega, hag _ _ ⟨?_, ?_, by simp⟩ ?_⟩⟩
 · rw [hp]
   · exact h
   · have hpm : seen.Perm (List.range found.length) := (List.perm_ext_iff_of_nodup h1 List.nodup_range).2 (fun i => ⟨fun hi => List.mem_range.2 (h2 i hi), fun hi => hall i (List.mem_range.1 hi)⟩)
     refine (hpm.map _).trans ?_
     have : (List.range found.length).map (fun i : Nat => (gi found (i : Int)).1) = found.map (·.1) := by
       apply List.ext_getElem
       · simp
       · intro i h1 h2
         simp only [List.getElem_map, List.getElem_range]
         rw [gi_nat (by simpa using h2)]
     rw [this]
 · rw [List.nodup_append]
   exact ⟨h1, by simp, fun a ha' b hb => by simp at hb; subst hb; exact fun e => hn (e ▸ ha')⟩
 · intro i hi
   rcases List.mem_append.1 hi with hi | hi
   · exact h2 i hi
   · simp at hi; omega
 · have := nodup_leK (a := seen ++ [at_]) (b := List.range found.length) (by
     rw [List.nodup_append]
     exact ⟨h1, by simp, fun a ha' b hb => by simp at hb; subst hb; exact fun e => hn (e ▸ ha')⟩) (fun x hx => by
     rw [List.mem_range]
     rcases List.mem_append.1 hx with hi | hi
     · exact h2 x hi
     · simp at hi; omega)
   simp at this ⊢; omega
section
variable {texts : List Text} {k w only : Int} (hp0 : okTs texts) (hp1 : ∀ t_ ∈ texts, validT t_ = true) (hp2 : sizeF k = true) (hp3 : sizeF w = true)
include hp0 hp1 hp2 hp3
theorem kclones_L3_ok {prints : List (List Print)} (Q : (List Clone) × Int → Prop) (h : Q (clonesF texts k w only)) (hpl : prints.length = texts.length) (hpr : ∀ j : Int, inL j texts.length → gi prints j = (printsF (gi texts j) k w).1) :
   lfp (S := (List (Clone × Unit)) × (List (CloneDiagonal × Int)) × Int) (fun again172 ss => kclones_L3 texts k w only prints (placesF (flatP 0 texts k w)) Q again172 ss.1 ss.2.1 ss.2.2) (([] : List (Clone × Unit)), ([] : List (CloneDiagonal × Int)), 0) := by
 obtain ⟨all, hall⟩ : ∃ all, all = flatP 0 texts k w := ⟨_, rfl⟩
 have hok := pairs_ok (texts := texts) hp1 hp2 hp3
 have hsc := scan_all hp1 hp2 hp3 only
 have hfl := flatP_len texts 0 k w hp0.2
 have hnl := hp0.1
 rw [← hall] at hok hsc hfl ⊢
 obtain ⟨R, hR⟩ : ∃ R, R = scanF texts (k + w - 1) only (pairsF all) ([], []) := ⟨_, rfl⟩
 rw [← hR] at hsc
 unfold clonesF at h
 have hflat : flatP 0 texts k w = flatP (0 : Int).toNat (texts.drop (0 : Int).toNat) k w := by simp
 -- the pairs that are left, from a place on
 have hmem : ∀ x2 : Int, 0 ≤ x2 → x2 ≤ texts.length → ∀ p ∈ flatP x2.toNat (texts.drop x2.toNat) k w, p ∈ all := fun x2 h0 h1 p hp => by
   rw [hall]
   have := flatP_appK k w (texts.take x2.toNat) (texts.drop x2.toNat) 0
   rw [List.take_append_drop, Nat.zero_add, List.length_take, show min x2.toNat texts.length = x2.toNat by omega] at this
   rw [this]; exact List.mem_append_right _ hp
 refine lfp3 (kclones_L3 texts k w only prints (placesF all) Q) (fun found seen x2 => 0 ≤ x2 ∧ x2 ≤ texts.length ∧ found.length ≤ 1024 ∧ scanF texts (k + w - 1) only ((flatP x2.toNat (texts.drop x2.toNat) k w).flatMap (pairsX all)) (seen, found) = R) (fun _ _ x2 => (texts.length - x2).toNat) (fun found seen x2 hst again hag => ?_) ⟨by omega, by omega, by simp, by rw [hR, ← hflat, ← hall]; rfl⟩
 obtain ⟨h0, h1, hfd, h2⟩ := hst
 refine ⟨fun hlt => ⟨by omega, ?_⟩, fun hn => ?_⟩
 · have hlt' : inL x2 texts.length := ⟨by omega, by omega⟩
   rw [flatP_at hlt'] at h2
   have hm2 := hmem x2 h0 h1
   rw [flatP_at hlt'] at hm2
   have hpx := hpr x2 hlt'
   have hwl := (hp0.2 _ (gi_mem hlt')).2.1
   have hpl' := prints_len (gi texts x2) k w
   generalize hP : (printsF (gi texts x2) k w).1 = P at *
   refine lfp3 (kclones_L4 texts k w only prints (placesF all) x2 Q again) (fun found seen x3 => 0 ≤ x3 ∧ x3 ≤ P.length ∧ found.length ≤ 1024 ∧ scanF texts (k + w - 1) only ((postsOf x2.toNat (P.drop x3.toNat) ++ flatP (x2 + 1).toNat (texts.drop (x2 + 1).toNat) k w).flatMap (pairsX all)) (seen, found) = R) (fun _ _ x3 => (P.length - x3).toNat) (fun found seen x3 hst again4 hag4 => ?_) ⟨by omega, by omega, hfd, h2⟩
   obtain ⟨g0, g1, gfd, g2⟩ := hst
   unfold kclones_L4
   rw [hpx]
   refine ⟨fun hlt3 => ⟨by omega, ?_⟩, fun hn3 => ⟨by omega, hag _ _ _ ⟨by omega, by omega, gfd, ?_⟩ (by omega)⟩⟩
   · have hlt3' : inL x3 P.length := ⟨by omega, by omega⟩
     rw [postsOf_at hlt3', show ((x2.toNat : Nat) : Int) = x2 by omega, List.cons_append, List.flatMap_cons] at g2
     have hx : (⟨(gi P x3).hash, x2, (gi P x3).at_⟩ : Pst) ∈ all := by
       refine hm2 _ (List.mem_append_left _ ?_)
       have := List.mem_of_mem_drop (i := x3.toNat) (l := postsOf x2.toNat P) (a := ⟨(gi P x3).hash, x2, (gi P x3).at_⟩) (by
         have e : (postsOf x2.toNat P).drop x3.toNat = postsOf x2.toNat (P.drop x3.toNat) := by simp [postsOf, List.map_drop]
         rw [e, postsOf_at hlt3', show ((x2.toNat : Nat) : Int) = x2 by omega]; simp)
       exact this
     generalize hrest : (postsOf x2.toNat (P.drop (x3 + 1).toNat) ++ flatP (x2 + 1).toNat (texts.drop (x2 + 1).toNat) k w).flatMap (pairsX all) = rest at *
     unfold pairsX at g2
     have hokx : ∀ y ∈ mget [] (placesF all) (gi P x3).hash, OkP texts (⟨x2, (gi P x3).at_⟩, y) := fun y hy => by
       refine hok (⟨x2, (gi P x3).at_⟩, y) (List.mem_flatMap.2 ⟨_, hx, ?_⟩)
       unfold pairsX
       exact List.mem_map.2 ⟨y, hy, rfl⟩
     have hyl := places_len all (gi P x3).hash
     generalize hY : mget [] (placesF all) (gi P x3).hash = Y at *
     refine lfp3 (kclones_L5 texts k w only prints (placesF all) x2 x3 Q again4) (fun found seen x4 => 0 ≤ x4 ∧ x4 ≤ Y.length ∧ found.length ≤ 1024 ∧ scanF texts (k + w - 1) only ((Y.drop x4.toNat).map (fun y => ((⟨x2, (gi P x3).at_⟩ : ClonePlace), y)) ++ rest) (seen, found) = R) (fun _ _ x4 => (Y.length - x4).toNat) (fun found seen x4 hst again5 hag5 => ?_) ⟨by omega, by omega, gfd, g2⟩
     obtain ⟨k0, k1, kfd, k2⟩ := hst
     unfold kclones_L5
     rw [hpx, hY]
     refine ⟨fun hlt4 => ⟨by omega, fun hs => ⟨by omega, hag5 _ _ _ ⟨by omega, by omega, kfd, ?_⟩ (by omega)⟩, fun hs => ⟨hp0, hokx _ (gi_mem (by omega)), fun hbig => ?_, fun hsm => ⟨by omega, hag5 _ _ _ ⟨by omega, by omega, by omega, ?_⟩ (by omega)⟩⟩⟩, fun hn4 => ⟨by omega, hag4 _ _ _ ⟨by omega, by omega, kfd, ?_⟩ (by omega)⟩⟩
     · rw [drop_gi (by omega), List.map_cons, List.cons_append, scanF, stepF, if_pos (skip_iff.2 hs)] at k2
       exact k2
     · have hsk : ¬ skipF only (⟨x2, (gi P x3).at_⟩ : ClonePlace) (gi Y x4) = true := fun hk => by
         have := skip_iff.1 hk
         obtain ⟨⟨⟨a1, a2⟩, a3⟩, a4⟩ := hs
         rcases this with ((b | b) | b) | b
         · rw [a1] at b; cases b
         · exact a2 b
         · exact a3.elim (fun f => f b.1) (fun f => f b.2)
         · exact a4.elim (fun f => f b.1) (fun f => b.2.elim (fun g => g f.1) (fun g => f.2 g))
       rw [drop_gi (by omega), List.map_cons, List.cons_append, scanF, stepF, if_neg hsk, if_pos (by simp only; omega)] at k2
       have hnone : R = none := k2.symm
       rcases hsc with ⟨_, s2⟩ | ⟨s, s1, _⟩
       · rw [if_pos s2] at h; exact h
       · rw [hnone] at s1; cases s1
     · have hsk : ¬ skipF only (⟨x2, (gi P x3).at_⟩ : ClonePlace) (gi Y x4) = true := fun hk => by
         have := skip_iff.1 hk
         obtain ⟨⟨⟨a1, a2⟩, a3⟩, a4⟩ := hs
         rcases this with ((b | b) | b) | b
         · rw [a1] at b; cases b
         · exact a2 b
         · exact a3.elim (fun f => f b.1) (fun f => f b.2)
         · exact a4.elim (fun f => f b.1) (fun f => b.2.elim (fun g => g f.1) (fun g => f.2 g))
       rw [drop_gi (by omega), List.map_cons, List.cons_append, scanF, stepF, if_neg hsk, if_neg (by simp only; omega)] at k2
       exact k2
     · rw [drop_end hn4] at k2
       rw [hrest]
       exact k2
   · rw [drop_end hn3] at g2
     exact g2
 · have : texts.drop x2.toNat = [] := drop_end (by omega)
   rw [this] at h2
   simp only [flatP, List.flatMap_nil, scanF] at h2
   rcases hsc with ⟨s1, _⟩ | ⟨s, s1, s2, s3⟩
   · rw [s1] at h2; cases h2
   · rw [if_neg s2] at h
     have : s = (seen, found) := by rw [s1] at h2; simpa using h2.symm
     subst this
     exact kclones_L6_ok found hfd s3 Q h
end
theorem kclones_ok (texts : (List Text)) (k : Int) (w : Int) (only_ : Int) (Q : (List Clone) × Int → Prop) (hp0 : okTs texts) (hp1 : ∀ t_ ∈ texts, validT t_ = true) (hp2 : sizeF k = true) (hp3 : sizeF w = true) (hp4 : inI only_) (h : Q (clonesF texts k w only_)) : kclones_vc texts k w only_ Q := by
 have hk := sizeF_pos hp2; have hw := sizeF_pos hp3
 have hnl := hp0.1
 refine ⟨by omega, by omega, ⟨⟨by omega, by omega⟩, by omega, by omega⟩, ?_⟩
 refine lfp3 (kclones_L1 texts k w only_ Q) (fun prints m x => 0 ≤ x ∧ x ≤ texts.length ∧ prints.length = texts.length ∧ (∀ j : Int, 0 ≤ j → j < x → gi prints j = (printsF (gi texts j) k w).1) ∧ m = placesF (flatP 0 (texts.take x.toNat) k w)) (fun _ _ x => (texts.length - x).toNat) (fun prints m x hst again hag => ?_) ⟨by omega, by omega, by simp, fun j h0 h1 => by omega, by simp [flatP, placesF]⟩
 obtain ⟨h0, h1, h2, h3, rfl⟩ := hst
 refine ⟨fun hlt => ⟨by omega, hp0.2 _ (gi_mem (by omega)), by omega, by rw [si_length]; omega, ?_⟩, fun hn => ?_⟩
 · have hx : inL x texts.length := ⟨by omega, by omega⟩
   have hg : gi (si prints x (printsF (gi texts x) k w).1) x = (printsF (gi texts x) k w).1 := by rw [gi_siK (by omega) _ (by omega), if_pos rfl]
   have hwl := (hp0.2 _ (gi_mem hx)).2.1
   have hpl := prints_len (gi texts x) k w
   have htk := flatP_takeK hx k w
   have hfl := flatP_len (texts.take x.toNat) 0 k w (fun t ht => hp0.2 t (List.mem_of_mem_take ht))
   rw [List.length_take] at hfl
   have hfl2 : min x.toNat texts.length * 1000001 ≤ 1000 * 1000001 := Nat.mul_le_mul_right _ (by omega)
   refine lfp2 (kclones_L2 texts k w prints x again) (fun m x1 => 0 ≤ x1 ∧ x1 ≤ (printsF (gi texts x) k w).1.length ∧ m = placesF (flatP 0 (texts.take x.toNat) k w ++ (postsOf x.toNat (printsF (gi texts x) k w).1).take x1.toNat)) (fun _ x1 => ((printsF (gi texts x) k w).1.length - x1).toNat) (fun m x1 hst again9 hag9 => ?_) ⟨by omega, by omega, by simp⟩
   obtain ⟨g0, g1, rfl⟩ := hst
   unfold kclones_L2
   rw [hg]
   refine ⟨fun hlt1 => ?_, fun hn1 => ⟨by omega, hag _ _ _ ⟨by omega, by omega, by rw [si_length]; exact h2, fun j j0 j1 => ?_, ?_⟩ (by omega)⟩⟩
   · have hx1 : inL x1 (printsF (gi texts x) k w).1.length := ⟨by omega, by omega⟩
     have hlen := places_len (flatP 0 (texts.take x.toNat) k w ++ (postsOf x.toNat (printsF (gi texts x) k w).1).take x1.toNat) (gi (printsF (gi texts x) k w).1 x1).hash
     rw [List.length_append, List.length_take, postsOf_lenK] at hlen
     refine ⟨by omega, ⟨by simp only [List.length_singleton]; omega, by simp only [List.length_singleton]; omega⟩, places_nd _, by omega, hag9 _ _ ⟨by omega, by omega, ?_⟩ (by omega)⟩
     rw [tk_gi (by rw [postsOf_lenK]; omega), ← List.append_assoc, places_snoc, gi_posts hx1, putP, show ((x.toNat : Nat) : Int) = x by omega]
     rfl
   · by_cases e : j = x
     · subst e; exact hg
     · rw [gi_siK (by omega) _ j0, if_neg e]; exact h3 j j0 (by omega)
   · rw [htk, show (postsOf x.toNat (printsF (gi texts x) k w).1).take x1.toNat = postsOf x.toNat (printsF (gi texts x) k w).1 from List.take_of_length_le (by rw [postsOf_lenK]; omega)]
 · have e : texts.take x.toNat = texts := List.take_of_length_le (by omega)
   rw [e]
   exact kclones_L3_ok hp0 hp1 hp2 hp3 Q h h2 (fun j hj => h3 j hj.1 (by have := hj.2; omega))
end Go.Lic
