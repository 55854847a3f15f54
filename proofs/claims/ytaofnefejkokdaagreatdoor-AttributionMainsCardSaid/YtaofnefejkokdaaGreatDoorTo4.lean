/-
  The conditions of functions of chapter 30 hold: the reference's sources, lengths, lines that are unknown. No program in sight.
-/
import Derived.Test.YtaofnefejkokdaaGreatDoorTo2
set_option linter.all false
namespace Go.Lic
open Go.Proofs Go.Sort Go.Shelf
theorem common_drop {A B : List Lexeme} {i j : Int} (hi : inL i A.length) (hj : inL j B.length) (h : (gi A i).text = (gi B j).text) : commonW (A.drop i.toNat) (B.drop j.toNat) = commonW (A.drop (i + 1).toNat) (B.drop (j + 1).toNat) + 1 := by
 rw [drop_gi hi, drop_gi hj, commonW, if_pos h]
theorem common_stop {A B : List Lexeme} {i j : Int} (hi : 0 ≤ i) (hj : 0 ≤ j) (h : ¬ i < A.length ∨ ¬ j < B.length ∨ (inL i A.length ∧ inL j B.length ∧ ¬ (gi A i).text = (gi B j).text)) : commonW (A.drop i.toNat) (B.drop j.toNat) = 0 := by
 rcases h with h | h | ⟨h1, h2, h3⟩
 · rw [drop_end h]; rfl
 · rw [drop_end h]; exact common_nilR _
 · rw [drop_gi h1, drop_gi h2, commonW, if_neg h3]
def srcAt3 (x : Int) (o : Option (Nat × Nat)) : Int × Int × Bool := ((srcAt x o).1, (srcAt x o).2, o.isSome)
theorem srcAt3_found {x : Int} {a : List Lexeme} {t : Text} {ts : List Text} {k : Nat} (h : srcW a t.words = some k) : srcAt3 x (srcT a (t :: ts)) = (x, (k : Int), true) := by
 unfold srcAt3; rw [srcAt_found h, srcT, h]; rfl
theorem srcAt3_next {x : Int} {a : List Lexeme} {t : Text} {ts : List Text} (h : srcW a t.words = none) : srcAt3 x (srcT a (t :: ts)) = srcAt3 (x + 1) (srcT a ts) := by
 unfold srcAt3; rw [srcAt_next h, srcT, h]; simp
theorem rsource_ok (c : Corpus) (t : Text) (from_ : Int) (to : Int) (Q : Int × Int × Bool → Prop) (hp0 : okC c) (hp1 : okT t) (hp2 : 0 ≤ from_) (hp3 : from_ ≤ to) (hp4 : to ≤ (t.words.length : Int)) (h : Q (srcR c t from_ to)) : rsource_vc c t from_ to Q := by
 have hcl := hp0.1.1; have htl := hp1.2.1
 have hs : inS from_ to t.words.length := by omega
 have hl := lsub_length hs
 refine lfp_of (fun x : Int => 0 ≤ x ∧ x ≤ c.texts.length ∧ srcAt3 x (srcT (lsub t.words from_ to) (c.texts.drop x.toNat)) = srcR c t from_ to) (fun x => (c.texts.length - x).toNat) (fun x hx again hag => ?_) ⟨by omega, by omega, ?_⟩
 · obtain ⟨h0, h1, h2⟩ := hx
   refine ⟨fun hlt => ?_, fun hn => ?_⟩
   · have hx : inL x c.texts.length := by omega
     have hwl := (hp0.1.2 _ (gi_mem hx)).2.1
     rw [drop_gi hx] at h2
     refine lfp_of (fun y : Int => 0 ≤ y ∧ y ≤ (gi c.texts x).words.length ∧ ∀ j : Nat, (j : Int) < y → commonW ((gi c.texts x).words.drop j) (lsub t.words from_ to) ≠ (lsub t.words from_ to).length) (fun y => ((gi c.texts x).words.length - y).toNat) (fun y hy again5 hag5 => ?_) ⟨by omega, by omega, fun j hj => by omega⟩
     obtain ⟨g0, g1, g2⟩ := hy
     refine ⟨hx, fun hlt1 => ?_, fun hn1 => ⟨by omega, hag _ ⟨by omega, by omega, ?_⟩ (by omega)⟩⟩
     · refine lfp_of (fun n : Int => 0 ≤ n ∧ n ≤ to - from_ ∧ y + n ≤ (gi c.texts x).words.length ∧ (commonW ((gi c.texts x).words.drop y.toNat) (lsub t.words from_ to) : Int) = n + commonW ((gi c.texts x).words.drop (y + n).toNat) ((lsub t.words from_ to).drop n.toNat)) (fun n => (to - from_ - n).toNat) (fun n hn again7 hag7 => ?_) ⟨by omega, by omega, by omega, by simp⟩
       obtain ⟨k0, k1, k2, k3⟩ := hn
       refine ⟨by omega, fun _ => ⟨by omega, hx⟩, fun hb => ⟨hx, by omega, by omega, by omega⟩, fun hb => ⟨by omega, hag7 _ ⟨by omega, by omega, by omega, ?_⟩ (by omega)⟩, fun hb => ⟨by omega, fun he => ?_, fun hne => ⟨by omega, hag5 _ ⟨by omega, by omega, fun j hj => ?_⟩ (by omega)⟩⟩⟩
       · rw [common_drop (by omega) (by omega) (by rw [gi_lsubA hs (by omega)]; exact hb.2)] at k3
         rw [k3, show y + (n + 1) = y + n + 1 by omega]; omega
       all_goals
         rw [common_stop (by omega) (by omega) (by
           rcases hb with (hb | hb) | hb
           · right; left; omega
           · left; omega
           · by_cases q1 : y + n < (gi c.texts x).words.length
             · by_cases q2 : n < (lsub t.words from_ to).length
               · right; right; exact ⟨by omega, by omega, by rw [gi_lsubA hs (by omega)]; exact hb⟩
               · right; left; exact q2
             · left; exact q1)] at k3
       · have hy : y.toNat < (gi c.texts x).words.length := by omega
         have e := srcW_first (a := lsub t.words from_ to) hy (by omega) (fun j hj => g2 j (by omega))
         rw [srcAt3_found e, show ((y.toNat : Nat) : Int) = y by omega] at h2
         rw [← h2] at h; exact h
       · rcases Int.lt_or_eq_of_le (show (j : Int) ≤ y by omega) with hlt2 | rfl
         · exact g2 j hlt2
         · intro hc
           simp only [Int.toNat_natCast] at k3
           omega
     · rw [srcAt3_next (srcW_not (fun j hj => g2 j (by omega)))] at h2; exact h2
   · rw [drop_end (by omega)] at h2
     rw [← h2] at h; exact h
 · unfold srcAt3 srcR
   simp only [Int.toNat_zero, List.drop_zero]
   rw [srcAt_zero]
theorem srcT_iff {ts : List Text} {w : List Lexeme} {m : Nat} (h0 : 0 < m) (hm : m ≤ w.length) : (srcT (w.take m) ts).isSome = true ↔ m ≤ longW ts w := by
 constructor
 · intro h
   obtain ⟨p, hp⟩ := Option.isSome_iff_exists.1 h
   obtain ⟨h1, h2, _⟩ := srcT_some hp
   obtain ⟨h3, h4, _⟩ := srcW_some h2
   rw [common_takeR, List.length_take] at h4
   have h5 := runMax_ge w (ts[p.1]).words p.2
   have h6 := longW_ge (a := w) (List.getElem_mem h1)
   omega
 · intro h
   obtain ⟨p, hp⟩ := srcT_ex h0 h
   rw [hp]; rfl
theorem rlongest_ok (c : Corpus) (t : Text) (from_ : Int) (Q : Int → Prop) (hp0 : okC c) (hp1 : okT t) (hp2 : 0 ≤ from_) (hp3 : from_ < (t.words.length : Int)) (h : Q ((((longW c.texts (t.words.drop (Int.toNat from_))) : Nat) : Int))) : rlongest_vc c t from_ Q := by
 have htl := hp1.2.1
 have hle := longW_le c.texts (t.words.drop from_.toNat)
 rw [List.length_drop] at hle
 refine ⟨by omega, ?_⟩
 refine lfp2 (rlongest_L1 c t from_ Q) (fun out to => from_ + 1 ≤ to ∧ to ≤ t.words.length + 1 ∧ out = to - 1 - from_ ∧ out ≤ longW c.texts (t.words.drop from_.toNat)) (fun _ to => (t.words.length + 1 - to).toNat) (fun out to hst again hag => ?_) ⟨by omega, by omega, by omega, by omega⟩
 obtain ⟨h0, h1, h2, h3⟩ := hst
 have key : to ≤ t.words.length → ((srcR c t from_ to).2.2 = true ↔ to - from_ ≤ longW c.texts (t.words.drop from_.toNat)) := fun hto => by
   unfold srcR
   simp only
   rw [lsub_eq _ hp2 (by omega), srcT_iff (by omega) (by rw [List.length_drop]; omega)]
   omega
 refine ⟨fun hlt => ⟨hp0, hp1, hp2, by omega, by omega, fun hf => ?_, fun ht => ⟨by omega, by omega, hag _ _ ⟨by omega, by omega, by omega, (key hlt).1 ht⟩ (by omega)⟩⟩, fun hn => ?_⟩
 · have : ¬ to - from_ ≤ longW c.texts (t.words.drop from_.toNat) := fun hh => by rw [(key hlt).2 hh] at hf; cases hf
   rw [show ((longW c.texts (t.words.drop from_.toNat) : Nat) : Int) = out by omega] at h; exact h
 · rw [show ((longW c.texts (t.words.drop from_.toNat) : Nat) : Int) = out by omega] at h; exact h
end Go.Lic
set_option linter.all false
namespace Go.Lic
open Go.Proofs Go.Sort Go.Shelf
theorem longW_succ {ts : List Text} {a : List Lexeme} {x : Int} (h : inL x ts.length) : longW (ts.take (x + 1).toNat) a = max (longW (ts.take x.toNat) a) (runMax a (gi ts x).words) := by
 unfold longW
 rw [show (x + 1).toNat = x.toNat + 1 by omega, List.take_succ, gi_get? h, List.foldl_append]; rfl
theorem runMax_drop {a l : List Lexeme} {j : Int} (h : inL j l.length) : runMax a (l.drop j.toNat) = max (commonW (l.drop j.toNat) a) (runMax a (l.drop (j + 1).toNat)) := by
 rw [drop_gi h]; rfl
theorem gi_replA {n : Int} {i : Int} : gi (List.replicate n.toNat (0 : Int)) i = 0 := gi_rep
structure LongJ (c : Corpus) (t : Text) (x : Int) (runs out : List Int) (ix : Int) : Prop where
 lo : -1 ≤ ix
 hi : ix ≤ (t.words.length : Int) - 1
 lr : (runs.length : Int) = (gi c.texts x).words.length + 1
 lo' : out.length = t.words.length
 rn : ∀ j : Int, 0 ≤ j → j ≤ (gi c.texts x).words.length → gi runs j = (commonW ((gi c.texts x).words.drop j.toNat) (t.words.drop (ix + 1).toNat) : Nat)
 ou : ∀ i : Int, inL i t.words.length → gi out i = if i ≤ ix then ((longW (c.texts.take x.toNat) (t.words.drop i.toNat) : Nat) : Int) else ((longW (c.texts.take (x + 1).toNat) (t.words.drop i.toNat) : Nat) : Int)
theorem longAF_gi {c : Corpus} {t : Text} {j : Int} (h : inL j t.words.length) : gi (longAF c t) j = ((longW c.texts (t.words.drop j.toNat) : Nat) : Int) := by
 unfold longAF
 rw [gi_map (by rw [longsN_len]; exact h)]
 have := longsN_get c.texts t.words j.toNat (by omega)
 rw [← this]; rfl
theorem tlongest_ok (c : Corpus) (t : Text) (Q : (List Int) → Prop) (hp0 : okC c) (hp1 : okT t) (h : Q (longAF c t)) : tlongest_vc c t Q := by
 have hcl := hp0.1.1; have htl := hp1.2.1
 refine ⟨⟨by omega, by omega, by omega⟩, ?_⟩
 refine lfp2 (tlongest_L1 c t Q) (fun out x => 0 ≤ x ∧ x ≤ c.texts.length ∧ out.length = t.words.length ∧ ∀ i : Int, inL i t.words.length → gi out i = ((longW (c.texts.take x.toNat) (t.words.drop i.toNat) : Nat) : Int)) (fun _ x => (c.texts.length - x).toNat) (fun out x hst again hag => ?_) ⟨by omega, by omega, by simp, fun i hi => by rw [gi_replA]; simp [longW]⟩
 obtain ⟨h0, h1, h2, h3⟩ := hst
 refine ⟨fun hlt => ?_, fun hn => ?_⟩
 · have hx : inL x c.texts.length := by omega
   have hkl := (hp0.1.2 _ (gi_mem hx)).2.1
   refine ⟨hx, by omega, ⟨by omega, by omega, by omega⟩, by omega, (fun s => LongJ c t x s.1.1 s.1.2 s.2), ⟨by simp only; omega, by simp only; omega, by simp only [List.length_replicate]; omega, h2, fun j k0 k1 => ?_, fun i hi => ?_⟩, ?_⟩
   · simp only
     rw [gi_replA, show ((t.words.length : Int) - 1 + 1).toNat = t.words.length by omega, List.drop_length, common_nilR]; rfl
   · simp only
     rw [if_pos (by omega)]; exact h3 i hi
   rintro ⟨⟨runs, out1⟩, ix⟩ J
   simp only at J ⊢
   have jl := J.lo; have jh := J.hi; have jr := J.lr; have jo := J.lo'
   refine ⟨fun hix => ?_, fun hn => ⟨by omega, hag _ _ ⟨by omega, by omega, J.lo', fun i hi => ?_⟩ (by omega)⟩⟩
   · have hixl : inL ix t.words.length := by omega
     refine lfp3 (tlongest_L3 c t x ix _) (fun rs os y => 0 ≤ y ∧ y ≤ (gi c.texts x).words.length ∧ (rs.length : Int) = (gi c.texts x).words.length + 1 ∧ os.length = t.words.length ∧
         (∀ j : Int, 0 ≤ j → j ≤ (gi c.texts x).words.length → gi rs j = if j < y then ((commonW ((gi c.texts x).words.drop j.toNat) (t.words.drop ix.toNat) : Nat) : Int) else ((commonW ((gi c.texts x).words.drop j.toNat) (t.words.drop (ix + 1).toNat) : Nat) : Int)) ∧
         (∀ i : Int, inL i t.words.length → i ≠ ix → gi os i = gi out1 i) ∧ max (gi os ix) ((runMax (t.words.drop ix.toNat) ((gi c.texts x).words.drop y.toNat) : Nat) : Int) = ((longW (c.texts.take (x + 1).toNat) (t.words.drop ix.toNat) : Nat) : Int) ∧ 0 ≤ gi os ix)
       (fun _ _ y => ((gi c.texts x).words.length - y).toNat) (fun rs os y hst again12 hag12 => ?_) ⟨by omega, by omega, J.lr, J.lo', fun j k0 k1 => by rw [if_neg (by omega)]; exact J.rn j k0 k1, fun _ _ _ => rfl, ?_, by have e1 := J.ou ix hixl; rw [if_pos (by omega)] at e1; omega⟩
     · obtain ⟨g0, g1, g2, g3, g4, g5, g6, g7⟩ := hst
       have fin : ∀ v : Int, y < (gi c.texts x).words.length → v = ((commonW ((gi c.texts x).words.drop y.toNat) (t.words.drop ix.toNat) : Nat) : Int) → tlongest_J1 ix os y again12 (si rs y v) := fun v hlt hv => by
         have hyl : inL y rs.length := by omega
         have hol : inL ix os.length := by omega
         have e1 : gi (si rs y v) y = v := by rw [gi_siA hyl v (by omega), if_pos rfl]
         refine ⟨hol, by rw [si_length]; exact hyl, by omega, hag12 _ _ _ ⟨by omega, by omega, by rw [si_length]; exact g2, by rw [si_length]; exact g3, fun j k0 k1 => ?_, fun i hi hne => ?_, ?_, ?_⟩ (by omega)⟩
         · rw [gi_siA hyl v k0]
           by_cases hj : j = y
           · subst hj; rw [if_pos rfl, if_pos (by omega)]; exact hv
           · rw [if_neg hj, g4 j k0 k1]
             by_cases hlt2 : j < y
             · rw [if_pos hlt2, if_pos (by omega)]
             · rw [if_neg hlt2, if_neg (by omega)]
         · rw [gi_siA hol _ hi.1, if_neg hne]; exact g5 i hi hne
         · rw [gi_siA hol _ hixl.1, if_pos rfl, gmax1, e1, hv]
           rw [runMax_drop (by omega)] at g6
           omega
         · rw [gi_siA hol _ hixl.1, if_pos rfl, gmax1]; omega
       refine ⟨fun hlt => ⟨by omega, fun he => ?_, fun hne => ⟨by omega, fin 0 hlt ?_⟩⟩, fun hn => ?_⟩
       · have e1 := g4 (y + 1) (by omega) (by omega)
         rw [if_neg (by omega)] at e1
         have b1 := (common_le ((gi c.texts x).words.drop (y + 1).toNat) (t.words.drop (ix + 1).toNat)).1
         rw [List.length_drop] at b1
         refine ⟨by omega, by omega, by omega, by omega, fin _ hlt ?_⟩
         rw [common_drop (i := y) (j := ix) (by omega) hixl he, e1]; omega
       · rw [common_stop (i := y) (j := ix) (by omega) (by omega) (.inr (.inr ⟨by omega, hixl, hne⟩))]; rfl
       · have hy : y = (gi c.texts x).words.length := by omega
         refine ⟨by omega, by omega, g2, g3, fun j k0 k1 => ?_, fun i hi => ?_⟩
         · simp only
           rw [show ix - 1 + 1 = ix by omega]
           by_cases hj : j < y
           · rw [g4 j k0 k1, if_pos hj]
           · have e1 := g4 j k0 k1
             rw [if_neg hj] at e1
             have hjd : (gi c.texts x).words.drop j.toNat = [] := List.drop_eq_nil_of_le (by omega)
             rw [hjd] at e1 ⊢; rw [e1]; rfl
         · simp only
           rw [drop_end (l := (gi c.texts x).words) (by omega)] at g6
           have e0 : runMax (t.words.drop ix.toNat) [] = 0 := rfl
           rw [e0] at g6
           by_cases hie : i = ix
           · subst hie
             rw [if_neg (by omega)]
             have := J.ou i hi
             omega
           · rw [g5 i hi hie, J.ou i hi]
             by_cases hl : i ≤ ix
             · rw [if_pos hl, if_pos (by omega)]
             · rw [if_neg hl, if_neg (by omega)]
     · have e1 := J.ou ix hixl
       rw [if_pos (by omega)] at e1
       rw [e1, longW_succ hx]
       simp only [Int.toNat_zero, List.drop_zero]
       omega
   · have := J.ou i hi
     rw [if_neg (by omega)] at this
     exact this
 · have hx : x.toNat = c.texts.length := by omega
   rw [hx, List.take_length] at h3
   have e : out = longAF c t := by
     refine list_ext_gi (by simp [longAF, longsN_len, h2]) fun j k0 k1 => ?_
     rw [h3 j (by omega)]
     exact (longAF_gi (by omega)).symm
   rw [e]; exact h
end Go.Lic
