/-
  The conditions of functions of chapter 30 hold: the reference's sources, lengths, lines that are unknown. No program in sight.
-/
import Derived.Test.YtaofnefejkokdaaGreatDoorTo2
set_option linter.all false
namespace Go.Lic
open Go.Proofs Go.Sort Go.Shelf
theorem common_drop {A B : List Lexeme} {i j : Int} (hi : inL i A.length) (hj : inL j B.length) (h : (gi A i).text = (gi B j).text) : commonW (A.drop i.toNat) (B.drop j.toNat) = commonW (A.drop (i + 1).toNat) (B.drop (j + 1).toNat) + 1 := by
 rw [drop_gi hi, drop_gi hj, commonW, if_pos h]
theorem common_stop {A B : List Lexeme} {i j : Int} (hi : 0 ≤ i) (hj : 0 ≤ j) (h : ¬ i < A.length ∨ ¬ j < B.length ∨ (inL i A.length ∧ inL j B.length ∧ ¬ (gi A i).text = (gi B j).text)) : commonW (A.drop i.toNat) (B.drop j.toNat) = 0 := by
 rcases h with h | h | ⟨h1, h2, h3⟩
 · rw [drop_end h]; rfl
 · rw [drop_end h]; exact common_nilR _
 · rw [drop_gi h1, drop_gi h2, commonW, if_neg h3]
theorem restL_sub {t : Text} : ∀ (l : List Piece) (e : Int) (x : List Line), 0 ≤ e → restL t e l = some x → ∃ w : List Lexeme, w.Sublist (t.words.drop e.toNat) ∧ x = linesW t w
 | [], e, x, _, h => by
   rw [restL] at h; cases h
   exact ⟨_, List.Sublist.refl _, rfl⟩
 | p :: l, e, x, he, h => by
   rw [restL] at h
   split at h
   · next hp =>
     rw [Bool.and_eq_true, decide_eq_true_eq] at hp
     obtain ⟨k1, k2, k3⟩ := (rangedF_iff _ _).1 hp.1
     obtain ⟨y, hy, rfl⟩ := Option.map_eq_some_iff.1 h
     obtain ⟨w, hw, rfl⟩ := restL_sub l p.to y (by omega) hy
     refine ⟨lsub t.words e p.from_ ++ w, ?_, (linesW_app _ _ _).symm⟩
     have e1 : t.words.drop e.toNat = lsub t.words e p.from_ ++ t.words.drop p.from_.toNat := by
       rw [lsub_eq _ he (by omega)]
       have := (List.take_append_drop (p.from_ - e).toNat (t.words.drop e.toNat)).symm
       rw [List.drop_drop, show e.toNat + (p.from_ - e).toNat = p.from_.toNat by omega] at this
       exact this
     rw [e1]
     refine (List.Sublist.refl _).append (hw.trans ?_)
     rw [show p.to.toNat = p.from_.toNat + (p.to - p.from_).toNat by omega, ← List.drop_drop]
     exact List.drop_sublist _ _
   · cases h
theorem runknown_ok (t : Text) (a : Attribution) (Q : (List Span) × Int → Prop) (hp0 : okT t) (hp1 : okA a) (h : Q (unknownF t a)) : runknown_vc t a Q := by
 unfold unknownF at h
 have hal := hp1.2; have htl := hp0.2.1
 refine ⟨hp0, fun hv => by rw [hv] at h; exact h, fun hv => ?_⟩
 rw [hv, if_pos rfl] at h
 obtain ⟨v1, v2, v3⟩ := valid_parts hv
 refine ⟨fun hp => by rw [if_neg hp] at h; exact h, fun hp => ?_⟩
 rw [if_pos hp] at h
 have hline : ∀ {z : Line}, z ∈ linesW t t.words → inI (z.n + 1) := fun {z} hz => by
   unfold linesW at hz
   obtain ⟨w, hw, rfl⟩ := List.mem_map.1 hz
   have := wordsA_line v3 w hw
   simp only; omega
 refine lfp3 (runknown_L1 t a Q) (fun l e i => 0 ≤ i ∧ i ≤ a.pieces.length + 1 ∧ 0 ≤ e ∧ e ≤ t.words.length ∧ (l.length : Int) ≤ e ∧ (∀ z ∈ l, inI (z.n + 1)) ∧ (i ≤ a.pieces.length → (restL t e (a.pieces.drop i.toNat)).map (fun y => l ++ y) = restL t 0 a.pieces) ∧ (a.pieces.length < i → restL t 0 a.pieces = some l)) (fun _ _ i => (a.pieces.length + 1 - i).toNat) (fun l e i hst again hag => ?_) ⟨by omega, by omega, by omega, by omega, by simp, by simp, fun _ => by simp, fun hh => by omega⟩
 obtain ⟨h0, h1, h2, h3, h4, h5, h6, h7⟩ := hst
 -- the lines ahead of a piece
 have ahead : ∀ (v : Piece), e ≤ v.from_ → v.from_ ≤ v.to → v.to ≤ t.words.length → i ≤ a.pieces.length → (∀ l', l' = l ++ linesW t (lsub t.words e v.from_) → (l'.length : Int) ≤ v.to → (∀ z ∈ l', inI (z.n + 1)) → again (l', v.to, i + 1)) → runknown_J1 t l e i again v := by
   intro v hv1 hv2 hv3 hi hnext
   refine lfp2 (runknown_L2 t i v again) (fun l1 k => e ≤ k ∧ k ≤ v.from_ ∧ l1 = l ++ linesW t (lsub t.words e k)) (fun _ k => (v.from_ - k).toNat) (fun l1 k hst again9 hag9 => ?_) ⟨by omega, by omega, ?_⟩
   · obtain ⟨g0, g1, rfl⟩ := hst
     have hs : inS e k t.words.length := by omega
     have hl := lsub_length hs
     refine ⟨fun hlt => ⟨by omega, ⟨by simp only [List.length_append, linesW_len, List.length_singleton]; omega, by simp only [List.length_append, linesW_len, List.length_singleton]; omega⟩, by omega, hag9 _ _ ⟨by omega, by omega, ?_⟩ (by omega)⟩, fun hn => ⟨by omega, ?_⟩⟩
     · have e1 : lsub t.words e (k + 1) = lsub t.words e k ++ [gi t.words k] := by
         unfold lsub
         rw [show (k + 1).toNat = k.toNat + 1 by omega, List.take_succ, gi_get? (by omega)]
         rw [List.drop_append_of_le_length (by rw [List.length_take]; omega)]; rfl
       rw [e1, linesW_app, ← List.append_assoc]; rfl
     · have hk : k = v.from_ := by omega
       subst hk
       refine hnext _ rfl ?_ (fun z hz => ?_)
       · rw [List.length_append, linesW_len]; omega
       · rcases List.mem_append.1 hz with hz | hz
         · exact h5 z hz
         · refine hline ?_
           unfold linesW lsub at hz; unfold linesW
           obtain ⟨w, hw, rfl⟩ := List.mem_map.1 hz
           exact List.mem_map.2 ⟨w, List.mem_of_mem_take (List.mem_of_mem_drop hw), rfl⟩
   · have : lsub t.words e e = [] := by unfold lsub; rw [List.drop_eq_nil_of_le]; rw [List.length_take]; omega
     rw [this]; simp [linesW]
 refine ⟨fun hle => ⟨fun hlt => ⟨by omega, fun hb => ?_, fun hg => ?_⟩, fun hn => ?_⟩, fun hn => ?_⟩
 · have h6 := h6 hle
   rw [drop_gi (x := i) (by omega), restL, if_neg] at h6
   · rw [← h6] at h; exact h
   · rw [Bool.and_eq_true, decide_eq_true_eq, rangedF_iff]; omega
 · refine ahead _ (by omega) (by omega) (by omega) hle fun l' hl' k1 k2 => hag _ _ _ ⟨by omega, by omega, by omega, by omega, k1, k2, fun _ => ?_, fun hh => by omega⟩ (by omega)
   have h6 := h6 hle
   rw [drop_gi (x := i) (by omega), restL, if_pos (by rw [Bool.and_eq_true, decide_eq_true_eq, rangedF_iff]; omega), Option.map_map] at h6
   rw [← h6, hl']; congr 1; funext y; simp
 · refine ahead _ (by simp only; omega) (by simp only; omega) (by simp only; omega) hle fun l' hl' k1 k2 => hag _ _ _ ⟨by omega, by omega, by simp only; omega, by simp only; omega, k1, k2, fun hh => by omega, fun _ => ?_⟩ (by omega)
   have h6 := h6 hle
   rw [drop_end (by omega), restL] at h6
   rw [← h6, hl']
   simp only [Option.map_some, lsub_from]
 · have h8 := h7 (by omega)
   rw [h8] at h
   obtain ⟨w, hw, rfl⟩ := restL_sub _ _ _ (by omega) h8
   simp only [Int.toNat_zero, List.drop_zero] at hw
   simp only at h
   rw [ofF_lines hv hw] at h
   exact ⟨by rw [linesW_len]; have := hw.length_le; omega, h5, h⟩
end Go.Lic
set_option linter.all false
namespace Go.Lic
open Go.Proofs Go.Sort Go.Shelf
theorem longW_succ {ts : List Text} {a : List Lexeme} {x : Int} (h : inL x ts.length) : longW (ts.take (x + 1).toNat) a = max (longW (ts.take x.toNat) a) (runMax a (gi ts x).words) := by
 unfold longW
 rw [show (x + 1).toNat = x.toNat + 1 by omega, List.take_succ, gi_get? h, List.foldl_append]; rfl
theorem runMax_drop {a l : List Lexeme} {j : Int} (h : inL j l.length) : runMax a (l.drop j.toNat) = max (commonW (l.drop j.toNat) a) (runMax a (l.drop (j + 1).toNat)) := by
 rw [drop_gi h]; rfl
theorem gi_replA {n : Int} {i : Int} : gi (List.replicate n.toNat (0 : Int)) i = 0 := gi_rep
structure LongJ (c : Corpus) (t : Text) (x : Int) (runs out : List Int) (ix : Int) : Prop where
 lo : -1 ≤ ix
 hi : ix ≤ (t.words.length : Int) - 1
 lr : (runs.length : Int) = (gi c.texts x).words.length + 1
 lo' : out.length = t.words.length
 rn : ∀ j : Int, 0 ≤ j → j ≤ (gi c.texts x).words.length → gi runs j = (commonW ((gi c.texts x).words.drop j.toNat) (t.words.drop (ix + 1).toNat) : Nat)
 ou : ∀ i : Int, inL i t.words.length → gi out i = if i ≤ ix then ((longW (c.texts.take x.toNat) (t.words.drop i.toNat) : Nat) : Int) else ((longW (c.texts.take (x + 1).toNat) (t.words.drop i.toNat) : Nat) : Int)
theorem longAF_gi {c : Corpus} {t : Text} {j : Int} (h : inL j t.words.length) : gi (longAF c t) j = ((longW c.texts (t.words.drop j.toNat) : Nat) : Int) := by
 unfold longAF
 rw [gi_map (by rw [longsN_len]; exact h)]
 have := longsN_get c.texts t.words j.toNat (by omega)
 rw [← this]; rfl
theorem tlongest_ok (c : Corpus) (t : Text) (Q : (List Int) → Prop) (hp0 : okC c) (hp1 : okT t) (h : Q (longAF c t)) : tlongest_vc c t Q := by
 have hcl := hp0.1.1; have htl := hp1.2.1
 refine ⟨⟨by omega, by omega, by omega⟩, ?_⟩
 refine lfp2 (tlongest_L1 c t Q) (fun out x => 0 ≤ x ∧ x ≤ c.texts.length ∧ out.length = t.words.length ∧ ∀ i : Int, inL i t.words.length → gi out i = ((longW (c.texts.take x.toNat) (t.words.drop i.toNat) : Nat) : Int)) (fun _ x => (c.texts.length - x).toNat) (fun out x hst again hag => ?_) ⟨by omega, by omega, by simp, fun i hi => by rw [gi_replA]; simp [longW]⟩
 obtain ⟨h0, h1, h2, h3⟩ := hst
 refine ⟨fun hlt => ?_, fun hn => ?_⟩
 · have hx : inL x c.texts.length := by omega
   have hkl := (hp0.1.2 _ (gi_mem hx)).2.1
   refine ⟨hx, by omega, ⟨by omega, by omega, by omega⟩, by omega, (fun s => LongJ c t x s.1.1 s.1.2 s.2), ⟨by simp only; omega, by simp only; omega, by simp only [List.length_replicate]; omega, h2, fun j k0 k1 => ?_, fun i hi => ?_⟩, ?_⟩
   · simp only
     rw [gi_replA, show ((t.words.length : Int) - 1 + 1).toNat = t.words.length by omega, List.drop_length, common_nilR]; rfl
   · simp only
     rw [if_pos (by omega)]; exact h3 i hi
   rintro ⟨⟨runs, out1⟩, ix⟩ J
   simp only at J ⊢
   have jl := J.lo; have jh := J.hi; have jr := J.lr; have jo := J.lo'
   refine ⟨fun hix => ?_, fun hn => ⟨by omega, hag _ _ ⟨by omega, by omega, J.lo', fun i hi => ?_⟩ (by omega)⟩⟩
   · have hixl : inL ix t.words.length := by omega
     refine lfp3 (tlongest_L3 c t x ix _) (fun rs os y => 0 ≤ y ∧ y ≤ (gi c.texts x).words.length ∧ (rs.length : Int) = (gi c.texts x).words.length + 1 ∧ os.length = t.words.length ∧
         (∀ j : Int, 0 ≤ j → j ≤ (gi c.texts x).words.length → gi rs j = if j < y then ((commonW ((gi c.texts x).words.drop j.toNat) (t.words.drop ix.toNat) : Nat) : Int) else ((commonW ((gi c.texts x).words.drop j.toNat) (t.words.drop (ix + 1).toNat) : Nat) : Int)) ∧
         (∀ i : Int, inL i t.words.length → i ≠ ix → gi os i = gi out1 i) ∧ max (gi os ix) ((runMax (t.words.drop ix.toNat) ((gi c.texts x).words.drop y.toNat) : Nat) : Int) = ((longW (c.texts.take (x + 1).toNat) (t.words.drop ix.toNat) : Nat) : Int) ∧ 0 ≤ gi os ix)
       (fun _ _ y => ((gi c.texts x).words.length - y).toNat) (fun rs os y hst again12 hag12 => ?_) ⟨by omega, by omega, J.lr, J.lo', fun j k0 k1 => by rw [if_neg (by omega)]; exact J.rn j k0 k1, fun _ _ _ => rfl, ?_, by have e1 := J.ou ix hixl; rw [if_pos (by omega)] at e1; omega⟩
     · obtain ⟨g0, g1, g2, g3, g4, g5, g6, g7⟩ := hst
       have fin : ∀ v : Int, y < (gi c.texts x).words.length → v = ((commonW ((gi c.texts x).words.drop y.toNat) (t.words.drop ix.toNat) : Nat) : Int) → tlongest_J1 ix os y again12 (si rs y v) := fun v hlt hv => by
         have hyl : inL y rs.length := by omega
         have hol : inL ix os.length := by omega
         have e1 : gi (si rs y v) y = v := by rw [gi_siA hyl v (by omega), if_pos rfl]
         refine ⟨hol, by rw [si_length]; exact hyl, by omega, hag12 _ _ _ ⟨by omega, by omega, by rw [si_length]; exact g2, by rw [si_length]; exact g3, fun j k0 k1 => ?_, fun i hi hne => ?_, ?_, ?_⟩ (by omega)⟩
         · rw [gi_siA hyl v k0]
           by_cases hj : j = y
           · subst hj; rw [if_pos rfl, if_pos (by omega)]; exact hv
           · rw [if_neg hj, g4 j k0 k1]
             by_cases hlt2 : j < y
             · rw [if_pos hlt2, if_pos (by omega)]
             · rw [if_neg hlt2, if_neg (by omega)]
         · rw [gi_siA hol _ hi.1, if_neg hne]; exact g5 i hi hne
         · rw [gi_siA hol _ hixl.1, if_pos rfl, gmax1, e1, hv]
           rw [runMax_drop (by omega)] at g6
           omega
         · rw [gi_siA hol _ hixl.1, if_pos rfl, gmax1]; omega
       refine ⟨fun hlt => ⟨by omega, fun he => ?_, fun hne => ⟨by omega, fin 0 hlt ?_⟩⟩, fun hn => ?_⟩
       · have e1 := g4 (y + 1) (by omega) (by omega)
         rw [if_neg (by omega)] at e1
         have b1 := (common_le ((gi c.texts x).words.drop (y + 1).toNat) (t.words.drop (ix + 1).toNat)).1
         rw [List.length_drop] at b1
         refine ⟨by omega, by omega, by omega, by omega, fin _ hlt ?_⟩
         rw [common_drop (i := y) (j := ix) (by omega) hixl he, e1]; omega
       · rw [common_stop (i := y) (j := ix) (by omega) (by omega) (.inr (.inr ⟨by omega, hixl, hne⟩))]; rfl
       · have hy : y = (gi c.texts x).words.length := by omega
         refine ⟨by omega, by omega, g2, g3, fun j k0 k1 => ?_, fun i hi => ?_⟩
         · simp only
           rw [show ix - 1 + 1 = ix by omega]
           by_cases hj : j < y
           · rw [g4 j k0 k1, if_pos hj]
           · have e1 := g4 j k0 k1
             rw [if_neg hj] at e1
             have hjd : (gi c.texts x).words.drop j.toNat = [] := List.drop_eq_nil_of_le (by omega)
             rw [hjd] at e1 ⊢; rw [e1]; rfl
         · simp only
           rw [drop_end (l := (gi c.texts x).words) (by omega)] at g6
           have e0 : runMax (t.words.drop ix.toNat) [] = 0 := rfl
           rw [e0] at g6
           by_cases hie : i = ix
           · subst hie
             rw [if_neg (by omega)]
             have := J.ou i hi
             omega
           · rw [g5 i hi hie, J.ou i hi]
             by_cases hl : i ≤ ix
             · rw [if_pos hl, if_pos (by omega)]
             · rw [if_neg hl, if_neg (by omega)]
     · have e1 := J.ou ix hixl
       rw [if_pos (by omega)] at e1
       rw [e1, longW_succ hx]
       simp only [Int.toNat_zero, List.drop_zero]
       omega
   · have := J.ou i hi
     rw [if_neg (by omega)] at this
     exact this
 · have hx : x.toNat = c.texts.length := by omega
   rw [hx, List.take_length] at h3
   have e : out = longAF c t := by
     refine list_ext_gi (by simp [longAF, longsN_len, h2]) fun j k0 k1 => ?_
     rw [h3 j (by omega)]
     exact (longAF_gi (by omega)).symm
   rw [e]; exact h
end Go.Lic
