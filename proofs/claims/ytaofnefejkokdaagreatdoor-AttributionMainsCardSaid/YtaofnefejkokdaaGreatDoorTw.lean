/-
  The conditions of functions of chapter 30 hold: the reference's best cover; texts of the example. No program in sight.
-/
import Derived.Test.YtaofnefejkokdaaGreatDoorTo5
import Derived.Test.YtaofnefejkokdaaGreatDoorTx
set_option linter.all false
namespace Go.Lic
open Go.Proofs Go.Sort Go.Shelf
structure TabI (c : Corpus) (t : Text) (L : Nat) (len many cover : List Int) (i : Int) : Prop where
 lo : -1 ≤ i
 hi : i ≤ (t.words.length : Int) - 1
 l1 : (len.length : Int) = t.words.length + 1
 l2 : (many.length : Int) = t.words.length + 1
 l3 : (cover.length : Int) = t.words.length + 1
 c1 : ∀ j : Int, i < j → j ≤ t.words.length → gi cover j = (valA L ((losA c t).drop j.toNat)).1
 c2 : ∀ j : Int, i < j → j ≤ t.words.length → gi many j = (valA L ((losA c t).drop j.toNat)).2.1
 c3 : ∀ j : Int, i < j → j ≤ t.words.length → gi len j = (valA L ((losA c t).drop j.toNat)).2.2
 z : ∀ j : Int, 0 ≤ j → j ≤ i → gi len j = 0
theorem rof_ok (c : Corpus) (t : Text) (least : Int) (Q : Attribution × Int → Prop) (hp0 : okC c) (hp1 : okT t) (h : Q (attrF c t least)) : rof_vc c t least Q := by
 unfold attrF at h
 have hcl := hp0.1.1; have htl := hp1.2.1
 refine ⟨hp0, hp1, fun hb => by rw [if_neg hb] at h; exact h, fun hz => ?_⟩
 rw [if_pos hz] at h
 have hleast : 1 ≤ least ∧ least ≤ 8192 := by
   rcases rightA_split (c := c) (t := t) (least := least) with ⟨_, e⟩ | ⟨_, _, e⟩ | ⟨_, h1, h2, _⟩
   · rw [hz] at e; cases e
   · rw [hz] at e; cases e
   · exact ⟨h1, h2⟩
 have hL : 0 < least.toNat := by omega
 have hLi : ((least.toNat : Nat) : Int) = least := by omega
 generalize hLd : least.toNat = L at h hL hLi
 refine ⟨by omega, ⟨by omega, by omega, by omega⟩, by omega, ⟨by omega, by omega, by omega⟩, by omega, ⟨by omega, by omega, by omega⟩, by omega, ?_⟩
 refine lfp_of (S := (List Int) × (List Int) × (List Int) × Int) (fun s => TabI c t L s.1 s.2.1 s.2.2.1 s.2.2.2) (fun s => (s.2.2.2 + 1).toNat) (fun s J again hag => ?_) ⟨by simp only; omega, by simp only; omega, by simp only [List.length_replicate]; omega, by simp only [List.length_replicate]; omega, by simp only [List.length_replicate]; omega, fun j k0 k1 => ?_, fun j k0 k1 => ?_, fun j k0 k1 => ?_, fun j _ _ => gi_replA (n := (t.words.length : Int) + 1)⟩
 rotate_left
 · simp only at k0; rw [gi_replA, valA_nil (by omega)]
 · simp only at k0; rw [gi_replA, valA_nil (by omega)]
 · simp only at k0; rw [gi_replA, valA_nil (by omega)]; rfl
 obtain ⟨len, many, cover, i⟩ := s
 simp only at J ⊢
 have jl := J.lo; have jh := J.hi; have j1 := J.l1; have j2 := J.l2; have j3 := J.l3
 refine ⟨fun hi => ?_, fun hn => ?_⟩
 · have hil : inL i t.words.length := by omega
   have hlb := long_bd (c := c) hil
   refine ⟨by omega, by omega, by omega, by omega, by omega, hp0, hp1, by omega, by omega, ?_⟩
   refine lfp_of (S := (List Int) × (List Int) × (List Int) × Int) (fun s => least ≤ s.2.2.2 ∧ (s.2.2.2 ≤ longW c.texts (t.words.drop i.toNat) + 1 ∨ s.2.2.2 = least) ∧ (s.1.length : Int) = t.words.length + 1 ∧ (s.2.1.length : Int) = t.words.length + 1 ∧ (s.2.2.1.length : Int) = t.words.length + 1 ∧
       (∀ j : Int, 0 ≤ j → j ≤ t.words.length → j ≠ i → gi s.1 j = gi len j ∧ gi s.2.1 j = gi many j ∧ gi s.2.2.1 j = gi cover j) ∧
       gi s.2.2.1 i = (curV L ((losA c t).drop (i + 1).toNat) (longW c.texts (t.words.drop i.toNat)) s.2.2.2.toNat).1 ∧ gi s.2.1 i = (curV L ((losA c t).drop (i + 1).toNat) (longW c.texts (t.words.drop i.toNat)) s.2.2.2.toNat).2.1 ∧ gi s.1 i = (curV L ((losA c t).drop (i + 1).toNat) (longW c.texts (t.words.drop i.toNat)) s.2.2.2.toNat).2.2)
     (fun s => (longW c.texts (t.words.drop i.toNat) + 1 - s.2.2.2).toNat) (fun s hst again2 hag2 => ?_) ⟨by simp only; omega, .inr rfl, by simp only; omega, by simp only [si_length]; omega, by simp only [si_length]; omega, fun j k0 k1 hne => ?_, ?_, ?_, ?_⟩
   · obtain ⟨ln, mn, cv, k⟩ := s
     obtain ⟨g0, g1, g2, g3, g4, g5, g6, g7, g8⟩ := hst
     simp only at g0 g1 g2 g3 g4 g5 g6 g7 g8 ⊢
     refine ⟨fun hle => ?_, fun hgt => ⟨by omega, hag _ ⟨by simp only; omega, by simp only; omega, g2, g3, g4, fun j k0 k1 => ?_, fun j k0 k1 => ?_, fun j k0 k1 => ?_, fun j k0 k1 => ?_⟩ (by simp only; omega)⟩⟩
     · obtain ⟨_, m2, m3⟩ := g5 (i + k) (by omega) (by omega) (by omega)
       rw [J.c2 _ (by omega) (by omega)] at m2
       rw [J.c1 _ (by omega) (by omega)] at m3
       have hv := val_bd hL (c := c) (t := t) (i + k)
       have hcs := curV_succ ((losA c t).drop (i + 1).toNat) (L := L) (lo := longW c.texts (t.words.drop i.toNat)) (k := k.toNat) (by omega) (by omega)
       have hr := rest_get (L := L) (c := c) hil (k := k) (by omega) (by omega)
       have hk : ((k.toNat : Nat) : Int) = k := by omega
       rw [m2, m3, g6, g7]
       have hcand : candV (dpL L ((losA c t).drop (i + 1).toNat)) k.toNat = ((valA L ((losA c t).drop (i + k).toNat)).1 + k, (valA L ((losA c t).drop (i + k).toNat)).2.1 + 1, k.toNat) := by
         unfold candV; rw [hr, hk]
       have hk1 : (k + 1).toNat = k.toNat + 1 := by omega
       unfold takeV at hcs
       rw [hcand] at hcs
       refine ⟨by omega, by omega, by omega, by omega, by omega, by omega, by omega, fun hf => ⟨by omega, by omega, by omega, by omega, hag2 _ ⟨by simp only; omega, .inl (by simp only; omega), by simp only [si_length]; exact g2, by simp only [si_length]; exact g3, by simp only [si_length]; exact g4, fun j k0 k1 hne => ?_, ?_, ?_, ?_⟩ (by simp only; omega)⟩, fun ht => ⟨by omega, hag2 _ ⟨by simp only; omega, .inl (by simp only; omega), g2, g3, g4, g5, ?_, ?_, ?_⟩ (by simp only; omega)⟩⟩
       · simp only
         rw [gi_siA (by omega) _ k0, gi_siA (by omega) _ k0, gi_siA (by omega) _ k0, if_neg hne, if_neg hne, if_neg hne]
         exact g5 j k0 k1 hne
       · simp only
         rw [gi_siA (by omega) _ (by omega), if_pos rfl, hk1, hcs, if_neg (by unfold betR at hf; rw [hf]; simp)]
       · simp only
         rw [gi_siA (by omega) _ (by omega), if_pos rfl, hk1, hcs, if_neg (by unfold betR at hf; rw [hf]; simp)]
       · simp only
         rw [gi_siA (by omega) _ (by omega), if_pos rfl, hk1, hcs, if_neg (by unfold betR at hf; rw [hf]; simp)]
         exact hk.symm
       · simp only; rw [hk1, hcs, if_pos (by unfold betR at ht; exact ht)]; exact g6
       · simp only; rw [hk1, hcs, if_pos (by unfold betR at ht; exact ht)]; exact g7
       · simp only; rw [hk1, hcs, if_pos (by unfold betR at ht; exact ht)]; exact g8
     all_goals simp only at k0 ⊢
     · by_cases hj : j = i
       · subst hj; rw [g6, valA_at hil (by omega)]
       · rw [(g5 j (by omega) k1 hj).2.2]; exact J.c1 j (by omega) k1
     · by_cases hj : j = i
       · subst hj; rw [g7, valA_at hil (by omega)]
       · rw [(g5 j (by omega) k1 hj).2.1]; exact J.c2 j (by omega) k1
     · by_cases hj : j = i
       · subst hj; rw [g8, valA_at hil (by omega)]
       · rw [(g5 j (by omega) k1 hj).1]; exact J.c3 j (by omega) k1
     · simp only at k1
       rw [(g5 j k0 (by omega) (by omega)).1]; exact J.z j k0 (by omega)
   · simp only
     rw [gi_siA (by omega) _ k0, gi_siA (by omega) _ k0, if_neg hne, if_neg hne]
     simp
   · simp only
     rw [gi_siA (by omega) _ (by omega), if_pos rfl, J.c1 _ (by omega) (by omega), hLd, curV_start]
   · simp only
     rw [gi_siA (by omega) _ (by omega), if_pos rfl, J.c2 _ (by omega) (by omega), hLd, curV_start]
   · simp only
     rw [J.z i (by omega) (by omega), hLd, curV_start]; rfl
 · have hlen : ∀ j : Int, inL j t.words.length → gi len j = lenA L c t j := fun j hj => J.c3 j (by omega) (by omega)
   refine lfp2 (rof_L3 c t len Q) (fun ps i => 0 ≤ i ∧ i ≤ t.words.length ∧ (ps.length : Int) ≤ i ∧ ps ++ restP c t L i = piecesF c t L) (fun _ i => (t.words.length - i).toNat) (fun ps i hst again15 hag15 => ?_) ⟨by omega, by omega, by simp, by rw [restP_zero]; rfl⟩
   obtain ⟨g0, g1, g2, g3⟩ := hst
   refine ⟨fun hlt => ?_, fun hn2 => ?_⟩
   · have hil : inL i t.words.length := by omega
     have hb := lenA_bd hL (c := c) hil
     rw [hlen i hil]
     refine ⟨by omega, fun hz2 => ⟨by omega, hag15 _ _ ⟨by omega, by omega, by omega, ?_⟩ (by omega)⟩, fun hnz => ?_⟩
     · rw [← restP_skip hil (by omega)]; exact g3
     · have htk := restP_take hL (c := c) hil (by omega)
       refine ⟨by omega, by omega, hp0, hp1, by omega, by omega, by omega, by omega, by omega, ⟨by simp only [List.length_append, List.length_singleton]; omega, by simp only [List.length_append, List.length_singleton]; omega⟩, by omega, by omega, hag15 _ _ ⟨by omega, by omega, by simp only [List.length_append, List.length_singleton]; omega, ?_⟩ (by omega)⟩
       rw [htk] at g3
       rw [← g3]; simp [srcR]
   · rw [restP_end (by omega), List.append_nil] at g3
     rw [g3]; exact h
end Go.Lic
set_option linter.all false
namespace Go.Lic
open Go.Proofs Go.Sort Go.Shelf
theorem fewW_ok {l : List Lexeme} (h : fewW l = true) : okW l := by
 unfold fewW at h
 rw [Bool.and_eq_true, decide_eq_true_eq, List.all_eq_true] at h
 exact ⟨by omega, fun w hw => by have := of_decide_eq_true (h.2 w hw); omega⟩
theorem fewT_ok {t : Text} (h : fewTs [t] = true) : okT t := by
 unfold fewTs at h
 rw [Bool.and_eq_true, List.all_cons, Bool.and_eq_true, Bool.and_eq_true, decide_eq_true_eq, decide_eq_true_eq] at h
 exact ⟨by omega, fewW_ok h.2.1.1⟩
theorem fewTs_ok {l : List Text} (h : fewTs l = true) : okTs l := by
 unfold fewTs at h
 rw [Bool.and_eq_true, decide_eq_true_eq, List.all_eq_true] at h
 refine ⟨by omega, fun t ht => ?_⟩
 have := h.2 t ht
 rw [Bool.and_eq_true, decide_eq_true_eq] at this
 exact ⟨by omega, fewW_ok this.1⟩
theorem fewTs_len {l : List Text} (h : fewTs l = true) : l.length ≤ 5 := by
 unfold fewTs at h
 rw [Bool.and_eq_true, decide_eq_true_eq] at h; exact h.1
theorem fewC_ok {c : Corpus} (h : fewC c = true) : okC c := by
 unfold fewC at h
 rw [Bool.and_eq_true, decide_eq_true_eq] at h
 exact ⟨fewTs_ok h.1, by omega⟩
theorem fewC_len {c : Corpus} (h : fewC c = true) : c.texts.length ≤ 5 := by
 unfold fewC at h
 rw [Bool.and_eq_true] at h
 exact fewTs_len h.1
theorem okC_no : okC noC := ⟨⟨by simp [noC], (fun t ht => by cases ht)⟩, by simp [noC]⟩
theorem okC_new (k w : Int) : okC (newF k w).1 := by
 unfold newF
 split
 · exact ⟨⟨by simp, (fun t ht => by cases ht)⟩, by simp⟩
 · exact okC_no
theorem fewT_len {t : Text} (h : fewTs [t] = true) : t.words.length ≤ 40 := by
 unfold fewTs fewW at h
 simp only [Bool.and_eq_true, List.all_cons, decide_eq_true_eq] at h
 omega
theorem small_parts {c : Corpus} {t : Text} {a : Attribution} (h : smallF c t a = true) : okC c ∧ okT t ∧ okA a ∧ t.words.length ≤ 40 ∧ a.pieces.length ≤ 60 ∧ c.texts.length ≤ 5 := by
 unfold smallF at h
 simp only [Bool.and_eq_true, decide_eq_true_eq] at h
 exact ⟨fewC_ok h.1.1.1, fewT_ok h.1.1.2, ⟨by omega, by omega⟩, fewT_len h.1.1.2, h.1.2, fewC_len h.1.1.1⟩
theorem attr_split (c : Corpus) (t : Text) (least : Int) : (rightA c t least ≠ 0 ∧ attrF c t least = (noA, rightA c t least)) ∨ (rightA c t least = 0 ∧ 1 ≤ least ∧ attrF c t least = (⟨t.path, piecesF c t least.toNat⟩, 0)) := by
 by_cases h : rightA c t least = 0
 · refine .inr ⟨h, ?_, by unfold attrF; rw [if_pos h]⟩
   rcases rightA_split (c := c) (t := t) (least := least) with ⟨_, e⟩ | ⟨_, _, e⟩ | ⟨_, h1, _, _⟩
   · omega
   · omega
   · exact h1
 · exact .inl ⟨h, by unfold attrF; rw [if_neg h]⟩
theorem pieces_few {c : Corpus} {t : Text} {least : Int} (hl : 1 ≤ least) : ∀ (l : List Piece) (e : Int), checkPs c t least e l = 0 → (l.length : Int) ≤ coverF l
 | [], _, _ => by simp [coverF]
 | p :: l, e, h => by
   rw [checkPs_cons] at h
   have h1 := (pieceOk_iff c t least p).1 h.1
   have h2 := pieces_few hl l _ h.2.2
   rw [coverF_cons, List.length_cons]
   omega
theorem found_few {c : Corpus} {t : Text} {least : Int} (hl : 1 ≤ least) : (piecesF c t least.toNat).length ≤ t.words.length := by
 have h1 := pieces_few hl _ 0 (found_right (c := c) (t := t) hl)
 have h2 := cover_le _ 0 (by omega) (found_right (c := c) (t := t) hl)
 omega
theorem okA_no : okA noA := ⟨by decide, by decide⟩
theorem okA_attr {c : Corpus} {t : Text} {least : Int} (h : okT t) : okA (attrF c t least).1 := by
 rcases attr_split c t least with ⟨_, e⟩ | ⟨_, h1, e⟩
 · rw [e]; exact okA_no
 · rw [e]
   have := found_few (c := c) (t := t) h1
   have h2 := h.2.1
   exact ⟨h.1, by show (piecesF c t least.toNat).length ≤ 1000000; omega⟩
theorem Q_true {b : Bool} {Q : Bool → Prop} (e : b = true) (h : Q true) : Q b := e ▸ h
theorem byte_ssub {s : ByteArray} {x : Int} (h : inL x s.size) : ssub s x (x + 1) = bstr [gi (sbytes s) x] := by
 have hn : x.toNat < s.data.toList.length := by have : s.data.toList.length = s.size := rfl; omega
 apply ba_eq
 have hg : gi (sbytes s) x = ((s.data.toList[x.toNat]'hn).toNat : Int) := by
   rw [gi_lt (by rw [sbytes_len]; exact h)]; simp [sbytes]
 rw [hg]
 have h2 : (ssub s x (x + 1)).data.toList = (s.data.toList.take (x + 1).toNat).drop x.toNat := by
   simp [ssub, ByteArray.extract, ByteArray.copySlice, List.take_drop]
   rw [show x.toNat + ((x + 1).toNat - x.toNat) = (x + 1).toNat by omega]
 rw [h2, show (x + 1).toNat = x.toNat + 1 by omega, List.take_succ_eq_append_getElem hn, List.drop_append, List.drop_eq_nil_of_le (by simp; omega)]
 have hm : min x.toNat s.size = x.toNat := by omega
 simp [bstr, hm]
theorem ltext_ok (path : ByteArray) (s_ : ByteArray) (Q : Text → Prop) (hp0 : s_.size ≤ 1000) (h : Q (textF path s_)) : ltext_vc path s_ Q := by
 have hb := sbytes_len s_
 refine lfp2 (ltext_L1 path s_ Q) (fun xs x => 0 ≤ x ∧ x ≤ s_.size ∧ (xs.length : Int) = x ∧ xs = ((sbytes s_).take x.toNat).map fun b => ⟨bstr [b], 0⟩) (fun _ x => (s_.size - x).toNat) (fun xs x hst again hag => ?_) ⟨by omega, by omega, rfl, rfl⟩
 obtain ⟨h0, h1, h2, h3⟩ := hst
 refine ⟨fun hlt => ?_, fun hn => ?_⟩
 · have hx : inL x (sbytes s_).length := by omega
   refine ⟨by omega, by omega, ⟨by simp only [List.length_singleton]; omega, by simp only [List.length_singleton]; omega⟩, by omega, hag _ _ ⟨by omega, by omega, by simp only [List.length_append, List.length_singleton]; omega, ?_⟩ (by omega)⟩
   rw [h3, byte_ssub (by omega), show (x + 1).toNat = x.toNat + 1 by omega, List.take_succ_eq_append_getElem (by omega), List.map_append, gi_lt hx]; rfl
 · rw [h3, List.take_of_length_le (by omega)]; exact h
theorem lsmall_ok (c : Corpus) (t : Text) (a : Attribution) (Q : Bool → Prop) (h : Q (smallF c t a)) : lsmall_vc c t a Q := by
 unfold smallF at h
 have e1 : decide ((a.pieces.length : Int) ≤ 60) = decide (a.pieces.length ≤ 60) := by congr 1; rw [eq_iff_iff]; omega
 have e2 : decide ((a.path.size : Int) ≤ 200) = decide (a.path.size ≤ 200) := by congr 1; rw [eq_iff_iff]; omega
 show Q _
 rw [e1, e2]; exact h
theorem awake_ok (Q : Bool → Prop)  (h : Q (true)) : awake_vc  Q := by
 refine ⟨by decide +kernel, okC_new 1 1, fewT_ok (by decide +kernel), by decide +kernel, fewC_ok (by decide +kernel), fewT_ok (by decide +kernel), by decide +kernel, ⟨fewC_ok (by decide +kernel), fewT_ok (by decide +kernel), ⟨fewC_ok (by decide +kernel), fewT_ok (by decide +kernel), okA_attr (fewT_ok (by decide +kernel)),
   fun _ => by decide +kernel, fun _ => ⟨fewC_ok (by decide +kernel), fewT_ok (by decide +kernel), okA_attr (fewT_ok (by decide +kernel))⟩, fun _ => ⟨fewC_ok (by decide +kernel), fewT_ok (by decide +kernel), okA_attr (fewT_ok (by decide +kernel))⟩, Q_true (by decide +kernel) h⟩⟩⟩
theorem lawOf_ok (c : Corpus) (t : Text) (least : Int) (Q : Bool → Prop) (h : Q (true)) : lawOf_vc c t least Q := by
 refine ⟨nofun, fun _ => ⟨fun _ => h, fun hs => ?_⟩⟩
 obtain ⟨h1, h2, _⟩ := small_parts hs
 exact ⟨h1, h2, h1, h2, fun _ => okA_attr h2, Q_true (by simp) h⟩
theorem lawMains_ok (c : Corpus) (t : Text) (a : Attribution) (percent : Int) (Q : Bool → Prop) (h : Q (true)) : lawMains_vc c t a percent Q := by
 refine ⟨nofun, fun _ => ⟨fun _ => h, fun hs => ?_⟩⟩
 obtain ⟨h1, h2, h3, _⟩ := small_parts hs
 exact ⟨h1, h2, h3, h1, h2, h3, Q_true (by simp) h⟩
end Go.Lic
set_option linter.all false
namespace Go.Lic
open Go.Proofs Go.Sort Go.Shelf
end Go.Lic
