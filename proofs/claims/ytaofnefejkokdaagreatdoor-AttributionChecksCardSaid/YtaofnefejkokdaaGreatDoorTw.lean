/-
  The conditions of functions of chapter 30 hold: the reference's best cover; texts of the example. No program in sight.
-/
import Derived.Test.YtaofnefejkokdaaGreatDoorTo5
import Derived.Test.YtaofnefejkokdaaGreatDoorTx
set_option linter.all false
namespace Go.Lic
open Go.Proofs Go.Sort Go.Shelf
end Go.Lic
set_option linter.all false
namespace Go.Lic
open Go.Proofs Go.Sort Go.Shelf
theorem fewW_ok {l : List Lexeme} (h : fewW l = true) : okW l := by
 unfold fewW at h
 rw [Bool.and_eq_true, decide_eq_true_eq, List.all_eq_true] at h
 exact ⟨by omega, fun w hw => by have := of_decide_eq_true (h.2 w hw); omega⟩
theorem fewT_ok {t : Text} (h : fewTs [t] = true) : okT t := by
 unfold fewTs at h
 rw [Bool.and_eq_true, List.all_cons, Bool.and_eq_true, Bool.and_eq_true, decide_eq_true_eq, decide_eq_true_eq] at h
 exact ⟨by omega, fewW_ok h.2.1.1⟩
theorem fewTs_ok {l : List Text} (h : fewTs l = true) : okTs l := by
 unfold fewTs at h
 rw [Bool.and_eq_true, decide_eq_true_eq, List.all_eq_true] at h
 refine ⟨by omega, fun t ht => ?_⟩
 have := h.2 t ht
 rw [Bool.and_eq_true, decide_eq_true_eq] at this
 exact ⟨by omega, fewW_ok this.1⟩
theorem fewTs_len {l : List Text} (h : fewTs l = true) : l.length ≤ 5 := by
 unfold fewTs at h
 rw [Bool.and_eq_true, decide_eq_true_eq] at h; exact h.1
theorem fewC_ok {c : Corpus} (h : fewC c = true) : okC c := by
 unfold fewC at h
 rw [Bool.and_eq_true, decide_eq_true_eq] at h
 exact ⟨fewTs_ok h.1, by omega⟩
theorem fewC_len {c : Corpus} (h : fewC c = true) : c.texts.length ≤ 5 := by
 unfold fewC at h
 rw [Bool.and_eq_true] at h
 exact fewTs_len h.1
theorem okC_no : okC noC := ⟨⟨by simp [noC], (fun t ht => by cases ht)⟩, by simp [noC]⟩
theorem okC_new (k w : Int) : okC (newF k w).1 := by
 unfold newF
 split
 · exact ⟨⟨by simp, (fun t ht => by cases ht)⟩, by simp⟩
 · exact okC_no
theorem fewT_len {t : Text} (h : fewTs [t] = true) : t.words.length ≤ 40 := by
 unfold fewTs fewW at h
 simp only [Bool.and_eq_true, List.all_cons, decide_eq_true_eq] at h
 omega
theorem small_parts {c : Corpus} {t : Text} {a : Attribution} (h : smallF c t a = true) : okC c ∧ okT t ∧ okA a ∧ t.words.length ≤ 40 ∧ a.pieces.length ≤ 60 ∧ c.texts.length ≤ 5 := by
 unfold smallF at h
 simp only [Bool.and_eq_true, decide_eq_true_eq] at h
 exact ⟨fewC_ok h.1.1.1, fewT_ok h.1.1.2, ⟨by omega, by omega⟩, fewT_len h.1.1.2, h.1.2, fewC_len h.1.1.1⟩
theorem attr_split (c : Corpus) (t : Text) (least : Int) : (rightA c t least ≠ 0 ∧ attrF c t least = (noA, rightA c t least)) ∨ (rightA c t least = 0 ∧ 1 ≤ least ∧ attrF c t least = (⟨t.path, piecesF c t least.toNat⟩, 0)) := by
 by_cases h : rightA c t least = 0
 · refine .inr ⟨h, ?_, by unfold attrF; rw [if_pos h]⟩
   rcases rightA_split (c := c) (t := t) (least := least) with ⟨_, e⟩ | ⟨_, _, e⟩ | ⟨_, h1, _, _⟩
   · omega
   · omega
   · exact h1
 · exact .inl ⟨h, by unfold attrF; rw [if_neg h]⟩
theorem pieces_few {c : Corpus} {t : Text} {least : Int} (hl : 1 ≤ least) : ∀ (l : List Piece) (e : Int), checkPs c t least e l = 0 → (l.length : Int) ≤ coverF l
 | [], _, _ => by simp [coverF]
 | p :: l, e, h => by
   rw [checkPs_cons] at h
   have h1 := (pieceOk_iff c t least p).1 h.1
   have h2 := pieces_few hl l _ h.2.2
   rw [coverF_cons, List.length_cons]
   omega
theorem found_few {c : Corpus} {t : Text} {least : Int} (hl : 1 ≤ least) : (piecesF c t least.toNat).length ≤ t.words.length := by
 have h1 := pieces_few hl _ 0 (found_right (c := c) (t := t) hl)
 have h2 := cover_le _ 0 (by omega) (found_right (c := c) (t := t) hl)
 omega
theorem okA_no : okA noA := ⟨by decide, by decide⟩
theorem okA_attr {c : Corpus} {t : Text} {least : Int} (h : okT t) : okA (attrF c t least).1 := by
 rcases attr_split c t least with ⟨_, e⟩ | ⟨_, h1, e⟩
 · rw [e]; exact okA_no
 · rw [e]
   have := found_few (c := c) (t := t) h1
   have h2 := h.2.1
   exact ⟨h.1, by show (piecesF c t least.toNat).length ≤ 1000000; omega⟩
theorem Q_true {b : Bool} {Q : Bool → Prop} (e : b = true) (h : Q true) : Q b := e ▸ h
theorem byte_ssub {s : ByteArray} {x : Int} (h : inL x s.size) : ssub s x (x + 1) = bstr [gi (sbytes s) x] := by
 have hn : x.toNat < s.data.toList.length := by have : s.data.toList.length = s.size := rfl; omega
 apply ba_eq
 have hg : gi (sbytes s) x = ((s.data.toList[x.toNat]'hn).toNat : Int) := by
   rw [gi_lt (by rw [sbytes_len]; exact h)]; simp [sbytes]
 rw [hg]
 have h2 : (ssub s x (x + 1)).data.toList = (s.data.toList.take (x + 1).toNat).drop x.toNat := by
   simp [ssub, ByteArray.extract, ByteArray.copySlice, List.take_drop]
   rw [show x.toNat + ((x + 1).toNat - x.toNat) = (x + 1).toNat by omega]
 rw [h2, show (x + 1).toNat = x.toNat + 1 by omega, List.take_succ_eq_append_getElem hn, List.drop_append, List.drop_eq_nil_of_le (by simp; omega)]
 have hm : min x.toNat s.size = x.toNat := by omega
 simp [bstr, hm]
theorem ltext_ok (path : ByteArray) (s_ : ByteArray) (Q : Text → Prop) (hp0 : s_.size ≤ 1000) (h : Q (textF path s_)) : ltext_vc path s_ Q := by
 have hb := sbytes_len s_
 refine lfp2 (ltext_L1 path s_ Q) (fun xs x => 0 ≤ x ∧ x ≤ s_.size ∧ (xs.length : Int) = x ∧ xs = ((sbytes s_).take x.toNat).map fun b => ⟨bstr [b], 0⟩) (fun _ x => (s_.size - x).toNat) (fun xs x hst again hag => ?_) ⟨by omega, by omega, rfl, rfl⟩
 obtain ⟨h0, h1, h2, h3⟩ := hst
 refine ⟨fun hlt => ?_, fun hn => ?_⟩
 · have hx : inL x (sbytes s_).length := by omega
   refine ⟨by omega, by omega, ⟨by simp only [List.length_singleton]; omega, by simp only [List.length_singleton]; omega⟩, by omega, hag _ _ ⟨by omega, by omega, by simp only [List.length_append, List.length_singleton]; omega, ?_⟩ (by omega)⟩
   rw [h3, byte_ssub (by omega), show (x + 1).toNat = x.toNat + 1 by omega, List.take_succ_eq_append_getElem (by omega), List.map_append, gi_lt hx]; rfl
 · rw [h3, List.take_of_length_le (by omega)]; exact h
theorem lsmall_ok (c : Corpus) (t : Text) (a : Attribution) (Q : Bool → Prop) (h : Q (smallF c t a)) : lsmall_vc c t a Q := by
 unfold smallF at h
 have e1 : decide ((a.pieces.length : Int) ≤ 60) = decide (a.pieces.length ≤ 60) := by congr 1; rw [eq_iff_iff]; omega
 have e2 : decide ((a.path.size : Int) ≤ 200) = decide (a.path.size ≤ 200) := by congr 1; rw [eq_iff_iff]; omega
 show Q _
 rw [e1, e2]; exact h
theorem awake_ok (Q : Bool → Prop)  (h : Q (true)) : awake_vc  Q := by
 refine ⟨by decide +kernel, okC_new 1 1, fewT_ok (by decide +kernel), by decide +kernel, fewC_ok (by decide +kernel), fewT_ok (by decide +kernel), by decide +kernel, ⟨fewC_ok (by decide +kernel), fewT_ok (by decide +kernel), ⟨fewC_ok (by decide +kernel), fewT_ok (by decide +kernel), okA_attr (fewT_ok (by decide +kernel)),
   fun _ => by decide +kernel, fun _ => ⟨fewC_ok (by decide +kernel), fewT_ok (by decide +kernel), okA_attr (fewT_ok (by decide +kernel))⟩, fun _ => ⟨fewC_ok (by decide +kernel), fewT_ok (by decide +kernel), okA_attr (fewT_ok (by decide +kernel))⟩, Q_true (by decide +kernel) h⟩⟩⟩
theorem share_fin (c : Corpus) (t : Text) (a : Attribution) : (shareF c t a).1.length ≤ c.texts.length := by
 unfold shareF
 split
 · split
   · rw [shareL_len]; exact Nat.le_refl _
   · simp
 · simp
theorem of_fin (l : List Line) : (ofF l).1.length ≤ l.length := by
 unfold ofF
 split
 · simp
 · have := merge_len (l.map unitW)
   simpa using this
theorem unknown_fin (t : Text) (a : Attribution) : (unknownF t a).1.length ≤ t.words.length := by
 unfold unknownF
 split
 · split
   · split
     · next l hl =>
       obtain ⟨w, hw, rfl⟩ := restL_sub _ 0 _ (by omega) hl
       have h1 := of_fin (linesW t w)
       have h2 := hw.length_le
       rw [linesW_len] at h1
       simp only [List.length_drop] at h2
       omega
     · simp
   · simp
 · simp
theorem lawChecks_ok (c : Corpus) (t : Text) (least : Int) (a : Attribution) (Q : Bool → Prop) (h : Q (true)) : lawChecks_vc c t least a Q := by
 refine ⟨nofun, fun _ => ⟨fun _ => h, fun hs => ?_⟩⟩
 obtain ⟨h1, h2, h3, h4, _, h6⟩ := small_parts hs
 have k1 := share_fin c t a
 have k2 := unknown_fin t a
 exact ⟨h1, h2, h3, h1, h2, h3, h2, h3, h2, h3, h1, h2, h3, fun _ => by omega, fun _ => by omega, Q_true (by simp) h⟩
end Go.Lic
set_option linter.all false
namespace Go.Lic
open Go.Proofs Go.Sort Go.Shelf
end Go.Lic
