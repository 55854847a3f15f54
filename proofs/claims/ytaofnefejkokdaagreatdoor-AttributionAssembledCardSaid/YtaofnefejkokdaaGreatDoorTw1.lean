/-
  The conditions of functions of chapter 30 hold: the reference's best cover; texts of the example. No program in sight.
-/
import Derived.Test.YtaofnefejkokdaaGreatDoorTo5
import Derived.Test.YtaofnefejkokdaaGreatDoorTx
set_option linter.all false
namespace Go.Lic
open Go.Proofs Go.Sort Go.Shelf

end Go.Lic

set_option linter.all false
namespace Go.Lic
open Go.Proofs Go.Sort Go.Shelf

theorem fewW_ok {l : List Lexeme} (h : fewW l = true) : okW l := by
  unfold fewW at h
  rw [Bool.and_eq_true, decide_eq_true_eq, List.all_eq_true] at h
  exact ⟨by omega, fun w hw => by have := of_decide_eq_true (h.2 w hw); omega⟩
theorem fewT_ok {t : Text} (h : fewTs [t] = true) : okT t := by
  unfold fewTs at h
  rw [Bool.and_eq_true, List.all_cons, Bool.and_eq_true, Bool.and_eq_true, decide_eq_true_eq, decide_eq_true_eq] at h
  exact ⟨by omega, fewW_ok h.2.1.1⟩
theorem fewTs_ok {l : List Text} (h : fewTs l = true) : okTs l := by
  unfold fewTs at h
  rw [Bool.and_eq_true, decide_eq_true_eq, List.all_eq_true] at h
  refine ⟨by omega, fun t ht => ?_⟩
  have := h.2 t ht
  rw [Bool.and_eq_true, decide_eq_true_eq] at this
  exact ⟨by omega, fewW_ok this.1⟩
theorem fewC_ok {c : Corpus} (h : fewC c = true) : okC c := by
  unfold fewC at h
  rw [Bool.and_eq_true, decide_eq_true_eq] at h
  exact ⟨fewTs_ok h.1, by omega⟩
theorem okC_no : okC noC := ⟨⟨by simp [noC], (fun t ht => by cases ht)⟩, by simp [noC]⟩
theorem okC_new (k w : Int) : okC (newF k w).1 := by
  unfold newF
  split
  · exact ⟨⟨by simp, (fun t ht => by cases ht)⟩, by simp⟩
  · exact okC_no
/-! attributions -/
theorem attr_split (c : Corpus) (t : Text) (least : Int) : (rightA c t least ≠ 0 ∧ attrF c t least = (noA, rightA c t least)) ∨ (rightA c t least = 0 ∧ 1 ≤ least ∧ attrF c t least = (⟨t.path, piecesF c t least.toNat⟩, 0)) := by
  by_cases h : rightA c t least = 0
  · refine .inr ⟨h, ?_, by unfold attrF; rw [if_pos h]⟩
    rcases rightA_split (c := c) (t := t) (least := least) with ⟨_, e⟩ | ⟨_, _, e⟩ | ⟨_, h1, _, _⟩
    · omega
    · omega
    · exact h1
  · exact .inl ⟨h, by unfold attrF; rw [if_neg h]⟩
theorem pieces_few {c : Corpus} {t : Text} {least : Int} (hl : 1 ≤ least) : ∀ (l : List Piece) (e : Int), checkPs c t least e l = 0 → (l.length : Int) ≤ coverF l
  | [], _, _ => by simp [coverF]
  | p :: l, e, h => by
    rw [checkPs_cons] at h
    have h1 := (pieceOk_iff c t least p).1 h.1
    have h2 := pieces_few hl l _ h.2.2
    rw [coverF_cons, List.length_cons]
    omega
theorem found_few {c : Corpus} {t : Text} {least : Int} (hl : 1 ≤ least) : (piecesF c t least.toNat).length ≤ t.words.length := by
  have h1 := pieces_few hl _ 0 (found_right (c := c) (t := t) hl)
  have h2 := cover_le _ 0 (by omega) (found_right (c := c) (t := t) hl)
  omega
theorem okA_no : okA noA := ⟨by decide, by decide⟩
theorem okA_attr {c : Corpus} {t : Text} {least : Int} (h : okT t) : okA (attrF c t least).1 := by
  rcases attr_split c t least with ⟨_, e⟩ | ⟨_, h1, e⟩
  · rw [e]; exact okA_no
  · rw [e]
    have := found_few (c := c) (t := t) h1
    have h2 := h.2.1
    exact ⟨h.1, by show (piecesF c t least.toNat).length ≤ 1000000; omega⟩
theorem okV_right {c : Corpus} {t : Text} {least : Int} {l : List Piece} (ht : t.words.length ≤ 1000000) (hn : l.length ≤ 1000000) (h : checkPs c t least 0 l = 0) (path : ByteArray) : okV ⟨path, l⟩ := by
  refine ⟨hn, fun p hp => ?_⟩
  have := (pieceOk_iff c t least p).1 (checkPs_mem l 0 h p hp)
  omega
theorem okV_attr {c : Corpus} {t : Text} {least : Int} (ht : t.words.length ≤ 1000000) : okV (attrF c t least).1 := by
  rcases attr_split c t least with ⟨_, e⟩ | ⟨_, h1, e⟩
  · rw [e]; exact ⟨by simp [noA], by simp [noA]⟩
  · rw [e]
    have := found_few (c := c) (t := t) h1
    exact okV_right ht (by omega) (found_right h1) _
theorem check_found {c : Corpus} {t : Text} {least : Int} (h : rightA c t least = 0) (h1 : 1 ≤ least) : checkA c t least ⟨t.path, piecesF c t least.toNat⟩ = 0 := by
  unfold checkA; rw [if_pos h, if_pos rfl]; exact found_right h1
theorem Q_true {b : Bool} {Q : Bool → Prop} (e : b = true) (h : Q true) : Q b := e ▸ h

/-! the functions of the statements -/
theorem byte_ssub {s : ByteArray} {x : Int} (h : inL x s.size) : ssub s x (x + 1) = bstr [gi (sbytes s) x] := by
  have hn : x.toNat < s.data.toList.length := by have : s.data.toList.length = s.size := rfl; omega
  apply ba_eq
  have hg : gi (sbytes s) x = ((s.data.toList[x.toNat]'hn).toNat : Int) := by
    rw [gi_lt (by rw [sbytes_len]; exact h)]; simp [sbytes]
  rw [hg]
  have h2 : (ssub s x (x + 1)).data.toList = (s.data.toList.take (x + 1).toNat).drop x.toNat := by
    simp [ssub, ByteArray.extract, ByteArray.copySlice, List.take_drop]
    rw [show x.toNat + ((x + 1).toNat - x.toNat) = (x + 1).toNat by omega]
  rw [h2, show (x + 1).toNat = x.toNat + 1 by omega, List.take_succ_eq_append_getElem hn, List.drop_append, List.drop_eq_nil_of_le (by simp; omega)]
  have hm : min x.toNat s.size = x.toNat := by omega
  simp [bstr, hm]
theorem ltext_ok (path : ByteArray) (s_ : ByteArray) (Q : Text → Prop) (hp0 : s_.size ≤ 1000) (h : Q (textF path s_)) : ltext_vc path s_ Q := by
  have hb := sbytes_len s_
  refine lfp2 (ltext_L1 path s_ Q) (fun xs x => 0 ≤ x ∧ x ≤ s_.size ∧ (xs.length : Int) = x ∧ xs = ((sbytes s_).take x.toNat).map fun b => ⟨bstr [b], 0⟩) (fun _ x => (s_.size - x).toNat) (fun xs x hst again hag => ?_) ⟨by omega, by omega, rfl, rfl⟩
  obtain ⟨h0, h1, h2, h3⟩ := hst
  refine ⟨fun hlt => ?_, fun hn => ?_⟩
  · have hx : inL x (sbytes s_).length := by omega
    refine ⟨by omega, by omega, ⟨by simp only [List.length_singleton]; omega, by simp only [List.length_singleton]; omega⟩, by omega, hag _ _ ⟨by omega, by omega, by simp only [List.length_append, List.length_singleton]; omega, ?_⟩ (by omega)⟩
    rw [h3, byte_ssub (by omega), show (x + 1).toNat = x.toNat + 1 by omega, List.take_succ_eq_append_getElem (by omega), List.map_append, gi_lt hx]; rfl
  · rw [h3, List.take_of_length_le (by omega)]; exact h
theorem lcover_ok (a : Attribution) (Q : Int → Prop) (hp0 : okV a) (h : Q ((coverF a.pieces))) : lcover_vc a Q := by
  obtain ⟨hn, hv⟩ := hp0
  refine lfp2 (lcover_L1 a Q) (fun out x => 0 ≤ x ∧ x ≤ a.pieces.length ∧ 0 ≤ out ∧ out ≤ 1000000 * x ∧ out + coverF (a.pieces.drop x.toNat) = coverF a.pieces) (fun _ x => (a.pieces.length - x).toNat) (fun out x hst again hag => ?_) ⟨by omega, by omega, by omega, by omega, by simp⟩
  obtain ⟨h0, h1, h2, h3, h4⟩ := hst
  refine ⟨fun hlt => ?_, fun hnl => ?_⟩
  · have hx : inL x a.pieces.length := by omega
    have hb := hv _ (gi_mem hx)
    have hc : coverF (a.pieces.drop x.toNat) = ((gi a.pieces x).to - (gi a.pieces x).from_) + coverF (a.pieces.drop (x + 1).toNat) := by
      rw [List.drop_eq_getElem_cons (by omega), coverF_cons, gi_lt hx, show (x + 1).toNat = x.toNat + 1 by omega]
    refine ⟨by omega, by omega, by omega, by omega, hag _ _ ⟨by omega, by omega, by omega, by omega, by omega⟩ (by omega)⟩
  · rw [List.drop_eq_nil_of_le (by omega)] at h4
    have : out = coverF a.pieces := by rw [← h4]; simp [coverF]
    rw [this]; exact h
theorem awake_ok  (Q : Bool → Prop)  (h : Q (true)) : awake_vc  Q := by
  refine ⟨by decide +kernel, okC_new 1 1, fewT_ok (by decide +kernel), by decide +kernel, fewC_ok (by decide +kernel), fewT_ok (by decide +kernel), by decide +kernel, ⟨fewC_ok (by decide +kernel), fewT_ok (by decide +kernel), ⟨fewC_ok (by decide +kernel), fewT_ok (by decide +kernel), okA_attr (fewT_ok (by decide +kernel)),
    fun _ => by decide +kernel, fun _ => ⟨fewC_ok (by decide +kernel), fewT_ok (by decide +kernel), okA_attr (fewT_ok (by decide +kernel))⟩, fun _ => ⟨fewC_ok (by decide +kernel), fewT_ok (by decide +kernel), okA_attr (fewT_ok (by decide +kernel))⟩, Q_true (by decide +kernel) h⟩⟩⟩

/-! statements -/
end Go.Lic
