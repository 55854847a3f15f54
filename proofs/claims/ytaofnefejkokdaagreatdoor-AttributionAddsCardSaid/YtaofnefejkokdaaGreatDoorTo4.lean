/-
  The conditions of functions of chapter 30 hold: shares, the main text, the reference's checks. No program in sight.
-/
import Derived.Test.YtaofnefejkokdaaGreatDoorTo1
set_option linter.all false
namespace Go.Lic
open Go.Proofs Go.Sort Go.Shelf

theorem gi_siA {α : Type} [Inhabited α] {l : List α} {i : Int} (h : inL i l.length) (v : α) {j : Int} (hj : 0 ≤ j) : gi (si l i v) j = if j = i then v else gi l j := by
  unfold gi si
  rw [List.getD_eq_getElem?_getD, List.getElem?_set, List.getD_eq_getElem?_getD]
  by_cases e : j = i
  · subst e
    rw [if_pos rfl, if_pos rfl, if_pos (by omega)]; rfl
  · rw [if_neg e, if_neg (by omega)]
theorem wordsA_line : ∀ {l : List Lexeme} {least : Int}, wordsF least l = true → ∀ w ∈ l, least ≤ w.line ∧ w.line < 1024
  | [], _, _, w, hw => by cases hw
  | x :: l, least, h, w, hw => by
    rw [wordsF, Bool.and_eq_true] at h
    obtain ⟨h1, h2⟩ := h
    unfold wordF at h1
    simp only [Bool.and_eq_true, decide_eq_true_eq] at h1
    rcases List.mem_cons.1 hw with rfl | hw
    · omega
    · have := wordsA_line h2 w hw
      omega
theorem valid_parts {t : Text} (h : validT t = true) : t.words.length ≤ 8192 ∧ pathB t.path = true ∧ wordsF 0 t.words = true := by
  unfold validT at h
  simp only [Bool.and_eq_true, decide_eq_true_eq] at h
  exact ⟨h.1.1, h.1.2, h.2⟩
theorem checkA_zero {c : Corpus} {t : Text} {least : Int} {a : Attribution} : checkA c t least a = 0 ↔ rightA c t least = 0 ∧ a.path = t.path ∧ checkPs c t least 0 a.pieces = 0 := by
  unfold checkA
  by_cases h : rightA c t least = 0
  · rw [if_pos h]
    by_cases hp : a.path = t.path
    · rw [if_pos hp]; exact ⟨fun e => ⟨h, hp, e⟩, fun e => e.2.2⟩
    · rw [if_neg hp]; exact ⟨fun e => (by cases e), fun e => absurd e.2.1 hp⟩
  · rw [if_neg h]; exact ⟨fun e => absurd e h, fun e => absurd e.1 h⟩
/-! shares -/
abbrev shareS (out : List Int) (p : Piece) : List Int := si out p.text (gi out p.text + (p.to - p.from_))
/-- What is known of shares on the way. -/
structure ShareI (c : Corpus) (t : Text) (e : Int) (out : List Int) (l : List Piece) : Prop where
  len : out.length = c.texts.length
  e0 : 0 ≤ e
  e1 : e ≤ t.words.length
  chk : checkPs c t 1 e l = 0
  bd : ∀ i : Int, inL i out.length → 0 ≤ gi out i ∧ gi out i ≤ e
theorem ShareI.step {c : Corpus} {t : Text} {e : Int} {out : List Int} {p : Piece} {l : List Piece} (h : ShareI c t e out (p :: l)) : ShareI c t p.to (shareS out p) l ∧ inL p.text out.length ∧ 0 ≤ p.from_ ∧ p.from_ < p.to ∧ p.to ≤ t.words.length ∧ e ≤ p.from_ := by
  obtain ⟨h1, h2, h3⟩ := checkPs_cons.1 h.chk
  obtain ⟨⟨k1, k2, k3⟩, _, k4, _⟩ := (pieceOk_iff _ _ _ _).1 h1
  have hx : inL p.text out.length := by rw [h.len]; exact k4
  refine ⟨⟨by rw [si_length]; exact h.len, by omega, k3, h3, fun i hi => ?_⟩, hx, k1, k2, k3, h2⟩
  rw [si_length] at hi
  rw [gi_siA hx _ hi.1]
  have := h.bd i hi; have := h.bd _ hx; have := h.e0
  split <;> omega
theorem gi_rep {n : Nat} {i : Int} : gi (List.replicate n (0 : Int)) i = 0 := by
  unfold gi
  rw [List.getD_eq_getElem?_getD, List.getElem?_replicate]
  split <;> rfl
theorem ShareI.start {c : Corpus} {t : Text} {a : Attribution} (h : checkA c t 1 a = 0) : ShareI c t 0 (List.replicate c.texts.length 0) a.pieces :=
  ⟨by simp, by omega, by omega, (checkA_zero.1 h).2.2, fun i _ => by rw [gi_rep]; omega⟩
theorem ShareI.run {c : Corpus} {t : Text} : ∀ {l : List Piece} {e : Int} {out : List Int}, ShareI c t e out l → ∃ e', ShareI c t e' (l.foldl shareS out) []
  | [], e, out, h => ⟨e, h⟩
  | p :: l, e, out, h => by rw [List.foldl_cons]; exact ShareI.run (h.step).1
theorem share_facts {c : Corpus} {t : Text} {a : Attribution} (h : checkA c t 1 a = 0) : (shareL c.texts.length a.pieces).length = c.texts.length ∧ ∀ i : Int, inL i c.texts.length → 0 ≤ gi (shareL c.texts.length a.pieces) i ∧ gi (shareL c.texts.length a.pieces) i ≤ t.words.length := by
  obtain ⟨e, he⟩ := (ShareI.start h).run
  refine ⟨he.len, fun i hi => ?_⟩
  have h1 := he.bd i (by rw [he.len]; exact hi)
  have h2 := he.e1
  exact ⟨h1.1, Int.le_trans h1.2 h2⟩
theorem tshare_ok (c : Corpus) (t : Text) (a : Attribution) (Q : (List Int) × Int → Prop) (hp0 : okC c) (hp1 : okT t) (hp2 : okA a) (h : Q (shareF c t a)) : tshare_vc c t a Q := by
  unfold shareF at h
  have hcl := hp0.1.1; have htl := hp1.2.1; have hal := hp2.2
  refine ⟨hp0, hp1, fun hb => by rw [hb] at h; exact h, fun hb => ⟨hp0, hp1, hp2, fun hn => ?_, fun hz => ⟨⟨by omega, by omega, by omega⟩, ?_⟩⟩⟩
  · rw [hb, if_pos rfl, if_neg hn] at h; exact h
  · rw [hb, if_pos rfl, if_pos hz] at h
    refine lfp2 (tshare_L1 a Q) (fun out x => 0 ≤ x ∧ x ≤ a.pieces.length ∧ (∃ e, ShareI c t e out (a.pieces.drop x.toNat)) ∧ (a.pieces.drop x.toNat).foldl shareS out = shareL c.texts.length a.pieces) (fun _ x => (a.pieces.length - x).toNat) (fun out x hst again hag => ?_) ⟨by omega, by omega, ⟨0, ShareI.start (t := t) hz⟩, rfl⟩
    obtain ⟨h0, h1, ⟨e, h2⟩, h3⟩ := hst
    refine ⟨fun hlt => ?_, fun hn => ?_⟩
    · rw [drop_gi (x := x) (by omega)] at h2 h3
      obtain ⟨s1, s2, s3, s4, s5, s6⟩ := h2.step
      have := h2.bd _ s2; have := h2.e1; have := h2.e0
      exact ⟨by omega, s2, by omega, by omega, by omega, hag _ _ ⟨by omega, by omega, ⟨(gi a.pieces x).to, s1⟩, h3⟩ (by omega)⟩
    · rw [drop_end (by omega)] at h3
      rw [← h3] at h; exact h
/-! the main text -/
theorem fold_max : ∀ (l : List Int) (m : Int), m ≤ l.foldl max m ∧ (∀ x ∈ l, x ≤ l.foldl max m) ∧ (l.foldl max m = m ∨ l.foldl max m ∈ l)
  | [], m => ⟨Int.le_refl _, (fun _ h => by cases h), .inl rfl⟩
  | a :: l, m => by
    obtain ⟨h1, h2, h3⟩ := fold_max l (max m a)
    rw [List.foldl_cons]
    refine ⟨by omega, fun x hx => ?_, ?_⟩
    · rcases List.mem_cons.1 hx with rfl | hx
      · omega
      · exact h2 x hx
    · rcases h3 with h3 | h3
      · rcases Int.le_total m a with hm | hm
        · right; rw [h3, Int.max_eq_right hm]; simp
        · left; rw [h3, Int.max_eq_left hm]
      · right; simp [h3]
theorem maxF_mem {l : List Int} (h : 0 < l.length) : maxF l ∈ l := by
  unfold maxF
  rcases (fold_max l (gi l 0)).2.2 with e | e
  · rw [e]; exact gi_mem (by omega)
  · exact e
theorem maxF_ge {l : List Int} {x : Int} (h : x ∈ l) : x ≤ maxF l := (fold_max l (gi l 0)).2.1 x h
theorem maxF_at {l : List Int} {b : Int} (hb : inL b l.length) (h : ∀ j : Int, inL j l.length → gi l j ≤ gi l b) : maxF l = gi l b := by
  have h1 := maxF_ge (gi_mem hb)
  obtain ⟨n, hn, e⟩ := List.getElem_of_mem (maxF_mem (l := l) (by omega))
  have := h n (by omega)
  rw [gi_nat hn, e] at this
  omega
theorem find_first {l : List Int} {p : Int → Bool} {b : Int} (hb : inL b l.length) (h1 : p (gi l b) = true) (h2 : ∀ j : Int, 0 ≤ j → j < b → p (gi l j) = false) : ((l.findIdx p : Nat) : Int) = b ∧ idxOf p l = b := by
  have e : l.findIdx p = b.toNat := by
    rw [List.findIdx_eq (by omega)]
    refine ⟨by rw [← gi_lt hb]; exact h1, fun j hj => ?_⟩
    have := h2 j (by omega) (by omega)
    rwa [gi_nat (by omega)] at this
  refine ⟨by omega, ?_⟩
  unfold idxOf
  have : l.findIdx? p = some b.toNat := by
    rw [List.findIdx?_eq_some_iff_getElem]
    refine ⟨by omega, by rw [← gi_lt hb]; exact h1, fun j hj => ?_⟩
    have := h2 j (by omega) (by omega)
    rw [gi_nat (by omega)] at this
    simp [this]
  rw [this]; simp only; omega
theorem first_max {l : List Int} (h : 0 < l.length) : ∃ b : Int, inL b l.length ∧ gi l b = maxF l ∧ ∀ j : Int, 0 ≤ j → j < b → gi l j ≠ maxF l := by
  have hm := maxF_mem h
  have hex : ∃ x ∈ l, decide (x = maxF l) = true := ⟨_, hm, by simp⟩
  have hlt := List.findIdx_lt_length_of_exists hex
  have hf := List.findIdx_getElem (xs := l) (p := fun x => decide (x = maxF l)) (w := hlt)
  refine ⟨(l.findIdx fun x => decide (x = maxF l) : Nat), by omega, by rw [gi_nat hlt]; simpa using hf, fun j h0 hj => ?_⟩
  obtain ⟨n, rfl⟩ := Int.eq_ofNat_of_zero_le h0
  have := List.not_of_lt_findIdx (xs := l) (p := fun x => decide (x = maxF l)) (i := n) (by omega)
  rw [gi_nat (by omega)]
  simpa using this
theorem shareF_facts {c : Corpus} {t : Text} {a : Attribution} (h : (shareF c t a).2 = 0) : rightCT c t = true ∧ checkA c t 1 a = 0 ∧ (shareF c t a).1 = shareL c.texts.length a.pieces := by
  unfold shareF at h ⊢
  cases hr : rightCT c t with
  | false => rw [hr] at h; simp at h
  | true =>
    rw [hr] at h
    by_cases hc : checkA c t 1 a = 0
    · exact ⟨rfl, hc, by simp [hc]⟩
    · simp [hc] at h
theorem mul_bd {p n : Int} (h0 : 0 ≤ p) (h1 : p ≤ 100) (h2 : 0 ≤ n) (h3 : n ≤ 1000000) : 0 ≤ p * n ∧ p * n ≤ 100000000 := by
  have := Int.mul_le_mul h1 h3 h2 (by omega)
  exact ⟨Int.mul_nonneg h0 h2, by omega⟩
theorem tmain_ok (c : Corpus) (t : Text) (a : Attribution) (percent : Int) (Q : ByteArray × Bool → Prop) (hp0 : okC c) (hp1 : okT t) (hp2 : okA a) (h : Q (mainF c t a percent)) : tmain_vc c t a percent Q := by
  unfold mainF at h
  have hcl := hp0.1.1; have htl := hp1.2.1
  refine ⟨hp0, hp1, hp2, fun hb => ?_, fun hg => ?_⟩
  · rw [if_neg (by omega)] at h; exact h
  rw [if_pos (by omega)] at h
  obtain ⟨⟨⟨hz, hl⟩, hq0⟩, hq1⟩ := hg
  obtain ⟨f1, f2, f3⟩ := shareF_facts hz
  obtain ⟨s1, s2⟩ := share_facts f2
  rw [f3] at h hl ⊢
  obtain ⟨b, b1, b2, b3⟩ := first_max (l := shareL c.texts.length a.pieces) (by omega)
  have hbd := s2 b (by rw [← s1]; exact b1)
  have hmb := mul_bd (p := percent) (n := t.words.length) (by omega) (by omega) (by omega) (by omega)
  obtain ⟨e1, e2⟩ := find_first (p := fun x => decide (x = maxF (shareL c.texts.length a.pieces))) b1 (by simpa using b2) (fun j h0 hj => by simpa using b3 j h0 hj)
  refine ⟨by omega, by omega, fun _ => ⟨by omega, by omega⟩, fun hb => ?_, fun hb => ?_⟩
  · rw [if_pos hb] at h; exact h
  · rw [if_neg (by omega), e1] at h
    rw [e2]
    exact ⟨by omega, by rw [← s1]; exact b1, h⟩
/-! the reference's checks -/
theorem gi_lsubA {α : Type} [Inhabited α] {l : List α} {lo hi j : Int} (hs : inS lo hi l.length) (hj : inL j (hi - lo).toNat) : gi (lsub l lo hi) j = gi l (lo + j) := by
  have hl := lsub_length hs
  rw [gi_lt (by omega), gi_lt (by omega)]
  simp only [lsub, List.getElem_drop, List.getElem_take]
  congr 1; omega
/-! what is unknown, as the reference says it -/
end Go.Lic

set_option linter.all false
namespace Go.Lic
open Go.Proofs Go.Sort Go.Shelf

theorem common_drop {A B : List Lexeme} {i j : Int} (hi : inL i A.length) (hj : inL j B.length) (h : (gi A i).text = (gi B j).text) : commonW (A.drop i.toNat) (B.drop j.toNat) = commonW (A.drop (i + 1).toNat) (B.drop (j + 1).toNat) + 1 := by
  rw [drop_gi hi, drop_gi hj, commonW, if_pos h]
theorem common_stop {A B : List Lexeme} {i j : Int} (hi : 0 ≤ i) (hj : 0 ≤ j) (h : ¬ i < A.length ∨ ¬ j < B.length ∨ (inL i A.length ∧ inL j B.length ∧ ¬ (gi A i).text = (gi B j).text)) : commonW (A.drop i.toNat) (B.drop j.toNat) = 0 := by
  rcases h with h | h | ⟨h1, h2, h3⟩
  · rw [drop_end h]; rfl
  · rw [drop_end h]; exact common_nilR _
  · rw [drop_gi h1, drop_gi h2, commonW, if_neg h3]
/-! what is unknown -/
theorem restL_sub {t : Text} : ∀ (l : List Piece) (e : Int) (x : List Line), 0 ≤ e → restL t e l = some x → ∃ w : List Lexeme, w.Sublist (t.words.drop e.toNat) ∧ x = linesW t w
  | [], e, x, _, h => by
    rw [restL] at h; cases h
    exact ⟨_, List.Sublist.refl _, rfl⟩
  | p :: l, e, x, he, h => by
    rw [restL] at h
    split at h
    · next hp =>
      rw [Bool.and_eq_true, decide_eq_true_eq] at hp
      obtain ⟨k1, k2, k3⟩ := (rangedF_iff _ _).1 hp.1
      obtain ⟨y, hy, rfl⟩ := Option.map_eq_some_iff.1 h
      obtain ⟨w, hw, rfl⟩ := restL_sub l p.to y (by omega) hy
      refine ⟨lsub t.words e p.from_ ++ w, ?_, (linesW_app _ _ _).symm⟩
      have e1 : t.words.drop e.toNat = lsub t.words e p.from_ ++ t.words.drop p.from_.toNat := by
        rw [lsub_eq _ he (by omega)]
        have := (List.take_append_drop (p.from_ - e).toNat (t.words.drop e.toNat)).symm
        rw [List.drop_drop, show e.toNat + (p.from_ - e).toNat = p.from_.toNat by omega] at this
        exact this
      rw [e1]
      refine (List.Sublist.refl _).append (hw.trans ?_)
      rw [show p.to.toNat = p.from_.toNat + (p.to - p.from_).toNat by omega, ← List.drop_drop]
      exact List.drop_sublist _ _
    · cases h
end Go.Lic

set_option linter.all false
namespace Go.Lic
open Go.Proofs Go.Sort Go.Shelf

/-! the longest runs -/
theorem longW_succ {ts : List Text} {a : List Lexeme} {x : Int} (h : inL x ts.length) : longW (ts.take (x + 1).toNat) a = max (longW (ts.take x.toNat) a) (runMax a (gi ts x).words) := by
  unfold longW
  rw [show (x + 1).toNat = x.toNat + 1 by omega, List.take_succ, gi_get? h, List.foldl_append]; rfl
theorem runMax_drop {a l : List Lexeme} {j : Int} (h : inL j l.length) : runMax a (l.drop j.toNat) = max (commonW (l.drop j.toNat) a) (runMax a (l.drop (j + 1).toNat)) := by
  rw [drop_gi h]; rfl
theorem gi_replA {n : Int} {i : Int} : gi (List.replicate n.toNat (0 : Int)) i = 0 := gi_rep
/-- Between two rounds over the words of a text. -/
structure LongJ (c : Corpus) (t : Text) (x : Int) (runs out : List Int) (ix : Int) : Prop where
  lo : -1 ≤ ix
  hi : ix ≤ (t.words.length : Int) - 1
  lr : (runs.length : Int) = (gi c.texts x).words.length + 1
  lo' : out.length = t.words.length
  rn : ∀ j : Int, 0 ≤ j → j ≤ (gi c.texts x).words.length → gi runs j = (commonW ((gi c.texts x).words.drop j.toNat) (t.words.drop (ix + 1).toNat) : Nat)
  ou : ∀ i : Int, inL i t.words.length → gi out i = if i ≤ ix then ((longW (c.texts.take x.toNat) (t.words.drop i.toNat) : Nat) : Int) else ((longW (c.texts.take (x + 1).toNat) (t.words.drop i.toNat) : Nat) : Int)
theorem longAF_gi {c : Corpus} {t : Text} {j : Int} (h : inL j t.words.length) : gi (longAF c t) j = ((longW c.texts (t.words.drop j.toNat) : Nat) : Int) := by
  unfold longAF
  rw [gi_map (by rw [longsN_len]; exact h)]
  have := longsN_get c.texts t.words j.toNat (by omega)
  rw [← this]; rfl
theorem tlongest_ok (c : Corpus) (t : Text) (Q : (List Int) → Prop) (hp0 : okC c) (hp1 : okT t) (h : Q (longAF c t)) : tlongest_vc c t Q := by
  have hcl := hp0.1.1; have htl := hp1.2.1
  refine ⟨⟨by omega, by omega, by omega⟩, ?_⟩
  refine lfp2 (tlongest_L1 c t Q) (fun out x => 0 ≤ x ∧ x ≤ c.texts.length ∧ out.length = t.words.length ∧ ∀ i : Int, inL i t.words.length → gi out i = ((longW (c.texts.take x.toNat) (t.words.drop i.toNat) : Nat) : Int)) (fun _ x => (c.texts.length - x).toNat) (fun out x hst again hag => ?_) ⟨by omega, by omega, by simp, fun i hi => by rw [gi_replA]; simp [longW]⟩
  obtain ⟨h0, h1, h2, h3⟩ := hst
  refine ⟨fun hlt => ?_, fun hn => ?_⟩
  · have hx : inL x c.texts.length := by omega
    have hkl := (hp0.1.2 _ (gi_mem hx)).2.1
    refine ⟨hx, by omega, ⟨by omega, by omega, by omega⟩, by omega, (fun s => LongJ c t x s.1.1 s.1.2 s.2), ⟨by simp only; omega, by simp only; omega, by simp only [List.length_replicate]; omega, h2, fun j k0 k1 => ?_, fun i hi => ?_⟩, ?_⟩
    · simp only
      rw [gi_replA, show ((t.words.length : Int) - 1 + 1).toNat = t.words.length by omega, List.drop_length, common_nilR]; rfl
    · simp only
      rw [if_pos (by omega)]; exact h3 i hi
    rintro ⟨⟨runs, out1⟩, ix⟩ J
    simp only at J ⊢
    have jl := J.lo; have jh := J.hi; have jr := J.lr; have jo := J.lo'
    refine ⟨fun hix => ?_, fun hn => ⟨by omega, hag _ _ ⟨by omega, by omega, J.lo', fun i hi => ?_⟩ (by omega)⟩⟩
    · have hixl : inL ix t.words.length := by omega
      refine lfp3 (tlongest_L3 c t x ix _) (fun rs os y => 0 ≤ y ∧ y ≤ (gi c.texts x).words.length ∧ (rs.length : Int) = (gi c.texts x).words.length + 1 ∧ os.length = t.words.length ∧
          (∀ j : Int, 0 ≤ j → j ≤ (gi c.texts x).words.length → gi rs j = if j < y then ((commonW ((gi c.texts x).words.drop j.toNat) (t.words.drop ix.toNat) : Nat) : Int) else ((commonW ((gi c.texts x).words.drop j.toNat) (t.words.drop (ix + 1).toNat) : Nat) : Int)) ∧
          (∀ i : Int, inL i t.words.length → i ≠ ix → gi os i = gi out1 i) ∧ max (gi os ix) ((runMax (t.words.drop ix.toNat) ((gi c.texts x).words.drop y.toNat) : Nat) : Int) = ((longW (c.texts.take (x + 1).toNat) (t.words.drop ix.toNat) : Nat) : Int) ∧ 0 ≤ gi os ix)
        (fun _ _ y => ((gi c.texts x).words.length - y).toNat) (fun rs os y hst again12 hag12 => ?_) ⟨by omega, by omega, J.lr, J.lo', fun j k0 k1 => by rw [if_neg (by omega)]; exact J.rn j k0 k1, fun _ _ _ => rfl, ?_, by have e1 := J.ou ix hixl; rw [if_pos (by omega)] at e1; omega⟩
      · obtain ⟨g0, g1, g2, g3, g4, g5, g6, g7⟩ := hst
        have fin : ∀ v : Int, y < (gi c.texts x).words.length → v = ((commonW ((gi c.texts x).words.drop y.toNat) (t.words.drop ix.toNat) : Nat) : Int) → tlongest_J1 ix os y again12 (si rs y v) := fun v hlt hv => by
          have hyl : inL y rs.length := by omega
          have hol : inL ix os.length := by omega
          have e1 : gi (si rs y v) y = v := by rw [gi_siA hyl v (by omega), if_pos rfl]
          refine ⟨hol, by rw [si_length]; exact hyl, by omega, hag12 _ _ _ ⟨by omega, by omega, by rw [si_length]; exact g2, by rw [si_length]; exact g3, fun j k0 k1 => ?_, fun i hi hne => ?_, ?_, ?_⟩ (by omega)⟩
          · rw [gi_siA hyl v k0]
            by_cases hj : j = y
            · subst hj; rw [if_pos rfl, if_pos (by omega)]; exact hv
            · rw [if_neg hj, g4 j k0 k1]
              by_cases hlt2 : j < y
              · rw [if_pos hlt2, if_pos (by omega)]
              · rw [if_neg hlt2, if_neg (by omega)]
          · rw [gi_siA hol _ hi.1, if_neg hne]; exact g5 i hi hne
          · rw [gi_siA hol _ hixl.1, if_pos rfl, gmax1, e1, hv]
            rw [runMax_drop (by omega)] at g6
            omega
          · rw [gi_siA hol _ hixl.1, if_pos rfl, gmax1]; omega
        refine ⟨fun hlt => ⟨by omega, fun he => ?_, fun hne => ⟨by omega, fin 0 hlt ?_⟩⟩, fun hn => ?_⟩
        · have e1 := g4 (y + 1) (by omega) (by omega)
          rw [if_neg (by omega)] at e1
          have b1 := (common_le ((gi c.texts x).words.drop (y + 1).toNat) (t.words.drop (ix + 1).toNat)).1
          rw [List.length_drop] at b1
          refine ⟨by omega, by omega, by omega, by omega, fin _ hlt ?_⟩
          rw [common_drop (i := y) (j := ix) (by omega) hixl he, e1]; omega
        · rw [common_stop (i := y) (j := ix) (by omega) (by omega) (.inr (.inr ⟨by omega, hixl, hne⟩))]; rfl
        · have hy : y = (gi c.texts x).words.length := by omega
          refine ⟨by omega, by omega, g2, g3, fun j k0 k1 => ?_, fun i hi => ?_⟩
          · simp only
            rw [show ix - 1 + 1 = ix by omega]
            by_cases hj : j < y
            · rw [g4 j k0 k1, if_pos hj]
            · have e1 := g4 j k0 k1
              rw [if_neg hj] at e1
              have hjd : (gi c.texts x).words.drop j.toNat = [] := List.drop_eq_nil_of_le (by omega)
              rw [hjd] at e1 ⊢; rw [e1]; rfl
          · simp only
            rw [drop_end (l := (gi c.texts x).words) (by omega)] at g6
            have e0 : runMax (t.words.drop ix.toNat) [] = 0 := rfl
            rw [e0] at g6
            by_cases hie : i = ix
            · subst hie
              rw [if_neg (by omega)]
              have := J.ou i hi
              omega
            · rw [g5 i hi hie, J.ou i hi]
              by_cases hl : i ≤ ix
              · rw [if_pos hl, if_pos (by omega)]
              · rw [if_neg hl, if_neg (by omega)]
      · have e1 := J.ou ix hixl
        rw [if_pos (by omega)] at e1
        rw [e1, longW_succ hx]
        simp only [Int.toNat_zero, List.drop_zero]
        omega
    · have := J.ou i hi
      rw [if_neg (by omega)] at this
      exact this
  · have hx : x.toNat = c.texts.length := by omega
    rw [hx, List.take_length] at h3
    have e : out = longAF c t := by
      refine list_ext_gi (by simp [longAF, longsN_len, h2]) fun j k0 k1 => ?_
      rw [h3 j (by omega)]
      exact (longAF_gi (by omega)).symm
    rw [e]; exact h
end Go.Lic
