/-
  The conditions of functions of chapter 30 hold: shares, the main text, the reference's checks. No program in sight.
-/
import Derived.Test.YtaofnefejkokdaaGreatDoorTo1
set_option linter.all false
namespace Go.Lic
open Go.Proofs Go.Sort Go.Shelf
theorem gi_siA {α : Type} [Inhabited α] {l : List α} {i : Int} (h : inL i l.length) (v : α) {j : Int} (hj : 0 ≤ j) : gi (si l i v) j = if j = i then v else gi l j := by
 unfold gi si
 rw [List.getD_eq_getElem?_getD, List.getElem?_set, List.getD_eq_getElem?_getD]
 by_cases e : j = i
 · subst e
   rw [if_pos rfl, if_pos rfl, if_pos (by omega)]; rfl
 · rw [if_neg e, if_neg (by omega)]
theorem wordsA_line : ∀ {l : List Lexeme} {least : Int}, wordsF least l = true → ∀ w ∈ l, least ≤ w.line ∧ w.line < 1024
 | [], _, _, w, hw => by cases hw
 | x :: l, least, h, w, hw => by
   rw [wordsF, Bool.and_eq_true] at h
   obtain ⟨h1, h2⟩ := h
   unfold wordF at h1
   simp only [Bool.and_eq_true, decide_eq_true_eq] at h1
   rcases List.mem_cons.1 hw with rfl | hw
   · omega
   · have := wordsA_line h2 w hw
     omega
theorem wordsA_pair : ∀ {l : List Lexeme} {least : Int}, wordsF least l = true → l.Pairwise (fun a b => a.line ≤ b.line)
 | [], _, _ => .nil
 | x :: l, least, h => by
   rw [wordsF, Bool.and_eq_true] at h
   exact List.pairwise_cons.2 ⟨fun y hy => (wordsA_line h.2 y hy).1, wordsA_pair h.2⟩
theorem valid_parts {t : Text} (h : validT t = true) : t.words.length ≤ 8192 ∧ pathB t.path = true ∧ wordsF 0 t.words = true := by
 unfold validT at h
 simp only [Bool.and_eq_true, decide_eq_true_eq] at h
 exact ⟨h.1.1, h.1.2, h.2⟩
theorem checkA_zero {c : Corpus} {t : Text} {least : Int} {a : Attribution} : checkA c t least a = 0 ↔ rightA c t least = 0 ∧ a.path = t.path ∧ checkPs c t least 0 a.pieces = 0 := by
 unfold checkA
 by_cases h : rightA c t least = 0
 · rw [if_pos h]
   by_cases hp : a.path = t.path
   · rw [if_pos hp]; exact ⟨fun e => ⟨h, hp, e⟩, fun e => e.2.2⟩
   · rw [if_neg hp]; exact ⟨fun e => (by cases e), fun e => absurd e.2.1 hp⟩
 · rw [if_neg h]; exact ⟨fun e => absurd e h, fun e => absurd e.1 h⟩
theorem rightA_one {c : Corpus} {t : Text} : rightA c t 1 = if rightCT c t then 0 else 1 := by
 unfold rightA; simp
abbrev shareS (out : List Int) (p : Piece) : List Int := si out p.text (gi out p.text + (p.to - p.from_))
structure ShareI (c : Corpus) (t : Text) (e : Int) (out : List Int) (l : List Piece) : Prop where
 len : out.length = c.texts.length
 e0 : 0 ≤ e
 e1 : e ≤ t.words.length
 chk : checkPs c t 1 e l = 0
 bd : ∀ i : Int, inL i out.length → 0 ≤ gi out i ∧ gi out i ≤ e
theorem ShareI.step {c : Corpus} {t : Text} {e : Int} {out : List Int} {p : Piece} {l : List Piece} (h : ShareI c t e out (p :: l)) : ShareI c t p.to (shareS out p) l ∧ inL p.text out.length ∧ 0 ≤ p.from_ ∧ p.from_ < p.to ∧ p.to ≤ t.words.length ∧ e ≤ p.from_ := by
 obtain ⟨h1, h2, h3⟩ := checkPs_cons.1 h.chk
 obtain ⟨⟨k1, k2, k3⟩, _, k4, _⟩ := (pieceOk_iff _ _ _ _).1 h1
 have hx : inL p.text out.length := by rw [h.len]; exact k4
 refine ⟨⟨by rw [si_length]; exact h.len, by omega, k3, h3, fun i hi => ?_⟩, hx, k1, k2, k3, h2⟩
 rw [si_length] at hi
 rw [gi_siA hx _ hi.1]
 have := h.bd i hi; have := h.bd _ hx; have := h.e0
 split <;> omega
theorem gi_rep {n : Nat} {i : Int} : gi (List.replicate n (0 : Int)) i = 0 := by
 unfold gi
 rw [List.getD_eq_getElem?_getD, List.getElem?_replicate]
 split <;> rfl
theorem ShareI.start {c : Corpus} {t : Text} {a : Attribution} (h : checkA c t 1 a = 0) : ShareI c t 0 (List.replicate c.texts.length 0) a.pieces :=
 ⟨by simp, by omega, by omega, (checkA_zero.1 h).2.2, fun i _ => by rw [gi_rep]; omega⟩
theorem ShareI.run {c : Corpus} {t : Text} : ∀ {l : List Piece} {e : Int} {out : List Int}, ShareI c t e out l → ∃ e', ShareI c t e' (l.foldl shareS out) []
 | [], e, out, h => ⟨e, h⟩
 | p :: l, e, out, h => by rw [List.foldl_cons]; exact ShareI.run (h.step).1
theorem share_facts {c : Corpus} {t : Text} {a : Attribution} (h : checkA c t 1 a = 0) : (shareL c.texts.length a.pieces).length = c.texts.length ∧ ∀ i : Int, inL i c.texts.length → 0 ≤ gi (shareL c.texts.length a.pieces) i ∧ gi (shareL c.texts.length a.pieces) i ≤ t.words.length := by
 obtain ⟨e, he⟩ := (ShareI.start h).run
 refine ⟨he.len, fun i hi => ?_⟩
 have h1 := he.bd i (by rw [he.len]; exact hi)
 have h2 := he.e1
 exact ⟨h1.1, Int.le_trans h1.2 h2⟩
theorem tshare_ok (c : Corpus) (t : Text) (a : Attribution) (Q : (List Int) × Int → Prop) (hp0 : okC c) (hp1 : okT t) (hp2 : okA a) (h : Q (shareF c t a)) : tshare_vc c t a Q := by
 unfold shareF at h
 have hcl := hp0.1.1; have htl := hp1.2.1; have hal := hp2.2
 refine ⟨hp0, hp1, fun hb => by rw [hb] at h; exact h, fun hb => ⟨hp0, hp1, hp2, fun hn => ?_, fun hz => ⟨⟨by omega, by omega, by omega⟩, ?_⟩⟩⟩
 · rw [hb, if_pos rfl, if_neg hn] at h; exact h
 · rw [hb, if_pos rfl, if_pos hz] at h
   refine lfp2 (tshare_L1 a Q) (fun out x => 0 ≤ x ∧ x ≤ a.pieces.length ∧ (∃ e, ShareI c t e out (a.pieces.drop x.toNat)) ∧ (a.pieces.drop x.toNat).foldl shareS out = shareL c.texts.length a.pieces) (fun _ x => (a.pieces.length - x).toNat) (fun out x hst again hag => ?_) ⟨by omega, by omega, ⟨0, ShareI.start (t := t) hz⟩, rfl⟩
   obtain ⟨h0, h1, ⟨e, h2⟩, h3⟩ := hst
   refine ⟨fun hlt => ?_, fun hn => ?_⟩
   · rw [drop_gi (x := x) (by omega)] at h2 h3
     obtain ⟨s1, s2, s3, s4, s5, s6⟩ := h2.step
     have := h2.bd _ s2; have := h2.e1; have := h2.e0
     exact ⟨by omega, s2, by omega, by omega, by omega, hag _ _ ⟨by omega, by omega, ⟨(gi a.pieces x).to, s1⟩, h3⟩ (by omega)⟩
   · rw [drop_end (by omega)] at h3
     rw [← h3] at h; exact h
theorem rshare_ok (c : Corpus) (t : Text) (a : Attribution) (Q : (List Int) × Int → Prop) (hp0 : okC c) (hp1 : okT t) (hp2 : okA a) (h : Q (shareF c t a)) : rshare_vc c t a Q := by
 unfold shareF at h
 have hcl := hp0.1.1; have htl := hp1.2.1; have hal := hp2.2
 refine ⟨hp0, hp1, fun hb => ?_, fun hb => ?_⟩
 · rw [rightA_one] at hb
   cases hc : rightCT c t with
   | true => rw [hc] at hb; simp at hb
   | false => rw [hc] at h; exact h
 rw [rightA_one] at hb
 have hb : rightCT c t = true := by
   cases hc : rightCT c t with
   | true => rfl
   | false => rw [hc] at hb; simp at hb
 refine ⟨hp0, hp1, hp2, fun hn => ?_, fun hz => ⟨⟨by omega, by omega, by omega⟩, ?_⟩⟩
 · rw [hb, if_pos rfl, if_neg hn] at h; exact h
 · rw [hb, if_pos rfl, if_pos hz] at h
   refine lfp2 (rshare_L1 a Q) (fun out x => 0 ≤ x ∧ x ≤ a.pieces.length ∧ (∃ e, ShareI c t e out (a.pieces.drop x.toNat)) ∧ (a.pieces.drop x.toNat).foldl shareS out = shareL c.texts.length a.pieces) (fun _ x => (a.pieces.length - x).toNat) (fun out x hst again hag => ?_) ⟨by omega, by omega, ⟨0, ShareI.start (t := t) hz⟩, rfl⟩
   obtain ⟨h0, h1, ⟨e, h2⟩, h3⟩ := hst
   refine ⟨fun hlt => ?_, fun hn => ?_⟩
   · rw [drop_gi (x := x) (by omega)] at h2 h3
     obtain ⟨s1, s2, s3, s4, s5, s6⟩ := h2.step
     have := h2.bd _ s2; have := h2.e1; have := h2.e0
     refine ⟨by omega, s2, by omega, by omega, by omega, hag _ _ ⟨by omega, by omega, ⟨(gi a.pieces x).to, ?_⟩, ?_⟩ (by omega)⟩
     · rw [Int.add_sub_assoc]; exact s1
     · rw [Int.add_sub_assoc]; exact h3
   · rw [drop_end (by omega)] at h3
     rw [← h3] at h; exact h
theorem fold_max : ∀ (l : List Int) (m : Int), m ≤ l.foldl max m ∧ (∀ x ∈ l, x ≤ l.foldl max m) ∧ (l.foldl max m = m ∨ l.foldl max m ∈ l)
 | [], m => ⟨Int.le_refl _, (fun _ h => by cases h), .inl rfl⟩
 | a :: l, m => by
   obtain ⟨h1, h2, h3⟩ := fold_max l (max m a)
   rw [List.foldl_cons]
   refine ⟨by omega, fun x hx => ?_, ?_⟩
   · rcases List.mem_cons.1 hx with rfl | hx
     · omega
     · exact h2 x hx
   · rcases h3 with h3 | h3
     · rcases Int.le_total m a with hm | hm
       · right; rw [h3, Int.max_eq_right hm]; simp
       · left; rw [h3, Int.max_eq_left hm]
     · right; simp [h3]
theorem maxF_mem {l : List Int} (h : 0 < l.length) : maxF l ∈ l := by
 unfold maxF
 rcases (fold_max l (gi l 0)).2.2 with e | e
 · rw [e]; exact gi_mem (by omega)
 · exact e
theorem find_first {l : List Int} {p : Int → Bool} {b : Int} (hb : inL b l.length) (h1 : p (gi l b) = true) (h2 : ∀ j : Int, 0 ≤ j → j < b → p (gi l j) = false) : ((l.findIdx p : Nat) : Int) = b ∧ idxOf p l = b := by
 have e : l.findIdx p = b.toNat := by
   rw [List.findIdx_eq (by omega)]
   refine ⟨by rw [← gi_lt hb]; exact h1, fun j hj => ?_⟩
   have := h2 j (by omega) (by omega)
   rwa [gi_nat (by omega)] at this
 refine ⟨by omega, ?_⟩
 unfold idxOf
 have : l.findIdx? p = some b.toNat := by
   rw [List.findIdx?_eq_some_iff_getElem]
   refine ⟨by omega, by rw [← gi_lt hb]; exact h1, fun j hj => ?_⟩
   have := h2 j (by omega) (by omega)
   rw [gi_nat (by omega)] at this
   simp [this]
 rw [this]; simp only; omega
theorem first_max {l : List Int} (h : 0 < l.length) : ∃ b : Int, inL b l.length ∧ gi l b = maxF l ∧ ∀ j : Int, 0 ≤ j → j < b → gi l j ≠ maxF l := by
 have hm := maxF_mem h
 have hex : ∃ x ∈ l, decide (x = maxF l) = true := ⟨_, hm, by simp⟩
 have hlt := List.findIdx_lt_length_of_exists hex
 have hf := List.findIdx_getElem (xs := l) (p := fun x => decide (x = maxF l)) (w := hlt)
 refine ⟨(l.findIdx fun x => decide (x = maxF l) : Nat), by omega, by rw [gi_nat hlt]; simpa using hf, fun j h0 hj => ?_⟩
 obtain ⟨n, rfl⟩ := Int.eq_ofNat_of_zero_le h0
 have := List.not_of_lt_findIdx (xs := l) (p := fun x => decide (x = maxF l)) (i := n) (by omega)
 rw [gi_nat (by omega)]
 simpa using this
theorem shareF_facts {c : Corpus} {t : Text} {a : Attribution} (h : (shareF c t a).2 = 0) : rightCT c t = true ∧ checkA c t 1 a = 0 ∧ (shareF c t a).1 = shareL c.texts.length a.pieces := by
 unfold shareF at h ⊢
 cases hr : rightCT c t with
 | false => rw [hr] at h; simp at h
 | true =>
   rw [hr] at h
   by_cases hc : checkA c t 1 a = 0
   · exact ⟨rfl, hc, by simp [hc]⟩
   · simp [hc] at h
theorem mul_bd {p n : Int} (h0 : 0 ≤ p) (h1 : p ≤ 100) (h2 : 0 ≤ n) (h3 : n ≤ 1000000) : 0 ≤ p * n ∧ p * n ≤ 100000000 := by
 have := Int.mul_le_mul h1 h3 h2 (by omega)
 exact ⟨Int.mul_nonneg h0 h2, by omega⟩
theorem tmain_ok (c : Corpus) (t : Text) (a : Attribution) (percent : Int) (Q : ByteArray × Bool → Prop) (hp0 : okC c) (hp1 : okT t) (hp2 : okA a) (h : Q (mainF c t a percent)) : tmain_vc c t a percent Q := by
 unfold mainF at h
 have hcl := hp0.1.1; have htl := hp1.2.1
 refine ⟨hp0, hp1, hp2, fun hb => ?_, fun hg => ?_⟩
 · rw [if_neg (by omega)] at h; exact h
 rw [if_pos (by omega)] at h
 obtain ⟨⟨⟨hz, hl⟩, hq0⟩, hq1⟩ := hg
 obtain ⟨f1, f2, f3⟩ := shareF_facts hz
 obtain ⟨s1, s2⟩ := share_facts f2
 rw [f3] at h hl ⊢
 obtain ⟨b, b1, b2, b3⟩ := first_max (l := shareL c.texts.length a.pieces) (by omega)
 have hbd := s2 b (by rw [← s1]; exact b1)
 have hmb := mul_bd (p := percent) (n := t.words.length) (by omega) (by omega) (by omega) (by omega)
 obtain ⟨e1, e2⟩ := find_first (p := fun x => decide (x = maxF (shareL c.texts.length a.pieces))) b1 (by simpa using b2) (fun j h0 hj => by simpa using b3 j h0 hj)
 refine ⟨by omega, by omega, fun _ => ⟨by omega, by omega⟩, fun hb => ?_, fun hb => ?_⟩
 · rw [if_pos hb] at h; exact h
 · rw [if_neg (by omega), e1] at h
   rw [e2]
   exact ⟨by omega, by rw [← s1]; exact b1, h⟩
def endAt (l : List Piece) (i : Int) : Int := if i = 0 then 0 else (gi l (i - 1)).to
theorem rcheck_ok (c : Corpus) (t : Text) (least : Int) (a : Attribution) (Q : Int → Prop) (hp0 : okC c) (hp1 : okT t) (hp2 : okA a) (h : Q (checkA c t least a)) : rcheck_vc c t least a Q := by
 unfold checkA at h
 have hal := hp2.2
 refine ⟨hp0, hp1, fun hb => by rw [if_neg hb] at h; exact h, fun hz => ⟨fun hp => ?_, fun hp => ?_⟩⟩
 · rw [if_pos hz, if_neg hp] at h; exact h
 rw [if_pos hz, if_pos hp] at h
 refine lfp_of (fun i : Int => 0 ≤ i ∧ i ≤ a.pieces.length ∧ checkPs c t least (endAt a.pieces i) (a.pieces.drop i.toNat) = checkPs c t least 0 a.pieces) (fun i => (a.pieces.length - i).toNat) (fun i hst again hag => ?_) ⟨by omega, by omega, rfl⟩
 obtain ⟨h0, h1, h2⟩ := hst
 refine ⟨fun hlt => ⟨by omega, hp0, hp1, fun hf => ?_, fun ht => ⟨fun hi => ⟨by omega, by omega, by omega⟩, fun hb => ?_, fun hg => ⟨by omega, hag _ ⟨by omega, by omega, ?_⟩ (by omega)⟩⟩⟩, fun hn => ?_⟩
 · rw [drop_gi (x := i) (by omega), checkPs, if_neg (by rw [hf]; simp)] at h2
   rw [← h2] at h; exact h
 · rw [drop_gi (x := i) (by omega), checkPs, if_pos ht, if_pos] at h2
   · rw [← h2] at h; exact h
   · unfold endAt; rw [if_neg (by omega)]; exact hb.2
 · rw [drop_gi (x := i) (by omega), checkPs, if_pos ht, if_neg] at h2
   · unfold endAt; rw [if_neg (by omega), show i + 1 - 1 = i by omega]; exact h2
   · unfold endAt
     obtain ⟨⟨k1, _, _⟩, _⟩ := (pieceOk_iff _ _ _ _).1 ht
     split
     · omega
     · rcases hg with hg | hg
       · omega
       · exact hg
 · rw [drop_end (by omega)] at h2
   rw [← h2] at h; exact h
theorem gi_lsubA {α : Type} [Inhabited α] {l : List α} {lo hi j : Int} (hs : inS lo hi l.length) (hj : inL j (hi - lo).toNat) : gi (lsub l lo hi) j = gi l (lo + j) := by
 have hl := lsub_length hs
 rw [gi_lt (by omega), gi_lt (by omega)]
 simp only [lsub, List.getElem_drop, List.getElem_take]
 congr 1; omega
theorem rrightp_ok (c : Corpus) (t : Text) (least : Int) (x : Piece) (Q : Bool → Prop) (hp0 : okC c) (hp1 : okT t) (h : Q (pieceOk c t least x)) : rrightp_vc c t least x Q := by
 have htl := hp1.2.1
 refine ⟨fun _ => by omega, fun hb => ?_, fun hg => ?_⟩
 · rw [pieceOk_not] at h
   · exact h
   · rw [pieceOk_iff, sameF_iff]
     rintro ⟨⟨k1, k2, k3⟩, k4, k5, k6, _⟩
     omega
 obtain ⟨⟨⟨⟨⟨⟨g1, g2⟩, g3⟩, g4⟩, g5⟩, g6⟩, g7⟩ := hg
 have hx : inL x.text c.texts.length := by omega
 have hkl := (hp0.1.2 _ (gi_mem hx)).2.1
 have hs : inS x.from_ x.to t.words.length := by omega
 have hl := lsub_length hs
 refine ⟨hx, ?_⟩
 refine lfp_of (fun i : Int => 0 ≤ i ∧ i ≤ x.to - x.from_ ∧ (i = 0 ∨ x.at_ + i ≤ (gi c.texts x.text).words.length) ∧ (commonW ((gi c.texts x.text).words.drop (x.at_ + i).toNat) ((lsub t.words x.from_ x.to).drop i.toNat) = (x.to - x.from_ - i).toNat ↔ commonW ((gi c.texts x.text).words.drop x.at_.toNat) (lsub t.words x.from_ x.to) = (lsub t.words x.from_ x.to).length)) (fun i => (x.to - x.from_ - i).toNat) (fun i hst again hag => ?_) ⟨by omega, by omega, .inl rfl, by simp [hl]⟩
 obtain ⟨h0, h1, h2, h3⟩ := hst
 refine ⟨by omega, fun hlt => ⟨by omega, fun hge => ⟨by omega, by omega, by omega, by omega⟩, fun hb => ?_, fun hgd => ⟨by omega, hag _ ⟨by omega, by omega, .inr (by omega), ?_⟩ (by omega)⟩⟩, fun hn => ?_⟩
 · rw [pieceOk_not] at h
   · exact h
   · rw [pieceOk_iff, sameF_iff]
     rintro ⟨_, _, _, k1, k2, k3⟩
     rcases hb with hb | hb
     · omega
     · have k4 := h3.2 k3
       rw [drop_gi (l := (gi c.texts x.text).words) (x := x.at_ + i) (by omega), drop_gi (l := lsub t.words x.from_ x.to) (x := i) (by omega), gi_lsubA hs (by omega), commonW, if_neg hb] at k4
       omega
 · rw [drop_gi (l := (gi c.texts x.text).words) (x := x.at_ + i) (by omega), drop_gi (l := lsub t.words x.from_ x.to) (x := i) (by omega), gi_lsubA hs (by omega), commonW, if_pos hgd.2] at h3
   rw [← h3, show x.at_ + (i + 1) = x.at_ + i + 1 by omega]
   omega
 · have hi : i = x.to - x.from_ := by omega
   rw [drop_end (l := lsub t.words x.from_ x.to) (by omega), common_nilR] at h3
   have e : pieceOk c t least x = true := by
     rw [pieceOk_iff, sameF_iff]
     exact ⟨⟨by omega, by omega, by omega⟩, by omega, hx, by omega, by omega, h3.1 (by omega)⟩
   rw [e] at h; exact h
theorem pack_of_sorted {l : List Line} (hs : LSorted l) : packF l = mergeF (l.map unit) := by
 have h := pack_facts (fun _ => True) (fun _ _ _ _ => trivial) hs (fun _ _ => trivial)
 refine chain_ext h.1 (merge_chain unit_ne) fun p n => ?_
 rw [h.2.1, merge_in unit_ne, in_unit]
theorem ofF_lines {t : Text} (hv : validT t = true) {l : List Lexeme} (hl : l.Sublist t.words) : ofF (linesW t l) = (packF (linesW t l), 0) := by
 obtain ⟨v1, v2, v3⟩ := valid_parts hv
 have hr : ∀ x ∈ linesW t l, rightF x = true := fun x hx => by
   unfold linesW at hx
   obtain ⟨w, hw, rfl⟩ := List.mem_map.1 hx
   have := wordsA_line v3 w (hl.subset hw)
   unfold rightF
   simp only [Bool.and_eq_true, decide_eq_true_eq]
   exact ⟨v2, by omega, by omega⟩
 have hs : LSorted (linesW t l) := by
   unfold linesW LSorted
   rw [List.pairwise_map]
   refine ((wordsA_pair v3).sublist hl).imp fun {a b} hab => ?_
   rw [before_false]
   unfold PLt
   rintro (hh | hh)
   · simp only at hh; exact sl_irrefl _ hh
   · simp only at hh; omega
 have hf : (linesW t l).find? badLine = none := by
   rw [List.find?_eq_none]
   intro x hx; rw [bad_line, hr x hx]; simp
 unfold ofF
 rw [hf]
 simp only
 have e : (linesW t l).map unitW = (linesW t l).map unit := List.map_congr_left fun x hx => unitW_unit (hr x hx)
 rw [e, ← pack_of_sorted hs]
end Go.Lic
