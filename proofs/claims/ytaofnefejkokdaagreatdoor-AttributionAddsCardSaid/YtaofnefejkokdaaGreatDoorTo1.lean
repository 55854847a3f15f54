/-
  The conditions of functions of chapter 30 hold: lists, checks, shares, what is unknown. No program in sight.
-/
import Derived.Test.YtaofnefejkokdaaGreatDoorTv
import Derived.Test.YtaofnefejkokdaaGreatDoorTlo
import Derived.Test.YtaofnefejkokdaaGreatDoorTq
set_option linter.all false
namespace Go.Lic
open Go.Proofs Go.Sort Go.Shelf

theorem cmpInts_ok (s1 : (List Int)) (s2 : (List Int)) (Q : Int → Prop) (hp0 : s1.length ≤ 1000000) (hp1 : s2.length ≤ 1000000) (h : Q (cmpL s1 s2)) : cmpInts_vc s1 s2 Q := by
  refine lfp_of (fun x : Int => 0 ≤ x ∧ x ≤ s1.length ∧ x ≤ s2.length ∧ cmpL (s1.drop x.toNat) (s2.drop x.toNat) = cmpL s1 s2) (fun x => (s1.length - x).toNat) (fun x hx again hag => ?_) ⟨by omega, by omega, by omega, rfl⟩
  obtain ⟨h0, h1, h2, h3⟩ := hx
  refine ⟨fun hlt => ⟨by omega, fun hge => ?_, fun hng => ⟨by omega, fun hne => ?_, fun he => ⟨by omega, hag _ ⟨by omega, by omega, by omega, ?_⟩ (by omega)⟩⟩⟩, fun hn => ⟨fun hlt => ?_, fun hn2 => ?_⟩⟩
  · rw [drop_gi (x := x) (by omega), drop_end (l := s2) (by omega)] at h3; rw [← h3] at h; exact h
  · rw [drop_gi (l := s1) (x := x) (by omega), drop_gi (l := s2) (x := x) (by omega), cmpL, if_neg hne] at h3; rw [← h3] at h; exact h
  · rw [drop_gi (l := s1) (x := x) (by omega), drop_gi (l := s2) (x := x) (by omega), cmpL, if_pos he] at h3; exact h3
  · rw [drop_end (l := s1) (by omega), drop_gi (l := s2) (x := x) (by omega)] at h3; rw [← h3] at h; exact h
  · rw [drop_end (l := s1) (by omega), drop_end (l := s2) (by omega)] at h3; rw [← h3] at h; exact h
theorem maxInts_ok (x : (List Int)) (Q : Int → Prop) (hp0 : 0 < x.length) (hp1 : x.length ≤ 1000000) (h : Q (maxF x)) : maxInts_vc x Q := by
  refine ⟨fun hlt => by omega, fun _ => ⟨by omega, ?_⟩⟩
  refine lfp2 (maxInts_L1 x Q) (fun m i => 1 ≤ i ∧ i ≤ x.length ∧ (x.drop i.toNat).foldl max m = maxF x) (fun _ i => (x.length - i).toNat) (fun m i hst again hag => ?_) ⟨by omega, by omega, ?_⟩
  · obtain ⟨h0, h1, h2⟩ := hst
    refine ⟨fun hlt => ⟨by omega, by omega, hag _ _ ⟨by omega, by omega, ?_⟩ (by omega)⟩, fun hn => ?_⟩
    · rw [drop_gi (x := i) (by omega), List.foldl_cons] at h2; rw [gmax1]; exact h2
    · rw [drop_end (by omega)] at h2; rw [← h2] at h; exact h
  · cases x with
    | nil => simp at hp0
    | cons a l =>
      unfold maxF
      have e : gi (a :: l) 0 = a := rfl
      rw [e, List.foldl_cons, Int.max_self]; rfl
theorem eqPiece_iff (a b : Piece) : eqPiece a b = true ↔ a = b := by
  obtain ⟨a1, a2, a3, a4⟩ := a; obtain ⟨b1, b2, b3, b4⟩ := b
  simp [eqPiece]
theorem eqPieces_ok (s1 : (List Piece)) (s2 : (List Piece)) (Q : Bool → Prop) (hp0 : s1.length ≤ 9223372036854775807) (h : Q ((decide (s1 = s2)))) : eqPieces_vc s1 s2 Q := eq_gen eqPiece eqPiece_iff s1 s2 Q hp0 h
theorem tvalid_ok (c : Corpus) (t : Text) (Q : Bool → Prop) (hp0 : okC c) (hp1 : okT t) (h : Q (rightCT c t)) : tvalid_vc c t Q := by
  refine ⟨hp0, fun _ => hp1, ?_⟩
  rw [int_beq]; exact h
theorem common_nilR (a : List Lexeme) : commonW a [] = 0 := by cases a <;> rfl
theorem tsame_ok (words : (List Lexeme)) (known : (List Lexeme)) (at_ : Int) (Q : Bool → Prop) (hp0 : words.length ≤ 1000000) (hp1 : known.length ≤ 1000000) (h : Q (sameF words known at_)) : tsame_vc words known at_ Q := by
  unfold sameF at h
  refine ⟨fun _ => by omega, fun hb => ?_, fun hg => ?_⟩
  · have e : (decide (0 ≤ at_) && decide (at_ + words.length ≤ known.length) && decide (commonW (known.drop at_.toNat) words = words.length)) = false := by
      rw [Bool.and_eq_false_iff, Bool.and_eq_false_iff, decide_eq_false_iff_not, decide_eq_false_iff_not]
      left; omega
    rw [e] at h; exact h
  · rw [decide_eq_true (show 0 ≤ at_ by omega), decide_eq_true (show at_ + words.length ≤ known.length by omega), Bool.and_self, Bool.true_and] at h
    refine lfp_of (fun x : Int => 0 ≤ x ∧ x ≤ words.length ∧ (commonW (known.drop (at_ + x).toNat) (words.drop x.toNat) = words.length - x.toNat ↔ commonW (known.drop at_.toNat) words = words.length)) (fun x => (words.length - x).toNat) (fun x hx again hag => ?_) ⟨by omega, by omega, by simp⟩
    obtain ⟨h0, h1, h2⟩ := hx
    refine ⟨fun hlt => ⟨by omega, by omega, by omega, fun hne => ?_, fun he => ⟨by omega, hag _ ⟨by omega, by omega, ?_⟩ (by omega)⟩⟩, fun hn => ?_⟩
    · rw [drop_gi (l := known) (x := at_ + x) (by omega), drop_gi (l := words) (x := x) (by omega), commonW, if_neg hne] at h2
      rw [decide_eq_false (fun e => by have := h2.2 e; omega)] at h; exact h
    · rw [drop_gi (l := known) (x := at_ + x) (by omega), drop_gi (l := words) (x := x) (by omega), commonW, if_pos he] at h2
      rw [← h2, show at_ + (x + 1) = at_ + x + 1 by omega]
      omega
    · rw [drop_end (l := words) (by omega), common_nilR] at h2
      rw [decide_eq_true (h2.1 (by omega))] at h; exact h
theorem tafter_ok (v : (Int × Int)) (n : Int) (Q : (Int × Int) → Prop) (hp0 : inI (v.1 + n)) (hp1 : inI (v.2 - 1)) (h : Q (afterP v n)) : tafter_vc v n Q := ⟨hp0, hp1, h⟩
theorem tbetter_ok (a : (Int × Int)) (b : (Int × Int)) (Q : (Int × Int) → Prop)  (h : Q (betterP a b)) : tbetter_vc a b Q := by
  unfold betterP at h
  refine ⟨by simp, by simp, fun hg => ?_, fun hn => ?_⟩
  · rw [if_pos (by omega)] at h; exact h
  · rw [if_neg (by omega)] at h; exact h
theorem tranged_ok (t : Text) (p : Piece) (Q : Bool → Prop) (hp0 : okT t) (h : Q (rangedF t p)) : tranged_vc t p Q := h
theorem srcW_first {a l : List Lexeme} {k : Nat} (hk : k < l.length) (h : commonW (l.drop k) a = a.length) (hm : ∀ j, j < k → commonW (l.drop j) a ≠ a.length) : srcW a l = some k := by
  cases hs : srcW a l with
  | none => exact absurd h (srcW_none hs k hk)
  | some q =>
    obtain ⟨h1, h2, h3⟩ := srcW_some hs
    rcases Nat.lt_trichotomy q k with hlt | rfl | hlt
    · exact absurd h2 (hm q hlt)
    · rfl
    · exact absurd h (h3 k hlt)
theorem srcW_not {a l : List Lexeme} (hm : ∀ j, j < l.length → commonW (l.drop j) a ≠ a.length) : srcW a l = none := by
  cases hs : srcW a l with
  | none => rfl
  | some q => obtain ⟨h1, h2, _⟩ := srcW_some hs; exact absurd h2 (hm q h1)
def srcAt (x : Int) : Option (Nat × Nat) → Int × Int
  | some p => ((p.1 : Int) + x, (p.2 : Int))
  | none => (0, 0)
theorem srcAt_zero (c : Corpus) (a : List Lexeme) : srcAt 0 (srcT a c.texts) = srcF c a := by
  unfold srcF
  cases srcT a c.texts with
  | none => rfl
  | some p => simp [srcAt]
theorem srcAt_found {x : Int} {a : List Lexeme} {t : Text} {ts : List Text} {k : Nat} (h : srcW a t.words = some k) : srcAt x (srcT a (t :: ts)) = (x, (k : Int)) := by
  rw [srcT, h]; simp [srcAt]
theorem srcAt_next {x : Int} {a : List Lexeme} {t : Text} {ts : List Text} (h : srcW a t.words = none) : srcAt x (srcT a (t :: ts)) = srcAt (x + 1) (srcT a ts) := by
  rw [srcT, h]
  cases srcT a ts with
  | none => rfl
  | some p => simp only [Option.map_some, srcAt]; congr 1; omega
theorem sameF_at {a l : List Lexeme} {j : Nat} (hj : j < l.length) : sameF a l (j : Nat) = true ↔ commonW (l.drop j) a = a.length := by
  rw [sameF_iff]
  constructor
  · rintro ⟨_, _, h⟩; simpa using h
  · intro h
    have := (common_le (l.drop j) a).1
    rw [h, List.length_drop] at this
    exact ⟨by omega, by omega, by simpa using h⟩
theorem tsource_ok (c : Corpus) (words : (List Lexeme)) (Q : Int × Int → Prop) (hp0 : okC c) (hp1 : words.length ≤ 1000000) (h : Q (srcF c words)) : tsource_vc c words Q := by
  have hcl := hp0.1.1
  refine lfp_of (fun x : Int => 0 ≤ x ∧ x ≤ c.texts.length ∧ srcAt x (srcT words (c.texts.drop x.toNat)) = srcF c words) (fun x => (c.texts.length - x).toNat) (fun x hx again hag => ?_) ⟨by omega, by omega, srcAt_zero c words⟩
  obtain ⟨h0, h1, h2⟩ := hx
  refine ⟨fun hlt => ⟨by omega, ?_⟩, fun hn => ?_⟩
  · have hwl := (hp0.1.2 _ (gi_mem (l := c.texts) (i := x) (by omega))).2.1
    rw [drop_gi (l := c.texts) (x := x) (by omega)] at h2
    refine lfp_of (fun y : Int => 0 ≤ y ∧ y ≤ (gi c.texts x).words.length ∧ ∀ j : Nat, (j : Int) < y → commonW ((gi c.texts x).words.drop j) words ≠ words.length) (fun y => ((gi c.texts x).words.length - y).toNat) (fun y hy again5 hag5 => ?_) ⟨by omega, by omega, fun j hj => by omega⟩
    obtain ⟨g0, g1, g2⟩ := hy
    refine ⟨fun hlt1 => ⟨hp1, hwl, fun ht => ?_, fun hf => ⟨by omega, hag5 _ ⟨by omega, by omega, fun j hj => ?_⟩ (by omega)⟩⟩, fun hn1 => ⟨by omega, hag _ ⟨by omega, by omega, ?_⟩ (by omega)⟩⟩
    · obtain ⟨n, rfl⟩ := Int.eq_ofNat_of_zero_le g0
      have e := srcW_first (k := n) (by omega) ((sameF_at (by omega)).1 ht) (fun j hj => g2 j (by omega))
      rw [srcAt_found e] at h2
      rw [← h2] at h; exact h
    · rcases Int.lt_or_eq_of_le (show (j : Int) ≤ y by omega) with hlt2 | rfl
      · exact g2 j hlt2
      · intro hc
        rw [(sameF_at (by omega)).2 hc] at hf; cases hf
    · rw [srcAt_next (srcW_not (fun j hj => g2 j (by omega)))] at h2; exact h2
  · rw [drop_end (by omega)] at h2
    rw [← h2] at h; exact h
theorem rightA_split {c : Corpus} {t : Text} {least : Int} : (rightCT c t = false ∧ rightA c t least = 1) ∨ (rightCT c t = true ∧ (least < 1 ∨ least > 8192) ∧ rightA c t least = 3) ∨ (rightCT c t = true ∧ 1 ≤ least ∧ least ≤ 8192 ∧ rightA c t least = 0) := by
  unfold rightA
  cases h : rightCT c t with
  | false => exact .inl ⟨rfl, by simp⟩
  | true =>
    right
    by_cases hl : 1 ≤ least ∧ least ≤ 8192
    · right; exact ⟨rfl, hl.1, hl.2, by simp [hl]⟩
    · left; exact ⟨rfl, by omega, by simp [hl]⟩
theorem tcheck_ok (c : Corpus) (t : Text) (least : Int) (a : Attribution) (Q : Int → Prop) (hp0 : okC c) (hp1 : okT t) (hp2 : okA a) (h : Q (checkA c t least a)) : tcheck_vc c t least a Q := by
  unfold checkA at h
  have hal := hp2.2; have htl := hp1.2.1
  refine ⟨hp0, hp1, fun hb => ?_, fun hb => ⟨fun hl => ?_, fun hl => ⟨fun hp => ?_, fun hp => ?_⟩⟩⟩
  · rcases rightA_split (c := c) (t := t) (least := least) with ⟨_, e⟩ | ⟨h1, _⟩ | ⟨h1, _⟩
    · rw [e] at h; exact h
    · rw [hb] at h1; cases h1
    · rw [hb] at h1; cases h1
  · rcases rightA_split (c := c) (t := t) (least := least) with ⟨h1, e⟩ | ⟨h1, _, e⟩ | ⟨h1, _, _, _⟩
    · rw [hb] at h1; cases h1
    · rw [e] at h; exact h
    · omega
  all_goals
    have e : rightA c t least = 0 := by
      rcases rightA_split (c := c) (t := t) (least := least) with ⟨h1, _⟩ | ⟨_, h1, _⟩ | ⟨_, _, _, e⟩
      · rw [hb] at h1; cases h1
      · omega
      · exact e
    rw [e, if_pos rfl] at h
  · rw [if_neg hp] at h; exact h
  · rw [if_pos hp] at h
    refine lfp2 (tcheck_L1 c t least a Q) (fun e x => 0 ≤ x ∧ x ≤ a.pieces.length ∧ checkPs c t least e (a.pieces.drop x.toNat) = checkPs c t least 0 a.pieces) (fun _ x => (a.pieces.length - x).toNat) (fun e x hst again hag => ?_) ⟨by omega, by omega, rfl⟩
    obtain ⟨h0, h1, h2⟩ := hst
    refine ⟨fun hlt => ⟨by omega, hp1, fun hr => ?_, fun hg => ?_, fun hbad => ?_, fun hg => ⟨fun he => ?_, fun he => ⟨by omega, hag _ _ ⟨by omega, by omega, ?_⟩ (by omega)⟩⟩⟩, fun hn => ?_⟩
    · obtain ⟨r1, r2, r3⟩ := (rangedF_iff _ _).1 hr; omega
    · obtain ⟨r1, r2, r3⟩ := (rangedF_iff _ _).1 hg.1.1
      have hx : inL (gi a.pieces x).text c.texts.length := by omega
      have := (hp0.1.2 _ (gi_mem hx)).2.1
      refine ⟨by omega, hx, ?_, this⟩
      rw [lsub_length (by omega)]; omega
    · rw [drop_gi (x := x) (by omega), checkPs, if_neg] at h2
      · rw [← h2] at h; exact h
      · rw [pieceOk_iff, ← rangedF_iff]
        rintro ⟨k1, k2, k3, k4⟩
        rcases hbad with ((hbad | hbad) | hbad) | hbad
        · rw [k1] at hbad; cases hbad
        · omega
        · omega
        · rw [k4] at hbad; cases hbad
    · rw [drop_gi (x := x) (by omega), checkPs, if_pos, if_pos he] at h2
      · rw [← h2] at h; exact h
      · rw [pieceOk_iff, ← rangedF_iff]; exact ⟨hg.1.1.1, by omega, by omega, hg.2⟩
    · rw [drop_gi (x := x) (by omega), checkPs, if_pos, if_neg he] at h2
      · exact h2
      · rw [pieceOk_iff, ← rangedF_iff]; exact ⟨hg.1.1.1, by omega, by omega, hg.2⟩
    · rw [drop_end (by omega)] at h2
      rw [← h2] at h; exact h
theorem trest_ok (to : Int) (t : Text) (e : Int) (l : (List Line)) (Q : (List Line) → Prop) (hp0 : inS e to t.words.length) (hp1 : l.length + t.words.length ≤ 1000000) (h : Q ((l ++ linesW t (lsub t.words e to)))) : trest_vc to t e l Q := by
  have hl := lsub_length hp0
  refine ⟨hp0, lfp2 (trest_L1 to t e Q) (fun xs x => 0 ≤ x ∧ x ≤ (lsub t.words e to).length ∧ xs ++ linesW t ((lsub t.words e to).drop x.toNat) = l ++ linesW t (lsub t.words e to)) (fun _ x => ((lsub t.words e to).length - x).toNat) (fun xs x hst again hag => ?_) ⟨by omega, by omega, rfl⟩⟩
  obtain ⟨h0, h1, h2⟩ := hst
  have h3 := congrArg List.length h2
  simp only [List.length_append, linesW, List.length_map, List.length_drop] at h3
  refine ⟨fun hlt => ⟨by omega, ⟨by simp; omega, by simp; omega⟩, by omega, hag _ _ ⟨by omega, by omega, ?_⟩ (by omega)⟩, fun hn => ?_⟩
  · rw [drop_gi (x := x) (by omega)] at h2
    rw [← h2]; simp [linesW]
  · rw [drop_end (by omega)] at h2
    simp only [linesW, List.map_nil, List.append_nil] at h2 h
    rw [h2]; exact h
theorem linesW_len (t : Text) (l : List Lexeme) : (linesW t l).length = l.length := by simp [linesW]
theorem linesW_app (t : Text) (a b : List Lexeme) : linesW t (a ++ b) = linesW t a ++ linesW t b := by simp [linesW]
theorem linesW_path {t : Text} {l : List Lexeme} {z : Line} (h : z ∈ linesW t l) : z.path = t.path := by
  unfold linesW at h
  obtain ⟨w, _, rfl⟩ := List.mem_map.1 h; rfl
theorem tunknown_ok (t : Text) (a : Attribution) (Q : (List Span) × Int → Prop) (hp0 : okT t) (hp1 : okA a) (h : Q (unknownF t a)) : tunknown_vc t a Q := by
  unfold unknownF at h
  have hal := hp1.2; have htl := hp0.2.1
  refine ⟨hp0, fun hv => by rw [hv] at h; exact h, fun hv => ?_⟩
  rw [hv, if_pos rfl] at h
  have hwl : t.words.length ≤ 8192 := by
    unfold validT at hv; simp only [Bool.and_eq_true, decide_eq_true_eq] at hv; exact hv.1.1
  refine ⟨fun hp => by rw [if_neg hp] at h; exact h, fun hp => ?_⟩
  rw [if_pos hp] at h
  refine lfp3 (tunknown_L1 t a Q) (fun xs e x => 0 ≤ x ∧ x ≤ a.pieces.length ∧ 0 ≤ e ∧ e ≤ t.words.length ∧ (xs.length : Int) ≤ e ∧ (∀ z ∈ xs, z.path = t.path) ∧ (restL t e (a.pieces.drop x.toNat)).map (fun y => xs ++ y) = restL t 0 a.pieces) (fun _ _ x => (a.pieces.length - x).toNat) (fun xs e x hst again hag => ?_) ⟨by omega, by omega, by omega, by omega, by simp, by simp, by simp⟩
  obtain ⟨h0, h1, h2, h3, h4, h5, h6⟩ := hst
  refine ⟨fun hlt => ⟨by omega, hp0, fun hb => ?_, fun hg => ?_⟩, fun hn => ?_⟩
  · rw [drop_gi (x := x) (by omega), restL, if_neg] at h6
    · rw [← h6] at h; exact h
    · rw [Bool.and_eq_true, decide_eq_true_eq]
      rintro ⟨k1, k2⟩
      rcases hb with hb | hb
      · rw [k1] at hb; cases hb
      · omega
  · obtain ⟨r1, r2, r3⟩ := (rangedF_iff _ _).1 hg.1
    have hs : inS e (gi a.pieces x).from_ t.words.length := by omega
    have hl := lsub_length hs
    refine ⟨hs, by omega, by omega, hag _ _ _ ⟨by omega, by omega, by omega, by omega, ?_, fun z hz => ?_, ?_⟩ (by omega)⟩
    · rw [List.length_append, linesW_len]; omega
    · rcases List.mem_append.1 hz with hz | hz
      · exact h5 z hz
      · exact linesW_path hz
    · rw [drop_gi (x := x) (by omega), restL, if_pos (by rw [Bool.and_eq_true, decide_eq_true_eq]; exact ⟨hg.1, by omega⟩), Option.map_map] at h6
      rw [← h6]; congr 1; funext y; simp
  · have hs : inS e (t.words.length : Int) t.words.length := by omega
    have hl := lsub_length hs
    rw [drop_end (by omega), restL] at h6
    rw [← h6] at h
    rw [lsub_from] at hl ⊢
    refine ⟨hs, by omega, ?_, fun z hz => ?_, h⟩
    · rw [List.length_append, linesW_len]; omega
    · have : z.path = t.path := by
        rcases List.mem_append.1 hz with hz | hz
        · exact h5 z hz
        · exact linesW_path hz
      rw [this]; exact hp0.1
end Go.Lic
