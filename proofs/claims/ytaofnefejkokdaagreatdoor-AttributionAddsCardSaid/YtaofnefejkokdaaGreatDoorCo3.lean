/-
  The conditions of functions of chapter 26 hold: posts, faults, changes. No program in sight.
-/
import Derived.Test.YtaofnefejkokdaaGreatDoorCo2
set_option linter.all false
namespace Go.Lic
open Go.Proofs Go.Sort Go.Shelf

theorem ccompare_ok (a : Pst) (b : Pst) (Q : Int → Prop)  (h : Q (postCmp a b)) : ccompare_vc a b Q := ⟨by simp, h⟩
theorem sortiP_ok (data : (List Pst)) (a : Int) (b : Int) (p : Pst → Pst → Int) (pD : Pst → Pst → Prop) (Q : Unit → Prop) (hp0 : data = ([] : List Pst)) (hp1 : a = (0 : Int)) (hp2 : b = (0 : Int)) (h : Q (())) : sortiP_vc data a b p pD Q := by
  subst hp0 hp1 hp2
  refine ⟨by omega, fun I hI => hI _ ⟨fun h => by omega, fun _ => h⟩⟩
theorem sortpP_ok (data : (List Pst)) (a : Int) (b : Int) (limit : Int) (p : Pst → Pst → Int) (pD : Pst → Pst → Prop) (Q : Unit → Prop) (hp0 : data = ([] : List Pst)) (hp1 : a = (0 : Int)) (hp2 : b = (0 : Int)) (h : Q (())) : sortpP_vc data a b limit p pD Q := by
  subst hp0 hp1 hp2
  exact fun I hI => hI _ ⟨by omega, fun _ => ⟨rfl, rfl, rfl, h⟩, fun hn => absurd hn (by omega)⟩
theorem sort0P_ok (x : (List Pst)) (p : Pst → Pst → Int) (pD : Pst → Pst → Prop) (Q : Unit → Prop) (hp0 : x = ([] : List Pst)) (h : Q (())) : sort0P_vc x p pD Q := by
  subst hp0
  exact ⟨by decide, by decide, rfl, rfl, rfl, h⟩
theorem postsOf_len (i : Nat) (l : List Print) : (postsOf i l).length = l.length := by simp [postsOf]
theorem flatP_len : ∀ (l : List Text) (i : Nat) (k w : Int), (∀ t ∈ l, okT t) → (flatP i l k w).length ≤ l.length * 1000001
  | [], i, k, w, _ => by simp [flatP]
  | t :: l, i, k, w, h => by
    have h1 := flatP_len l (i + 1) k w (fun u hu => h u (List.mem_cons_of_mem _ hu))
    have h2 := prints_len t k w
    have h3 := (h t (by simp)).2.1
    simp only [flatP, List.length_append, postsOf_len, List.length_cons]
    omega
theorem flatP_at {l : List Text} {x : Int} (h : inL x l.length) (k w : Int) : flatP x.toNat (l.drop x.toNat) k w = postsOf x.toNat (printsF (gi l x) k w).1 ++ flatP (x + 1).toNat (l.drop (x + 1).toNat) k w := by
  rw [drop_gi h, show (x + 1).toNat = x.toNat + 1 by omega]; rfl
theorem postsOf_at {l : List Print} {x : Int} (h : inL x l.length) (i : Nat) : postsOf i (l.drop x.toNat) = ⟨(gi l x).hash, (i : Int), (gi l x).at_⟩ :: postsOf i (l.drop (x + 1).toNat) := by
  rw [drop_gi h]; rfl
theorem cposts_ok (texts : (List Text)) (k : Int) (w : Int) (Q : (List Pst) → Prop) (hp0 : okTs texts) (h : Q (postsF texts k w)) : cposts_vc texts k w Q := by
  have hfl := flatP_len texts 0 k w hp0.2
  have hlen := hp0.1
  unfold postsF at h
  refine lfp2 (cposts_L1 texts k w Q) (fun out x => 0 ≤ x ∧ x ≤ texts.length ∧ out ++ flatP x.toNat (texts.drop x.toNat) k w = flatP 0 texts k w) (fun _ x => (texts.length - x).toNat) (fun out x hst again hag => ?_) ⟨by omega, by omega, rfl⟩
  obtain ⟨h0, h1, h2⟩ := hst
  refine ⟨fun hlt => ⟨by omega, hp0.2 _ (gi_mem (by omega)), ?_⟩, fun hn => ?_⟩
  · rw [flatP_at (by omega)] at h2
    refine lfp2 (cposts_L2 texts k w x again) (fun out1 x1 => 0 ≤ x1 ∧ x1 ≤ (printsF (gi texts x) k w).1.length ∧ out1 ++ (postsOf x.toNat ((printsF (gi texts x) k w).1.drop x1.toNat) ++ flatP (x + 1).toNat (texts.drop (x + 1).toNat) k w) = flatP 0 texts k w) (fun _ x1 => ((printsF (gi texts x) k w).1.length - x1).toNat) (fun out1 x1 hst1 again5 hag5 => ?_) ⟨by omega, by omega, h2⟩
    obtain ⟨g0, g1, g2⟩ := hst1
    have g3 := congrArg List.length g2
    have hpl := prints_len (gi texts x) k w
    have hwl := (hp0.2 _ (gi_mem (l := texts) (i := x) (by omega))).2.1
    simp only [List.length_append] at g3
    refine ⟨fun hlt1 => ⟨by omega, ⟨by simp; omega, by simp; omega⟩, by omega, hag5 _ _ ⟨by omega, by omega, ?_⟩ (by omega)⟩, fun hn1 => ⟨by omega, hag _ _ ⟨by omega, by omega, ?_⟩ (by omega)⟩⟩
    · rw [postsOf_at (by omega), show ((x.toNat : Nat) : Int) = x by omega] at g2
      rw [← g2]; simp
    · rw [drop_end hn1] at g2
      exact g2
  · rw [drop_end hn] at h2
    simp only [flatP, List.append_nil] at h2
    subst h2
    exact ⟨⟨postCmp_swo, by omega⟩, h⟩
theorem take_whileI {α : Type} [Inhabited α] {p : α → Bool} {l : List α} {x : Int} (h0 : 0 ≤ x ∧ x ≤ l.length) (h1 : ∀ j : Int, 0 ≤ j → j < x → p (gi l j) = true) (h2 : x < l.length → p (gi l x) = false) : l.takeWhile p = l.take x.toNat ∧ l.dropWhile p = l.drop x.toNat :=
  take_while (by omega) (fun j hj => h1 j (by omega) (by omega)) (fun hj => by rw [show ((x.toNat : Nat) : Int) = x by omega]; exact h2 (by omega))
theorem eqPst_iff (a b : Pst) : eqPst a b = true ↔ a = b := by
  obtain ⟨a1, a2, a3⟩ := a; obtain ⟨b1, b2, b3⟩ := b
  simp [eqPst]
theorem eqPosts_ok (s1 : (List Pst)) (s2 : (List Pst)) (Q : Bool → Prop) (hp0 : s1.length ≤ 9223372036854775807) (h : Q ((decide (s1 = s2)))) : eqPosts_vc s1 s2 Q := eq_gen eqPst eqPst_iff s1 s2 Q hp0 h
/-- The path before a place. -/
def pathAt (l : List Text) (i : Int) : Option ByteArray := if i > 0 then some (gi l (i - 1)).path else none
theorem checkT_at {l : List Text} {x : Int} (h : inL x l.length) : checkT (pathAt l x) (l.drop x.toNat) = if validT (gi l x) then if (x > 0 → sless (gi l (x - 1)).path (gi l x).path = true) then checkT (pathAt l (x + 1)) (l.drop (x + 1).toNat) else 5 else 1 := by
  rw [drop_gi h, checkT]
  have e : pathAt l (x + 1) = some (gi l x).path := by unfold pathAt; rw [if_pos (by omega), show x + 1 - 1 = x by omega]
  rw [e]
  by_cases hv : validT (gi l x) = true
  · rw [if_pos hv, if_pos hv]
    by_cases hx : x > 0
    · have e2 : pathAt l x = some (gi l (x - 1)).path := by unfold pathAt; rw [if_pos hx]
      rw [e2]
      simp only [Option.all_some]
      by_cases hs : sless (gi l (x - 1)).path (gi l x).path = true
      · rw [if_pos hs, if_pos (fun _ => hs)]
      · rw [if_neg hs, if_neg (fun k => hs (k hx))]
    · have e2 : pathAt l x = none := by unfold pathAt; rw [if_neg hx]
      rw [e2, if_pos (show (Option.all (fun q => sless q (gi l x).path) none = true) from rfl), if_pos (fun k => absurd k hx)]
  · rw [if_neg hv, if_neg hv]
theorem le_sless (a b : ByteArray) : (sless a b || decide (a = b)) = true ↔ ¬ sless b a = true := by
  rw [Bool.or_eq_true, decide_eq_true_eq]
  constructor
  · rintro (h | h)
    · exact sl_asymm h
    · rw [h]; exact sl_irrefl _
  · intro h
    rcases sl_tri a b with h1 | h1 | h1
    · exact .inl h1
    · exact .inr h1
    · exact absurd h1 h
theorem ccheck_ok (c : Corpus) (Q : Int → Prop) (hp0 : okC c) (h : Q (checkF c)) : ccheck_vc c Q := by
  unfold checkF at h
  refine ⟨fun hb => by rw [if_neg (sizes_not hb)] at h; exact h, fun hg => ?_⟩
  rw [if_pos ((sizes_iff _ _).2 hg)] at h
  refine ⟨fun hb => by rw [if_pos (by omega)] at h; exact h, fun hs => ?_⟩
  rw [if_neg (by omega)] at h
  refine lfp_of (fun x : Int => 0 ≤ x ∧ x ≤ c.texts.length ∧ checkT (pathAt c.texts x) (c.texts.drop x.toNat) = checkT none c.texts) (fun x => (c.texts.length - x).toNat) (fun x hst again hag => ?_) ⟨by omega, by omega, rfl⟩
  obtain ⟨h0, h1, h2⟩ := hst
  refine ⟨fun hlt => ?_, fun hn => ?_⟩
  · rw [checkT_at (by omega)] at h2
    refine ⟨by omega, hp0.1.2 _ (gi_mem (by omega)), fun hv => ?_, fun hv => ⟨fun hx => ⟨by omega, by omega⟩, fun hb => ?_, fun hb => ⟨by omega, hag _ ⟨by omega, by omega, ?_⟩ (by omega)⟩⟩⟩
    · rw [hv, if_neg (by decide)] at h2
      rw [← h2, if_neg (by decide)] at h; exact h
    · rw [hv, if_pos rfl, if_neg (fun k => (le_sless _ _).1 hb.2 (k hb.1))] at h2
      rw [← h2, if_neg (by decide)] at h; exact h
    · rw [hv, if_pos rfl, if_pos] at h2
      · exact h2
      · intro hx
        rcases hb with hb | hb
        · exact absurd hx hb
        · cases hs2 : sless (gi c.texts (x - 1)).path (gi c.texts x).path with
          | true => rfl
          | false => rw [(le_sless _ _).2 (by rw [hs2]; decide)] at hb; cases hb
  · rw [drop_end hn, checkT] at h2
    rw [← h2, if_pos rfl] at h
    refine ⟨hp0.1, by have := hp0.2; omega, fun hf => ?_, fun ht => ?_⟩
    · rw [if_neg (of_decide_eq_false hf)] at h; exact h
    · rw [if_pos (of_decide_eq_true ht)] at h; exact h
theorem cnew_ok (k : Int) (w : Int) (Q : Corpus × Int → Prop)  (h : Q (newF k w)) : cnew_vc k w Q := by
  unfold newF at h
  refine ⟨fun hb => by rw [if_neg (sizes_not hb)] at h; exact h, fun hg => ?_⟩
  rw [if_pos ((sizes_iff _ _).2 hg)] at h; exact h
theorem cfind1_ok (t : Text) (p : ByteArray) (Q : Int → Prop)  (h : Q ((cmpB t.path p))) : cfind1_vc t p Q := h
theorem half_eq {n : Int} (h : 0 ≤ n ∧ n ≤ 4611686018427387904) : IntKind.i64.wrap (gshr .u64 (IntKind.u64.wrap n) 1) = n / 2 := by
  rw [wrapu64 (by omega)]
  have e : gshr .u64 n 1 = n / 2 := by
    unfold gshr
    rw [show (2 : Int) ^ min (1 : Int).toNat IntKind.u64.bits = 2 from by decide, Int.fdiv_eq_ediv_of_nonneg _ (by decide)]
  rw [e, wrap_small (by omega)]
theorem cmpB_neg (a b : ByteArray) : cmpB a b < 0 ↔ sless a b = true := by
  rw [cmpB_eq]
  split
  · next h => simp [h]
  · next h => split <;> simp [h]
theorem cmpB_zero (a b : ByteArray) : cmpB a b = 0 ↔ a = b := by
  rw [cmpB_eq]
  split
  · next h => simp [sl_ne h]
  · next h => split <;> simp_all
theorem pw_gi {α : Type} [Inhabited α] {R : α → α → Prop} {l : List α} (h : l.Pairwise R) {i j : Int} (h0 : 0 ≤ i) (h1 : i < j) (h2 : j < l.length) : R (gi l i) (gi l j) := by
  rw [gi_lt (by omega), gi_lt (by omega)]
  exact List.pairwise_iff_getElem.1 h _ _ (by omega) (by omega) (by omega)
theorem placeT_at {l : List Text} {p : ByteArray} {x : Int} (h0 : 0 ≤ x ∧ x ≤ l.length) (h1 : ∀ j : Int, 0 ≤ j → j < x → sless (gi l j).path p = true) (h2 : x < l.length → sless (gi l x).path p = false) : ((placeT l p : Nat) : Int) = x := by
  have := (take_whileI (p := fun t => sless t.path p) h0 h1 h2).1
  unfold placeT
  rw [this, List.length_take]; omega
theorem hasT_at {l : List Text} {p : ByteArray} {x : Int} (hs : l.Pairwise TLt) (h0 : 0 ≤ x ∧ x ≤ l.length) (h1 : ∀ j : Int, 0 ≤ j → j < x → sless (gi l j).path p = true) (h2 : x < l.length → sless (gi l x).path p = false) : hasT l p = (decide (x < l.length) && decide ((gi l x).path = p)) := by
  rw [Bool.eq_iff_iff]
  unfold hasT
  rw [anyI, Bool.and_eq_true, decide_eq_true_eq, decide_eq_true_eq]
  constructor
  · rintro ⟨j, hj, hp⟩
    have hp := of_decide_eq_true hp
    rcases Int.lt_trichotomy j x with h | h | h
    · exact absurd hp (sl_ne (h1 j hj.1 h))
    · rw [← h]; exact ⟨by omega, hp⟩
    · have h3 : sless (gi l x).path (gi l j).path = true := pw_gi hs h0.1 h hj.2
      rw [hp, h2 (by omega)] at h3; cases h3
  · rintro ⟨hx, hp⟩
    exact ⟨x, by omega, decide_eq_true hp⟩
theorem cbsearch_ok (x : (List Text)) (target : ByteArray) (p : Text → ByteArray → Int) (pD : Text → ByteArray → Prop) (Q : Int × Bool → Prop) (hp0 : x.length ≤ 1000000) (hp1 : x.Pairwise TLt) (hp2 : ∀ y_ z_, p y_ z_ = cmpB y_.path z_) (hp3 : ∀ y_ z_, pD y_ z_) (h : Q (findT x target)) : cbsearch_vc x target p pD Q := by
  refine lfp2 (cbsearch_L1 x target p pD Q) (fun i j => 0 ≤ i ∧ i ≤ j ∧ j ≤ x.length ∧ (∀ q : Int, 0 ≤ q → q < i → sless (gi x q).path target = true) ∧ (∀ q : Int, j ≤ q → q < x.length → sless (gi x q).path target = false)) (fun i j => (j - i).toNat) (fun i j hst again hag => ?_) ⟨by omega, by omega, by omega, fun q _ _ => by omega, fun q _ _ => by omega⟩
  obtain ⟨h0, h1, h2, h3, h4⟩ := hst
  refine ⟨fun hlt => ?_, fun hn => ⟨fun hi => ⟨by omega, hp3 _ _⟩, ?_⟩⟩
  · rw [half_eq (by omega)]
    refine ⟨by omega, by decide, by omega, hp3 _ _, fun hc => ⟨by omega, hag _ _ ⟨by omega, by omega, by omega, fun q hq hq2 => ?_, h4⟩ (by omega)⟩, fun hc => hag _ _ ⟨by omega, by omega, by omega, h3, fun q hq hq2 => ?_⟩ (by omega)⟩
    · rw [hp2, cmpB_neg] at hc
      by_cases e : q = (i + j) / 2
      · rw [e]; exact hc
      · exact sl_trans (pw_gi hp1 hq (by omega) (by omega)) hc
    · rw [hp2, cmpB_neg] at hc
      cases hs : sless (gi x q).path target with
      | false => rfl
      | true =>
        exfalso; apply hc
        by_cases e : q = (i + j) / 2
        · rw [← e]; exact hs
        · exact sl_trans (pw_gi hp1 (by omega) (show (i + j) / 2 < q by omega) hq2) hs
  · obtain rfl : i = j := by omega
    have hpl := placeT_at (l := x) (p := target) ⟨h0, h2⟩ h3 (fun hx => h4 i (by omega) hx)
    have hha := hasT_at (l := x) (p := target) hp1 ⟨h0, h2⟩ h3 (fun hx => h4 i (by omega) hx)
    unfold findT at h
    rw [hpl, hha] at h
    rw [hp2, int_beq]
    have e : decide (cmpB (gi x i).path target = 0) = decide ((gi x i).path = target) := by
      rw [Bool.eq_iff_iff, decide_eq_true_eq, decide_eq_true_eq]; exact cmpB_zero _ _
    rw [e]
    exact h
theorem cfind_ok (texts : (List Text)) (path : ByteArray) (Q : Int × Bool → Prop) (hp0 : texts.length ≤ 1000000) (hp1 : texts.Pairwise TLt) (h : Q (findT texts path)) : cfind_vc texts path Q := ⟨hp0, hp1, fun _ _ => rfl, fun _ _ => trivial, h⟩
theorem cclone_ok (s_ : (List Lexeme)) (Q : (List Lexeme) → Prop) (hp0 : s_.length ≤ 1000000) (h : Q (s_)) : cclone_vc s_ Q := by
  intro isnil hi
  refine ⟨fun e => ?_, fun _ => ⟨⟨by simp; omega, by simp; omega⟩, by rw [List.nil_append]; exact h⟩⟩
  rw [hi e] at h; exact h
theorem cwith_ok (c : Corpus) (texts : (List Text)) (Q : Corpus → Prop) (hp0 : okTs texts) (h : Q ((corpusOf texts c.k c.w))) : cwith_vc c texts Q := by
  have hl := hp0.1
  refine lfp2 (cwith_L1 c texts Q) (fun own_ x => 0 ≤ x ∧ x ≤ texts.length ∧ own_ = texts.take x.toNat) (fun _ x => (texts.length - x).toNat) (fun own_ x hst again hag => ?_) ⟨by omega, by omega, rfl⟩
  obtain ⟨h0, h1, h2⟩ := hst
  have hol : own_.length ≤ 1000 := by rw [h2, List.length_take]; omega
  refine ⟨fun hlt => ⟨by omega, (hp0.2 _ (gi_mem (by omega))).2.1, ⟨by simp; omega, by simp; omega⟩, by omega, hag _ _ ⟨by omega, by omega, ?_⟩ (by omega)⟩, fun hn => ?_⟩
  · rw [tk_gi (by omega), h2]
  · rw [tk_end hn] at h2
    subst h2
    exact ⟨hp0, h⟩
theorem growT_ok (n : Int) (Q : (List Text) → Prop) (hp0 : (0 : Int) ≤ n) (hp1 : n ≤ (1000000 : Int)) (h : Q (growTF n)) : growT_vc n Q := by
  refine ⟨fun hn => by omega, fun _ => ⟨by omega, by omega, fun _ => ⟨⟨by omega, by omega, by omega⟩, by omega, ?_⟩, fun _ => h⟩⟩
  have e : lsub (List.replicate (Int.toNat (n - ((0 : Int) - 0))) (Text.mk ByteArray.empty [])) 0 0 = [] := by simp [lsub]
  rw [e]; exact h
theorem concatT_ok (slices : (List (List Text))) (Q : (List Text) → Prop) (hp0 : slices.length ≤ 10) (hp1 : (List.flatten slices).length ≤ 1000000) (h : Q ((List.flatten slices))) : concatT_vc slices Q := by
  have hfl : ∀ x : Int, 0 ≤ x → x < slices.length → (slices.drop x.toNat).flatten.length = (gi slices x).length + (slices.drop (x + 1).toNat).flatten.length := by
    intro x h1 h2
    rw [drop_gi (by omega)]; simp
  refine lfp2 (concatT_L1 slices Q) (fun size x => 0 ≤ x ∧ x ≤ slices.length ∧ 0 ≤ size ∧ size + (slices.drop x.toNat).flatten.length = slices.flatten.length) (fun _ x => (slices.length - x).toNat) (fun size x hst again hag => ?_) ⟨by simp, by simp, by simp, by simp⟩
  obtain ⟨h0, h1, h2, h3⟩ := hst
  refine ⟨fun hlt => ?_, fun hn => ?_⟩
  · have h4 := hfl x h0 hlt
    refine ⟨by omega, by omega, fun hneg => by omega, fun _ => ⟨by omega, hag _ _ ⟨by omega, by omega, by omega, by omega⟩ (by omega)⟩⟩
  · rw [drop_end hn] at h3
    simp only [List.flatten_nil, List.length_nil] at h3
    refine ⟨h2, by omega, ?_⟩
    refine lfp2 (concatT_L2 slices Q) (fun nw x1 => 0 ≤ x1 ∧ x1 ≤ slices.length ∧ nw ++ (slices.drop x1.toNat).flatten = slices.flatten) (fun _ x1 => (slices.length - x1).toNat) (fun nw x1 hst again hag => ?_) ⟨by simp, by simp, by simp [growTF]⟩
    obtain ⟨g0, g1, g2⟩ := hst
    have g3 := congrArg List.length g2
    simp only [List.length_append] at g3
    refine ⟨fun hlt => ?_, fun hn => ?_⟩
    · have h4 := hfl x1 g0 hlt
      refine ⟨by omega, ⟨by omega, by omega⟩, by omega, hag _ _ ⟨by omega, by omega, ?_⟩ (by omega)⟩
      rw [drop_gi (by omega)] at g2
      simpa using g2
    · rw [drop_end hn] at g2
      simp only [List.flatten_nil, List.append_nil] at g2
      rw [← g2] at h
      exact h
theorem placeT_le (l : List Text) (p : ByteArray) : placeT l p ≤ l.length := by
  unfold placeT; exact List.Sublist.length_le (List.takeWhile_sublist _)
theorem okTs_add {c : Corpus} {t : Text} (h : okC c) (ht : okT t) (h64 : c.texts.length ≤ 64) (n : Nat) (hn : n ≤ c.texts.length) : okTs (c.texts.take n ++ t :: c.texts.drop n) := by
  refine ⟨by simp; omega, fun u hu => ?_⟩
  rcases List.mem_append.1 hu with hu | hu
  · exact h.1.2 u (List.mem_of_mem_take hu)
  · rcases List.mem_cons.1 hu with rfl | hu
    · exact ht
    · exact h.1.2 u (List.mem_of_mem_drop hu)
theorem cadd_ok (c : Corpus) (t : Text) (Q : Corpus × Int → Prop) (hp0 : okC c) (hp1 : okT t) (h : Q (addF c t)) : cadd_vc c t Q := by
  unfold addF at h
  refine ⟨hp0, fun _ => hp1, fun hb => ?_, fun hg => ?_⟩
  · rw [if_neg (by rintro ⟨h1, h2⟩; rcases hb with hb | hb; exact hb h1; rw [h2] at hb; cases hb)] at h; exact h
  rw [if_pos hg] at h
  have G := (checkF_iff c).1 hg.1
  have hpl := placeT_le c.texts t.path
  have h64 := G.few
  refine ⟨by have := hp0.1.1; omega, G.ord, fun hf => ?_, fun hf => ?_⟩
  · rw [if_pos (show hasT c.texts t.path = true from hf)] at h; exact h
  rw [if_neg (by rw [show hasT c.texts t.path = false from hf]; decide)] at h
  refine ⟨fun hs => by rw [if_pos (by omega)] at h; exact h, fun hs => ?_⟩
  rw [if_neg (by omega)] at h
  have e : List.flatten [lsub c.texts 0 (findT c.texts t.path).1, [Text.mk t.path t.words], lsub c.texts (findT c.texts t.path).1 (c.texts.length : Int)] = c.texts.take (placeT c.texts t.path) ++ t :: c.texts.drop (placeT c.texts t.path) := by
    rw [lsub_to, lsub_from]
    simp [findT]
  have hok := okTs_add hp0 hp1 h64 _ hpl
  have ef : (findT c.texts t.path).1 = ((placeT c.texts t.path : Nat) : Int) := rfl
  rw [e]
  exact ⟨hp1.2.1, by omega, by omega, by simp, by have := hok.1; omega, hok, h⟩
end Go.Lic
