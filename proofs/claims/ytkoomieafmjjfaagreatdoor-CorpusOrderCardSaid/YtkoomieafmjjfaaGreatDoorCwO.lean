/-
  The statement about the order in which texts are added holds over plain data. No program in sight.
-/
import Derived.Test.YtkoomieafmjjfaaGreatDoorCi
set_option linter.all false
namespace Go.Lic
open Go.Proofs Go.Sort Go.Shelf

theorem strict_ext : ∀ {a b : List Text}, a.Perm b → a.Pairwise TLt → b.Pairwise TLt → a = b
  | [], b, hp, _, _ => (List.nil_perm.1 hp).symm
  | x :: a, [], hp, _, _ => by have := hp.length_eq; simp at this
  | x :: a, y :: b, hp, ha, hb => by
    obtain ⟨ha1, ha2⟩ := List.pairwise_cons.1 ha
    obtain ⟨hb1, hb2⟩ := List.pairwise_cons.1 hb
    have e : x = y := by
      have hy : y ∈ x :: a := hp.mem_iff.2 (by simp)
      have hx : x ∈ y :: b := hp.mem_iff.1 (by simp)
      rcases List.mem_cons.1 hy with rfl | hy
      · rfl
      rcases List.mem_cons.1 hx with rfl | hx
      · rfl
      exact absurd (hb1 x hx) (sl_asymm (ha1 y hy))
    subst e
    rw [strict_ext (List.Perm.cons_inv hp) ha2 hb2]
theorem hasT_iff (l : List Text) (p : ByteArray) : hasT l p = true ↔ ∃ t ∈ l, t.path = p := by unfold hasT; simp
abbrev insT (s : List Text) (x : Text) : List Text := s.take (placeT s x.path) ++ x :: s.drop (placeT s x.path)
theorem insT_perm (s : List Text) (x : Text) : (insT s x).Perm (x :: s) := by
  have := List.perm_middle (a := x) (l₁ := s.take (placeT s x.path)) (l₂ := s.drop (placeT s x.path))
  rwa [List.take_append_drop] at this
theorem insT_ord {s : List Text} (h : s.Pairwise TLt) {x : Text} (hn : hasT s x.path = false) : (insT s x).Pairwise TLt := by
  obtain ⟨h1, h2, h3⟩ := placeT_split (p := x.path) h
  have hlt : ∀ t ∈ s.drop (placeT s x.path), TLt x t := fun t ht => by
    rcases sl_tri x.path t.path with k | k | k
    · exact k
    · exact absurd ((hasT_iff _ _).2 ⟨t, List.mem_of_mem_drop ht, k.symm⟩) (by rw [hn]; decide)
    · exact absurd k (h2 t ht)
  refine List.pairwise_append.2 ⟨h.sublist (List.take_sublist _ _), List.pairwise_cons.2 ⟨hlt, h.sublist (List.drop_sublist _ _)⟩, fun a ha b hb => ?_⟩
  rcases List.mem_cons.1 hb with rfl | hb
  · exact h1 a ha
  · exact sl_trans (h1 a ha) (hlt b hb)
structure GoodT (s : List Text) (k w : Int) : Prop where
  k : sizeF k = true
  w : sizeF w = true
  few : s.length ≤ 64
  val : ∀ t ∈ s, validT t = true
  ord : s.Pairwise TLt
theorem GoodT.good {s : List Text} {k w : Int} (h : GoodT s k w) : GoodC (corpusOf s k w) := ⟨h.k, h.w, h.few, h.val, h.ord, rfl⟩
theorem GoodT.ck {s : List Text} {k w : Int} (h : GoodT s k w) : checkF (corpusOf s k w) = 0 := (checkF_iff _).2 h.good
theorem add_new {s : List Text} {k w : Int} {x : Text} (h : GoodT s k w) (hv : validT x = true) (hn : hasT s x.path = false) (hl : s.length < 64) : addF (corpusOf s k w) x = (corpusOf (insT s x) k w, 0) ∧ GoodT (insT s x) k w := by
  constructor
  · unfold addF
    rw [if_pos ⟨h.ck, hv⟩]
    show (if hasT s x.path = true then _ else if s.length = 64 then _ else _) = _
    rw [if_neg (by rw [hn]; decide), if_neg (by omega)]
    rfl
  · refine ⟨h.k, h.w, ?_, fun t ht => ?_, insT_ord h.ord hn⟩
    · rw [(insT_perm s x).length_eq]; simp; omega
    · rcases List.mem_cons.1 ((insT_perm s x).mem_iff.1 ht) with rfl | ht
      · exact hv
      · exact h.val t ht
theorem add_old {s : List Text} {k w : Int} {x : Text} (h : GoodT s k w) (hv : validT x = true) (hn : hasT s x.path = true) : (addF (corpusOf s k w) x).2 = 6 := by
  unfold addF
  rw [if_pos ⟨h.ck, hv⟩]
  show (if hasT s x.path = true then (noC, (6 : Int)) else _).2 = 6
  rw [if_pos hn]
theorem add_bad {c : Corpus} {x : Text} (hv : validT x = false) : (addF c x).2 = 1 := by
  unfold addF
  rw [if_neg (by rw [hv]; exact fun h => absurd h.2 (by decide))]
abbrev Apart (l : List Text) : Prop := l.Pairwise fun a b => a.path ≠ b.path
theorem all_spec {k w : Int} : ∀ (l s : List Text), GoodT s k w → (∀ t ∈ l, validT t = true) → s.length + l.length ≤ 64 → ((addAll true (corpusOf s k w) l).2 = true ↔ Apart (s ++ l)) ∧ ((addAll true (corpusOf s k w) l).2 = true → ∃ m, (addAll true (corpusOf s k w) l).1 = corpusOf m k w ∧ m.Perm (s ++ l) ∧ GoodT m k w)
  | [], s, h, _, _ => ⟨⟨fun _ => by rw [List.append_nil]; exact h.ord.imp (fun hlt => sl_ne hlt), fun _ => rfl⟩, fun _ => ⟨s, rfl, by simp, h⟩⟩
  | x :: l, s, h, hv, hl => by
    rw [addAll]
    simp only [List.length_cons] at hl
    cases hn : hasT s x.path with
    | true =>
      rw [if_neg (by rw [add_old h (hv x (by simp)) hn]; decide)]
      refine ⟨⟨(fun e => by cases e), fun ha => ?_⟩, fun e => by cases e⟩
      obtain ⟨t, ht, e⟩ := (hasT_iff _ _).1 hn
      exact absurd e ((List.pairwise_append.1 ha).2.2 t ht x (by simp))
    | false =>
      obtain ⟨e, hg⟩ := add_new h (hv x (by simp)) hn (by omega)
      rw [e, if_pos rfl]
      have hp : (insT s x ++ l).Perm (s ++ x :: l) := ((insT_perm s x).append_right l).trans List.perm_middle.symm
      obtain ⟨h1, h2⟩ := all_spec l (insT s x) hg (fun t ht => hv t (by simp [ht])) (by rw [(insT_perm s x).length_eq]; simp only [List.length_cons]; omega)
      refine ⟨h1.trans (hp.pairwise_iff (fun h => Ne.symm h)), fun hb => ?_⟩
      obtain ⟨m, e1, e2, e3⟩ := h2 hb
      exact ⟨m, e1, e2.trans hp, e3⟩
theorem posts_nil (k w : Int) : postsF [] k w = [] := List.eq_nil_of_length_eq_zero (by rw [(posts_perm [] k w).length_eq]; rfl)
theorem new_eq {k w : Int} (hk : sizeF k = true) (hw : sizeF w = true) : newF k w = (corpusOf [] k w, 0) := by
  unfold newF corpusOf
  rw [if_pos ((sizes_iff _ _).2 ⟨hk, hw⟩), posts_nil]
theorem size4 {g : Int} (h : 0 ≤ g) : sizeF (1 + g % 4) = true := (sizeF_iff _).2 (by omega)
theorem make_eq {g w : Int} (hg : 0 ≤ g) (hw : 0 ≤ w) (l : List Text) : makeF l g w = addAll true (corpusOf [] (1 + g % 4) (1 + w % 4)) l := by
  unfold makeF
  rw [new_eq (size4 hg) (size4 hw)]
  rfl
theorem make_spec {g w : Int} (hg : 0 ≤ g) (hw : 0 ≤ w) {l : List Text} (hv : ∀ t ∈ l, validT t = true) (hl : l.length ≤ 64) : ((makeF l g w).2 = true ↔ Apart l) ∧ ((makeF l g w).2 = true → ∃ m, (makeF l g w).1 = corpusOf m (1 + g % 4) (1 + w % 4) ∧ m.Perm l ∧ GoodT m (1 + g % 4) (1 + w % 4)) := by
  rw [make_eq hg hw]
  exact all_spec l [] ⟨size4 hg, size4 hw, by simp, by simp, .nil⟩ hv (by simpa using hl)
theorem gi_si {α : Type} [Inhabited α] {l : List α} {i : Int} (h : inL i l.length) (v : α) {j : Int} (hj : 0 ≤ j) : gi (si l i v) j = if j = i then v else gi l j := by
  unfold gi si
  rw [List.getD_eq_getElem?_getD, List.getElem?_set, List.getD_eq_getElem?_getD]
  by_cases e : j = i
  · subst e
    rw [if_pos rfl, if_pos rfl, if_pos (by omega)]; rfl
  · rw [if_neg e, if_neg (by omega)]
theorem gi_rev {α : Type} [Inhabited α] {l : List α} {j : Int} (h : inL j l.length) : gi l.reverse j = gi l ((l.length : Int) - 1 - j) := by
  rw [gi_lt (by rw [List.length_reverse]; exact h), gi_lt (by omega), List.getElem_reverse]
  congr 1
  omega
theorem rev_ok (s_ : (List Text)) (Q : (List Text) → Prop) (hp0 : s_.length ≤ 1000000) (h : Q ((List.reverse s_))) : rev_vc s_ Q := by
  refine ⟨by omega, ?_⟩
  refine lfp_of (S := List Text × Int × Int) (fun st => 0 ≤ st.2.1 ∧ st.2.1 + st.2.2 = (s_.length : Int) - 1 ∧ st.2.1 ≤ st.2.2 + 1 ∧ st.1.length = s_.length ∧ ∀ q : Int, 0 ≤ q → q < s_.length → gi st.1 q = if q < st.2.1 ∨ st.2.2 < q then gi s_ ((s_.length : Int) - 1 - q) else gi s_ q) (fun st => (st.2.2 + 1 - st.2.1).toNat) (fun st hst again hag => ?_) ?_
  · obtain ⟨l, i, j⟩ := st
    obtain ⟨h0, h1, h2, h3, h4⟩ := hst
    simp only at h0 h1 h2 h3 h4 hag ⊢
    refine ⟨fun hlt => ⟨by omega, by omega, by rw [si_length]; omega, by omega, by omega, hag _ ⟨by simp only; omega, by simp only; omega, by simp only; omega, by simp only [si_length]; omega, fun q hq hq2 => ?_⟩ (by simp only; omega)⟩, fun hn => ?_⟩
    · simp only
      rw [gi_si (by rw [si_length]; omega) _ hq, gi_si (by omega) _ hq]
      by_cases e1 : q = j
      · subst e1
        rw [if_pos rfl, if_pos (by omega), h4 i (by omega) (by omega), if_neg (by omega)]
        congr 1; omega
      · rw [if_neg e1]
        by_cases e2 : q = i
        · subst e2
          rw [if_pos rfl, if_pos (by omega), h4 j (by omega) (by omega), if_neg (by omega)]
          congr 1; omega
        · rw [if_neg e2, h4 q hq hq2]
          by_cases e3 : q < i ∨ j < q
          · rw [if_pos e3, if_pos (by omega)]
          · rw [if_neg e3, if_neg (by omega)]
    · have e : l = s_.reverse := by
        refine list_ext_gi (by rw [List.length_reverse]; exact h3) (fun q hq hq2 => ?_)
        rw [h4 q hq (by omega), gi_rev (by omega)]
        split
        · rfl
        · next hc => congr 1; omega
      rw [e]; exact h
  · refine ⟨by simp only; omega, by simp only; omega, by simp only; omega, rfl, fun q hq hq2 => ?_⟩
    simp only
    rw [if_neg (by omega)]
theorem concatO_ok (slices : (List (List Text))) (Q : (List Text) → Prop) (hp0 : slices.length ≤ 10) (hp1 : (List.flatten slices).length ≤ 1000000) (h : Q ((List.flatten slices))) : concatO_vc slices Q := concatT_ok slices Q hp0 hp1 h
theorem ixTx_ok (s_ : (List Text)) (p : Text → Bool) (pD : Text → Prop) (Q : Int → Prop) (hp0 : s_.length ≤ 9223372036854775807) (hp1 : ∀ z_ ∈ s_, pD z_) (h : Q ((idxOf p s_))) : ixTx_vc s_ p pD Q := ix_gen s_ p pD Q hp0 hp1 h
theorem cfTx_ok (s_ : (List Text)) (p : Text → Bool) (pD : Text → Prop) (Q : Bool → Prop) (hp0 : s_.length ≤ 9223372036854775807) (hp1 : ∀ z_ ∈ s_, pD z_) (h : Q ((s_.any p))) : cfTx_vc s_ p pD Q := ⟨hp0, hp1, by rw [idx_nn]; exact h⟩
theorem order1_ok (x : Text) (Q : Bool → Prop) (hp0 : okT x) (h : Q ((!validT x))) : order1_vc x Q := ⟨hp0, h⟩
theorem order3_ok (x : Text) (t : Text) (Q : Bool → Prop)  (h : Q ((decide (x.path = t.path)))) : order3_vc x t Q := h
theorem order2_ok (l : (List Text)) (grams : Int) (width : Int) (Q : Corpus × Bool → Prop) (hp0 : ∀ z_ ∈ l, okT z_) (hp1 : l.length ≤ 1000) (hp2 : inL grams 256) (hp3 : inL width 256) (h : Q (makeF l grams width)) : order2_vc l grams width Q := by
  have eg : IntKind.i64.wrap grams = grams := wrap_small (by omega)
  have ew : IntKind.i64.wrap width = width := wrap_small (by omega)
  refine ⟨by rw [eg]; omega, by rw [eg]; omega, by rw [ew]; omega, by rw [ew]; omega, ?_⟩
  rw [eg, ew]
  unfold makeF at h
  refine lfp2 (order2_L1 l grams width Q) (fun c x => 0 ≤ x ∧ x ≤ l.length ∧ okC c ∧ addAll ((newF (1 + grams % 4) (1 + width % 4)).2 == 0) c (l.drop x.toNat) = addAll ((newF (1 + grams % 4) (1 + width % 4)).2 == 0) (newF (1 + grams % 4) (1 + width % 4)).1 l) (fun _ x => (l.length - x).toNat) (fun c x hst again hag => ?_) ⟨by omega, by omega, okC_new _ _, rfl⟩
  obtain ⟨h0, h1, h2, h3⟩ := hst
  refine ⟨fun hlt => ?_, fun hn => ?_⟩
  · have hx : inL x l.length := by omega
    have ho := hp0 _ (gi_mem hx)
    rw [drop_gi hx, addAll] at h3
    refine ⟨hx, h2, ho, fun hne => ?_, fun he => ⟨by omega, hag _ _ ⟨by omega, by omega, okC_add h2 ho, ?_⟩ (by omega)⟩⟩
    · rw [if_neg hne] at h3
      rw [h3]; exact h
    · rw [if_pos he] at h3
      exact h3
  · rw [drop_end hn, addAll] at h3
    rw [eg, ew, h3]; exact h
theorem insT_place {s : List Text} (h : s.Pairwise TLt) (x : Text) : placeT (insT s x) x.path = placeT s x.path ∧ placeT s x.path ≤ s.length := by
  obtain ⟨h1, h2, h3⟩ := placeT_split (p := x.path) h
  refine ⟨?_, h3⟩
  have e : (insT s x).takeWhile (fun t => sless t.path x.path) = s.take (placeT s x.path) := by
    unfold insT
    rw [List.takeWhile_append_of_pos (fun t ht => h1 t ht), List.takeWhile_cons_of_neg (by have := sl_irrefl x.path; simpa using this), List.append_nil]
  show ((insT s x).takeWhile (fun t => sless t.path x.path)).length = _
  rw [e, List.length_take]; omega
theorem drop_back {s : List Text} {k w : Int} {x : Text} (h : GoodT s k w) (hg : GoodT (insT s x) k w) : dropF (corpusOf (insT s x) k w) x.path = (corpusOf s k w, 0) := by
  obtain ⟨h1, h2⟩ := insT_place h.ord x
  unfold dropF
  rw [if_pos hg.ck]
  show (if hasT (insT s x) x.path = true then (corpusOf ((insT s x).take (placeT (insT s x) x.path) ++ (insT s x).drop (placeT (insT s x) x.path + 1)) k w, (0 : Int)) else _) = _
  rw [if_pos ((hasT_iff _ _).2 ⟨x, by simp [insT], rfl⟩), h1]
  have hl : (s.take (placeT s x.path)).length = placeT s x.path := by rw [List.length_take]; omega
  have e1 : (insT s x).take (placeT s x.path) = s.take (placeT s x.path) := by
    unfold insT; rw [List.take_append_of_le_length (by omega)]
    rw [List.take_of_length_le (by omega)]
  have e2 : (insT s x).drop (placeT s x.path + 1) = s.drop (placeT s x.path) := by
    unfold insT
    rw [List.drop_append, hl, List.drop_eq_nil_of_le (by omega), show placeT s x.path + 1 - placeT s x.path = 1 by omega]
    rfl
  rw [e1, e2, List.take_append_drop]
theorem fewTs_perm {a b : List Text} (hp : a.Perm b) (h : fewTs b = true) : fewTs a = true := by
  unfold fewTs at h ⊢
  rw [Bool.and_eq_true, decide_eq_true_eq, List.all_eq_true] at h ⊢
  exact ⟨by rw [hp.length_eq]; exact h.1, fun t ht => h.2 t (hp.mem_iff.1 ht)⟩
theorem turn_perm {l : List Text} {k : Int} (h : inS 0 k l.length) : (List.reverse (List.flatten [lsub l k l.length, lsub l 0 k])).Perm l := by
  refine (List.reverse_perm _).trans ?_
  simp only [List.flatten_cons, List.flatten_nil, List.append_nil]
  refine List.perm_append_comm.trans ?_
  rw [lsub_to]
  unfold lsub
  rw [show l.take ((l.length : Int)).toNat = l from List.take_of_length_le (by omega), List.take_append_drop]
theorem lawOrder_ok (l : (List Text)) (t : Text) (grams : Int) (width : Int) (turn : Int) (Q : Bool → Prop) (hp0 : inL grams 256) (hp1 : inL width 256) (hp2 : inL turn 256) (h : Q (true)) : lawOrder_vc l t grams width turn Q := by
  have et : IntKind.i64.wrap turn = turn := wrap_small (by omega)
  refine ⟨(fun e => by cases e), fun _ => ⟨fun hf => ⟨by have := fewTs_len hf.1; omega, fun z hz => (fewTs_ok hf.1).2 z hz⟩, fun _ => h, fun hf => ?_⟩⟩
  obtain ⟨⟨hfl, hft⟩, hva⟩ := hf
  have h5 := fewTs_len hfl
  have hok := fewTs_ok hfl
  have hot := fewT_ok hft
  have hv : ∀ x ∈ l, validT x = true := fun x hx => by
    have := List.any_eq_false.1 hva x hx
    simpa using this
  rw [et]
  have hk : inS 0 (turn % ((l.length : Int) + 1)) l.length := by
    have h1 := Int.emod_nonneg turn (b := (l.length : Int) + 1) (by omega)
    have h2 := Int.emod_lt_of_pos turn (b := (l.length : Int) + 1) (by omega)
    omega
  generalize turn % ((l.length : Int) + 1) = k at hk ⊢
  have hperm := turn_perm hk
  have hfl2 : (List.flatten [lsub l k l.length, lsub l 0 k]).length = l.length := by
    rw [← List.length_reverse, hperm.length_eq]
  refine ⟨by omega, by omega, by omega, hk, by simp, by omega, by omega, hok.2, by omega, hp0, hp1, ?_⟩
  generalize hoth : List.reverse (List.flatten [lsub l k l.length, lsub l 0 k]) = other at hperm ⊢
  have hlo := hperm.length_eq
  obtain ⟨a1, a2⟩ := make_spec (l := l) hp0.1 hp1.1 hv (by omega)
  obtain ⟨b1, b2⟩ := make_spec (l := other) hp0.1 hp1.1 (fun t ht => hv t (hperm.mem_iff.1 ht)) (by omega)
  have hab : (makeF l grams width).2 = true ↔ (makeF other grams width).2 = true := by
    rw [a1, b1]; exact (hperm.pairwise_iff (fun h => Ne.symm h)).symm
  refine ⟨fun z hz => hok.2 z (hperm.mem_iff.1 hz), by omega, hp0, hp1, fun _ => ?_, fun hb => ?_⟩
  · have : ((makeF l grams width).2 == (makeF other grams width).2) = true := by
      cases h1 : (makeF l grams width).2 <;> cases h2 : (makeF other grams width).2 <;> simp_all
    rw [this]; exact h
  · obtain ⟨m, e1, e2, e3⟩ := a2 hb.1
    obtain ⟨m', e1', e2', e3'⟩ := b2 hb.2
    have em : m' = m := strict_ext (e2'.trans (hperm.trans e2.symm)) e3'.ord e3.ord
    rw [em] at e1'
    rw [e1, e1']
    generalize 1 + grams % 4 = gk at *
    generalize 1 + width % 4 = wk at *
    have hm := okTs_sub (m := m) hok (by rw [e2.length_eq]; omega) (fun t ht => e2.mem_iff.1 ht)
    have hoA : okC (corpusOf m gk wk) := okC_of hm (by rw [e2.length_eq]; omega) _ _
    have hid : checkF (corpusOf m gk wk) = 0 → (idL (corpusOf m gk wk)).length ≤ 1000000 := fun hc => idL_len hc (fewTs_perm e2 hfl)
    have i2 : (idF (corpusOf m gk wk)).2 = 0 := by rw [idF_pos e3.ck]
    refine ⟨hoA, hid, hoA, hid, fun _ => hoA, fun _ => hoA, fun hbad => ?_, fun _ => ?_⟩
    · exfalso
      rcases hbad with ((((hb | hb) | hb) | hb) | hb) | hb
      · exact hb i2
      · exact hb i2
      · exact hb rfl
      · exact hb e3.ck
      · rw [decide_eq_true rfl] at hb; cases hb
      · exact hb (by show ((m.length : Nat) : Int) = _; rw [e2.length_eq])
    · have hml := e2.length_eq
      refine ⟨hoA, hot, fun hne => ⟨fun _ => hot, fun _ _ => ⟨by omega, fun _ _ => trivial⟩, ?_⟩, fun he => ?_⟩
      · by_cases hvt : validT t = true
        · cases hn : hasT m t.path with
          | true =>
            have e6 := add_old e3 hvt hn
            obtain ⟨u, hu, eu⟩ := (hasT_iff _ _).1 hn
            have : (l.any fun x0_ : Text => decide (x0_.path = t.path)) = true := List.any_eq_true.2 ⟨u, e2.mem_iff.1 hu, decide_eq_true eu⟩
            rw [e6, this, hvt]
            exact h
          | false =>
            exfalso
            apply hne
            rw [(add_new e3 hvt hn (by omega)).1]
        · have hvf : validT t = false := by simpa using hvt
          rw [add_bad hvf, hvf]
          exact h
      · have hvt : validT t = true := by
          cases hvt : validT t with
          | true => rfl
          | false => rw [add_bad hvt] at he; cases he
        have hn : hasT m t.path = false := by
          cases hn : hasT m t.path with
          | false => rfl
          | true => rw [add_old e3 hvt hn] at he; cases he
        obtain ⟨ea, hg⟩ := add_new e3 hvt hn (by omega)
        have hoB : okC (addF (corpusOf m gk wk) t).1 := okC_add hoA hot
        rw [ea] at hoB ⊢
        have ed := drop_back e3 hg
        rw [ed]
        refine ⟨hoB, hot.1, fun _ => hoA, fun _ => by omega, ?_⟩
        have e1 : (((corpusOf (insT m t) gk wk).texts.length : Nat) : Int) = (l.length : Int) + 1 := by
          show (((insT m t).length : Nat) : Int) = _
          rw [(insT_perm m t).length_eq, List.length_cons, hml]; rfl
        rw [e1, decide_eq_true rfl]
        simpa using h
end Go.Lic
