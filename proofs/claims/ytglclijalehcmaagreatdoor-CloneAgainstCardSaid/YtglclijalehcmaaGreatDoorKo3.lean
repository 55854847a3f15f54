/-
  Conditions of functions of chapter 29 hold: orders, checks, and the reference's search. No program in sight.
-/
import Derived.Test.YtglclijalehcmaaGreatDoorKo2
set_option linter.all false
namespace Go.Lic
open Go.Proofs Go.Sort Go.Shelf
theorem sortiC_ok (data : (List Clone)) (a : Int) (b : Int) (p : Clone → Clone → Int) (pD : Clone → Clone → Prop) (Q : Unit → Prop) (hp0 : data = ([] : List Clone)) (hp1 : a = (0 : Int)) (hp2 : b = (0 : Int)) (h : Q (())) : sortiC_vc data a b p pD Q := by
 subst hp0 hp1 hp2
 refine ⟨by omega, fun I hI => hI _ ⟨fun h => by omega, fun _ => h⟩⟩
theorem sortpC_ok (data : (List Clone)) (a : Int) (b : Int) (limit : Int) (p : Clone → Clone → Int) (pD : Clone → Clone → Prop) (Q : Unit → Prop) (hp0 : data = ([] : List Clone)) (hp1 : a = (0 : Int)) (hp2 : b = (0 : Int)) (h : Q (())) : sortpC_vc data a b limit p pD Q := by
 subst hp0 hp1 hp2
 exact fun I hI => hI _ ⟨by omega, fun _ => ⟨rfl, rfl, rfl, h⟩, fun hn => absurd hn (by omega)⟩
theorem sort0C_ok (x : (List Clone)) (p : Clone → Clone → Int) (pD : Clone → Clone → Prop) (Q : Unit → Prop) (hp0 : x = ([] : List Clone)) (h : Q (())) : sort0C_vc x p pD Q := by
 subst hp0
 exact ⟨by decide, by decide, rfl, rfl, rfl, h⟩
theorem rightL_iff (l : List Text) : rightL l = true ↔ l.length ≤ 64 ∧ checkT none l = 0 := by simp [rightL]
theorem right_rest {l : List Text} {x : Int} (hx : inL x l.length) (h : checkT (pathAt l x) (l.drop x.toNat) = 0) : validT (gi l x) = true ∧ (x > 0 → sless (gi l (x - 1)).path (gi l x).path = true) ∧ checkT (pathAt l (x + 1)) (l.drop (x + 1).toNat) = 0 := by
 rw [checkT_at hx] at h
 split at h
 · next hv =>
   split at h
   · next hs => exact ⟨hv, hs, h⟩
   · cases h
 · cases h
theorem right_loop (l : List Text) (Q : Bool → Prop) (f : (Int → Prop) → Int → Prop) (h : Q (rightL l)) (hl : l.length ≤ 64)
   (round : ∀ x : Int, 0 ≤ x → x ≤ l.length → ∀ again : Int → Prop, (x < l.length → ¬ (validT (gi l x) = true ∧ (x > 0 → sless (gi l (x - 1)).path (gi l x).path = true)) → Q false) → (x < l.length → validT (gi l x) = true → (x > 0 → sless (gi l (x - 1)).path (gi l x).path = true) → again (x + 1)) → (¬ x < l.length → Q true) → f again x) : lfp (S := Int) (fun again x => f again x) 0 := by
 refine lfp_of (fun x : Int => 0 ≤ x ∧ x ≤ l.length ∧ (checkT (pathAt l x) (l.drop x.toNat) = 0 ↔ checkT none l = 0)) (fun x => (l.length - x).toNat) (fun x hst again hag => ?_) ⟨by omega, by omega, Iff.rfl⟩
 obtain ⟨h0, h1, h2⟩ := hst
 refine round x h0 h1 again (fun hlt hn => ?_) (fun hlt hv hs => hag _ ⟨by omega, by omega, ?_⟩ (by omega)) (fun hn => ?_)
 · have : rightL l = false := by
     rw [Bool.eq_false_iff]
     intro hr
     have := right_rest ⟨h0, hlt⟩ (h2.2 ((rightL_iff l).1 hr).2)
     exact hn ⟨this.1, this.2.1⟩
   rw [this] at h; exact h
 · rw [checkT_at ⟨h0, hlt⟩, if_pos hv, if_pos hs] at h2
   exact h2
 · rw [drop_end hn] at h2
   have : rightL l = true := (rightL_iff l).2 ⟨hl, h2.1 (by simp [checkT])⟩
   rw [this] at h; exact h
theorem rightL_big {l : List Text} (h : (l.length : Int) > 64) : rightL l = false := by
 rw [Bool.eq_false_iff]; intro hr; have := ((rightL_iff l).1 hr).1; omega
theorem kright_ok (l : (List Text)) (Q : Bool → Prop) (hp0 : okTs l) (h : Q (rightL l)) : kright_vc l Q := by
 refine ⟨fun hb => by rw [rightL_big hb] at h; exact h, fun hs => right_loop l Q (kright_L1 l Q) h (by omega) (fun x h0 h1 again k1 k2 k3 => ?_)⟩
 refine ⟨fun hlt => ⟨by omega, hp0.2 _ (gi_mem (by omega)), fun _ hx => ⟨by omega, by omega⟩, fun hb => k1 hlt ?_, fun hg => ⟨by omega, k2 hlt hg.1 (fun hx => ?_)⟩⟩, fun hn => k3 hn⟩
 · rintro ⟨h2, h3⟩
   rcases hb with hb | ⟨hx, hb⟩
   · rw [hb] at h2; cases h2
   · exact (le_sless _ _).1 hb (h3 hx)
 · rcases hg.2 with hg | hg
   · exact absurd hx hg
   · by_cases hs : sless (gi l (x - 1)).path (gi l x).path = true
     · exact hs
     · rw [(le_sless _ _).2 hs] at hg; cases hg
theorem kcompare_ok (a : Clone) (b : Clone) (Q : Int → Prop) (h : Q (cloneCmp a b)) : kcompare_vc a b Q := ⟨by simp, h⟩
theorem kinside_ok (t : Text) (at_ : Int) (n : Int) (Q : Bool → Prop) (hp0 : t.words.length ≤ 1000000) (hp1 : 0 ≤ n) (h : Q (insideT t at_ n)) : kinside_vc t at_ n Q := ⟨fun _ => by omega, h⟩
theorem kcheck1_ok (i : Int) (a : (List Lexeme)) (x : Clone) (b : (List Lexeme)) (Q : Bool → Prop) (hp0 : inI (x.atA + i)) (hp1 : inL (x.atA + i) a.length) (hp2 : inI (x.atB + i)) (hp3 : inL (x.atB + i) b.length) (h : Q ((sameAt i a x b))) : kcheck1_vc i a x b Q := ⟨hp0, hp1, hp2, hp3, h⟩
theorem kfind_ok (l : (List Text)) (k : Int) (w : Int) (Q : (List Clone) × Int → Prop) (hp0 : okTs l) (h : Q (findC l k w)) : kfind_vc l k w Q := by
 unfold findC at h
 refine ⟨hp0, fun hb => by rw [if_neg (by rw [hb]; simp)] at h; exact h, fun hg => ?_⟩
 rw [if_pos hg] at h
 unfold guarF
 by_cases hs : (sizeF k && sizeF w) = true
 · rw [if_pos hs] at h ⊢
   refine ⟨fun hb => absurd rfl hb, fun _ => ⟨hp0, ((checkT_none l).1 ((rightL_iff l).1 hg).2).1, (Bool.and_eq_true_iff.1 hs).1, (Bool.and_eq_true_iff.1 hs).2, by omega, h⟩⟩
 · rw [if_neg hs] at h ⊢
   exact ⟨fun _ => h, fun hb => by cases hb⟩
theorem rsameW_ok (a : Text) (i : Int) (b : Text) (j : Int) (Q : Bool → Prop) (h : Q (sameW a i b j)) : rsameW_vc a i b j Q :=
 ⟨fun ⟨⟨⟨h1, h2⟩, h3⟩, h4⟩ => ⟨⟨h1, h3⟩, ⟨h2, h4⟩⟩, h⟩
theorem sameW_eq {a b : Text} {i j : Int} (hi : 0 ≤ i) (hj : 0 ≤ j) : sameW a i b j = true ↔ eqAt a.words b.words i.toNat j.toNat := by
 rw [eqAt_int hi hj]
 simp only [sameW, Bool.and_eq_true, decide_eq_true_eq]
 constructor
 · rintro ⟨⟨⟨⟨_, _⟩, h1⟩, h2⟩, h3⟩; exact ⟨h1, h2, h3⟩
 · rintro ⟨h1, h2, h3⟩; exact ⟨⟨⟨⟨hi, hj⟩, h1⟩, h2⟩, h3⟩
theorem toN_room (A B : List Lexeme) (i j : Nat) : toN A B i j ≤ A.length - i ∧ toN A B i j ≤ B.length - j := by
 have := common_le (A.drop i) (B.drop j)
 simp only [List.length_drop] at this
 exact this
theorem rlength_ok (a : Text) (i : Int) (b : Text) (j : Int) (Q : Int → Prop) (hp0 : okT a) (hp1 : okT b) (hp2 : 0 ≤ i) (hp3 : 0 ≤ j) (hp4 : inI i) (hp5 : inI j) (h : Q (lenC a i b j)) : rlength_vc a i b j Q := by
 unfold lenC at h
 have ha := hp0.2.1; have hb := hp1.2.1
 refine ⟨by omega, by omega, fun hs => by rw [if_pos hs] at h; exact h, fun hs => ?_⟩
 rw [if_neg (by rw [hs]; simp)] at h
 obtain ⟨r1, r2⟩ := toN_room a.words b.words i.toNat j.toNat
 refine lfp_of (fun n : Int => 0 ≤ n ∧ n ≤ (toN a.words b.words i.toNat j.toNat : Nat)) (fun n => (1000001 - n).toNat) (fun n hn again hag => ?_) ⟨by omega, by omega⟩
 obtain ⟨n0, n1⟩ := hn
 refine ⟨by omega, by omega, fun hs => ?_, fun hs => ?_⟩
 · rw [sameW_eq (by omega) (by omega)] at hs
   have : n < (toN a.words b.words i.toNat j.toNat : Nat) := by
     rcases Int.lt_or_le n (toN a.words b.words i.toNat j.toNat : Nat) with h | h
     · exact h
     · exfalso
       have e : n = (toN a.words b.words i.toNat j.toNat : Nat) := by omega
       rw [e, show (i + (toN a.words b.words i.toNat j.toNat : Nat)).toNat = i.toNat + toN a.words b.words i.toNat j.toNat by omega, show (j + (toN a.words b.words i.toNat j.toNat : Nat)).toNat = j.toNat + toN a.words b.words i.toNat j.toNat by omega] at hs
       exact toN_end hs
   exact ⟨by omega, hag _ ⟨by omega, by omega⟩ (by omega)⟩
 · have : n = (toN a.words b.words i.toNat j.toNat : Nat) := by
     rcases Int.lt_or_le n (toN a.words b.words i.toNat j.toNat : Nat) with h | h
     · exfalso
       have := toN_lt (A := a.words) (B := b.words) (i := i.toNat) (j := j.toNat) (s := n.toNat) (by omega)
       rw [show i.toNat + n.toNat = (i + n).toNat by omega, show j.toNat + n.toNat = (j + n).toNat by omega, ← sameW_eq (by omega) (by omega), hs] at this
       cases this
     · omega
   rw [this]; exact h
theorem range_drop {m : Nat} {x : Int} (h : inL x m) : (List.range m).drop x.toNat = x.toNat :: (List.range m).drop (x + 1).toNat := by
 rw [List.drop_eq_getElem_cons (by simp; omega), List.getElem_range, show (x + 1).toNat = x.toNat + 1 by omega]
theorem range_end {m : Nat} {x : Int} (h : ¬ x < m) : (List.range m).drop x.toNat = [] := List.drop_eq_nil_of_le (by simp; omega)
theorem rpair_ok (l : (List Text)) (a : Int) (at_ : Int) (b : Int) (n : Int) (Q : (List Clone) → Prop) (hp0 : okTs l) (hp1 : inL a l.length) (hp2 : inL b l.length) (hp3 : 0 ≤ at_) (hp4 : at_ ≤ 1000000) (h : Q (pairF l a at_ b n)) : rpair_vc l a at_ b n Q := by
 have hb := (hp0.2 _ (gi_mem hp2)).2.1
 have key : ∀ from_ : Int, 0 ≤ from_ → from_ ≤ at_ + 1 → (a = b → from_ = at_ + 1) → ((List.range (gi l b).words.length).filter fun j => (decide (a ≠ b) || decide (at_ < (j : Nat))) && decide (n ≤ lenC (gi l a) at_ (gi l b) (j : Nat))) = (((List.range (gi l b).words.length).drop from_.toNat).filter fun j => (decide (a ≠ b) || decide (at_ < (j : Nat))) && decide (n ≤ lenC (gi l a) at_ (gi l b) (j : Nat))) → rpair_J1 l a at_ b n Q from_ := fun from_ f0 f1 f2 he => by
   refine lfp2 (rpair_L1 l a at_ b n Q) (fun out j => from_ ≤ j ∧ (out.length : Int) ≤ j ∧ (j ≤ (gi l b).words.length ∨ out = [] ∧ j = from_) ∧ out ++ (((List.range (gi l b).words.length).drop j.toNat).filter fun j => (decide (a ≠ b) || decide (at_ < (j : Nat))) && decide (n ≤ lenC (gi l a) at_ (gi l b) (j : Nat))).map (fun j : Nat => (⟨a, at_, b, ((j : Nat) : Int), lenC (gi l a) at_ (gi l b) (j : Nat)⟩ : Clone)) = pairF l a at_ b n) (fun _ j => ((gi l b).words.length - j).toNat) (fun out j hst again hag => ?_) ⟨by omega, by simpa using f0, .inr ⟨rfl, rfl⟩, by unfold pairF; rw [he]; rfl⟩
   obtain ⟨h0, h1, h2, h3⟩ := hst
   refine ⟨hp2, fun hlt => ⟨hp1, hp2, hp0.2 _ (gi_mem hp1), hp0.2 _ (gi_mem hp2), hp3, by omega, by omega, by omega, fun hge => ⟨⟨by simp; omega, by simp; omega⟩, by omega, hag _ _ ⟨by omega, by simp; omega, .inl (by omega), ?_⟩ (by omega)⟩, fun hng => ⟨by omega, hag _ _ ⟨by omega, by omega, .inl (by omega), ?_⟩ (by omega)⟩⟩, fun hn => ?_⟩
   · rw [range_drop (by omega), List.filter_cons, if_pos, List.map_cons] at h3
     · rw [show ((j.toNat : Nat) : Int) = j by omega] at h3
       rw [← h3]; simp
     · rw [show ((j.toNat : Nat) : Int) = j by omega, Bool.and_eq_true, decide_eq_true_eq]
       refine ⟨?_, hge⟩
       by_cases e : a = b
       · have := f2 e; simp; right; omega
       · simp [e]
   · rw [range_drop (by omega), List.filter_cons, if_neg] at h3
     · exact h3
     · rw [show ((j.toNat : Nat) : Int) = j by omega, Bool.and_eq_true, decide_eq_true_eq]
       exact fun k => hng k.2
   · rw [range_end hn] at h3
     simp only [List.filter_nil, List.map_nil, List.append_nil] at h3
     rw [h3]; exact h
 refine ⟨fun e => ⟨by omega, key _ (by omega) (by omega) (fun _ => rfl) ?_⟩, fun e => key 0 (by omega) (by omega) (fun k => absurd k e) (by simp)⟩
 conv => lhs; rw [← List.take_append_drop (at_ + 1).toNat (List.range (gi l b).words.length), List.filter_append]
 have : ((List.range (gi l b).words.length).take (at_ + 1).toNat).filter (fun j => (decide (a ≠ b) || decide (at_ < (j : Nat))) && decide (n ≤ lenC (gi l a) at_ (gi l b) (j : Nat))) = [] := by
   rw [List.filter_eq_nil_iff]
   intro c hc
   obtain ⟨i, hi, e2⟩ := List.getElem_of_mem hc
   rw [List.getElem_take, List.getElem_range] at e2
   simp only [List.length_take, List.length_range] at hi
   have : ¬ at_ < (c : Int) := by omega
   simp [e, this]
 rw [this]; rfl
theorem flatMap_len {α β : Type} {f : α → List β} {B : Nat} : ∀ {l : List α}, (∀ x ∈ l, (f x).length ≤ B) → (l.flatMap f).length ≤ l.length * B
 | [], _ => by simp
 | x :: l, h => by
   have h1 := h x (by simp)
   have h2 := flatMap_len (f := f) (B := B) (l := l) (fun y hy => h y (List.mem_cons_of_mem _ hy))
   simp only [List.flatMap_cons, List.length_append, List.length_cons, Nat.succ_mul]; omega
theorem pair_len (l : List Text) (a at_ b n : Int) : (pairF l a at_ b n).length ≤ (gi l b).words.length := by
 unfold pairF
 rw [List.length_map]
 exact Nat.le_trans (List.length_filter_le _ _) (by simp)
theorem valid_len {t : Text} (h : validT t = true) : t.words.length ≤ 8192 := by
 unfold validT at h
 simp only [Bool.and_eq_true, decide_eq_true_eq] at h
 exact h.1.1
theorem ref_len {l : List Text} {n only : Int} (hl : l.length ≤ 65) (hv : ∀ t ∈ l, validT t = true) : (refL l n only).length ≤ 283534950400 := by
 have h := flatMap_len (B := 8192 * (65 * 8192)) (l := List.range l.length) (f := fun a => (List.range (gi l (a : Nat)).words.length).flatMap fun i => ((List.range l.length).filter (okB only a)).flatMap fun b => pairF l (a : Nat) (i : Nat) (b : Nat) n) (fun a ha => by
   have ha' := List.mem_range.1 ha
   have hw := valid_len (hv _ (gi_mem (l := l) (i := (a : Int)) ⟨by omega, by omega⟩))
   have h2 := flatMap_len (B := 65 * 8192) (l := List.range (gi l (a : Nat)).words.length) (f := fun i : Nat => ((List.range l.length).filter (okB only a)).flatMap fun b => pairF l (a : Nat) (i : Nat) (b : Nat) n) (fun i _ => by
     have h3 := flatMap_len (B := 8192) (l := (List.range l.length).filter (okB only a)) (f := fun b : Nat => pairF l (a : Nat) (i : Nat) (b : Nat) n) (fun b hb => by
       have hb' := List.mem_range.1 (List.mem_filter.1 hb).1
       exact Nat.le_trans (pair_len _ _ _ _ _) (valid_len (hv _ (gi_mem (l := l) (i := (b : Int)) ⟨by omega, by omega⟩))))
     have h4 : ((List.range l.length).filter (okB only a)).length ≤ 65 := Nat.le_trans (List.length_filter_le _ _) (by simp; omega)
     exact Nat.le_trans h3 (Nat.mul_le_mul_right _ h4))
   rw [List.length_range] at h2
   exact Nat.le_trans h2 (Nat.mul_le_mul_right _ hw))
 unfold refL
 rw [List.length_range] at h
 refine Nat.le_trans h ?_
 have := Nat.mul_le_mul_right (8192 * (65 * 8192)) hl
 omega
theorem eqClone_iff (a b : Clone) : eqClone a b = true ↔ a = b := by
 obtain ⟨a1, a2, a3, a4, a5⟩ := a; obtain ⟨b1, b2, b3, b4, b5⟩ := b
 simp [eqClone]
theorem eqClones_ok (s1 : (List Clone)) (s2 : (List Clone)) (Q : Bool → Prop) (hp0 : s1.length ≤ 9223372036854775807) (h : Q ((decide (s1 = s2)))) : eqClones_vc s1 s2 Q := eq_gen eqClone eqClone_iff s1 s2 Q hp0 h
end Go.Lic
