/-
  Statements of chapter 29: sizes, the example. No program in sight.
-/
import Derived.Test.YtglclijalehcmaaDoorV9
import Derived.Test.YtglclijalehcmaaDoorKo4
set_option linter.all false
namespace Go.Lic
open Go.Proofs Go.Sort Go.Shelf
theorem fewW_ok {l : List Lexeme} (h : fewW l = true) : okW l := by
 unfold fewW at h
 rw [Bool.and_eq_true, decide_eq_true_eq, List.all_eq_true] at h
 exact ⟨by omega, fun w hw => by have := of_decide_eq_true (h.2 w hw); omega⟩
theorem fewTs_ok {l : List Text} (h : fewTs l = true) : okTs l := by
 unfold fewTs at h
 rw [Bool.and_eq_true, decide_eq_true_eq, List.all_eq_true] at h
 refine ⟨by omega, fun t ht => ?_⟩
 have := h.2 t ht
 rw [Bool.and_eq_true, decide_eq_true_eq] at this
 exact ⟨by omega, fewW_ok this.1⟩
theorem fewTs_len {l : List Text} (h : fewTs l = true) : l.length ≤ 5 := by
 unfold fewTs at h
 rw [Bool.and_eq_true, decide_eq_true_eq] at h; exact h.1
theorem fewTs_words {l : List Text} (h : fewTs l = true) : ∀ t ∈ l, t.words.length ≤ 40 := fun t ht => by
 unfold fewTs fewW at h
 rw [Bool.and_eq_true, List.all_eq_true] at h
 have := h.2 t ht
 simp only [Bool.and_eq_true, decide_eq_true_eq] at this
 exact this.1.1
theorem Q_true {b : Bool} {Q : Bool → Prop} (e : b = true) (h : Q true) : Q b := e ▸ h
theorem byte_ssub {s : ByteArray} {x : Int} (h : inL x s.size) : ssub s x (x + 1) = bstr [gi (sbytes s) x] := by
 have hn : x.toNat < s.data.toList.length := by have : s.data.toList.length = s.size := rfl; omega
 apply ba_eq
 have hg : gi (sbytes s) x = ((s.data.toList[x.toNat]'hn).toNat : Int) := by
   rw [gi_lt (by rw [sbytes_len]; exact h)]; simp [sbytes]
 rw [hg]
 have h2 : (ssub s x (x + 1)).data.toList = (s.data.toList.take (x + 1).toNat).drop x.toNat := by
   simp [ssub, ByteArray.extract, ByteArray.copySlice, List.take_drop]
   rw [show x.toNat + ((x + 1).toNat - x.toNat) = (x + 1).toNat by omega]
 rw [h2, show (x + 1).toNat = x.toNat + 1 by omega, List.take_succ_eq_append_getElem hn, List.drop_append, List.drop_eq_nil_of_le (by simp; omega)]
 have hm : min x.toNat s.size = x.toNat := by omega
 simp [bstr, hm]
theorem ltext_ok (path : ByteArray) (s_ : ByteArray) (Q : Text → Prop) (hp0 : s_.size ≤ 1000) (h : Q (textF path s_)) : ltext_vc path s_ Q := by
 have hb := sbytes_len s_
 refine lfp2 (ltext_L1 path s_ Q) (fun xs x => 0 ≤ x ∧ x ≤ s_.size ∧ (xs.length : Int) = x ∧ xs = ((sbytes s_).take x.toNat).map fun b => ⟨bstr [b], 0⟩) (fun _ x => (s_.size - x).toNat) (fun xs x hst again hag => ?_) ⟨by omega, by omega, rfl, rfl⟩
 obtain ⟨h0, h1, h2, h3⟩ := hst
 refine ⟨fun hlt => ?_, fun hn => ?_⟩
 · have hx : inL x (sbytes s_).length := by omega
   refine ⟨by omega, by omega, ⟨by simp only [List.length_singleton]; omega, by simp only [List.length_singleton]; omega⟩, by omega, hag _ _ ⟨by omega, by omega, by simp only [List.length_append, List.length_singleton]; omega, ?_⟩ (by omega)⟩
   rw [h3, byte_ssub (by omega), show (x + 1).toNat = x.toNat + 1 by omega, List.take_succ_eq_append_getElem (by omega), List.map_append, gi_lt hx]; rfl
 · rw [h3, List.take_of_length_le (by omega)]; exact h
def exT : List Text := [(textF (⟨#[120]⟩ : ByteArray) (⟨#[97, 98, 99, 97, 98]⟩ : ByteArray)), (textF (⟨#[121]⟩ : ByteArray) (⟨#[98, 99, 97]⟩ : ByteArray))]
theorem exT_find : findC exT 2 1 = ([(Clone.mk 0 0 0 3 2), (Clone.mk 0 1 1 0 3)], 0) := by decide +kernel
theorem exT_ok : okTs exT := fewTs_ok (by decide +kernel)
theorem exT_c3 : checkF29 exT (Clone.mk 0 1 1 0 3) 3 = 0 := by decide +kernel
theorem exT_c4 : checkF29 exT (Clone.mk 0 1 1 0 3) 4 = 13 := by decide +kernel
theorem awake_ok (Q : Bool → Prop)  (h : Q (true)) : awake_vc  Q := by
 unfold awake_vc
 rw [show ([(textF (⟨#[120]⟩ : ByteArray) (⟨#[97, 98, 99, 97, 98]⟩ : ByteArray)), (textF (⟨#[121]⟩ : ByteArray) (⟨#[98, 99, 97]⟩ : ByteArray))] : List Text) = exT from rfl, exT_find]
 have e1 : gi ([(Clone.mk 0 0 0 3 2), (Clone.mk 0 1 1 0 3)] : List Clone) 1 = Clone.mk 0 1 1 0 3 := rfl
 simp only [e1, exT_c3, exT_c4]
 exact ⟨by decide +kernel, by decide +kernel, exT_ok, fun _ => by decide, fun _ => ⟨by decide, exT_ok⟩, fun _ => ⟨by decide, exT_ok⟩, h⟩
theorem find_parts (l : List Text) (k w : Int) : (∀ c ∈ (findC l k w).1, rightL l = true ∧ sizeF k = true ∧ sizeF w = true ∧ c ∈ refL l (k + w - 1) (-1)) ∧ (findC l k w).1.Pairwise CLt ∧ (findC l k w).1.length ≤ 1024 := by
 unfold findC clonesF
 split
 · next h1 =>
   split
   · next h2 =>
     rw [Bool.and_eq_true] at h2
     split
     · simp
     · exact ⟨fun c hc => ⟨h1, h2.1, h2.2, hc⟩, ref_sorted _ _ _, by simp only; omega⟩
   · simp
 · simp
end Go.Lic
set_option linter.all false
namespace Go.Lic
open Go.Proofs Go.Sort Go.Shelf
theorem complete1_ok (c : Clone) (p : Int) (q : Int) (m : Int) (k : Int) (w : Int) (n : Int) (Q : Bool → Prop) (hp0 : smallC c) (hp1 : smallI m) (hp2 : smallI k) (hp3 : smallI w) (hp4 : smallI n) (h : Q ((decide (c.a = p) && decide (c.b = q) && decide (c.atA ≤ m) && decide (c.atA + c.len ≥ m + k + w - 1) && decide (m - c.atA = n - c.atB)))) : complete1_vc c p q m k w n Q := by
 unfold smallC smallI at *
 refine ⟨fun _ => ⟨by omega, by omega, by omega, by omega⟩, fun _ => ⟨by omega, by omega⟩, ?_⟩
 have e : ∀ x y : Int, (x == y) = decide (x = y) := fun x y => by by_cases h : x = y <;> simp [h]
 rw [e, e, e]; exact h
theorem find_zero {l : List Text} {k w : Int} (h : (findC l k w).2 = 0) : (findC l k w).1 = refL l (k + w - 1) (-1) := by
 unfold findC clonesF at *
 split
 · next h1 =>
   rw [if_pos h1] at h
   split
   · next h2 =>
     rw [if_pos h2] at h
     split
     · next h3 => rw [if_pos h3] at h; cases h
     · rfl
   · next h2 => rw [if_neg h2] at h; cases h
 · next h1 => rw [if_neg h1] at h; cases h
theorem find_err (l : List Text) {k w : Int} (hk : sizeF k = true) (hw : sizeF w = true) : (findC l k w).2 = 0 ∨ (findC l k w).2 = 1 ∨ (findC l k w).2 = 10 := by
 unfold findC clonesF
 split
 · rw [hk, hw]
   simp only [Bool.and_self, if_true]
   split <;> simp
 · simp
theorem lawComplete_ok (l : (List Text)) (grams : Int) (width : Int) (a : Int) (i : Int) (b : Int) (j : Int) (Q : Bool → Prop) (hp0 : inL grams 256) (hp1 : inL width 256) (hp2 : inL a 256) (hp3 : inL i 256) (hp4 : inL b 256) (hp5 : inL j 256) (h : Q (true)) : lawComplete_vc l grams width a i b j Q := by
 unfold lawComplete_vc
 rw [wrap_small (show inI grams by omega), wrap_small (show inI width by omega), wrap_small (show inI a by omega), wrap_small (show inI b by omega), wrap_small (show inI i by omega), wrap_small (show inI j by omega)]
 obtain ⟨k, hk⟩ : ∃ k, k = 1 + grams % 4 := ⟨_, rfl⟩
 obtain ⟨w, hw⟩ : ∃ w, w = 1 + width % 4 := ⟨_, rfl⟩
 rw [← hk, ← hw]
 have k1 : 1 ≤ k ∧ k ≤ 4 := by omega
 have w1 : 1 ≤ w ∧ w ≤ 4 := by omega
 have hks : sizeF k = true := by simp [sizeF]; omega
 have hws : sizeF w = true := by simp [sizeF]; omega
 refine ⟨nofun, fun _ => ⟨⟨by omega, by omega⟩, by omega, ⟨by omega, by omega⟩, by omega, fun _ => h, fun ⟨hs, hne⟩ => ?_⟩⟩
 have hok := fewTs_ok hs
 have hl5 := fewTs_len hs
 refine ⟨hok, fun he => Q_true ?_ h, fun he => ?_⟩
 · have := find_err l hks hws
   simp only [Bool.or_eq_true, beq_iff_eq]; omega
 · have hL : 0 < (l.length : Int) := by omega
   have hp : inL (a % (l.length : Int)) l.length := ⟨Int.emod_nonneg _ (by omega), Int.emod_lt_of_pos _ hL⟩
   have hq : inL (b % (l.length : Int)) l.length := ⟨Int.emod_nonneg _ (by omega), Int.emod_lt_of_pos _ hL⟩
   generalize a % (l.length : Int) = p at *
   generalize b % (l.length : Int) = q at *
   have hA := fewTs_words hs _ (gi_mem hp)
   have hB := fewTs_words hs _ (gi_mem hq)
   have hm0 : 0 ≤ i % (((gi l p).words.length : Int) + 1) := Int.emod_nonneg _ (by omega)
   have hm1 : i % (((gi l p).words.length : Int) + 1) < ((gi l p).words.length : Int) + 1 := Int.emod_lt_of_pos _ (by omega)
   have hn0 : 0 ≤ j % (((gi l q).words.length : Int) + 1) := Int.emod_nonneg _ (by omega)
   have hn1 : j % (((gi l q).words.length : Int) + 1) < ((gi l q).words.length : Int) + 1 := Int.emod_lt_of_pos _ (by omega)
   generalize i % (((gi l p).words.length : Int) + 1) = m at *
   generalize j % (((gi l q).words.length : Int) + 1) = n at *
   refine ⟨⟨by omega, by omega⟩, ⟨by omega, by omega⟩, hp, by omega, ⟨by omega, by omega⟩, hq, by omega, ⟨by omega, by omega⟩, fun _ => ⟨hp, hq, hok.2 _ (gi_mem hp), hok.2 _ (gi_mem hq), by omega, by omega⟩, fun _ => h, fun hg => ?_⟩
   have hf3 := (find_parts l k w).2.2
   refine ⟨by omega, fun z hz => ⟨?_, by unfold smallI; omega, by unfold smallI; omega, by unfold smallI; omega, by unfold smallI; omega⟩, Q_true ?_ h⟩
   · have hz := ((find_parts l k w).1 z hz).2.2.2
     obtain ⟨a', i', b', j', z1, z2, z3, z4, z5, z6, z7, rfl⟩ := mem_ref.1 hz
     have w2 := fewTs_words hs _ (gi_mem (l := l) (i := (a' : Int)) ⟨by omega, by omega⟩)
     have w3 := fewTs_words hs _ (gi_mem (l := l) (i := (b' : Int)) ⟨by omega, by omega⟩)
     have w4 := (lenC_pos (a := gi l (a' : Nat)) (b := gi l (b' : Nat)) (i := i') (j := j') (by omega)).2
     have w5 := (toN_le (gi l (a' : Nat)).words (gi l (b' : Nat)).words i' j').1
     unfold smallC smallI
     refine ⟨⟨?_, ?_⟩, ⟨?_, ?_⟩, ⟨?_, ?_⟩, ⟨?_, ?_⟩, ⟨?_, ?_⟩⟩ <;> simp only <;> omega
   · rw [find_zero he]
     have hc : (toN (gi l p).words (gi l q).words m.toNat n.toNat : Int) ≥ k + w - 1 := by
       have := hg.2
       unfold commonF4 at this
       split at this
       · show ((commonW _ _ : Nat) : Int) ≥ _
         omega
       · omega
     have hP : OkP l (⟨p, m⟩, ⟨q, n⟩) := ⟨hp, hq, hm0, by simp only; omega, hn0, by simp only; omega⟩
     have ht : toP l (⟨p, m⟩, ⟨q, n⟩) = toN (gi l p).words (gi l q).words m.toNat n.toNat := rfl
     have hsk : skipF (-1) (⟨p, m⟩ : ClonePlace) ⟨q, n⟩ = false := by
       rw [Bool.eq_false_iff]
       intro hh
       have := skip_iff.1 hh
       simp only [eqClonePlace, Bool.and_eq_true, decide_eq_true_eq] at this
       omega
     rw [List.any_eq_true]
     refine ⟨_, clone_mem (least := k + w - 1) (only := -1) hP hsk (by omega) (by omega), ?_⟩
     unfold cloneP
     rw [ht]
     generalize backP l (⟨p, m⟩, ⟨q, n⟩) = f
     simp only [Bool.and_eq_true, decide_eq_true_eq, true_and]
     refine ⟨⟨?_, ?_⟩, ?_⟩ <;> omega
end Go.Lic
