/-
  Statements of chapter 29: sizes, the example. No program in sight.
-/
import Derived.Test.YtglclijalehcmaaDoorKx
import Derived.Test.YtglclijalehcmaaDoorKo4
set_option linter.all false
namespace Go.Lic
open Go.Proofs Go.Sort Go.Shelf
theorem fewW_ok {l : List Lexeme} (h : fewW l = true) : okW l := by
 unfold fewW at h
 rw [Bool.and_eq_true, decide_eq_true_eq, List.all_eq_true] at h
 exact ⟨by omega, fun w hw => by have := of_decide_eq_true (h.2 w hw); omega⟩
theorem fewTs_ok {l : List Text} (h : fewTs l = true) : okTs l := by
 unfold fewTs at h
 rw [Bool.and_eq_true, decide_eq_true_eq, List.all_eq_true] at h
 refine ⟨by omega, fun t ht => ?_⟩
 have := h.2 t ht
 rw [Bool.and_eq_true, decide_eq_true_eq] at this
 exact ⟨by omega, fewW_ok this.1⟩
theorem byte_ssub {s : ByteArray} {x : Int} (h : inL x s.size) : ssub s x (x + 1) = bstr [gi (sbytes s) x] := by
 have hn : x.toNat < s.data.toList.length := by have : s.data.toList.length = s.size := rfl; omega
 apply ba_eq
 have hg : gi (sbytes s) x = ((s.data.toList[x.toNat]'hn).toNat : Int) := by
   rw [gi_lt (by rw [sbytes_len]; exact h)]; simp [sbytes]
 rw [hg]
 have h2 : (ssub s x (x + 1)).data.toList = (s.data.toList.take (x + 1).toNat).drop x.toNat := by
   simp [ssub, ByteArray.extract, ByteArray.copySlice, List.take_drop]
   rw [show x.toNat + ((x + 1).toNat - x.toNat) = (x + 1).toNat by omega]
 rw [h2, show (x + 1).toNat = x.toNat + 1 by omega, List.take_succ_eq_append_getElem hn, List.drop_append, List.drop_eq_nil_of_le (by simp; omega)]
 have hm : min x.toNat s.size = x.toNat := by omega
 simp [bstr, hm]
theorem ltext_ok (path : ByteArray) (s_ : ByteArray) (Q : Text → Prop) (hp0 : s_.size ≤ 1000) (h : Q (textF path s_)) : ltext_vc path s_ Q := by
 have hb := sbytes_len s_
 refine lfp2 (ltext_L1 path s_ Q) (fun xs x => 0 ≤ x ∧ x ≤ s_.size ∧ (xs.length : Int) = x ∧ xs = ((sbytes s_).take x.toNat).map fun b => ⟨bstr [b], 0⟩) (fun _ x => (s_.size - x).toNat) (fun xs x hst again hag => ?_) ⟨by omega, by omega, rfl, rfl⟩
 obtain ⟨h0, h1, h2, h3⟩ := hst
 refine ⟨fun hlt => ?_, fun hn => ?_⟩
 · have hx : inL x (sbytes s_).length := by omega
   refine ⟨by omega, by omega, ⟨by simp only [List.length_singleton]; omega, by simp only [List.length_singleton]; omega⟩, by omega, hag _ _ ⟨by omega, by omega, by simp only [List.length_append, List.length_singleton]; omega, ?_⟩ (by omega)⟩
   rw [h3, byte_ssub (by omega), show (x + 1).toNat = x.toNat + 1 by omega, List.take_succ_eq_append_getElem (by omega), List.map_append, gi_lt hx]; rfl
 · rw [h3, List.take_of_length_le (by omega)]; exact h
def exT : List Text := [(textF (⟨#[120]⟩ : ByteArray) (⟨#[97, 98, 99, 97, 98]⟩ : ByteArray)), (textF (⟨#[121]⟩ : ByteArray) (⟨#[98, 99, 97]⟩ : ByteArray))]
theorem exT_find : findC exT 2 1 = ([(Clone.mk 0 0 0 3 2), (Clone.mk 0 1 1 0 3)], 0) := by decide +kernel
theorem exT_ok : okTs exT := fewTs_ok (by decide +kernel)
theorem exT_c3 : checkF29 exT (Clone.mk 0 1 1 0 3) 3 = 0 := by decide +kernel
theorem exT_c4 : checkF29 exT (Clone.mk 0 1 1 0 3) 4 = 13 := by decide +kernel
theorem awake_ok (Q : Bool → Prop)  (h : Q (true)) : awake_vc  Q := by
 unfold awake_vc
 rw [show ([(textF (⟨#[120]⟩ : ByteArray) (⟨#[97, 98, 99, 97, 98]⟩ : ByteArray)), (textF (⟨#[121]⟩ : ByteArray) (⟨#[98, 99, 97]⟩ : ByteArray))] : List Text) = exT from rfl, exT_find]
 have e1 : gi ([(Clone.mk 0 0 0 3 2), (Clone.mk 0 1 1 0 3)] : List Clone) 1 = Clone.mk 0 1 1 0 3 := rfl
 simp only [e1, exT_c3, exT_c4]
 exact ⟨by decide +kernel, by decide +kernel, exT_ok, fun _ => by decide, fun _ => ⟨by decide, exT_ok⟩, fun _ => ⟨by decide, exT_ok⟩, h⟩
theorem find_parts (l : List Text) (k w : Int) : (∀ c ∈ (findC l k w).1, rightL l = true ∧ sizeF k = true ∧ sizeF w = true ∧ c ∈ refL l (k + w - 1) (-1)) ∧ (findC l k w).1.Pairwise CLt ∧ (findC l k w).1.length ≤ 1024 := by
 unfold findC clonesF
 split
 · next h1 =>
   split
   · next h2 =>
     rw [Bool.and_eq_true] at h2
     split
     · simp
     · exact ⟨fun c hc => ⟨h1, h2.1, h2.2, hc⟩, ref_sorted _ _ _, by simp only; omega⟩
   · simp
 · simp
theorem find_div {l : List Text} {k w : Int} (h1 : 1 ≤ k) (h2 : 1 ≤ w) (h3 : k + w ≤ 1000) : findC l (k + w - 1) 1 = findC l k w ∧ findC l 1 (k + w - 1) = findC l k w := by
 have s : ∀ n : Int, 1 ≤ n → n ≤ 1024 → sizeF n = true := fun n h1 h2 => by simp [sizeF]; omega
 unfold findC
 rw [s k (by omega) (by omega), s w (by omega) (by omega), s 1 (by omega) (by omega), s (k + w - 1) (by omega) (by omega)]
 unfold clonesF
 rw [show k + w - 1 + 1 - 1 = k + w - 1 by omega, show 1 + (k + w - 1) - 1 = k + w - 1 by omega]
 exact ⟨rfl, rfl⟩
theorem ref_check {l : List Text} {n only : Int} {c : Clone} (hn : 1 ≤ n) (h : c ∈ refL l n only) : checkC l c n = 0 := by
 obtain ⟨a, i, b, j, h1, h2, h3, h4, h5, h6, h7, rfl⟩ := mem_ref.1 h
 unfold checkC
 have ho : (a : Int) ≤ b := by
   simp only [okB, Bool.and_eq_true, decide_eq_true_eq] at h4
   omega
 rw [if_pos ((ordered_iff _ _).2 ⟨by simp, by simp; omega, by simp, by simp, by simp only; omega, by simp only; omega⟩)]
 simp only [if_true]
 rw [if_neg (by omega)]
theorem cmp_less {x y : Clone} (h : CLt x y) : cmpL [x.a, x.atA, x.b, x.atB] [y.a, y.atA, y.b, y.atB] < 0 := by
 have h1 := cmpI_neg x.a y.a; have h2 := cmpI_zero x.a y.a
 have h3 := cmpI_neg x.atA y.atA; have h4 := cmpI_zero x.atA y.atA
 have h5 := cmpI_neg x.b y.b; have h6 := cmpI_zero x.b y.b
 have h7 := cmpI_neg x.atB y.atB; have h8 := cmpI_zero x.atB y.atB
 unfold CLt at h
 simp only [cmpL]
 generalize cmpI x.a y.a = u at *
 generalize cmpI x.atA y.atA = v at *
 generalize cmpI x.b y.b = z at *
 generalize cmpI x.atB y.atB = t at *
 split
 · split
   · split
     · split <;> omega
     · omega
   · omega
 · omega
end Go.Lic
set_option linter.all false
namespace Go.Lic
open Go.Proofs Go.Sort Go.Shelf
theorem lawSound_ok (l : (List Text)) (grams : Int) (width : Int) (Q : Bool → Prop) (hp0 : inL grams 256) (hp1 : inL width 256) (h : Q (true)) : lawSound_vc l grams width Q := by
 unfold lawSound_vc lawSound_L1
 rw [wrap_small (show inI grams by omega), wrap_small (show inI width by omega)]
 obtain ⟨k, hk⟩ : ∃ k, k = 1 + grams % 4 := ⟨_, rfl⟩
 obtain ⟨w, hw⟩ : ∃ w, w = 1 + width % 4 := ⟨_, rfl⟩
 rw [← hk, ← hw]
 have k1 : 1 ≤ k ∧ k ≤ 4 := by omega
 have w1 : 1 ≤ w ∧ w ≤ 4 := by omega
 refine ⟨nofun, fun _ => ⟨⟨by have := hp0.1; omega, by omega⟩, by omega, ⟨by have := hp1.1; omega, by omega⟩, by omega, fun _ => h, fun hs => ?_⟩⟩
 have hok := fewTs_ok hs
 obtain ⟨d1, d2⟩ := find_div (l := l) (k := k) (w := w) k1.1 w1.1 (by omega)
 obtain ⟨p1, p2, p3⟩ := find_parts l k w
 rw [d1, d2]
 generalize hX : (findC l k w).1 = X at *
 refine ⟨hok, by omega, by omega, hok, by omega, by omega, hok, fun _ => by omega, fun _ => by omega, fun hb => ?_, fun _ => ?_⟩
 · exfalso
   rcases hb with ((hb | hb) | hb) | hb
   · exact hb rfl
   · exact hb rfl
   · simp at hb
   · simp at hb
 · refine lfp_of (fun x : Int => 0 ≤ x ∧ x ≤ X.length) (fun x => (X.length - x).toNat) (fun x hx again hag => ?_) ⟨by omega, by omega⟩
   obtain ⟨h0, h1⟩ := hx
   refine ⟨fun hlt => ?_, fun _ => h⟩
   have hx : inL x X.length := ⟨h0, hlt⟩
   obtain ⟨q1, _, _, q4⟩ := p1 _ (gi_mem hx)
   have hc : checkF29 l (gi X x) (k + w - 1) = 0 := by
     unfold checkF29
     rw [if_pos q1]; exact ref_check (by omega) q4
   refine ⟨hx, by omega, by omega, hok, fun hb => absurd hc hb, fun _ => ⟨fun _ => ⟨by omega, hag _ ⟨by omega, by omega⟩ (by omega)⟩, fun hne => ⟨by omega, by omega, by simp, by simp, fun hb => ?_, fun _ => ⟨by omega, hag _ ⟨by omega, by omega⟩ (by omega)⟩⟩⟩⟩
   exfalso
   have hlt2 : CLt (gi X (x - 1)) (gi X x) := by
     rw [List.pairwise_iff_getElem] at p2
     rw [gi_lt (show inL (x - 1) X.length by omega), gi_lt hx]
     exact p2 _ _ _ _ (by omega)
   have := cmp_less hlt2
   omega
end Go.Lic
