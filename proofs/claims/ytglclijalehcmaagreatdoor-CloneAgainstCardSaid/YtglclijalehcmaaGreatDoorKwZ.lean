/-
  The conditions of the statements of chapter 29, printed from their code.
-/
import Derived.Test.YtglclijalehcmaaGreatDoorKv
import Derived.Test.YtglclijalehcmaaGreatDoorKo6
set_option linter.all false
namespace Go.Lic
open Go.Proofs Go.Sort
def ltext_L1 (path : ByteArray) (s_ : ByteArray) (Q : Text → Prop) (again4 : (List Lexeme) × Int → Prop) (xs : (List Lexeme)) (x : Int) : Prop :=
 ((x < (s_.size : Int) → (inI (x + 1) ∧ inS x (x + 1) s_.size ∧ ((xs.length + ([(Lexeme.mk (ssub s_ x (x + 1)) 0)] : List Lexeme).length) * 24 ≤ 140737488355328 ∧ xs.length + ([(Lexeme.mk (ssub s_ x (x + 1)) 0)] : List Lexeme).length ≤ 9223372036854775807) ∧ (inI (x + 1) ∧ again4 ((xs ++ ([(Lexeme.mk (ssub s_ x (x + 1)) 0)] : List Lexeme)), (x + 1))))) ∧ (¬ x < (s_.size : Int) → Q (Text.mk path xs)))
def ltext_vc (path : ByteArray) (s_ : ByteArray) (Q : Text → Prop) : Prop :=
 lfp (S := (List Lexeme) × Int) (fun again4 ss => ltext_L1 path s_ Q again4 ss.1 ss.2) (([] : List Lexeme), 0)
def awake_vc (Q : Bool → Prop) : Prop :=
 ((⟨#[97, 98, 99, 97, 98]⟩ : ByteArray).size ≤ 1000 ∧ (⟨#[98, 99, 97]⟩ : ByteArray).size ≤ 1000 ∧ (okTs ([(textF (⟨#[120]⟩ : ByteArray) (⟨#[97, 98, 99, 97, 98]⟩ : ByteArray)), (textF (⟨#[121]⟩ : ByteArray) (⟨#[98, 99, 97]⟩ : ByteArray))] : List Text) ∧ ((((findC ([(textF (⟨#[120]⟩ : ByteArray) (⟨#[97, 98, 99, 97, 98]⟩ : ByteArray)), (textF (⟨#[121]⟩ : ByteArray) (⟨#[98, 99, 97]⟩ : ByteArray))] : List Text) 2 1).2 = 0 ∧ (((findC ([(textF (⟨#[120]⟩ : ByteArray) (⟨#[97, 98, 99, 97, 98]⟩ : ByteArray)), (textF (⟨#[121]⟩ : ByteArray) (⟨#[98, 99, 97]⟩ : ByteArray))] : List Text) 2 1).1).length : Int) = 2) → ((findC ([(textF (⟨#[120]⟩ : ByteArray) (⟨#[97, 98, 99, 97, 98]⟩ : ByteArray)), (textF (⟨#[121]⟩ : ByteArray) (⟨#[98, 99, 97]⟩ : ByteArray))] : List Text) 2 1).1).length ≤ 9223372036854775807) ∧ ((((findC ([(textF (⟨#[120]⟩ : ByteArray) (⟨#[97, 98, 99, 97, 98]⟩ : ByteArray)), (textF (⟨#[121]⟩ : ByteArray) (⟨#[98, 99, 97]⟩ : ByteArray))] : List Text) 2 1).2 = 0 ∧ (((findC ([(textF (⟨#[120]⟩ : ByteArray) (⟨#[97, 98, 99, 97, 98]⟩ : ByteArray)), (textF (⟨#[121]⟩ : ByteArray) (⟨#[98, 99, 97]⟩ : ByteArray))] : List Text) 2 1).1).length : Int) = 2) ∧ (decide (((findC ([(textF (⟨#[120]⟩ : ByteArray) (⟨#[97, 98, 99, 97, 98]⟩ : ByteArray)), (textF (⟨#[121]⟩ : ByteArray) (⟨#[98, 99, 97]⟩ : ByteArray))] : List Text) 2 1).1) = ([(Clone.mk 0 0 0 3 2), (Clone.mk 0 1 1 0 3)] : List Clone))) = true) → inL 1 ((findC ([(textF (⟨#[120]⟩ : ByteArray) (⟨#[97, 98, 99, 97, 98]⟩ : ByteArray)), (textF (⟨#[121]⟩ : ByteArray) (⟨#[98, 99, 97]⟩ : ByteArray))] : List Text) 2 1).1).length ∧ okTs ([(textF (⟨#[120]⟩ : ByteArray) (⟨#[97, 98, 99, 97, 98]⟩ : ByteArray)), (textF (⟨#[121]⟩ : ByteArray) (⟨#[98, 99, 97]⟩ : ByteArray))] : List Text)) ∧ (((((findC ([(textF (⟨#[120]⟩ : ByteArray) (⟨#[97, 98, 99, 97, 98]⟩ : ByteArray)), (textF (⟨#[121]⟩ : ByteArray) (⟨#[98, 99, 97]⟩ : ByteArray))] : List Text) 2 1).2 = 0 ∧ (((findC ([(textF (⟨#[120]⟩ : ByteArray) (⟨#[97, 98, 99, 97, 98]⟩ : ByteArray)), (textF (⟨#[121]⟩ : ByteArray) (⟨#[98, 99, 97]⟩ : ByteArray))] : List Text) 2 1).1).length : Int) = 2) ∧ (decide (((findC ([(textF (⟨#[120]⟩ : ByteArray) (⟨#[97, 98, 99, 97, 98]⟩ : ByteArray)), (textF (⟨#[121]⟩ : ByteArray) (⟨#[98, 99, 97]⟩ : ByteArray))] : List Text) 2 1).1) = ([(Clone.mk 0 0 0 3 2), (Clone.mk 0 1 1 0 3)] : List Clone))) = true) ∧ (checkF29 ([(textF (⟨#[120]⟩ : ByteArray) (⟨#[97, 98, 99, 97, 98]⟩ : ByteArray)), (textF (⟨#[121]⟩ : ByteArray) (⟨#[98, 99, 97]⟩ : ByteArray))] : List Text) (gi ((findC ([(textF (⟨#[120]⟩ : ByteArray) (⟨#[97, 98, 99, 97, 98]⟩ : ByteArray)), (textF (⟨#[121]⟩ : ByteArray) (⟨#[98, 99, 97]⟩ : ByteArray))] : List Text) 2 1).1) 1) 3) = 0) → inL 1 ((findC ([(textF (⟨#[120]⟩ : ByteArray) (⟨#[97, 98, 99, 97, 98]⟩ : ByteArray)), (textF (⟨#[121]⟩ : ByteArray) (⟨#[98, 99, 97]⟩ : ByteArray))] : List Text) 2 1).1).length ∧ okTs ([(textF (⟨#[120]⟩ : ByteArray) (⟨#[97, 98, 99, 97, 98]⟩ : ByteArray)), (textF (⟨#[121]⟩ : ByteArray) (⟨#[98, 99, 97]⟩ : ByteArray))] : List Text)) ∧ Q (((((((findC ([(textF (⟨#[120]⟩ : ByteArray) (⟨#[97, 98, 99, 97, 98]⟩ : ByteArray)), (textF (⟨#[121]⟩ : ByteArray) (⟨#[98, 99, 97]⟩ : ByteArray))] : List Text) 2 1).2) == 0) && ((((findC ([(textF (⟨#[120]⟩ : ByteArray) (⟨#[97, 98, 99, 97, 98]⟩ : ByteArray)), (textF (⟨#[121]⟩ : ByteArray) (⟨#[98, 99, 97]⟩ : ByteArray))] : List Text) 2 1).1).length : Int) == 2)) && (decide (((findC ([(textF (⟨#[120]⟩ : ByteArray) (⟨#[97, 98, 99, 97, 98]⟩ : ByteArray)), (textF (⟨#[121]⟩ : ByteArray) (⟨#[98, 99, 97]⟩ : ByteArray))] : List Text) 2 1).1) = ([(Clone.mk 0 0 0 3 2), (Clone.mk 0 1 1 0 3)] : List Clone)))) && ((checkF29 ([(textF (⟨#[120]⟩ : ByteArray) (⟨#[97, 98, 99, 97, 98]⟩ : ByteArray)), (textF (⟨#[121]⟩ : ByteArray) (⟨#[98, 99, 97]⟩ : ByteArray))] : List Text) (gi ((findC ([(textF (⟨#[120]⟩ : ByteArray) (⟨#[97, 98, 99, 97, 98]⟩ : ByteArray)), (textF (⟨#[121]⟩ : ByteArray) (⟨#[98, 99, 97]⟩ : ByteArray))] : List Text) 2 1).1) 1) 3) == 0)) && ((checkF29 ([(textF (⟨#[120]⟩ : ByteArray) (⟨#[97, 98, 99, 97, 98]⟩ : ByteArray)), (textF (⟨#[121]⟩ : ByteArray) (⟨#[98, 99, 97]⟩ : ByteArray))] : List Text) (gi ((findC ([(textF (⟨#[120]⟩ : ByteArray) (⟨#[97, 98, 99, 97, 98]⟩ : ByteArray)), (textF (⟨#[121]⟩ : ByteArray) (⟨#[98, 99, 97]⟩ : ByteArray))] : List Text) 2 1).1) 1) 4) == 13)))))
def lawAgainst_vc (c : Corpus) (t : Text) (Q : Bool → Prop) : Prop :=
 ((true = false → Q false) ∧ (true = true → ((((fewC c) = false ∨ (fewTs ([t] : List Text)) = false) → Q true) ∧ (((fewC c) = true ∧ (fewTs ([t] : List Text)) = true) → (okC c ∧ okT t ∧ (okC c ∧ okT t ∧ (((againstC c t).2 = (againstC c t).2 → ((againstC c t).1).length ≤ 9223372036854775807) ∧ Q ((((againstC c t).2) == ((againstC c t).2)) && (decide (((againstC c t).1) = ((againstC c t).1)))))))))))
end Go.Lic
set_option linter.all false
namespace Go.Lic
open Go.Proofs Go.Sort Go.Shelf
theorem fewW_ok {l : List Lexeme} (h : fewW l = true) : okW l := by
 unfold fewW at h
 rw [Bool.and_eq_true, decide_eq_true_eq, List.all_eq_true] at h
 exact ⟨by omega, fun w hw => by have := of_decide_eq_true (h.2 w hw); omega⟩
theorem fewTs_ok {l : List Text} (h : fewTs l = true) : okTs l := by
 unfold fewTs at h
 rw [Bool.and_eq_true, decide_eq_true_eq, List.all_eq_true] at h
 refine ⟨by omega, fun t ht => ?_⟩
 have := h.2 t ht
 rw [Bool.and_eq_true, decide_eq_true_eq] at this
 exact ⟨by omega, fewW_ok this.1⟩
theorem Q_true {b : Bool} {Q : Bool → Prop} (e : b = true) (h : Q true) : Q b := e ▸ h
theorem byte_ssub {s : ByteArray} {x : Int} (h : inL x s.size) : ssub s x (x + 1) = bstr [gi (sbytes s) x] := by
 have hn : x.toNat < s.data.toList.length := by have : s.data.toList.length = s.size := rfl; omega
 apply ba_eq
 have hg : gi (sbytes s) x = ((s.data.toList[x.toNat]'hn).toNat : Int) := by
   rw [gi_lt (by rw [sbytes_len]; exact h)]; simp [sbytes]
 rw [hg]
 have h2 : (ssub s x (x + 1)).data.toList = (s.data.toList.take (x + 1).toNat).drop x.toNat := by
   simp [ssub, ByteArray.extract, ByteArray.copySlice, List.take_drop]
   rw [show x.toNat + ((x + 1).toNat - x.toNat) = (x + 1).toNat by omega]
 rw [h2, show (x + 1).toNat = x.toNat + 1 by omega, List.take_succ_eq_append_getElem hn, List.drop_append, List.drop_eq_nil_of_le (by simp; omega)]
 have hm : min x.toNat s.size = x.toNat := by omega
 simp [bstr, hm]
theorem ltext_ok (path : ByteArray) (s_ : ByteArray) (Q : Text → Prop) (hp0 : s_.size ≤ 1000) (h : Q (textF path s_)) : ltext_vc path s_ Q := by
 have hb := sbytes_len s_
 refine lfp2 (ltext_L1 path s_ Q) (fun xs x => 0 ≤ x ∧ x ≤ s_.size ∧ (xs.length : Int) = x ∧ xs = ((sbytes s_).take x.toNat).map fun b => ⟨bstr [b], 0⟩) (fun _ x => (s_.size - x).toNat) (fun xs x hst again hag => ?_) ⟨by omega, by omega, rfl, rfl⟩
 obtain ⟨h0, h1, h2, h3⟩ := hst
 refine ⟨fun hlt => ?_, fun hn => ?_⟩
 · have hx : inL x (sbytes s_).length := by omega
   refine ⟨by omega, by omega, ⟨by simp only [List.length_singleton]; omega, by simp only [List.length_singleton]; omega⟩, by omega, hag _ _ ⟨by omega, by omega, by simp only [List.length_append, List.length_singleton]; omega, ?_⟩ (by omega)⟩
   rw [h3, byte_ssub (by omega), show (x + 1).toNat = x.toNat + 1 by omega, List.take_succ_eq_append_getElem (by omega), List.map_append, gi_lt hx]; rfl
 · rw [h3, List.take_of_length_le (by omega)]; exact h
def exT : List Text := [(textF (⟨#[120]⟩ : ByteArray) (⟨#[97, 98, 99, 97, 98]⟩ : ByteArray)), (textF (⟨#[121]⟩ : ByteArray) (⟨#[98, 99, 97]⟩ : ByteArray))]
theorem exT_find : findC exT 2 1 = ([(Clone.mk 0 0 0 3 2), (Clone.mk 0 1 1 0 3)], 0) := by decide +kernel
theorem exT_ok : okTs exT := fewTs_ok (by decide +kernel)
theorem exT_c3 : checkF29 exT (Clone.mk 0 1 1 0 3) 3 = 0 := by decide +kernel
theorem exT_c4 : checkF29 exT (Clone.mk 0 1 1 0 3) 4 = 13 := by decide +kernel
theorem awake_ok (Q : Bool → Prop)  (h : Q (true)) : awake_vc  Q := by
 unfold awake_vc
 rw [show ([(textF (⟨#[120]⟩ : ByteArray) (⟨#[97, 98, 99, 97, 98]⟩ : ByteArray)), (textF (⟨#[121]⟩ : ByteArray) (⟨#[98, 99, 97]⟩ : ByteArray))] : List Text) = exT from rfl, exT_find]
 have e1 : gi ([(Clone.mk 0 0 0 3 2), (Clone.mk 0 1 1 0 3)] : List Clone) 1 = Clone.mk 0 1 1 0 3 := rfl
 simp only [e1, exT_c3, exT_c4]
 exact ⟨by decide +kernel, by decide +kernel, exT_ok, fun _ => by decide, fun _ => ⟨by decide, exT_ok⟩, fun _ => ⟨by decide, exT_ok⟩, h⟩
end Go.Lic
set_option linter.all false
namespace Go.Lic
open Go.Proofs Go.Sort Go.Shelf
theorem fewC_ok {c : Corpus} (h : fewC c = true) : okC c := by
 unfold fewC at h
 rw [Bool.and_eq_true, decide_eq_true_eq] at h
 exact ⟨fewTs_ok h.1, by omega⟩
theorem fewT_ok {t : Text} (h : fewTs [t] = true) : okT t := (fewTs_ok h).2 t (by simp)
theorem against_len (c : Corpus) (t : Text) : (againstC c t).1.length ≤ 1024 := by
 unfold againstC clonesF
 split
 · split
   · simp
   · simp only; omega
 · simp
theorem lawAgainst_ok (c : Corpus) (t : Text) (Q : Bool → Prop) (h : Q (true)) : lawAgainst_vc c t Q := by
 refine ⟨nofun, fun _ => ⟨fun _ => h, fun hs => ?_⟩⟩
 have h1 := fewC_ok hs.1; have h2 := fewT_ok hs.2
 have := against_len c t
 exact ⟨h1, h2, h1, h2, fun _ => by omega, Q_true (by simp) h⟩
end Go.Lic
