/-
  The conditions of the statements of chapter 29, printed from their code.
-/
import Derived.Test.YtglclijalehcmaaGreatDoorKv
import Derived.Test.YtglclijalehcmaaGreatDoorKo5
import Derived.Test.YtglclijalehcmaaGreatDoorKo6
import Derived.Test.YtglclijalehcmaaGreatDoorKo8
set_option linter.all false
namespace Go.Lic
open Go.Proofs Go.Sort
def ltext_L1 (path : ByteArray) (s_ : ByteArray) (Q : Text → Prop) (again4 : (List Lexeme) × Int → Prop) (xs : (List Lexeme)) (x : Int) : Prop :=
 ((x < (s_.size : Int) → (inI (x + 1) ∧ inS x (x + 1) s_.size ∧ ((xs.length + ([(Lexeme.mk (ssub s_ x (x + 1)) 0)] : List Lexeme).length) * 24 ≤ 140737488355328 ∧ xs.length + ([(Lexeme.mk (ssub s_ x (x + 1)) 0)] : List Lexeme).length ≤ 9223372036854775807) ∧ (inI (x + 1) ∧ again4 ((xs ++ ([(Lexeme.mk (ssub s_ x (x + 1)) 0)] : List Lexeme)), (x + 1))))) ∧ (¬ x < (s_.size : Int) → Q (Text.mk path xs)))
def ltext_vc (path : ByteArray) (s_ : ByteArray) (Q : Text → Prop) : Prop :=
 lfp (S := (List Lexeme) × Int) (fun again4 ss => ltext_L1 path s_ Q again4 ss.1 ss.2) (([] : List Lexeme), 0)
def awake_vc (Q : Bool → Prop) : Prop :=
 ((⟨#[97, 98, 99, 97, 98]⟩ : ByteArray).size ≤ 1000 ∧ (⟨#[98, 99, 97]⟩ : ByteArray).size ≤ 1000 ∧ (okTs ([(textF (⟨#[120]⟩ : ByteArray) (⟨#[97, 98, 99, 97, 98]⟩ : ByteArray)), (textF (⟨#[121]⟩ : ByteArray) (⟨#[98, 99, 97]⟩ : ByteArray))] : List Text) ∧ ((((findC ([(textF (⟨#[120]⟩ : ByteArray) (⟨#[97, 98, 99, 97, 98]⟩ : ByteArray)), (textF (⟨#[121]⟩ : ByteArray) (⟨#[98, 99, 97]⟩ : ByteArray))] : List Text) 2 1).2 = 0 ∧ (((findC ([(textF (⟨#[120]⟩ : ByteArray) (⟨#[97, 98, 99, 97, 98]⟩ : ByteArray)), (textF (⟨#[121]⟩ : ByteArray) (⟨#[98, 99, 97]⟩ : ByteArray))] : List Text) 2 1).1).length : Int) = 2) → ((findC ([(textF (⟨#[120]⟩ : ByteArray) (⟨#[97, 98, 99, 97, 98]⟩ : ByteArray)), (textF (⟨#[121]⟩ : ByteArray) (⟨#[98, 99, 97]⟩ : ByteArray))] : List Text) 2 1).1).length ≤ 9223372036854775807) ∧ ((((findC ([(textF (⟨#[120]⟩ : ByteArray) (⟨#[97, 98, 99, 97, 98]⟩ : ByteArray)), (textF (⟨#[121]⟩ : ByteArray) (⟨#[98, 99, 97]⟩ : ByteArray))] : List Text) 2 1).2 = 0 ∧ (((findC ([(textF (⟨#[120]⟩ : ByteArray) (⟨#[97, 98, 99, 97, 98]⟩ : ByteArray)), (textF (⟨#[121]⟩ : ByteArray) (⟨#[98, 99, 97]⟩ : ByteArray))] : List Text) 2 1).1).length : Int) = 2) ∧ (decide (((findC ([(textF (⟨#[120]⟩ : ByteArray) (⟨#[97, 98, 99, 97, 98]⟩ : ByteArray)), (textF (⟨#[121]⟩ : ByteArray) (⟨#[98, 99, 97]⟩ : ByteArray))] : List Text) 2 1).1) = ([(Clone.mk 0 0 0 3 2), (Clone.mk 0 1 1 0 3)] : List Clone))) = true) → inL 1 ((findC ([(textF (⟨#[120]⟩ : ByteArray) (⟨#[97, 98, 99, 97, 98]⟩ : ByteArray)), (textF (⟨#[121]⟩ : ByteArray) (⟨#[98, 99, 97]⟩ : ByteArray))] : List Text) 2 1).1).length ∧ okTs ([(textF (⟨#[120]⟩ : ByteArray) (⟨#[97, 98, 99, 97, 98]⟩ : ByteArray)), (textF (⟨#[121]⟩ : ByteArray) (⟨#[98, 99, 97]⟩ : ByteArray))] : List Text)) ∧ (((((findC ([(textF (⟨#[120]⟩ : ByteArray) (⟨#[97, 98, 99, 97, 98]⟩ : ByteArray)), (textF (⟨#[121]⟩ : ByteArray) (⟨#[98, 99, 97]⟩ : ByteArray))] : List Text) 2 1).2 = 0 ∧ (((findC ([(textF (⟨#[120]⟩ : ByteArray) (⟨#[97, 98, 99, 97, 98]⟩ : ByteArray)), (textF (⟨#[121]⟩ : ByteArray) (⟨#[98, 99, 97]⟩ : ByteArray))] : List Text) 2 1).1).length : Int) = 2) ∧ (decide (((findC ([(textF (⟨#[120]⟩ : ByteArray) (⟨#[97, 98, 99, 97, 98]⟩ : ByteArray)), (textF (⟨#[121]⟩ : ByteArray) (⟨#[98, 99, 97]⟩ : ByteArray))] : List Text) 2 1).1) = ([(Clone.mk 0 0 0 3 2), (Clone.mk 0 1 1 0 3)] : List Clone))) = true) ∧ (checkF29 ([(textF (⟨#[120]⟩ : ByteArray) (⟨#[97, 98, 99, 97, 98]⟩ : ByteArray)), (textF (⟨#[121]⟩ : ByteArray) (⟨#[98, 99, 97]⟩ : ByteArray))] : List Text) (gi ((findC ([(textF (⟨#[120]⟩ : ByteArray) (⟨#[97, 98, 99, 97, 98]⟩ : ByteArray)), (textF (⟨#[121]⟩ : ByteArray) (⟨#[98, 99, 97]⟩ : ByteArray))] : List Text) 2 1).1) 1) 3) = 0) → inL 1 ((findC ([(textF (⟨#[120]⟩ : ByteArray) (⟨#[97, 98, 99, 97, 98]⟩ : ByteArray)), (textF (⟨#[121]⟩ : ByteArray) (⟨#[98, 99, 97]⟩ : ByteArray))] : List Text) 2 1).1).length ∧ okTs ([(textF (⟨#[120]⟩ : ByteArray) (⟨#[97, 98, 99, 97, 98]⟩ : ByteArray)), (textF (⟨#[121]⟩ : ByteArray) (⟨#[98, 99, 97]⟩ : ByteArray))] : List Text)) ∧ Q (((((((findC ([(textF (⟨#[120]⟩ : ByteArray) (⟨#[97, 98, 99, 97, 98]⟩ : ByteArray)), (textF (⟨#[121]⟩ : ByteArray) (⟨#[98, 99, 97]⟩ : ByteArray))] : List Text) 2 1).2) == 0) && ((((findC ([(textF (⟨#[120]⟩ : ByteArray) (⟨#[97, 98, 99, 97, 98]⟩ : ByteArray)), (textF (⟨#[121]⟩ : ByteArray) (⟨#[98, 99, 97]⟩ : ByteArray))] : List Text) 2 1).1).length : Int) == 2)) && (decide (((findC ([(textF (⟨#[120]⟩ : ByteArray) (⟨#[97, 98, 99, 97, 98]⟩ : ByteArray)), (textF (⟨#[121]⟩ : ByteArray) (⟨#[98, 99, 97]⟩ : ByteArray))] : List Text) 2 1).1) = ([(Clone.mk 0 0 0 3 2), (Clone.mk 0 1 1 0 3)] : List Clone)))) && ((checkF29 ([(textF (⟨#[120]⟩ : ByteArray) (⟨#[97, 98, 99, 97, 98]⟩ : ByteArray)), (textF (⟨#[121]⟩ : ByteArray) (⟨#[98, 99, 97]⟩ : ByteArray))] : List Text) (gi ((findC ([(textF (⟨#[120]⟩ : ByteArray) (⟨#[97, 98, 99, 97, 98]⟩ : ByteArray)), (textF (⟨#[121]⟩ : ByteArray) (⟨#[98, 99, 97]⟩ : ByteArray))] : List Text) 2 1).1) 1) 3) == 0)) && ((checkF29 ([(textF (⟨#[120]⟩ : ByteArray) (⟨#[97, 98, 99, 97, 98]⟩ : ByteArray)), (textF (⟨#[121]⟩ : ByteArray) (⟨#[98, 99, 97]⟩ : ByteArray))] : List Text) (gi ((findC ([(textF (⟨#[120]⟩ : ByteArray) (⟨#[97, 98, 99, 97, 98]⟩ : ByteArray)), (textF (⟨#[121]⟩ : ByteArray) (⟨#[98, 99, 97]⟩ : ByteArray))] : List Text) 2 1).1) 1) 4) == 13)))))
def lawChecks_L1 (l : (List Text)) (x : (List Clone)) (n : Int) (i : Int) (Q : Bool → Prop) (again3 : Int → Prop) (x1 : Int) : Prop :=
 ((x1 < (x.length : Int) → (inL x1 x.length ∧ (okTs l ∧ inI (gi x x1).atA ∧ inI (gi x x1).atB ∧ ((¬ (checkF29 l (gi x x1) n) = (checkF29 l (gi x x1) n) → Q false) ∧ ((checkF29 l (gi x x1) n) = (checkF29 l (gi x x1) n) → (inI (x1 + 1) ∧ again3 (x1 + 1))))))) ∧ (¬ x1 < (x.length : Int) → (okTs l ∧ x.length ≤ 1024 ∧ (∀ t_ ∈ l, t_.words.length ≤ 40) ∧ (okTs l ∧ (∀ t_ ∈ l, t_.words.length ≤ 40) ∧ (∀ c_ ∈ x, inI c_.atA ∧ inI c_.atB) ∧ x.length ≤ 1000000 ∧ (x.length ≤ 1000000 ∧ (x.length ≤ 1000000 ∧ (((coveredF l x i).2 = (coveredF l x i).2 → ((coveredF l x i).1).length ≤ 9223372036854775807) ∧ ((((coveredF l x i).2 = (coveredF l x i).2 ∧ (decide (((coveredF l x i).1) = ((coveredF l x i).1))) = true) ∧ (famF n x).2 = (famF n x).2) → ((famF n x).1).length ≤ 1000 ∧ (∀ z_ ∈ ((famF n x).1), z_.length ≤ 1000)) ∧ Q ((((((coveredF l x i).2) == ((coveredF l x i).2)) && (decide (((coveredF l x i).1) = ((coveredF l x i).1)))) && (((famF n x).2) == ((famF n x).2))) && (decide (((famF n x).1) = ((famF n x).1)))))))))))
def lawChecks_vc (l : (List Text)) (x : (List Clone)) (n : Int) (i : Int) (Q : Bool → Prop) : Prop :=
 ((true = false → Q false) ∧ (true = true → ((((fewTs l) = false ∨ (x.length : Int) > 40) → Q true) ∧ (((fewTs l) = true ∧ ¬ (x.length : Int) > 40) → lfp (S := Int) (fun again3 ss => lawChecks_L1 l x n i Q again3 ss) 0))))
end Go.Lic
set_option linter.all false
namespace Go.Lic
open Go.Proofs Go.Sort Go.Shelf
theorem fewW_ok {l : List Lexeme} (h : fewW l = true) : okW l := by
 unfold fewW at h
 rw [Bool.and_eq_true, decide_eq_true_eq, List.all_eq_true] at h
 exact ⟨by omega, fun w hw => by have := of_decide_eq_true (h.2 w hw); omega⟩
theorem fewTs_ok {l : List Text} (h : fewTs l = true) : okTs l := by
 unfold fewTs at h
 rw [Bool.and_eq_true, decide_eq_true_eq, List.all_eq_true] at h
 refine ⟨by omega, fun t ht => ?_⟩
 have := h.2 t ht
 rw [Bool.and_eq_true, decide_eq_true_eq] at this
 exact ⟨by omega, fewW_ok this.1⟩
theorem fewTs_words {l : List Text} (h : fewTs l = true) : ∀ t ∈ l, t.words.length ≤ 40 := fun t ht => by
 unfold fewTs fewW at h
 rw [Bool.and_eq_true, List.all_eq_true] at h
 have := h.2 t ht
 simp only [Bool.and_eq_true, decide_eq_true_eq] at this
 exact this.1.1
theorem Q_true {b : Bool} {Q : Bool → Prop} (e : b = true) (h : Q true) : Q b := e ▸ h
theorem byte_ssub {s : ByteArray} {x : Int} (h : inL x s.size) : ssub s x (x + 1) = bstr [gi (sbytes s) x] := by
 have hn : x.toNat < s.data.toList.length := by have : s.data.toList.length = s.size := rfl; omega
 apply ba_eq
 have hg : gi (sbytes s) x = ((s.data.toList[x.toNat]'hn).toNat : Int) := by
   rw [gi_lt (by rw [sbytes_len]; exact h)]; simp [sbytes]
 rw [hg]
 have h2 : (ssub s x (x + 1)).data.toList = (s.data.toList.take (x + 1).toNat).drop x.toNat := by
   simp [ssub, ByteArray.extract, ByteArray.copySlice, List.take_drop]
   rw [show x.toNat + ((x + 1).toNat - x.toNat) = (x + 1).toNat by omega]
 rw [h2, show (x + 1).toNat = x.toNat + 1 by omega, List.take_succ_eq_append_getElem hn, List.drop_append, List.drop_eq_nil_of_le (by simp; omega)]
 have hm : min x.toNat s.size = x.toNat := by omega
 simp [bstr, hm]
theorem ltext_ok (path : ByteArray) (s_ : ByteArray) (Q : Text → Prop) (hp0 : s_.size ≤ 1000) (h : Q (textF path s_)) : ltext_vc path s_ Q := by
 have hb := sbytes_len s_
 refine lfp2 (ltext_L1 path s_ Q) (fun xs x => 0 ≤ x ∧ x ≤ s_.size ∧ (xs.length : Int) = x ∧ xs = ((sbytes s_).take x.toNat).map fun b => ⟨bstr [b], 0⟩) (fun _ x => (s_.size - x).toNat) (fun xs x hst again hag => ?_) ⟨by omega, by omega, rfl, rfl⟩
 obtain ⟨h0, h1, h2, h3⟩ := hst
 refine ⟨fun hlt => ?_, fun hn => ?_⟩
 · have hx : inL x (sbytes s_).length := by omega
   refine ⟨by omega, by omega, ⟨by simp only [List.length_singleton]; omega, by simp only [List.length_singleton]; omega⟩, by omega, hag _ _ ⟨by omega, by omega, by simp only [List.length_append, List.length_singleton]; omega, ?_⟩ (by omega)⟩
   rw [h3, byte_ssub (by omega), show (x + 1).toNat = x.toNat + 1 by omega, List.take_succ_eq_append_getElem (by omega), List.map_append, gi_lt hx]; rfl
 · rw [h3, List.take_of_length_le (by omega)]; exact h
def exT : List Text := [(textF (⟨#[120]⟩ : ByteArray) (⟨#[97, 98, 99, 97, 98]⟩ : ByteArray)), (textF (⟨#[121]⟩ : ByteArray) (⟨#[98, 99, 97]⟩ : ByteArray))]
theorem exT_find : findC exT 2 1 = ([(Clone.mk 0 0 0 3 2), (Clone.mk 0 1 1 0 3)], 0) := by decide +kernel
theorem exT_ok : okTs exT := fewTs_ok (by decide +kernel)
theorem exT_c3 : checkF29 exT (Clone.mk 0 1 1 0 3) 3 = 0 := by decide +kernel
theorem exT_c4 : checkF29 exT (Clone.mk 0 1 1 0 3) 4 = 13 := by decide +kernel
theorem awake_ok (Q : Bool → Prop)  (h : Q (true)) : awake_vc  Q := by
 unfold awake_vc
 rw [show ([(textF (⟨#[120]⟩ : ByteArray) (⟨#[97, 98, 99, 97, 98]⟩ : ByteArray)), (textF (⟨#[121]⟩ : ByteArray) (⟨#[98, 99, 97]⟩ : ByteArray))] : List Text) = exT from rfl, exT_find]
 have e1 : gi ([(Clone.mk 0 0 0 3 2), (Clone.mk 0 1 1 0 3)] : List Clone) 1 = Clone.mk 0 1 1 0 3 := rfl
 simp only [e1, exT_c3, exT_c4]
 exact ⟨by decide +kernel, by decide +kernel, exT_ok, fun _ => by decide, fun _ => ⟨by decide, exT_ok⟩, fun _ => ⟨by decide, exT_ok⟩, h⟩
end Go.Lic
set_option linter.all false
namespace Go.Lic
open Go.Proofs Go.Sort Go.Shelf
end Go.Lic
set_option linter.all false
namespace Go.Lic
open Go.Proofs Go.Sort Go.Shelf
theorem lab_length (n : Int) (x : List Clone) : (labF n x).length = (idL n).length := by
 unfold labF
 have : ∀ (x : List Clone) (g : List Int), (x.foldl relabel g).length = g.length := by
   intro x
   induction x with
   | nil => intro g; rfl
   | cons c x ih => intro g; rw [List.foldl_cons, ih, relabel_len]
 exact this x _
theorem fam_small (n : Int) (x : List Clone) : (famF n x).1.length ≤ 64 ∧ ∀ m ∈ (famF n x).1, m.length ≤ 64 := by
 unfold famF
 split
 · simp
 · next h0 =>
   split
   · simp
   · simp only
     rw [famL_eq]
     have h1 := famN_len (labF n x) n.toNat
     refine ⟨by omega, fun m hm => ?_⟩
     unfold famN at hm
     obtain ⟨hm, _⟩ := List.mem_filter.1 hm
     obtain ⟨i, _, rfl⟩ := List.mem_map.1 hm
     rw [members_eq]
     have h2 := memN_len (labF n x) (i : Nat) (labF n x).length
     have h3 := lab_length n x
     have h4 := idL_len (n := n) (by omega)
     omega
theorem covered_len {l : List Text} (h40 : ∀ t_ ∈ l, t_.words.length ≤ 40) (x : List Clone) (i : Int) : (coveredF l x i).1.length ≤ 1000 := by
 unfold coveredF
 split
 · next hr =>
   split
   · next hi =>
     split
     · simp
     · rw [own_ofF (right_valid hr hi) (own_covers l i x)]
       have := (outF_len (right_valid hr hi) (own_covers l i x)).2
       have := h40 _ (gi_mem hi)
       simp only; omega
   · simp
 · simp
theorem lawChecks_ok (l : (List Text)) (x : (List Clone)) (n : Int) (i : Int) (Q : Bool → Prop) (hp0 : ∀ c_ ∈ x, inI c_.atA ∧ inI c_.atB) (h : Q (true)) : lawChecks_vc l x n i Q := by
 refine ⟨nofun, fun _ => ⟨fun _ => h, fun hs => ?_⟩⟩
 have h1 := fewTs_ok hs.1
 have h2 := fewTs_words hs.1
 refine lfp_of (fun j : Int => 0 ≤ j ∧ j ≤ x.length) (fun j => (x.length - j).toNat) (fun j hst again hag => ?_) ⟨by omega, by omega⟩
 obtain ⟨k0, k1⟩ := hst
 refine ⟨fun hlt => ⟨by omega, h1, (hp0 _ (gi_mem (by omega))).1, (hp0 _ (gi_mem (by omega))).2, fun hb => absurd rfl hb, fun _ => ⟨by omega, hag _ ⟨by omega, by omega⟩ (by omega)⟩⟩, fun hn => ?_⟩
 have h3 := covered_len h2 x i
 have h4 := fam_small n x
 exact ⟨h1, by omega, h2, h1, h2, hp0, by omega, by omega, by omega, fun _ => by omega, fun _ => ⟨by omega, fun z hz => by have := h4.2 z hz; omega⟩, Q_true (by simp) h⟩
end Go.Lic
