/-
  The conditions of 'Families' hold. No program in sight.
-/
import Derived.Test.YtglclijalehcmaaGreatDoorKo5
import Derived.Test.YtglclijalehcmaaGreatDoorKx
set_option linter.all false
namespace Go.Lic
open Go.Proofs Go.Sort Go.Shelf
theorem gmax_more (a b : Int) : gmax a [b] = moreZ a b := rfl
theorem gmin_less (a b : Int) : gmin a [b] = lessZ a b := rfl
theorem less_facts (a b : Int) : (lessZ a b = b ∧ b ≤ a) ∨ (lessZ a b = a ∧ a ≤ b) := by unfold lessZ; split <;> omega
theorem more_facts (a b : Int) : (moreZ a b = a ∧ b ≤ a) ∨ (moreZ a b = b ∧ a ≤ b) := by unfold moreZ; split <;> omega
theorem badC_iff (n : Int) (c : Clone) : badC n c = true ↔ c.a < 0 ∨ n ≤ c.a ∨ c.b < 0 ∨ n ≤ c.b := by
 simp only [badC, Bool.or_eq_true, decide_eq_true_eq, or_assoc]
theorem relabel_len (g : List Int) (c : Clone) : (relabel g c).length = g.length := by simp [relabel]
theorem gi_relabel {g : List Int} {c : Clone} {i : Int} (h : inL i g.length) : gi (relabel g c) i = if gi g i = moreZ (gi g c.a) (gi g c.b) then lessZ (gi g c.a) (gi g c.b) else gi g i := by
 unfold relabel; rw [gi_mapK h]
theorem fill_id {n x : Int} {f : List Int} (hl : (f.length : Int) = n) (h0 : 0 ≤ x) (h1 : x < n) (h : ∀ j, 0 ≤ j → j < x → gi f j = j) : ((si f x x).length : Int) = n ∧ ∀ j, 0 ≤ j → j < x + 1 → gi (si f x x) j = j := by
 refine ⟨by rw [si_length]; exact hl, fun j j0 j1 => ?_⟩
 rw [gi_siK (by omega) _ j0]
 split
 · next e => exact e.symm
 · exact h j j0 (by omega)
theorem is_id {n : Int} {f : List Int} (hl : (f.length : Int) = n) (h : ∀ j, 0 ≤ j → j < n → gi f j = j) : f = idL n := by
 have hn : 0 ≤ n := by omega
 refine list_ext_gi (by have := idL_len hn; omega) fun j j0 j1 => ?_
 rw [h j j0 (by omega), gi_idL j0 (by omega)]
def memN (g : List Int) (i : Int) (n : Nat) : List Int := ((List.range n).filter fun k => decide (gi g (k : Nat) = i)).map fun (k : Nat) => (k : Int)
theorem memN_succ (g : List Int) (i : Int) (n : Nat) : memN g i (n + 1) = if gi g (n : Nat) = i then memN g i n ++ [(n : Int)] else memN g i n := by
 unfold memN
 rw [List.range_succ, List.filter_append, List.map_append]
 by_cases h : gi g (n : Nat) = i
 · rw [if_pos h, List.filter_cons, if_pos (by simpa using h)]; rfl
 · rw [if_neg h, List.filter_cons, if_neg (by simpa using h)]; simp
theorem memN_len (g : List Int) (i : Int) (n : Nat) : (memN g i n).length ≤ n := by
 unfold memN; rw [List.length_map]; exact Nat.le_trans (List.length_filter_le _ _) (by simp)
theorem members_eq (g : List Int) (i : Int) : membersF g i = memN g i g.length := rfl
def famN (g : List Int) (n : Nat) : List (List Int) := ((List.range n).map fun (i : Nat) => membersF g i).filter fun l => decide (1 < l.length)
theorem famN_succ (g : List Int) (n : Nat) : famN g (n + 1) = if 1 < (membersF g (n : Nat)).length then famN g n ++ [membersF g (n : Nat)] else famN g n := by
 unfold famN
 rw [List.range_succ, List.map_append, List.filter_append]
 by_cases h : 1 < (membersF g (n : Nat)).length
 · rw [if_pos h, List.map_cons, List.filter_cons, if_pos (by simpa using h)]; rfl
 · rw [if_neg h, List.map_cons, List.filter_cons, if_neg (by simpa using h)]; simp
theorem famN_len (g : List Int) (n : Nat) : (famN g n).length ≤ n := by
 unfold famN; exact Nat.le_trans (List.length_filter_le _ _) (by simp)
theorem famL_eq (n : Int) (g : List Int) : famL n g = famN g n.toNat := rfl
theorem any_take {n : Int} {x : List Clone} {i : Int} (hi : inL i x.length) (hb : badC n (gi x i) = true) : x.any (badC n) = true := List.any_eq_true.2 ⟨_, gi_mem hi, hb⟩
theorem kfam_ok (n : Int) (x : (List Clone)) (Q : (List (List Int)) × Int → Prop) (hp0 : x.length ≤ 1000000) (h : Q (famF n x)) : kfam_vc n x Q := by
 unfold famF at h
 refine ⟨fun hb => by rw [if_pos (by omega)] at h; exact h, fun hg => ⟨by omega, ?_⟩⟩
 rw [if_neg (by omega)] at h
 have hn : 0 ≤ n ∧ n ≤ 64 := by omega
 have hrl : (((List.replicate n.toNat (0 : Int)).length : Nat) : Int) = n := by simp; omega
 refine lfp2 (kfam_L1 n x Q) (fun f x1 => 0 ≤ x1 ∧ x1 ≤ n ∧ (f.length : Int) = n ∧ ∀ j, 0 ≤ j → j < x1 → gi f j = j) (fun _ x1 => (n - x1).toNat) (fun f x1 hst again hag => ?_) ⟨by omega, by omega, hrl, fun j _ _ => by omega⟩
 obtain ⟨h0, h1, h2, h3⟩ := hst
 refine ⟨fun hlt => ?_, fun hnn => ?_⟩
 · rw [hrl] at hlt
   obtain ⟨e1, e2⟩ := fill_id h2 h0 hlt h3
   exact ⟨by omega, by omega, hag _ _ ⟨by omega, by omega, e1, e2⟩ (by omega)⟩
 · rw [hrl] at hnn
   have hid := is_id h2 (fun j j0 j1 => h3 j j0 (by omega))
   subst hid
   refine lfp2 (kfam_L2 n x Q) (fun g x2 => 0 ≤ x2 ∧ x2 ≤ x.length ∧ (g.length : Int) = n ∧ (x.drop x2.toNat).foldl relabel g = labF n x ∧ ∀ j : Int, 0 ≤ j → j < x2 → badC n (gi x j) = false) (fun _ x2 => (x.length - x2).toNat) (fun g x2 hst again5 hag5 => ?_) ⟨by omega, by omega, h2, rfl, fun j _ _ => by omega⟩
   obtain ⟨g0, g1, g2, g3, g4⟩ := hst
   refine ⟨fun hlt => ⟨⟨g0, hlt⟩, fun hb => ?_, fun hgd => ?_⟩, fun hnn2 => ?_⟩
   · rw [gmin_less, gmax_more] at hb
     have := less_facts (gi x x2).a (gi x x2).b; have := more_facts (gi x x2).a (gi x x2).b
     rw [if_pos (any_take ⟨g0, hlt⟩ ((badC_iff _ _).2 (by omega)))] at h
     exact h
   · rw [gmin_less, gmax_more] at hgd
     have := less_facts (gi x x2).a (gi x x2).b; have := more_facts (gi x x2).a (gi x x2).b
     have hbc : badC n (gi x x2) = false := by
       rw [Bool.eq_false_iff]; intro hh; have := (badC_iff _ _).1 hh; omega
     rw [drop_gi ⟨g0, hlt⟩, List.foldl_cons] at g3
     refine ⟨by omega, by omega, ?_⟩
     refine lfp2 (kfam_L3 x g x2 again5) (fun f x3 => 0 ≤ x3 ∧ x3 ≤ n ∧ (f.length : Int) = n ∧ ∀ j, 0 ≤ j → j < n → gi f j = if j < x3 then gi (relabel g (gi x x2)) j else gi g j) (fun _ x3 => (n - x3).toNat) (fun f x3 hst again9 hag9 => ?_) ⟨by omega, by omega, g2, fun j j0 j1 => by rw [if_neg (by omega)]⟩
     obtain ⟨k0, k1, k2, k3⟩ := hst
     unfold kfam_L3
     rw [gmin_less, gmax_more]
     refine ⟨fun hlt3 => ?_, fun hn3 => ⟨by omega, hag5 _ _ ⟨by omega, by omega, k2, ?_, fun j j0 j1 => ?_⟩ (by omega)⟩⟩
     · have hx3 := k3 x3 k0 (by omega)
       rw [if_neg (by omega)] at hx3
       have hr := gi_relabel (g := g) (c := gi x x2) (i := x3) (by omega)
       rw [hx3]
       refine ⟨by omega, fun he => ⟨by omega, by omega, hag9 _ _ ⟨by omega, by omega, by rw [si_length]; exact k2, fun j j0 j1 => ?_⟩ (by omega)⟩, fun hne => ⟨by omega, hag9 _ _ ⟨by omega, by omega, k2, fun j j0 j1 => ?_⟩ (by omega)⟩⟩
       · rw [gi_siK (by omega) _ j0]
         by_cases e : j = x3
         · subst e; rw [if_pos rfl, if_pos (by omega), hr, if_pos he]
         · rw [if_neg e, k3 j j0 j1]
           by_cases e2 : j < x3
           · rw [if_pos e2, if_pos (by omega)]
           · rw [if_neg e2, if_neg (by omega)]
       · rw [k3 j j0 j1]
         by_cases e : j = x3
         · subst e; rw [if_neg (by omega), if_pos (by omega), hr, if_neg hne]
         · by_cases e2 : j < x3
           · rw [if_pos e2, if_pos (by omega)]
           · rw [if_neg e2, if_neg (by omega)]
     · have : f = relabel g (gi x x2) := list_ext_gi (by rw [relabel_len]; omega) fun j j0 j1 => by rw [k3 j j0 (by omega), if_pos (by omega)]
       rw [this]; exact g3
     · by_cases e : j = x2
       · rw [e]; exact hbc
       · exact g4 j j0 (by omega)
   · rw [drop_end hnn2, List.foldl_nil] at g3
     subst g3
     rw [if_neg (by
       intro hh
       obtain ⟨c, hc, hb⟩ := List.any_eq_true.1 hh
       obtain ⟨q, hq, e⟩ := List.getElem_of_mem hc
       have := g4 (q : Int) (by omega) (by omega)
       rw [gi_nat hq, e, hb] at this; cases this)] at h
     generalize labF n x = g at *
     refine lfp2 (kfam_L4 n g Q) (fun m x4 => 0 ≤ x4 ∧ x4 ≤ n ∧ mnd m ∧ ∀ i, mget [] m i = memN g i x4.toNat) (fun _ x4 => (n - x4).toNat) (fun m x4 hst again14 hag14 => ?_) ⟨by omega, by omega, by simp [mnd], fun i => rfl⟩
     obtain ⟨k0, k1, k2, k3⟩ := hst
     refine ⟨fun hlt => ⟨by omega, ⟨?_, ?_⟩, k2, by omega, hag14 _ _ ⟨by omega, by omega, mset_nd k2, fun i => ?_⟩ (by omega)⟩, fun hn4 => ?_⟩
     · rw [k3]; have := memN_len g (gi g x4) x4.toNat; simp; omega
     · rw [k3]; have := memN_len g (gi g x4) x4.toNat; simp; omega
     · rw [mget_set, show (x4 + 1).toNat = x4.toNat + 1 by omega, memN_succ, show ((x4.toNat : Nat) : Int) = x4 by omega, k3, k3]
       by_cases e : gi g x4 = i
       · rw [if_pos e, if_pos e, e]
       · rw [if_neg e, if_neg e]
     · have hm : ∀ i, mget [] m i = membersF g i := fun i => by rw [k3, members_eq]; congr 1; omega
       refine lfp2 (kfam_L5 n m Q) (fun out x5 => 0 ≤ x5 ∧ x5 ≤ n ∧ out = famN g x5.toNat) (fun _ x5 => (n - x5).toNat) (fun out x5 hst again22 hag22 => ?_) ⟨by omega, by omega, rfl⟩
       obtain ⟨q0, q1, rfl⟩ := hst
       unfold kfam_L5
       rw [hm]
       have hfl := famN_len g x5.toNat
       have hs := famN_succ g x5.toNat
       rw [show ((x5.toNat : Nat) : Int) = x5 by omega] at hs
       refine ⟨fun hlt => ⟨fun hb => ⟨⟨by simp; omega, by simp; omega⟩, by omega, hag22 _ _ ⟨by omega, by omega, ?_⟩ (by omega)⟩, fun hb => ⟨by omega, hag22 _ _ ⟨by omega, by omega, ?_⟩ (by omega)⟩⟩, fun hn5 => ?_⟩
       · rw [show (x5 + 1).toNat = x5.toNat + 1 by omega, hs, if_pos (by omega)]
       · rw [show (x5 + 1).toNat = x5.toNat + 1 by omega, hs, if_neg (by omega)]
       · rw [famL_eq] at h
         rw [show x5.toNat = n.toNat by omega]; exact h
end Go.Lic
set_option linter.all false
namespace Go.Lic
open Go.Proofs Go.Sort Go.Shelf
theorem fewW_ok {l : List Lexeme} (h : fewW l = true) : okW l := by
 unfold fewW at h
 rw [Bool.and_eq_true, decide_eq_true_eq, List.all_eq_true] at h
 exact ⟨by omega, fun w hw => by have := of_decide_eq_true (h.2 w hw); omega⟩
theorem fewTs_ok {l : List Text} (h : fewTs l = true) : okTs l := by
 unfold fewTs at h
 rw [Bool.and_eq_true, decide_eq_true_eq, List.all_eq_true] at h
 refine ⟨by omega, fun t ht => ?_⟩
 have := h.2 t ht
 rw [Bool.and_eq_true, decide_eq_true_eq] at this
 exact ⟨by omega, fewW_ok this.1⟩
theorem fewTs_len {l : List Text} (h : fewTs l = true) : l.length ≤ 5 := by
 unfold fewTs at h
 rw [Bool.and_eq_true, decide_eq_true_eq] at h; exact h.1
theorem fewTs_words {l : List Text} (h : fewTs l = true) : ∀ t ∈ l, t.words.length ≤ 40 := fun t ht => by
 unfold fewTs fewW at h
 rw [Bool.and_eq_true, List.all_eq_true] at h
 have := h.2 t ht
 simp only [Bool.and_eq_true, decide_eq_true_eq] at this
 exact this.1.1
theorem Q_true {b : Bool} {Q : Bool → Prop} (e : b = true) (h : Q true) : Q b := e ▸ h
theorem byte_ssub {s : ByteArray} {x : Int} (h : inL x s.size) : ssub s x (x + 1) = bstr [gi (sbytes s) x] := by
 have hn : x.toNat < s.data.toList.length := by have : s.data.toList.length = s.size := rfl; omega
 apply ba_eq
 have hg : gi (sbytes s) x = ((s.data.toList[x.toNat]'hn).toNat : Int) := by
   rw [gi_lt (by rw [sbytes_len]; exact h)]; simp [sbytes]
 rw [hg]
 have h2 : (ssub s x (x + 1)).data.toList = (s.data.toList.take (x + 1).toNat).drop x.toNat := by
   simp [ssub, ByteArray.extract, ByteArray.copySlice, List.take_drop]
   rw [show x.toNat + ((x + 1).toNat - x.toNat) = (x + 1).toNat by omega]
 rw [h2, show (x + 1).toNat = x.toNat + 1 by omega, List.take_succ_eq_append_getElem hn, List.drop_append, List.drop_eq_nil_of_le (by simp; omega)]
 have hm : min x.toNat s.size = x.toNat := by omega
 simp [bstr, hm]
theorem ltext_ok (path : ByteArray) (s_ : ByteArray) (Q : Text → Prop) (hp0 : s_.size ≤ 1000) (h : Q (textF path s_)) : ltext_vc path s_ Q := by
 have hb := sbytes_len s_
 refine lfp2 (ltext_L1 path s_ Q) (fun xs x => 0 ≤ x ∧ x ≤ s_.size ∧ (xs.length : Int) = x ∧ xs = ((sbytes s_).take x.toNat).map fun b => ⟨bstr [b], 0⟩) (fun _ x => (s_.size - x).toNat) (fun xs x hst again hag => ?_) ⟨by omega, by omega, rfl, rfl⟩
 obtain ⟨h0, h1, h2, h3⟩ := hst
 refine ⟨fun hlt => ?_, fun hn => ?_⟩
 · have hx : inL x (sbytes s_).length := by omega
   refine ⟨by omega, by omega, ⟨by simp only [List.length_singleton]; omega, by simp only [List.length_singleton]; omega⟩, by omega, hag _ _ ⟨by omega, by omega, by simp only [List.length_append, List.length_singleton]; omega, ?_⟩ (by omega)⟩
   rw [h3, byte_ssub (by omega), show (x + 1).toNat = x.toNat + 1 by omega, List.take_succ_eq_append_getElem (by omega), List.map_append, gi_lt hx]; rfl
 · rw [h3, List.take_of_length_le (by omega)]; exact h
def exT : List Text := [(textF (⟨#[120]⟩ : ByteArray) (⟨#[97, 98, 99, 97, 98]⟩ : ByteArray)), (textF (⟨#[121]⟩ : ByteArray) (⟨#[98, 99, 97]⟩ : ByteArray))]
theorem exT_find : findC exT 2 1 = ([(Clone.mk 0 0 0 3 2), (Clone.mk 0 1 1 0 3)], 0) := by decide +kernel
theorem exT_ok : okTs exT := fewTs_ok (by decide +kernel)
theorem exT_c3 : checkF29 exT (Clone.mk 0 1 1 0 3) 3 = 0 := by decide +kernel
theorem exT_c4 : checkF29 exT (Clone.mk 0 1 1 0 3) 4 = 13 := by decide +kernel
theorem awake_ok (Q : Bool → Prop)  (h : Q (true)) : awake_vc  Q := by
 unfold awake_vc
 rw [show ([(textF (⟨#[120]⟩ : ByteArray) (⟨#[97, 98, 99, 97, 98]⟩ : ByteArray)), (textF (⟨#[121]⟩ : ByteArray) (⟨#[98, 99, 97]⟩ : ByteArray))] : List Text) = exT from rfl, exT_find]
 have e1 : gi ([(Clone.mk 0 0 0 3 2), (Clone.mk 0 1 1 0 3)] : List Clone) 1 = Clone.mk 0 1 1 0 3 := rfl
 simp only [e1, exT_c3, exT_c4]
 exact ⟨by decide +kernel, by decide +kernel, exT_ok, fun _ => by decide, fun _ => ⟨by decide, exT_ok⟩, fun _ => ⟨by decide, exT_ok⟩, h⟩
theorem find_parts (l : List Text) (k w : Int) : (∀ c ∈ (findC l k w).1, rightL l = true ∧ sizeF k = true ∧ sizeF w = true ∧ c ∈ refL l (k + w - 1) (-1)) ∧ (findC l k w).1.Pairwise CLt ∧ (findC l k w).1.length ≤ 1024 := by
 unfold findC clonesF
 split
 · next h1 =>
   split
   · next h2 =>
     rw [Bool.and_eq_true] at h2
     split
     · simp
     · exact ⟨fun c hc => ⟨h1, h2.1, h2.2, hc⟩, ref_sorted _ _ _, by simp only; omega⟩
   · simp
 · simp
theorem ref_check {l : List Text} {n only : Int} {c : Clone} (hn : 1 ≤ n) (h : c ∈ refL l n only) : checkC l c n = 0 := by
 obtain ⟨a, i, b, j, h1, h2, h3, h4, h5, h6, h7, rfl⟩ := mem_ref.1 h
 unfold checkC
 have ho : (a : Int) ≤ b := by
   simp only [okB, Bool.and_eq_true, decide_eq_true_eq] at h4
   omega
 rw [if_pos ((ordered_iff _ _).2 ⟨by simp, by simp; omega, by simp, by simp, by simp only; omega, by simp only; omega⟩)]
 simp only [if_true]
 rw [if_neg (by omega)]
end Go.Lic
set_option linter.all false
namespace Go.Lic
open Go.Proofs Go.Sort Go.Shelf
end Go.Lic
