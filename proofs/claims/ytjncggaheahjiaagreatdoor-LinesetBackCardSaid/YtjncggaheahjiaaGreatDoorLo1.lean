/-
  The conditions of functions of chapter 16 hold: the library, paths. No program in sight.
-/
import Derived.Test.YtjncggaheahjiaaGreatDoorLv
import Derived.Test.YtjncggaheahjiaaGreatDoorLa
set_option linter.all false
namespace Go.Lic
open Go.Proofs Go.Sort Go.Shelf
theorem idx_none {α : Type} [Inhabited α] {p : α → Bool} {l : List α} (h : ∀ j : Int, 0 ≤ j → j < l.length → p (gi l j) = false) : idxOf p l = -1 := by
 unfold idxOf
 have : l.findIdx? p = none := by
   rw [List.findIdx?_eq_none_iff]
   intro x hx
   obtain ⟨i, hi, rfl⟩ := List.getElem_of_mem hx
   have := h i (by omega) (by omega)
   rwa [gi_nat hi] at this
 rw [this]
theorem idx_some {α : Type} [Inhabited α] {p : α → Bool} {l : List α} {x : Int} (hx : inL x l.length) (h1 : p (gi l x) = true) (h2 : ∀ j : Int, 0 ≤ j → j < x → p (gi l j) = false) : idxOf p l = x := by
 unfold idxOf
 have : l.findIdx? p = some x.toNat := by
   rw [List.findIdx?_eq_some_iff_getElem]
   refine ⟨by omega, ?_, fun j hj => ?_⟩
   · rwa [gi_lt hx] at h1
   · have := h2 j (by omega) (by omega)
     rw [gi_nat (by omega)] at this
     simp [this]
 rw [this]
 simp only; omega
theorem idx_nn {α : Type} (p : α → Bool) (l : List α) : (decide (idxOf p l ≥ 0)) = l.any p := by
 unfold idxOf
 cases h : l.findIdx? p with
 | none =>
   rw [List.findIdx?_eq_none_iff] at h
   have : l.any p = false := by rw [List.any_eq_false]; exact fun x hx => by simp [h x hx]
   rw [this]; rfl
 | some i =>
   have : l.any p = true := by
     rw [List.findIdx?_eq_some_iff_getElem] at h
     obtain ⟨hi, h1, _⟩ := h
     exact List.any_eq_true.2 ⟨_, List.getElem_mem hi, h1⟩
   rw [this]; simp
theorem ix_gen {α : Type} [Inhabited α] (s : List α) (p : α → Bool) (pD : α → Prop) (Q : Int → Prop) (hp0 : s.length ≤ 9223372036854775807) (hp1 : ∀ x ∈ s, pD x) (h : Q (idxOf p s)) :
   lfp (S := Int) (fun again1 x => ((x < (s.length : Int) → (inL x s.length ∧ pD (gi s x) ∧ (((p (gi s x)) = true → Q x) ∧ ((p (gi s x)) = false → (inI (x + 1) ∧ again1 (x + 1)))))) ∧ (¬ x < (s.length : Int) → Q (-1)))) 0 := by
 refine lfp_of (fun x : Int => 0 ≤ x ∧ x ≤ s.length ∧ ∀ j : Int, 0 ≤ j → j < x → p (gi s j) = false) (fun x => (s.length - x).toNat) (fun x hx again hag => ?_) ⟨by omega, by omega, fun j _ _ => by omega⟩
 obtain ⟨h0, h1, h2⟩ := hx
 refine ⟨fun hlt => ⟨by omega, hp1 _ (gi_mem (by omega)), fun hp => ?_, fun hp => ⟨by omega, hag _ ⟨by omega, by omega, fun j hj hj2 => ?_⟩ (by omega)⟩⟩, fun hn => ?_⟩
 · rwa [idx_some (by omega) hp h2] at h
 · by_cases e : j = x
   · rw [e]; exact hp
   · exact h2 j hj (by omega)
 · rwa [idx_none (fun j hj hj2 => h2 j hj (by omega))] at h
theorem ixStr_ok (s_ : (List ByteArray)) (p : ByteArray → Bool) (pD : ByteArray → Prop) (Q : Int → Prop) (hp0 : s_.length ≤ 9223372036854775807) (hp1 : ∀ x ∈ s_, pD x) (h : Q ((idxOf p s_))) : ixStr_vc s_ p pD Q := ix_gen s_ p pD Q hp0 hp1 h
theorem ixSpan_ok (s_ : (List Span)) (p : Span → Bool) (pD : Span → Prop) (Q : Int → Prop) (hp0 : s_.length ≤ 9223372036854775807) (hp1 : ∀ x ∈ s_, pD x) (h : Q ((idxOf p s_))) : ixSpan_vc s_ p pD Q := ix_gen s_ p pD Q hp0 hp1 h
theorem cfStr_ok (s_ : (List ByteArray)) (p : ByteArray → Bool) (pD : ByteArray → Prop) (Q : Bool → Prop) (hp0 : s_.length ≤ 9223372036854775807) (hp1 : ∀ x ∈ s_, pD x) (h : Q (s_.any p)) : cfStr_vc s_ p pD Q := ⟨hp0, hp1, by rw [idx_nn]; exact h⟩
theorem cfSpan_ok (s_ : (List Span)) (p : Span → Bool) (pD : Span → Prop) (Q : Bool → Prop) (hp0 : s_.length ≤ 9223372036854775807) (hp1 : ∀ x ∈ s_, pD x) (h : Q (s_.any p)) : cfSpan_vc s_ p pD Q := ⟨hp0, hp1, by rw [idx_nn]; exact h⟩
theorem list_ext_gi {α : Type} [Inhabited α] {a b : List α} (hl : a.length = b.length) (h : ∀ j : Int, 0 ≤ j → j < a.length → gi a j = gi b j) : a = b := by
 refine List.ext_getElem hl fun i h1 h2 => ?_
 have := h i (by omega) (by omega)
 rwa [gi_nat h1, gi_nat h2] at this
theorem eq_gen {α : Type} [Inhabited α] [DecidableEq α] (e : α → α → Bool) (he : ∀ a b, e a b = true ↔ a = b) (s1 s2 : List α) (Q : Bool → Prop) (hp0 : s1.length ≤ 9223372036854775807) (h : Q (decide (s1 = s2))) :
   ((¬ (s1.length : Int) = (s2.length : Int) → Q false) ∧ ((s1.length : Int) = (s2.length : Int) → lfp (S := Int) (fun again2 x => ((x < (s1.length : Int) → (inL x s1.length ∧ inL x s2.length ∧ (((e (gi s1 x) (gi s2 x)) = false → Q false) ∧ ((e (gi s1 x) (gi s2 x)) = true → (inI (x + 1) ∧ again2 (x + 1)))))) ∧ (¬ x < (s1.length : Int) → Q true))) 0)) := by
 refine ⟨fun hn => ?_, fun hl => ?_⟩
 · rwa [decide_eq_false (fun e => hn (by rw [e]))] at h
 · refine lfp_of (fun x : Int => 0 ≤ x ∧ x ≤ s1.length ∧ ∀ j : Int, 0 ≤ j → j < x → gi s1 j = gi s2 j) (fun x => (s1.length - x).toNat) (fun x hx again hag => ?_) ⟨by omega, by omega, fun j _ _ => by omega⟩
   obtain ⟨h0, h1, h2⟩ := hx
   refine ⟨fun hlt => ⟨by omega, by omega, fun hp => ?_, fun hp => ⟨by omega, hag _ ⟨by omega, by omega, fun j hj hj2 => ?_⟩ (by omega)⟩⟩, fun hn => ?_⟩
   · rwa [decide_eq_false (fun e2 => by rw [e2, (he _ _).2 rfl] at hp; cases hp)] at h
   · by_cases e2 : j = x
     · rw [e2]; exact (he _ _).1 hp
     · exact h2 j hj (by omega)
   · rwa [decide_eq_true (list_ext_gi (by omega) (fun j hj hj2 => h2 j hj (by omega)))] at h
theorem eqSpan_iff (a b : Span) : eqSpan a b = true ↔ a = b := by
 obtain ⟨a1, a2, a3⟩ := a; obtain ⟨b1, b2, b3⟩ := b
 simp [eqSpan]
theorem eqSpans_ok (s1 : (List Span)) (s2 : (List Span)) (Q : Bool → Prop) (hp0 : s1.length ≤ 9223372036854775807) (h : Q ((decide (s1 = s2)))) : eqSpans_vc s1 s2 Q := eq_gen eqSpan eqSpan_iff s1 s2 Q hp0 h
theorem sorti_ok (data : (List Span)) (a : Int) (b : Int) (p : Span → Span → Int) (pD : Span → Span → Prop) (Q : Unit → Prop) (hp0 : data = ([] : List Span)) (hp1 : a = (0 : Int)) (hp2 : b = (0 : Int)) (h : Q ()) : sorti_vc data a b p pD Q := by
 subst hp0 hp1 hp2
 refine ⟨by omega, fun I hI => hI _ ⟨fun h => by omega, fun _ => h⟩⟩
theorem sortp_ok (data : (List Span)) (a : Int) (b : Int) (limit : Int) (p : Span → Span → Int) (pD : Span → Span → Prop) (Q : Unit → Prop) (hp0 : data = ([] : List Span)) (hp1 : a = (0 : Int)) (hp2 : b = (0 : Int)) (h : Q ()) : sortp_vc data a b limit p pD Q := by
 subst hp0 hp1 hp2
 exact fun I hI => hI _ ⟨by omega, fun _ => ⟨rfl, rfl, rfl, h⟩, fun hn => absurd hn (by omega)⟩
theorem sort0_ok (x : (List Span)) (p : Span → Span → Int) (pD : Span → Span → Prop) (Q : Unit → Prop) (hp0 : x = ([] : List Span)) (h : Q (())) : sort0_vc x p pD Q := by
 subst hp0
 exact ⟨by decide, by decide, rfl, rfl, rfl, h⟩
theorem split_none {c : UInt8} : ∀ {l : List UInt8}, (∀ x ∈ l, x ≠ c) → splitL c l = [l]
 | [], _ => rfl
 | b :: l, h => by
   have hb : b ≠ c := h b (by simp)
   rw [splitL, if_neg hb, split_none (fun x hx => h x (by simp [hx]))]
theorem split_at {c : UInt8} : ∀ {p r : List UInt8}, (∀ x ∈ p, x ≠ c) → splitL c (p ++ c :: r) = p :: splitL c r
 | [], r, _ => by rw [List.nil_append, splitL, if_pos rfl]
 | b :: p, r, h => by
   have hb : b ≠ c := h b (by simp)
   rw [List.cons_append, splitL, if_neg hb, split_at (fun x hx => h x (by simp [hx]))]
theorem split_ne {c : UInt8} : ∀ l : List UInt8, splitL c l ≠ []
 | [] => by simp [splitL]
 | b :: l => by
   rw [splitL]
   split
   · simp
   · split <;> simp
theorem split_len {c : UInt8} : ∀ l : List UInt8, (splitL c l).length = l.count c + 1
 | [] => rfl
 | b :: l => by
   rw [splitL]
   have ih := split_len (c := c) l
   by_cases h : b = c
   · rw [if_pos h, h]; simp [ih]
   · rw [if_neg h, List.count_cons_of_ne h]
     cases hs : splitL c l with
     | nil => exact absurd hs (split_ne l)
     | cons p r => rw [hs] at ih; simpa using ih
theorem split_size {c : UInt8} : ∀ l : List UInt8, ∀ p ∈ splitL c l, p.length ≤ l.length
 | [], p, h => by simp [splitL] at h; simp [h]
 | b :: l, p, h => by
   rw [splitL] at h
   have ih := split_size (c := c) l
   split at h
   · rcases List.mem_cons.1 h with rfl | h
     · simp
     · have := ih p h; simp; omega
   · cases hs : splitL c l with
     | nil => exact absurd hs (split_ne l)
     | cons q r =>
       rw [hs] at h ih
       rcases List.mem_cons.1 h with rfl | h
       · have := ih q (by simp); simp; omega
       · have := ih p (by simp [h]); simp; omega
theorem count_split {c : UInt8} : ∀ {l : List UInt8}, 0 < l.count c → ∃ p r, l = p ++ c :: r ∧ (∀ x ∈ p, x ≠ c) ∧ Lib.indexByte l c = p.length
 | [], h => by simp at h
 | b :: l, h => by
   by_cases hb : b = c
   · subst hb
     exact ⟨[], l, rfl, (fun x hx => by cases hx), by simp [Lib.indexByte]⟩
   · rw [List.count_cons_of_ne hb] at h
     obtain ⟨p, r, rfl, h1, h2⟩ := count_split h
     refine ⟨b :: p, r, rfl, fun x hx => ?_, ?_⟩
     · rcases List.mem_cons.1 hx with rfl | hx
       · exact hb
       · exact h1 x hx
     · have h3 : (b == c) = false := by simpa using hb
       have h4 : ((p.length : Int) == -1) = false := by rw [beq_eq_false_iff_ne]; omega
       rw [Lib.indexByte, h3, h2, h4]
       simp
def ba (l : List UInt8) : ByteArray := ⟨l.toArray⟩
@[simp] theorem ba_list (l : List UInt8) : (ba l).data.toList = l := rfl
theorem ba_of (s : ByteArray) : ba s.data.toList = s := rfl
theorem ba_size (l : List UInt8) : (ba l).size = l.length := by simp [ba, ByteArray.size]
theorem size_list (s : ByteArray) : s.size = s.data.toList.length := rfl
theorem ssub_ba (l : List UInt8) (lo hi : Int) : ssub (ba l) lo hi = ba ((l.take hi.toNat).drop lo.toNat) := by
 apply ba_eq
 unfold ssub
 rw [ByteArray.data_extract]
 simp [ba, List.drop_take]
theorem splitF_ba (l : List UInt8) (c : UInt8) : splitF (ba l) ⟨#[c]⟩ = (splitL c l).map ba := rfl
theorem count_le {c : UInt8} (l : List UInt8) : l.count c ≤ l.length := List.count_le_length
theorem gsplit_ok (s_ : ByteArray) (sep : ByteArray) (sepSave : Int) (n : Int) (Q : (List ByteArray) → Prop) (hp0 : s_.size ≤ 1000000) (hp1 : sep.size = 1) (hp2 : sepSave = (0 : Int)) (hp3 : n = (-1 : Int)) (h : Q (splitG s_ sep sepSave n)) : gsplit_vc s_ sep sepSave n Q := by
 subst hp2 hp3
 obtain ⟨c, rfl⟩ : ∃ c, sep = ⟨#[c]⟩ := by
   obtain ⟨⟨l⟩⟩ := sep
   match l, hp1 with
   | [c], _ => exact ⟨c, rfl⟩
 rw [← ba_of s_] at h hp0 ⊢
 generalize s_.data.toList = l at h hp0 ⊢
 rw [ba_size] at hp0
 have hc := count_le (c := c) l
 have hQ : Q ((splitL c l).map ba) := h
 refine ⟨fun hn => absurd hn (by omega), fun _ => ⟨(fun he => by cases he), fun _ => ⟨fun _ => ⟨rfl, ?_, ?_⟩, fun hn => absurd hn (by omega)⟩⟩⟩
 · show inI (((l.count c : Nat) : Int) + 1); omega
 · have e0 : countF (ba l) ⟨#[c]⟩ = (l.count c : Nat) := rfl
   rw [e0]
   unfold gsplit_J1
   have e1 : gmin ((l.count c : Int) + 1) [(((ba l).size : Int) + 1)] = (l.count c : Int) + 1 := by rw [gmin1, ba_size]; omega
   rw [e1, ba_size]
   refine ⟨by omega, ⟨⟨by omega, by omega⟩, by omega, by omega⟩, by omega, ?_⟩
   refine lfp_of (fun st : (List ByteArray) × ByteArray × Int => ∃ (d : List ByteArray) (r : List UInt8), st = (d ++ List.replicate (r.count c + 1) ByteArray.empty, ba r, (d.length : Int)) ∧ d ++ (splitL c r).map ba = (splitL c l).map ba ∧ d.length + r.count c = l.count c ∧ r.length ≤ l.length)
     (fun st => (l.count c - st.2.2).toNat) (fun st hst again hag => ?_) ⟨[], l, by simp, rfl, by simp, Nat.le_refl _⟩
   obtain ⟨d, r, rfl, hs, hd, hr⟩ := hst
   unfold gsplit_L1
   simp only
   have fin : r.count c = 0 → Q (lsub (si (d ++ List.replicate (r.count c + 1) ByteArray.empty) (d.length : Int) (ba r)) 0 ((d.length : Int) + 1)) := by
     intro h0
     have e : si (d ++ List.replicate (r.count c + 1) ByteArray.empty) (d.length : Int) (ba r) = d ++ [ba r] := by
       rw [h0]
       have := si_last d ByteArray.empty (ba r)
       have e2 : (((d ++ [ByteArray.empty]).length : Int) - 1) = (d.length : Int) := by simp
       rw [e2] at this
       exact this
     rw [e, lsub_to]
     have e3 : (d ++ [ba r]).take ((d.length : Int) + 1).toNat = d ++ [ba r] := by
       rw [List.take_of_length_le]
       simp
     rw [e3]
     have : splitL c r = [r] := split_none (fun x hx he => by
       have := List.count_pos_iff.2 (he ▸ hx)
       omega)
     rw [this] at hs
     have hs' : d ++ [ba r] = (splitL c l).map ba := hs
     rw [hs']
     exact hQ
   rw [gmin1, ba_size]
   refine ⟨fun hlt => ⟨rfl, fun hneg => ?_, fun hpos => ?_⟩, fun hn => ?_⟩
   · have hr0 : 0 < r.count c := by omega
     obtain ⟨p, q, _, _, h3⟩ := count_split hr0
     have : indexF (ba r) ⟨#[c]⟩ = p.length := h3
     omega
   · have hr0 : 0 < r.count c := by omega
     obtain ⟨p, q, rfl, h2, h3⟩ := count_split hr0
     have e3 : indexF (ba (p ++ c :: q)) ⟨#[c]⟩ = p.length := h3
     have e4 : (⟨#[c]⟩ : ByteArray).size = 1 := rfl
     rw [e3, e4]
     have h5 : (p ++ c :: q).length = p.length + 1 + q.length := by simp; omega
     have h6 : (p ++ c :: q).count c = q.count c + 1 := by
       rw [List.count_append, List.count_cons_self, List.count_eq_zero.2 (fun hx => h2 c hx rfl)]; omega
     refine ⟨by omega, by rw [ba_size]; omega, by simp; omega, by omega, by rw [ba_size]; omega, by omega, hag _ ⟨d ++ [ba p], q, ?_, ?_, ?_, by omega⟩ ?_⟩
     · rw [ssub_ba, ssub_ba, h6]
       have e5 : si (d ++ List.replicate (q.count c + 1 + 1) ByteArray.empty) (d.length : Int) (ba (List.drop (Int.toNat 0) (List.take ((p.length : Int) + 0).toNat (p ++ c :: q)))) = d ++ [ba p] ++ List.replicate (q.count c + 1) ByteArray.empty := by
         have e6 : List.take ((p.length : Int) + 0).toNat (p ++ c :: q) = p := by simp
         rw [e6]
         simp [si, List.replicate_succ]
       rw [e5]
       have e7 : List.drop ((p.length : Int) + ((1 : Nat) : Int)).toNat (List.take (((ba (p ++ c :: q)).size : Nat) : Int).toNat (p ++ c :: q)) = q := by
         rw [ba_size, List.take_of_length_le (by omega)]
         have : ((p.length : Int) + ((1 : Nat) : Int)).toNat = p.length + 1 := by omega
         rw [this]
         simp
       rw [e7]
       simp
     · rw [split_at h2] at hs
       simpa using hs
     · simp only [List.length_append, List.length_cons, List.length_nil]; omega
     · simp only; omega
   · have h0 : r.count c = 0 := by omega
     refine ⟨by simp; omega, by omega, ?_, fin h0⟩
     rw [si_length]
     simp only [List.length_append, List.length_replicate]; omega
theorem split_ok (s_ : ByteArray) (sep : ByteArray) (Q : (List ByteArray) → Prop) (hp0 : s_.size ≤ 1000000) (hp1 : sep.size = 1) (h : Q (splitF s_ sep)) : split_vc s_ sep Q := ⟨hp0, hp1, rfl, rfl, h⟩
end Go.Lic
set_option linter.all false
namespace Go.Lic
open Go.Proofs Go.Sort Go.Shelf
theorem decode_low {s : ByteArray} {i : Nat} (h : (s.get! i).toNat < 128) : Utf8.decode s i = ((s.get! i).toNat, 1) := by
 unfold Utf8.decode
 simp only [Nat.add_zero]
 rw [if_pos h]
theorem decode_high {s : ByteArray} {i : Nat} (h : ¬ (s.get! i).toNat < 128) : 128 ≤ (Utf8.decode s i).1 := by
 unfold Utf8.decode Utf8.runeError
 simp only [Nat.add_zero]
 rw [if_neg h]
 split
 · split
   · assumption
   · decide
 · split
   · split
     · next h1 => simp only [Bool.and_eq_true, decide_eq_true_eq] at h1; simp only; omega
     · decide
   · split
     · split
       · next h1 => simp only [Bool.and_eq_true, decide_eq_true_eq] at h1; simp only; omega
       · decide
     · decide
theorem decode_w (s : ByteArray) (i : Nat) : 1 ≤ (Utf8.decode s i).2 := by
 unfold Utf8.decode
 simp only
 split
 · exact Nat.le_refl _
 · split
   · split <;> simp only <;> omega
   · split
     · split <;> simp only <;> omega
     · split
       · split <;> simp only <;> omega
       · exact Nat.le_refl _
theorem get_list (s : ByteArray) (i : Nat) : (s.get! i) = s.data.toList.getD i 0 := by
 obtain ⟨⟨l⟩⟩ := s
 show (Array.mk l)[i]! = l.getD i 0
 by_cases h : i < l.length
 · rw [getElem!_pos _ _ (by simpa using h)]; simp [List.getD, List.getElem?_eq_getElem h]
 · rw [getElem!_neg _ _ (by simpa using h)]; simp [List.getD, List.getElem?_eq_none (Nat.le_of_not_lt h)]; rfl
theorem sgi_get (s : ByteArray) (i : Nat) : sgi s (i : Int) = ((s.get! i).toNat : Int) := by rw [get_list]; rfl
theorem bad_high {r : Int} (h : 128 ≤ r) : badR r = true := by
 unfold badR nameB
 simp only [Bool.not_eq_true', Bool.or_eq_false_iff, Bool.and_eq_false_iff, decide_eq_false_iff_not]
 omega
theorem runes_bytes (s : ByteArray) : ∀ (n : Nat) (i : Nat), s.size - i < n → (0 ≤ runeIdxL (fun r => badR r == true) s n (i : Int) ↔ ∃ k : Nat, i ≤ k ∧ k < s.size ∧ nameB (sgi s (k : Int)) = false)
 | 0, i, h => by omega
 | n + 1, i, h => by
   unfold runeIdxL
   by_cases hi : i < s.size
   · have hi' : (i : Int) < s.size := by omega
     rw [if_pos hi']
     simp only [Int.toNat_natCast]
     by_cases hb : (s.get! i).toNat < 128
     · rw [decode_low hb]
       have e : sgi s (i : Int) = (((s.get! i).toNat : Nat) : Int) := sgi_get s i
       simp only
       cases hn : nameB ((s.get! i).toNat : Int) with
       | false =>
         have : badR ((s.get! i).toNat : Int) = true := by unfold badR; rw [hn]; rfl
         rw [this]
         simp only [beq_self_eq_true, if_true]
         exact ⟨fun _ => ⟨i, Nat.le_refl _, hi, by rw [e]; exact hn⟩, fun _ => by omega⟩
       | true =>
         have : badR ((s.get! i).toNat : Int) = false := by unfold badR; rw [hn]; rfl
         rw [this]
         have e2 : ((false == true) = true) = False := by simp
         simp only [e2, if_false]
         have ih := runes_bytes s n (i + 1) (by omega)
         have e3 : ((i : Int) + ((1 : Nat) : Int)) = ((i + 1 : Nat) : Int) := by omega
         rw [e3, ih]
         constructor
         · rintro ⟨k, h1, h2⟩; exact ⟨k, by omega, h2⟩
         · rintro ⟨k, h1, h2, h3⟩
           refine ⟨k, ?_, h2, h3⟩
           rcases Nat.lt_or_eq_of_le h1 with h4 | h4
           · exact h4
           · rw [← h4, e, hn] at h3; cases h3
     · have h1 := decode_high hb
       have : badR ((Utf8.decode s i).1 : Int) = true := bad_high (by omega)
       rw [this]
       simp only [beq_self_eq_true, if_true]
       refine ⟨fun _ => ⟨i, Nat.le_refl _, hi, ?_⟩, fun _ => by omega⟩
       have h2 : badR (sgi s (i : Int)) = true := bad_high (by rw [sgi_get]; omega)
       unfold badR at h2
       simpa using h2
   · have hi' : ¬ (i : Int) < s.size := by omega
     rw [if_neg hi']
     constructor
     · intro h; omega
     · rintro ⟨k, h1, h2, _⟩; omega
theorem sbytes_all (s : ByteArray) (f : Int → Bool) : (sbytes s).all f = false ↔ ∃ k : Nat, k < s.size ∧ f (sgi s (k : Int)) = false := by
 rw [List.all_eq_false]
 unfold sbytes
 constructor
 · rintro ⟨x, hx, h⟩
   obtain ⟨b, hb, rfl⟩ := List.mem_map.1 hx
   obtain ⟨k, hk, rfl⟩ := List.getElem_of_mem hb
   refine ⟨k, hk, ?_⟩
   have : sgi s (k : Int) = ((s.data.toList[k].toNat : Nat) : Int) := by
     simp only [sgi, Int.toNat_natCast, List.getD, List.getElem?_eq_getElem hk]; rfl
   rw [this]; simpa using h
 · rintro ⟨k, hk, h⟩
   have hk' : k < s.data.toList.length := hk
   refine ⟨(s.data.toList[k].toNat : Int), List.mem_map.2 ⟨_, List.getElem_mem hk', rfl⟩, ?_⟩
   have : sgi s (k : Int) = ((s.data.toList[k].toNat : Nat) : Int) := by
     simp only [sgi, Int.toNat_natCast, List.getD, List.getElem?_eq_getElem hk']; rfl
   rw [this] at h; simpa using h
theorem rune_part (s : ByteArray) : (!(decide (0 ≤ runeIx (fun r => badR r) s true))) = (sbytes s).all nameB := by
 have h := runes_bytes s (s.size + 1) 0 (by omega)
 have h2 := sbytes_all s nameB
 unfold runeIx
 cases ha : (sbytes s).all nameB with
 | false =>
   obtain ⟨k, hk, h3⟩ := h2.1 ha
   have : 0 ≤ runeIdxL (fun r => badR r == true) s (s.size + 1) 0 := h.2 ⟨k, Nat.zero_le _, hk, h3⟩
   rw [decide_eq_true this]; rfl
 | true =>
   have : ¬ 0 ≤ runeIdxL (fun r => badR r == true) s (s.size + 1) 0 := fun h3 => by
     obtain ⟨k, _, hk, h4⟩ := h.1 h3
     rw [h2.2 ⟨k, hk, h4⟩] at ha; cases ha
   rw [decide_eq_false this]; rfl
theorem sixf_ok (s_ : ByteArray) (p : Int → Bool) (pD : Int → Prop) (truth : Bool) (Q : Int → Prop) (hp0 : ∀ x, pD x) (h : Q ((runeIx p s_ truth))) : sixf_vc s_ p pD truth Q := by
 unfold sixf_vc
 refine lfp_of (fun i : Int => 0 ≤ i ∧ ∃ n, runeIx p s_ truth = runeIdxL (fun r => p r == truth) s_ n i ∧ s_.size - i < n) (fun i => (s_.size - i).toNat) (fun i hi again hag => ?_) ⟨by omega, s_.size + 1, rfl, by omega⟩
 obtain ⟨h0, n, h1, h2⟩ := hi
 unfold sixf_L1
 have hw := decode_w s_ i.toNat
 have ew : runeW s_ i = ((Utf8.decode s_ i.toNat).2 : Int) := rfl
 refine ⟨fun hlt => ⟨h0, hp0 _, ?_⟩, fun hn => ?_⟩
 · obtain ⟨m, rfl⟩ : ∃ m, n = m + 1 := ⟨n - 1, by omega⟩
   rw [runeIdxL, if_pos hlt] at h1
   refine ⟨fun hp => ?_, fun hp => ?_⟩
   · have : (p ((Utf8.decode s_ i.toNat).1 : Int) == truth) = true := hp
     rw [if_pos this] at h1
     rwa [h1] at h
   · have : ¬ (p ((Utf8.decode s_ i.toNat).1 : Int) == truth) = true := by
       have h3 : (p ((Utf8.decode s_ i.toNat).1 : Int) == truth) = false := hp
       simp [h3]
     rw [if_neg this] at h1
     exact hag _ ⟨by omega, m, h1, by omega⟩ (by omega)
 · cases n with
   | zero => rw [h1] at h; exact h
   | succ m => rw [runeIdxL, if_neg hn] at h1; rwa [h1] at h
theorem sixF_ok (s_ : ByteArray) (p : Int → Bool) (pD : Int → Prop) (Q : Int → Prop) (hp0 : ∀ x, pD x) (h : Q ((runeIx p s_ true))) : sixF_vc s_ p pD Q := ⟨hp0, h⟩
theorem scf_ok (s_ : ByteArray) (p : Int → Bool) (pD : Int → Prop) (Q : Bool → Prop) (hp0 : ∀ x, pD x) (h : Q ((decide (0 ≤ runeIx p s_ true)))) : scf_vc s_ p pD Q := ⟨hp0, h⟩
theorem int_beq (a b : Int) : (a == b) = decide (a = b) := by
 cases h : (a == b) with
 | true => rw [decide_eq_true (by simpa using h)]
 | false => rw [decide_eq_false (by simpa using h)]
theorem part1_ok (c : Int) (Q : Bool → Prop) (h : Q (badR c)) : part1_vc c Q := by
 unfold part1_vc
 have : badR c = (!((((((decide (c ≥ 97)) && (decide (c ≤ 122))) || ((decide (c ≥ 48)) && (decide (c ≤ 57)))) || (c == 46)) || (c == 95)) || (c == 45))) := by
   simp only [badR, nameB, ge_iff_le, int_beq]
 rwa [← this]
theorem empty_iff (s : ByteArray) : s = (⟨#[]⟩ : ByteArray) ↔ s.size = 0 := by
 obtain ⟨⟨l⟩⟩ := s
 show _ ↔ l.length = 0
 cases l <;> simp
theorem partF_eq (s : ByteArray) : partF s = (decide (1 ≤ s.size) && decide (s.size ≤ 32) && !decide (sgi s 0 = 46) && !decide (sgi s 0 = 45) && (sbytes s).all nameB) := rfl
theorem part_ok (s_ : ByteArray) (Q : Bool → Prop) (hp0 : s_.size ≤ 1000000) (h : Q (partF s_)) : part_vc s_ Q := by
 unfold part_vc
 rw [empty_iff]
 refine ⟨fun h1 => by omega, fun h1 => by omega, fun h1 => ?_, fun h1 => ⟨fun _ => trivial, ?_⟩⟩
 · have : partF s_ = false := by
     rw [partF_eq]
     rcases h1 with ((h1 | h1) | h1) | h1
     · simp [h1]
     · have : ¬ s_.size ≤ 32 := by omega
       simp [this]
     · simp [h1]
     · simp [h1]
   rwa [this] at h
 · obtain ⟨⟨⟨h1, h2⟩, h3⟩, h4⟩ := h1
   rw [rune_part]
   have : partF s_ = (sbytes s_).all nameB := by
     rw [partF_eq]
     have e1 : 1 ≤ s_.size := by omega
     have e2 : s_.size ≤ 32 := by omega
     simp [e1, e2, h3, h4]
   rwa [this] at h
theorem path1_ok (s_ : ByteArray) (Q : Bool → Prop) (hp0 : s_.size ≤ 1000000) (h : Q ((!partF s_))) : path1_vc s_ Q := ⟨hp0, h⟩
theorem splitF_len (s : ByteArray) (c : UInt8) : (splitF s ⟨#[c]⟩).length ≤ s.size + 1 := by
 show ((splitL c s.data.toList).map _).length ≤ _
 rw [List.length_map, split_len]
 have := count_le (c := c) s.data.toList
 rw [size_list]; omega
theorem splitF_size (s : ByteArray) (c : UInt8) : ∀ x ∈ splitF s ⟨#[c]⟩, x.size ≤ s.size := by
 intro x hx
 have hx : x ∈ (splitL c s.data.toList).map ba := hx
 obtain ⟨p, hp, rfl⟩ := List.mem_map.1 hx
 have := split_size _ p hp
 rw [ba_size, size_list]; exact this
theorem path_ok (path : ByteArray) (Q : Int → Prop) (hp0 : path.size ≤ 1000000) (h : Q (pathF path)) : path_vc path Q := by
 have hl := splitF_len path 47
 have hs := splitF_size path 47
 have e : ((splitF path (⟨#[47]⟩ : ByteArray)).any (fun (x0_ : ByteArray) => (!partF x0_))) = !(splitF path (⟨#[47]⟩ : ByteArray)).all partF := by
   rw [List.all_eq_not_any_not, Bool.not_not]
 unfold path_vc
 rw [e]
 unfold pathF pathB at h
 refine ⟨hp0, rfl, fun _ => ⟨by omega, fun x hx => by have := hs x hx; show x.size ≤ 1000000; omega⟩, fun h1 => ?_, fun h1 => ?_⟩
 · rw [if_neg] at h
   · exact h
   · rintro h2
     simp only [Bool.and_eq_true, decide_eq_true_eq] at h2
     rcases h1 with (h1 | h1) | h1
     · omega
     · omega
     · rw [h2.2] at h1; cases h1
 · rw [if_pos] at h
   · exact h
   · simp only [Bool.and_eq_true, decide_eq_true_eq]
     obtain ⟨⟨h1, h2⟩, h3⟩ := h1
     exact ⟨⟨by omega, by omega⟩, by simpa using h3⟩
theorem inside_ok (s_ : Span) (Q : Bool → Prop) (h : Q (insideF s_)) : inside_vc s_ Q := h
theorem behind_ok (a : Span) (b : Span) (Q : Bool → Prop) (h : Q (behindF a b)) : behind_vc a b Q := h
end Go.Lic
set_option linter.all false
namespace Go.Lic
open Go.Proofs Go.Sort Go.Shelf
theorem drop_gi {α : Type} [Inhabited α] {l : List α} {x : Int} (h : inL x l.length) : l.drop x.toNat = gi l x :: l.drop (x + 1).toNat := by
 rw [List.drop_eq_getElem_cons (by omega), gi_lt h, show (x + 1).toNat = x.toNat + 1 by omega]
theorem drop_end {α : Type} {l : List α} {x : Int} (h : ¬ x < l.length) : l.drop x.toNat = [] := List.drop_eq_nil_of_le (by omega)
theorem lfp2 {A B : Type} (f : (A × B → Prop) → A → B → Prop) (Inv : A → B → Prop) (m : A → B → Nat) (round : ∀ a b, Inv a b → ∀ again : A × B → Prop, (∀ a' b', Inv a' b' → m a' b' < m a b → again (a', b')) → f again a b) {a : A} {b : B} (h : Inv a b) : lfp (S := A × B) (fun again ss => f again ss.1 ss.2) (a, b) :=
 lfp_of (fun s => Inv s.1 s.2) (fun s => m s.1 s.2) (fun s hs again hag => round s.1 s.2 hs again fun a' b' h1 h2 => hag (a', b') h1 h2) h
theorem lfp3 {A B C : Type} (f : (A × B × C → Prop) → A → B → C → Prop) (Inv : A → B → C → Prop) (m : A → B → C → Nat) (round : ∀ a b c, Inv a b c → ∀ again : A × B × C → Prop, (∀ a' b' c', Inv a' b' c' → m a' b' c' < m a b c → again (a', b', c')) → f again a b c) {a : A} {b : B} {c : C} (h : Inv a b c) : lfp (S := A × B × C) (fun again ss => f again ss.1 ss.2.1 ss.2.2) (a, b, c) :=
 lfp_of (fun s => Inv s.1 s.2.1 s.2.2) (fun s => m s.1 s.2.1 s.2.2) (fun s hs again hag => round s.1 s.2.1 s.2.2 hs again fun a' b' c' h1 h2 => hag (a', b', c') h1 h2) h
theorem or_ok (vals : (List Int)) (Q : Int → Prop) (hp0 : vals.length ≤ 9223372036854775807) (h : Q (orF vals)) : or_vc vals Q := by
 refine lfp_of (fun x : Int => 0 ≤ x ∧ x ≤ vals.length ∧ orF vals = orF (vals.drop x.toNat)) (fun x => (vals.length - x).toNat) (fun x hx again hag => ?_) ⟨by omega, by omega, rfl⟩
 obtain ⟨h0, h1, h2⟩ := hx
 refine ⟨fun hlt => ⟨by omega, fun hp => ?_, fun hp => ⟨by omega, hag _ ⟨by omega, by omega, ?_⟩ (by omega)⟩⟩, fun hn => ?_⟩
 · rw [h2, drop_gi (by omega)] at h
   simpa [orF, hp] using h
 · rw [h2, drop_gi (by omega)]
   simp [orF, hp]
 · rw [h2, drop_end hn] at h; exact h
theorem merge1_ok (a : Span) (b : Span) (Q : Int → Prop) (h : Q (spanCmp a b)) : merge1_vc a b Q := ⟨by simp, h⟩
def merge_L1S (S : List Span) (Q : (List Span) → Prop) (again3 : (List Span) × Int → Prop) (out : (List Span)) (x : Int) : Prop :=
 ((x < (S.length : Int) → (inL x S.length ∧ (inI ((out.length : Int) - 1) ∧ ((((out.length : Int) - 1) ≥ 0 → inL ((out.length : Int) - 1) out.length) ∧ (((((out.length : Int) - 1) ≥ 0 ∧ (behindF (gi out ((out.length : Int) - 1)) (gi S x)) = false) → (inL ((out.length : Int) - 1) out.length ∧ (inI (x + 1) ∧ again3 ((si out ((out.length : Int) - 1) (Span.mk ((gi out ((out.length : Int) - 1)).path) ((gi out ((out.length : Int) - 1)).from_) (gmax ((gi out ((out.length : Int) - 1)).to) [(gi S x).to]))), (x + 1))))) ∧ ((¬ ((out.length : Int) - 1) ≥ 0 ∨ (behindF (gi out ((out.length : Int) - 1)) (gi S x)) = true) → (((out.length + ([(gi S x)] : List Span).length) * 32 ≤ 140737488355328 ∧ out.length + ([(gi S x)] : List Span).length ≤ 9223372036854775807) ∧ (inI (x + 1) ∧ again3 ((out ++ ([(gi S x)] : List Span)), (x + 1)))))))))) ∧ (¬ x < (S.length : Int) → Q out))
theorem merge_ok (l : (List Span)) (Q : (List Span) → Prop) (hp0 : l.length ≤ 1000000) (h : Q (mergeF l)) : merge_vc l Q := by
 refine ⟨⟨spanCmp_swo, by omega⟩, ?_⟩
 have hl := sortF_len spanCmp_swo l
 have hS : (sortF spanCmp l).foldl mergeStep [] = mergeF l := rfl
 show lfp (S := List Span × Int) (fun again ss => merge_L1 l Q again ss.1 ss.2) ([], 0)
 have hb : ∀ (again : List Span × Int → Prop) out x, merge_L1S (sortF spanCmp l) Q again out x → merge_L1 l Q again out x := fun _ _ _ h => h
 generalize sortF spanCmp l = S at hl hS hb
 refine lfp2 (merge_L1 l Q) (fun out x => 0 ≤ x ∧ x ≤ S.length ∧ (out.length : Int) ≤ x ∧ (S.drop x.toNat).foldl mergeStep out = mergeF l) (fun _ x => (S.length - x).toNat) (fun out x hst again hag => ?_) ⟨by simp, by simp, by simp, hS⟩
 obtain ⟨h0, h1, h2, h3⟩ := hst
 refine hb _ _ _ ?_
 refine ⟨fun hlt => ⟨by omega, by omega, fun hg => by omega, fun hc => ⟨by omega, by omega, hag _ _ ⟨by omega, by omega, by rw [si_length]; omega, ?_⟩ (by omega)⟩, fun hc => ⟨⟨?_, ?_⟩, by omega, hag _ _ ⟨by omega, by omega, ?_, ?_⟩ (by omega)⟩⟩, fun hn => ?_⟩
 · rw [drop_gi (by omega), List.foldl_cons] at h3
   have e : mergeStep out (gi S x) = si out ((out.length : Int) - 1) ⟨(lastD out).path, (lastD out).from_, gmax (lastD out).to [(gi S x).to]⟩ := by
     unfold mergeStep
     exact if_pos ⟨by omega, hc.2⟩
   rw [e] at h3
   exact h3
 · simp only [List.length_cons, List.length_nil]; omega
 · simp only [List.length_cons, List.length_nil]; omega
 · simp only [List.length_append, List.length_cons, List.length_nil]; omega
 · rw [drop_gi (by omega), List.foldl_cons] at h3
   have e : mergeStep out (gi S x) = out ++ [gi S x] := by
     unfold mergeStep
     refine if_neg ?_
     rintro ⟨h4, h5⟩
     rcases hc with hc | hc
     · omega
     · unfold lastD at h5; rw [hc] at h5; cases h5
   rw [e] at h3
   exact h3
 · rw [drop_end hn] at h3
   rw [← h3] at h
   exact h
theorem valid_iff (l : List Span) : validF l = true ↔ ∀ x : Int, 0 ≤ x → x < l.length → spanR (gi l x) = true ∧ (x > 0 → behindF (gi l (x - 1)) (gi l x) = true) := by
 unfold validF
 rw [List.all_eq_true]
 constructor
 · intro h x h0 h1
   have := h x.toNat (List.mem_range.2 (by omega))
   unfold chainB at this
   rw [show ((x.toNat : Nat) : Int) = x by omega] at this
   simp only [Bool.and_eq_true, Bool.or_eq_true, beq_iff_eq] at this
   refine ⟨this.1, fun hx => ?_⟩
   rcases this.2 with h2 | h2
   · omega
   · exact h2
 · intro h i hi
   have hi := List.mem_range.1 hi
   have := h (i : Int) (by omega) (by omega)
   unfold chainB
   simp only [Bool.and_eq_true, Bool.or_eq_true, beq_iff_eq]
   refine ⟨this.1, ?_⟩
   by_cases e : i = 0
   · exact .inl e
   · exact .inr (this.2 (by omega))
theorem valid_bad {l : List Span} {x : Int} (hx : inL x l.length) (h : spanR (gi l x) = false ∨ (x > 0 ∧ behindF (gi l (x - 1)) (gi l x) = false)) : validF l = false := by
 cases hv : validF l with
 | false => rfl
 | true =>
   have := (valid_iff l).1 hv x hx.1 hx.2
   rcases h with h | ⟨h1, h⟩
   · rw [this.1] at h; cases h
   · rw [this.2 h1] at h; cases h
theorem span_path {s : Span} : spanR s = true ↔ pathF s.path = 0 ∧ insideF s = true := by
 unfold spanR pathF
 cases pathB s.path <;> simp
theorem valid_ok (l : (List Span)) (Q : Bool → Prop) (hp0 : l.length ≤ 1000000) (hp1 : ∀ x ∈ l, x.path.size ≤ 1000000) (h : Q (validF l)) : valid_vc l Q := by
 refine lfp_of (fun x : Int => 0 ≤ x ∧ x ≤ l.length ∧ ∀ j : Int, 0 ≤ j → j < x → spanR (gi l j) = true ∧ (j > 0 → behindF (gi l (j - 1)) (gi l j) = true)) (fun x => (l.length - x).toNat) (fun x hx again hag => ?_) ⟨by omega, by omega, fun j _ _ => by omega⟩
 obtain ⟨h0, h1, h2⟩ := hx
 refine ⟨fun hlt => ⟨by omega, fun _ hx => by omega, fun _ => hp1 _ (gi_mem (by omega)), fun hb => ?_, fun hg => ⟨by omega, hag _ ⟨by omega, by omega, fun j hj hj2 => ?_⟩ (by omega)⟩⟩, fun hn => ?_⟩
 · have : validF l = false := by
     refine valid_bad (x := x) (by omega) ?_
     rcases hb with (hb | hb) | hb
     · left
       cases hs : spanR (gi l x) with
       | false => rfl
       | true => rw [(span_path.1 hs).2] at hb; cases hb
     · exact .inr hb
     · left
       cases hs : spanR (gi l x) with
       | false => rfl
       | true => exact absurd (span_path.1 hs).1 hb
   rwa [this] at h
 · by_cases e : j = x
   · subst e
     refine ⟨span_path.2 ⟨hg.2, hg.1.1⟩, fun hj0 => ?_⟩
     rcases hg.1.2 with h3 | h3
     · omega
     · exact h3
   · exact h2 j hj (by omega)
 · have : validF l = true := (valid_iff l).2 fun j h3 h4 => h2 j h3 (by omega)
   rwa [this] at h
theorem valid_span {l : List Span} (h : validF l = true) : ∀ s ∈ l, spanR s = true := by
 intro s hs
 obtain ⟨i, hi, rfl⟩ := List.getElem_of_mem hs
 have := ((valid_iff l).1 h (i : Int) (by omega) (by omega)).1
 rwa [gi_nat hi] at this
theorem span_inside {s : Span} (h : spanR s = true) : 0 ≤ s.from_ ∧ s.from_ < s.to ∧ s.to ≤ 1024 := by
 have := (span_path.1 h).2
 unfold insideF at this
 simp only [Bool.and_eq_true, decide_eq_true_eq] at this
 exact ⟨this.1.1, this.1.2, this.2⟩
theorem span_size {s : Span} (h : spanR s = true) : s.path.size ≤ 128 := by
 unfold spanR pathB at h
 simp only [Bool.and_eq_true, decide_eq_true_eq] at h
 exact h.1.1.1
theorem valid_chain (l : List Span) : validF l = true ↔ Chain l ∧ ∀ s ∈ l, spanR s = true := by
 constructor
 · intro h
   have hs := valid_span h
   refine ⟨⟨?_, fun s hm => (span_inside (hs s hm)).2.1⟩, hs⟩
   rw [List.pairwise_iff_getElem]
   have key : ∀ d i : Nat, ∀ (h1 : i < l.length) (h2 : i + d + 1 < l.length), Bh l[i] l[i + d + 1] := by
     intro d
     induction d with
     | zero =>
       intro i h1 h2
       have := ((valid_iff l).1 h ((i + 1 : Nat) : Int) (by omega) (by omega)).2 (by omega)
       rw [gi_nat (by omega), show (((i + 1 : Nat) : Int) - 1) = ((i : Nat) : Int) by omega, gi_nat h1] at this
       exact this
     | succ d ih =>
       intro i h1 h2
       have h3 := ih i h1 (by omega)
       have h4 := ((valid_iff l).1 h ((i + (d + 1) + 1 : Nat) : Int) (by omega) (by omega)).2 (by omega)
       rw [gi_nat (by omega), show (((i + (d + 1) + 1 : Nat) : Int) - 1) = ((i + d + 1 : Nat) : Int) by omega, gi_nat (by omega)] at h4
       exact bh_trans (span_inside (hs _ (List.getElem_mem _))).2.1 h3 h4
   intro i j hi hj hij
   have := key (j - i - 1) i hi (by omega)
   have e : i + (j - i - 1) + 1 = j := by omega
   simpa only [e] using this
 · rintro ⟨hc, hs⟩
   rw [valid_iff]
   intro x h0 h1
   refine ⟨hs _ (gi_mem (by omega)), fun hx => ?_⟩
   have := List.pairwise_iff_getElem.1 hc.bh (x - 1).toNat x.toNat (by omega) (by omega) (by omega)
   rw [gi_lt (by omega), gi_lt (by omega)]
   exact this
theorem wrap_small {n : Int} (h : inI n) : IntKind.i64.wrap n = n := wrap64_in h
theorem of_ok (l : (List Line)) (Q : (List Span) × Int → Prop) (hp0 : l.length ≤ 1000000) (hp1 : ∀ x ∈ l, x.path.size ≤ 1000000) (h : Q (ofF l)) : of_vc l Q := by
 refine ⟨⟨⟨by omega, by omega⟩, by omega, by omega⟩, ?_⟩
 refine lfp2 (of_L1 l Q) (fun out x => 0 ≤ x ∧ x ≤ l.length ∧ (out.length : Int) = x ∧ (ofF l = match (l.drop x.toNat).find? badLine with | some x => ([], if pathB x.path then 3 else 2) | none => (mergeF (out ++ (l.drop x.toNat).map unitW), 0))) (fun _ x => (l.length - x).toNat) (fun out x hst again hag => ?_) ⟨by simp, by simp, by simp, rfl⟩
 obtain ⟨h0, h1, h2, h3⟩ := hst
 have eu : (Span.mk ((gi l x).path) ((gi l x).n) (IntKind.i64.wrap (((gi l x).n) + 1))) = unitW (gi l x) := rfl
 unfold of_L1
 simp only [eu]
 refine ⟨fun hlt => ⟨by omega, hp1 _ (gi_mem (by omega)), fun hp => ?_, fun hp => ⟨fun hi => ?_, fun hi => ⟨⟨?_, ?_⟩, hag _ _ ⟨?_, ?_, ?_, ?_⟩ ?_⟩⟩⟩, fun hn => ?_⟩
 · have hb : pathB (gi l x).path = false := by
     cases hh : pathB (gi l x).path with
     | false => rfl
     | true => exact absurd (by unfold pathF; rw [hh]; rfl) hp
   have hbad : badLine (gi l x) = true := by unfold badLine; rw [hb]; rfl
   rw [h3, drop_gi (by omega), List.find?_cons, hbad] at h
   simp only [hb] at h
   exact h
 · have hb : pathB (gi l x).path = true := by
     cases hh : pathB (gi l x).path with
     | true => rfl
     | false => unfold pathF at hp; rw [hh] at hp; cases hp
   have hbad : badLine (gi l x) = true := by unfold badLine; rw [hi, hb]; rfl
   rw [h3, drop_gi (by omega), List.find?_cons, hbad] at h
   simp only [hb] at h
   exact h
 · simp only [List.length_cons, List.length_nil]; omega
 · simp only [List.length_cons, List.length_nil]; omega
 · rw [wrap_small (by omega)]; omega
 · rw [wrap_small (by omega)]; omega
 · simp only [List.length_append, List.length_cons, List.length_nil]; rw [wrap_small (by omega)]; omega
 · have hb : pathB (gi l x).path = true := by
     cases hh : pathB (gi l x).path with
     | true => rfl
     | false => unfold pathF at hp; rw [hh] at hp; cases hp
   have hbad : badLine (gi l x) = false := by unfold badLine; rw [hi, hb]; rfl
   rw [wrap_small (by omega), h3, drop_gi (by omega), List.find?_cons, hbad]
   simp only [List.map_cons, List.append_assoc, List.cons_append, List.nil_append]
 · rw [wrap_small (by omega)]; omega
 · rw [h3, drop_end hn] at h
   simp only [List.find?_nil, List.map_nil, List.append_nil] at h
   exact ⟨by omega, h⟩
theorem common_ok (a : (List Span)) (b : (List Span)) (Q : (List Span) → Prop) (hp0 : a.length ≤ 1000000) (hp1 : b.length ≤ 1000000) (h : Q (commonF a b)) : common_vc a b Q := by
 refine lfp3 (common_L1 a b Q) (fun out i k => 0 ≤ i ∧ 0 ≤ k ∧ i ≤ a.length ∧ k ≤ b.length ∧ (out.length : Int) ≤ i + k ∧ out ++ commonF (a.drop i.toNat) (b.drop k.toNat) = commonF a b) (fun _ i k => (a.length + b.length - i - k).toNat) (fun out i k hst again hag => ?_) ⟨by simp, by simp, by simp, by simp, by simp, by simp⟩
 obtain ⟨h0, h1, h2, h3, h4, h5⟩ := hst
 refine ⟨fun hlt => ?_, fun hn => ?_⟩
 · rw [drop_gi (l := a) (x := i) (by omega), drop_gi (l := b) (x := k) (by omega), common_cons] at h5
   have J : ∀ out1 : List Span, (out1.length : Int) ≤ i + k + 1 → out1 ++ (if fstEnds (gi a i) (gi b k) = true then commonF (a.drop (i + 1).toNat) (gi b k :: b.drop (k + 1).toNat) else commonF (gi a i :: a.drop (i + 1).toNat) (b.drop (k + 1).toNat)) = commonF a b → common_J1 a b i k again out1 := by
     intro out1 hl he
     refine ⟨fun hc => ⟨by omega, hag _ _ _ ⟨by omega, by omega, by omega, by omega, by omega, ?_⟩ (by omega)⟩, fun hc => ⟨by omega, hag _ _ _ ⟨by omega, by omega, by omega, by omega, by omega, ?_⟩ (by omega)⟩⟩
     · rw [if_pos ((fst_iff _ _).2 hc), ← drop_gi (l := b) (x := k) (by omega)] at he
       exact he
     · rw [if_neg, ← drop_gi (l := a) (x := i) (by omega)] at he
       · exact he
       · intro hf
         rcases (fst_iff _ _).1 hf with h6 | ⟨h6, h7⟩
         · unfold SLt at h6; rw [hc.1] at h6; cases h6
         · rcases hc.2 with h8 | h8
           · exact h8 h6
           · exact h8 h7
   refine ⟨by omega, by omega, fun hp => ⟨fun hlt2 => ⟨⟨?_, ?_⟩, J _ ?_ ?_⟩, fun hn => J _ ?_ ?_⟩, fun hp => J _ ?_ ?_⟩
   · simp only [List.length_cons, List.length_nil]; omega
   · simp only [List.length_cons, List.length_nil]; omega
   · simp only [List.length_append, List.length_cons, List.length_nil]; omega
   · have e : cutP (gi a i) (gi b k) = [cutS (gi a i) (gi b k)] := by unfold cutP; exact if_pos ⟨hp, hlt2⟩
     rw [e, ← List.append_assoc] at h5
     exact h5
   · omega
   · have e : cutP (gi a i) (gi b k) = [] := by unfold cutP; exact if_neg (fun h => hn h.2)
     rw [e, List.nil_append] at h5
     exact h5
   · omega
   · have e : cutP (gi a i) (gi b k) = [] := by unfold cutP; exact if_neg (fun h => hp h.1)
     rw [e, List.nil_append] at h5
     exact h5
 · have e : commonF (a.drop i.toNat) (b.drop k.toNat) = [] := by
     rcases hn with hn | hn
     · rw [drop_end hn, common_nil1]
     · rw [drop_end hn, common_nil2]
   rw [e, List.append_nil] at h5
   rw [← h5] at h
   exact h
theorem minus_ok (a : (List Span)) (b : (List Span)) (Q : (List Span) × Int → Prop) (hp0 : a.length ≤ 100000) (hp1 : b.length ≤ 100000) (hp2 : ∀ x ∈ a, x.path.size ≤ 1000000) (hp3 : ∀ x ∈ b, x.path.size ≤ 1000000) (h : Q (minusF a b)) : minus_vc a b Q := by
 unfold minusF at h
 refine ⟨by omega, hp2, fun _ => ⟨by omega, hp3⟩, fun hv => ?_, fun hv => ⟨by omega, by omega, ?_⟩⟩
 · rw [if_neg] at h
   · exact h
   · rcases hv with hv | hv <;> simp [hv]
 rw [if_pos (by simp [hv])] at h
 have hcl := common_len a b
 generalize commonF a b = B at h hcl
 refine lfp3 (minus_L1 a Q) (fun out both x => 0 ≤ x ∧ x ≤ a.length ∧ (out.length : Int) + both.length ≤ B.length + x ∧ out ++ minusL (a.drop x.toNat) both = minusL a B) (fun _ _ x => (a.length - x).toNat) (fun out both x hst again hag => ?_) ⟨by simp, by simp, by simp, by simp⟩
 obtain ⟨h0, h1, h2, h3⟩ := hst
 refine ⟨fun hlt => ⟨by omega, ?_⟩, fun hn => ?_⟩
 · rw [drop_gi (by omega), minusL_cons] at h3
   refine lfp3 (minus_L2 x again) (fun s out1 both1 => (out1.length : Int) + both1.length ≤ B.length + x ∧ out1 ++ (((cutF s both1).1 ++ leftOf (cutF s both1).2.1) ++ minusL (a.drop (x + 1).toNat) (cutF s both1).2.2) = minusL a B) (fun _ _ both1 => both1.length) (fun s out1 both1 hst again6 hag6 => ?_) ⟨h2, h3⟩
   obtain ⟨g1, g2⟩ := hst
   have cons : ∀ (hb : (both1.length : Int) > 0), both1 = gi both1 0 :: lsub both1 1 both1.length := by
     intro hb
     cases both1 with
     | nil => simp at hb
     | cons t r => simp [gi, lsub]
   refine ⟨fun hb => by omega, fun hb => by omega, fun hc => ?_, fun hc => ?_⟩
   · have hb := hc.1.1
     have e := cons hb
     have hl : (lsub both1 1 both1.length).length = both1.length - 1 := by rw [lsub_length (by omega)]; omega
     have e2 : cutF s both1 = ((if s.from_ < (gi both1 0).from_ then [⟨s.path, s.from_, (gi both1 0).from_⟩] else []) ++ (cutF ⟨s.path, (gi both1 0).to, s.to⟩ (lsub both1 1 both1.length)).1, (cutF ⟨s.path, (gi both1 0).to, s.to⟩ (lsub both1 1 both1.length)).2) := by
       conv => lhs; rw [e]
       exact cutF_yes s (gi both1 0) _ ⟨hc.1.2, hc.2⟩
     rw [e2] at g2
     simp only at g2
     refine ⟨by omega, fun hlt2 => ⟨by omega, ⟨?_, ?_⟩, by omega, by omega, hag6 _ _ _ ⟨?_, ?_⟩ ?_⟩, fun hlt2 => ⟨by omega, by omega, hag6 _ _ _ ⟨?_, ?_⟩ ?_⟩⟩
     · simp only [List.length_cons, List.length_nil]; omega
     · simp only [List.length_cons, List.length_nil]; omega
     · simp only [List.length_append, List.length_cons, List.length_nil, hl]; omega
     · rw [if_pos hlt2] at g2
       simp only [List.append_assoc] at g2 ⊢
       exact g2
     · simp only [hl]; omega
     · simp only [hl]; omega
     · rw [if_neg hlt2] at g2
       simp only [List.nil_append, List.append_assoc] at g2 ⊢
       exact g2
     · simp only [hl]; omega
   · have e2 : cutF s both1 = ([], s, both1) := by
       cases both1 with
       | nil => exact cutF_nil s
       | cons t r =>
         refine cutF_no s t r ?_
         rintro ⟨h5, h6⟩
         rcases hc with (hc | hc) | hc
         · simp at hc
         · exact hc h5
         · exact hc h6
     rw [e2] at g2
     simp only [List.nil_append] at g2
     refine ⟨fun hlt2 => ⟨⟨?_, ?_⟩, by omega, hag _ _ _ ⟨?_, ?_, ?_, ?_⟩ ?_⟩, fun hlt2 => ⟨by omega, hag _ _ _ ⟨?_, ?_, ?_, ?_⟩ ?_⟩⟩
     · simp only [List.length_cons, List.length_nil]; omega
     · simp only [List.length_cons, List.length_nil]; omega
     · omega
     · omega
     · simp only [List.length_append, List.length_cons, List.length_nil]; omega
     · unfold leftOf at g2
       rw [if_pos hlt2] at g2
       simp only [List.append_assoc] at g2 ⊢
       exact g2
     · omega
     · omega
     · omega
     · omega
     · unfold leftOf at g2
       rw [if_neg hlt2] at g2
       simp only [List.nil_append] at g2 ⊢
       exact g2
     · omega
 · rw [drop_end hn, minusL_nil, List.append_nil] at h3
   rw [← h3] at h
   exact h
end Go.Lic
set_option linter.all false
namespace Go.Lic
open Go.Proofs Go.Sort Go.Shelf
def linesFrom (s : Span) (n : Int) : List Line := (List.range (s.to - n).toNat).map fun i => ⟨s.path, n + (i : Nat)⟩
theorem linesOf_from (s : Span) : linesOf s = linesFrom s s.from_ := rfl
theorem linesFrom_end {s : Span} {n : Int} (h : ¬ n < s.to) : linesFrom s n = [] := by
 unfold linesFrom
 rw [show (s.to - n).toNat = 0 by omega]; rfl
theorem linesFrom_cons {s : Span} {n : Int} (h : n < s.to) : linesFrom s n = ⟨s.path, n⟩ :: linesFrom s (n + 1) := by
 unfold linesFrom
 rw [show (s.to - n).toNat = (s.to - (n + 1)).toNat + 1 by omega, List.range_succ_eq_map]
 simp only [List.map_cons, List.map_map, List.cons.injEq]
 refine ⟨by simp, ?_⟩
 apply List.map_congr_left
 intro i _
 simp only [Function.comp, Line.mk.injEq, true_and]
 omega
theorem list_gen {l : List Span} (hp0 : l.length ≤ 1000) (hv : validF l = true) (Q : List Line → Prop) (h : Q (l.flatMap linesOf)) (L2 : Int → ((List Line) × Int → Prop) → ((List Line) × Int → Prop) → List Line → Int → Prop)
   (hL2 : ∀ x again3 again6 out1 n, inL x l.length → ((n < (gi l x).to → (((out1.length + ([(Line.mk ((gi l x).path) n)] : List Line).length) * 24 ≤ 140737488355328 ∧ out1.length + ([(Line.mk ((gi l x).path) n)] : List Line).length ≤ 9223372036854775807) ∧ (inI (n + 1) ∧ again6 ((out1 ++ ([(Line.mk ((gi l x).path) n)] : List Line)), (n + 1))))) ∧ (¬ n < (gi l x).to → (inI (x + 1) ∧ again3 (out1, (x + 1))))) → L2 x again3 again6 out1 n) :
   lfp (S := List Line × Int) (fun again3 ss => ((ss.2 < (l.length : Int) → (inL ss.2 l.length ∧ lfp (S := (List Line) × Int) (fun again6 tt => L2 ss.2 again3 again6 tt.1 tt.2) (ss.1, (gi l ss.2).from_))) ∧ (¬ ss.2 < (l.length : Int) → Q ss.1))) ([], 0) := by
 refine lfp2 (fun again3 out x => ((x < (l.length : Int) → (inL x l.length ∧ lfp (S := (List Line) × Int) (fun again6 tt => L2 x again3 again6 tt.1 tt.2) (out, (gi l x).from_))) ∧ (¬ x < (l.length : Int) → Q out)))
   (fun out x => 0 ≤ x ∧ x ≤ l.length ∧ (out.length : Int) ≤ x * 1024 ∧ out ++ (l.drop x.toNat).flatMap linesOf = l.flatMap linesOf) (fun _ x => (l.length - x).toNat) (fun out x hst again hag => ?_) ⟨by simp, by simp, by simp, by simp⟩
 obtain ⟨h0, h1, h2, h3⟩ := hst
 refine ⟨fun hlt => ⟨by omega, ?_⟩, fun hn => ?_⟩
 · have hs := span_inside (valid_span hv _ (gi_mem (l := l) (i := x) (by omega)))
   rw [drop_gi (by omega), List.flatMap_cons, linesOf_from] at h3
   refine lfp2 (L2 x again) (fun out1 n => (gi l x).from_ ≤ n ∧ n ≤ (gi l x).to ∧ (out1.length : Int) ≤ x * 1024 + n ∧ out1 ++ (linesFrom (gi l x) n ++ (l.drop (x + 1).toNat).flatMap linesOf) = l.flatMap linesOf) (fun _ n => ((gi l x).to - n).toNat) (fun out1 n hst again6 hag6 => ?_) ⟨by omega, by omega, by omega, h3⟩
   obtain ⟨g0, g1, g2, g3⟩ := hst
   refine hL2 _ _ _ _ _ (by omega) ⟨fun hlt2 => ⟨⟨?_, ?_⟩, by omega, hag6 _ _ ⟨by omega, by omega, ?_, ?_⟩ (by omega)⟩, fun hn2 => ⟨by omega, hag _ _ ⟨by omega, by omega, by omega, ?_⟩ (by omega)⟩⟩
   · simp only [List.length_cons, List.length_nil]; omega
   · simp only [List.length_cons, List.length_nil]; omega
   · simp only [List.length_append, List.length_cons, List.length_nil]; omega
   · rw [linesFrom_cons hlt2] at g3
     simpa using g3
   · rw [linesFrom_end hn2] at g3
     simpa using g3
 · rw [drop_end hn, List.flatMap_nil, List.append_nil] at h3
   rw [← h3] at h
   exact h
theorem count_ok (l : (List Span)) (Q : Int → Prop) (hp0 : l.length ≤ 1000) (hp1 : ∀ x ∈ l, x.path.size ≤ 1000000) (h : Q (countL l)) : count_vc l Q := by
 unfold countL at h
 refine ⟨by omega, hp1, fun hv => by rw [hv] at h; exact h, fun hv => ?_⟩
 rw [if_pos hv] at h
 refine lfp2 (count_L1 l Q) (fun n x => 0 ≤ x ∧ x ≤ l.length ∧ 0 ≤ n ∧ n ≤ x * 1024 ∧ n + ((l.drop x.toNat).map fun s => s.to - s.from_).sum = (l.map fun s => s.to - s.from_).sum) (fun _ x => (l.length - x).toNat) (fun n x hst again hag => ?_) ⟨by simp, by simp, by simp, by simp, by simp⟩
 obtain ⟨h0, h1, h2, h3, h4⟩ := hst
 refine ⟨fun hlt => ?_, fun hn => ?_⟩
 · have hs := span_inside (valid_span hv _ (gi_mem (l := l) (i := x) (by omega)))
   rw [drop_gi (by omega), List.map_cons, List.sum_cons] at h4
   exact ⟨by omega, by omega, by omega, by omega, hag _ _ ⟨by omega, by omega, by omega, by omega, by omega⟩ (by omega)⟩
 · rw [drop_end hn, List.map_nil, List.sum_nil] at h4
   rw [show n = (l.map fun s => s.to - s.from_).sum by omega]
   exact h
theorem linesOf_len (s : Span) : (linesOf s).length = (s.to - s.from_).toNat := by simp [linesOf]
theorem list_count (l : List Span) : ((listF l).length : Int) = countL l := by
 unfold listF countL
 split
 · next hv =>
   have hs := valid_span hv
   clear hv
   induction l with
   | nil => rfl
   | cons s l ih =>
     have h1 := span_inside (hs s (by simp))
     have h2 := ih (fun t ht => hs t (by simp [ht]))
     rw [List.flatMap_cons, List.length_append, linesOf_len, List.map_cons, List.sum_cons, ← h2]
     omega
 · rfl
theorem has1_ok (s_ : Span) (x : Line) (Q : Bool → Prop) (h : Q (has1F s_ x)) : has1_vc s_ x Q := h
theorem has_ok (l : (List Span)) (x : Line) (Q : Bool → Prop) (hp0 : l.length ≤ 1000) (hp1 : ∀ x ∈ l, x.path.size ≤ 1000000) (h : Q (hasF l x)) : has_vc l x Q := ⟨by omega, fun _ _ => trivial, fun _ => ⟨by omega, hp1⟩, h⟩
theorem rfew_ok (l : (List Span)) (Q : Bool → Prop) (h : Q (fewF l)) : rfew_vc l Q := by
 unfold fewF at h
 refine ⟨fun hn => ?_, fun hl => ?_⟩
 · rw [decide_eq_false (by omega), Bool.false_and] at h; exact h
 rw [decide_eq_true (by omega), Bool.true_and] at h
 refine lfp_of (fun i : Int => 0 ≤ i ∧ i ≤ l.length ∧ l.all (fun s => decide (s.path.size ≤ 200)) = (l.drop i.toNat).all fun s => decide (s.path.size ≤ 200)) (fun i => (l.length - i).toNat) (fun i hi again hag => ?_) ⟨by omega, by omega, rfl⟩
 obtain ⟨h0, h1, h2⟩ := hi
 refine ⟨fun hlt => ⟨by omega, fun hb => ?_, fun hg => ⟨by omega, hag _ ⟨by omega, by omega, ?_⟩ (by omega)⟩⟩, fun hn => ?_⟩
 · rw [h2, drop_gi (by omega), List.all_cons, decide_eq_false (by omega), Bool.false_and] at h; exact h
 · rw [h2, drop_gi (by omega), List.all_cons, decide_eq_true (by omega), Bool.true_and]
 · rw [h2, drop_end hn] at h; exact h
theorem under_ok (l : (List Span)) (dir : ByteArray) (Q : (List Span) × Int → Prop) (hp0 : l.length ≤ 1000) (hp1 : ∀ x ∈ l, x.path.size ≤ 1000000) (hp2 : dir.size ≤ 1000000) (h : Q (underF l dir)) : under_vc l dir Q := by
 unfold underF at h
 refine ⟨by omega, hp1, fun hv => by rw [hv] at h; exact h, fun hv => ⟨hp2, fun hn => ?_, fun hp => ?_⟩⟩
 · rw [if_pos hv, if_neg hn] at h; exact h
 rw [if_pos hv, if_pos hp] at h
 refine lfp2 (under_L1 l dir Q) (fun out x => 0 ≤ x ∧ x ≤ l.length ∧ (out.length : Int) ≤ x ∧ out ++ (l.drop x.toNat).filter (fun s => belowF s.path dir) = l.filter fun s => belowF s.path dir) (fun _ x => (l.length - x).toNat) (fun out x hst again hag => ?_) ⟨by simp, by simp, by simp, by simp⟩
 obtain ⟨h0, h1, h2, h3⟩ := hst
 have e47 : (⟨#[47]⟩ : ByteArray).size = 1 := rfl
 refine ⟨fun hlt => ⟨by omega, by rw [e47]; omega, fun hb => ⟨⟨?_, ?_⟩, by omega, hag _ _ ⟨by omega, by omega, ?_, ?_⟩ (by omega)⟩, fun hb => ⟨by omega, hag _ _ ⟨by omega, by omega, by omega, ?_⟩ (by omega)⟩⟩, fun hn => ?_⟩
 · simp only [List.length_cons, List.length_nil]; omega
 · simp only [List.length_cons, List.length_nil]; omega
 · simp only [List.length_append, List.length_cons, List.length_nil]; omega
 · rw [drop_gi (by omega), List.filter_cons_of_pos (p := fun s : Span => belowF s.path dir) (show belowF (gi l x).path dir = true from hb)] at h3
   simpa using h3
 · rw [drop_gi (by omega), List.filter_cons_of_neg (p := fun s : Span => belowF s.path dir) (show ¬ belowF (gi l x).path dir = true by unfold belowF; rw [hb]; simp)] at h3
   exact h3
 · rw [drop_end hn, List.filter_nil, List.append_nil] at h3
   rw [← h3] at h
   exact h
theorem itoa_small : ∀ n : Fin 1025, (Lib.itoa (n.val : Int)).length ≤ 4 := by decide +kernel
theorem itoa_sz {n : Int} (h0 : 0 ≤ n) (h1 : n ≤ 1024) : (itoaF n).size ≤ 4 := by
 have := itoa_small ⟨n.toNat, by omega⟩
 simp only at this
 rw [show ((n.toNat : Nat) : Int) = n by omega] at this
 unfold itoaF
 rw [size_list]; exact this
theorem app_size (a b : ByteArray) : (a ++ b).size = a.size + b.size := ByteArray.size_append
theorem sbytes_len (s : ByteArray) : (sbytes s).length = s.size := by unfold sbytes; rw [List.length_map]; rfl
theorem bstr_map (u : List UInt8) : bstr (u.map fun b => (b.toNat : Int)) = ba u := by
 unfold bstr ba
 congr 1
 simp [List.map_map, Function.comp_def]
theorem print_ok (l : (List Span)) (Q : ByteArray × Int → Prop) (hp0 : l.length ≤ 1000) (hp1 : ∀ x ∈ l, x.path.size ≤ 1000000) (h : Q (printF l)) : print_vc l Q := by
 unfold printF at h
 refine ⟨by omega, hp1, fun hv => by rw [hv] at h; exact h, fun hv => ?_⟩
 rw [if_pos hv] at h
 have h : Q (ba (l.flatMap fun s => (spanT s).data.toList), 0) := h
 refine lfp2 (print_L1 l Q) (fun xs x => 0 ≤ x ∧ x ≤ l.length ∧ ∃ u : List UInt8, xs = u.map (fun b => (b.toNat : Int)) ∧ (u.length : Int) ≤ x * 1000 ∧ u ++ ((l.drop x.toNat).flatMap fun s => (spanT s).data.toList) = l.flatMap fun s => (spanT s).data.toList) (fun _ x => (l.length - x).toNat) (fun xs x hst again hag => ?_) ⟨by simp, by simp, [], rfl, by simp, by simp⟩
 obtain ⟨h0, h1, u, rfl, h2, h3⟩ := hst
 refine ⟨fun hlt => ?_, fun hn => ?_⟩
 · have hs := valid_span hv _ (gi_mem (l := l) (i := x) (by omega))
   have hi := span_inside hs
   have hz := span_size hs
   have z1 := itoa_sz (n := (gi l x).from_) (by omega) (by omega)
   have z2 := itoa_sz (n := (gi l x).to) (by omega) (by omega)
   have e1 : (⟨#[32]⟩ : ByteArray).size = 1 := rfl
   have e2 : (⟨#[10]⟩ : ByteArray).size = 1 := rfl
   have eT : ((((((gi l x).path ++ (⟨#[32]⟩ : ByteArray)) ++ itoaF (gi l x).from_) ++ (⟨#[32]⟩ : ByteArray)) ++ itoaF (gi l x).to) ++ (⟨#[10]⟩ : ByteArray)) = spanT (gi l x) := rfl
   have zT : (spanT (gi l x)).size ≤ 200 := by
     rw [← eT]; simp only [app_size, e1, e2]; omega
   refine ⟨by omega, ?_, by omega, by omega, ?_, ?_, by omega, by omega, ?_, ?_, ⟨?_, ?_⟩, by omega, hag _ _ ⟨by omega, by omega, u ++ (spanT (gi l x)).data.toList, ?_, ?_, ?_⟩ (by omega)⟩
   · simp only [e1]; omega
   · simp only [app_size, e1]; omega
   · simp only [app_size, e1]; omega
   · simp only [app_size, e1]; omega
   · simp only [app_size, e1, e2]; omega
   · rw [eT, sbytes_len, List.length_map]; omega
   · rw [eT, sbytes_len, List.length_map]; omega
   · rw [List.map_append]; rfl
   · rw [List.length_append]
     have : (spanT (gi l x)).data.toList.length = (spanT (gi l x)).size := rfl
     omega
   · rw [drop_gi (by omega), List.flatMap_cons] at h3
     rw [List.append_assoc]; exact h3
 · rw [drop_end hn, List.flatMap_nil, List.append_nil] at h3
   refine ⟨by rw [List.length_map]; omega, ?_⟩
   rw [bstr_map, h3]
   exact h
theorem inside_unit (x : Line) : insideF (unitW x) = (decide (0 ≤ x.n) && decide (x.n < 1024)) := by
 unfold insideF unitW
 simp only
 by_cases h0 : 0 ≤ x.n
 · by_cases h1 : x.n < 1024
   · rw [wrap_small (by omega)]
     rw [decide_eq_true h0, decide_eq_true h1, decide_eq_true (by omega), decide_eq_true (by omega)]; rfl
   · rw [decide_eq_true h0, decide_eq_false h1]
     by_cases h2 : x.n < IntKind.i64.wrap (x.n + 1)
     · rw [decide_eq_true h2, decide_eq_false (by omega)]; rfl
     · rw [decide_eq_false h2]; rfl
 · rw [decide_eq_false h0]; rfl
theorem bad_line (x : Line) : badLine x = !rightF x := by
 unfold badLine rightF
 rw [inside_unit]
theorem unitW_unit {x : Line} (h : rightF x = true) : unitW x = unit x := by
 unfold rightF at h
 simp only [Bool.and_eq_true, decide_eq_true_eq] at h
 unfold unitW unit
 rw [wrap_small (by omega)]
end Go.Lic
