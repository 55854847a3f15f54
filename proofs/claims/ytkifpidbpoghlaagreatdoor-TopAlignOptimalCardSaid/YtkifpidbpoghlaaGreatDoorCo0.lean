/-
  The conditions of functions of chapter 16 hold: the library, paths. No program in sight.
-/
import Derived.Test.YtkifpidbpoghlaaGreatDoorCv0
import Derived.Test.YtkifpidbpoghlaaGreatDoorSort
set_option linter.all false
namespace Go.Lic
open Go.Proofs Go.Sort Go.Shelf
theorem idx_none {α : Type} [Inhabited α] {p : α → Bool} {l : List α} (h : ∀ j : Int, 0 ≤ j → j < l.length → p (gi l j) = false) : idxOf p l = -1 := by
 unfold idxOf
 have : l.findIdx? p = none := by
   rw [List.findIdx?_eq_none_iff]
   intro x hx
   obtain ⟨i, hi, rfl⟩ := List.getElem_of_mem hx
   have := h i (by omega) (by omega)
   rwa [gi_nat hi] at this
 rw [this]
theorem idx_some {α : Type} [Inhabited α] {p : α → Bool} {l : List α} {x : Int} (hx : inL x l.length) (h1 : p (gi l x) = true) (h2 : ∀ j : Int, 0 ≤ j → j < x → p (gi l j) = false) : idxOf p l = x := by
 unfold idxOf
 have : l.findIdx? p = some x.toNat := by
   rw [List.findIdx?_eq_some_iff_getElem]
   refine ⟨by omega, ?_, fun j hj => ?_⟩
   · rwa [gi_lt hx] at h1
   · have := h2 j (by omega) (by omega)
     rw [gi_nat (by omega)] at this
     simp [this]
 rw [this]
 simp only; omega
theorem idx_nn {α : Type} (p : α → Bool) (l : List α) : (decide (idxOf p l ≥ 0)) = l.any p := by
 unfold idxOf
 cases h : l.findIdx? p with
 | none =>
   rw [List.findIdx?_eq_none_iff] at h
   have : l.any p = false := by rw [List.any_eq_false]; exact fun x hx => by simp [h x hx]
   rw [this]; rfl
 | some i =>
   have : l.any p = true := by
     rw [List.findIdx?_eq_some_iff_getElem] at h
     obtain ⟨hi, h1, _⟩ := h
     exact List.any_eq_true.2 ⟨_, List.getElem_mem hi, h1⟩
   rw [this]; simp
theorem ix_gen {α : Type} [Inhabited α] (s : List α) (p : α → Bool) (pD : α → Prop) (Q : Int → Prop) (hp0 : s.length ≤ 9223372036854775807) (hp1 : ∀ x ∈ s, pD x) (h : Q (idxOf p s)) :
   lfp (S := Int) (fun again1 x => ((x < (s.length : Int) → (inL x s.length ∧ pD (gi s x) ∧ (((p (gi s x)) = true → Q x) ∧ ((p (gi s x)) = false → (inI (x + 1) ∧ again1 (x + 1)))))) ∧ (¬ x < (s.length : Int) → Q (-1)))) 0 := by
 refine lfp_of (fun x : Int => 0 ≤ x ∧ x ≤ s.length ∧ ∀ j : Int, 0 ≤ j → j < x → p (gi s j) = false) (fun x => (s.length - x).toNat) (fun x hx again hag => ?_) ⟨by omega, by omega, fun j _ _ => by omega⟩
 obtain ⟨h0, h1, h2⟩ := hx
 refine ⟨fun hlt => ⟨by omega, hp1 _ (gi_mem (by omega)), fun hp => ?_, fun hp => ⟨by omega, hag _ ⟨by omega, by omega, fun j hj hj2 => ?_⟩ (by omega)⟩⟩, fun hn => ?_⟩
 · rwa [idx_some (by omega) hp h2] at h
 · by_cases e : j = x
   · rw [e]; exact hp
   · exact h2 j hj (by omega)
 · rwa [idx_none (fun j hj hj2 => h2 j hj (by omega))] at h
theorem ixStr_ok (s_ : (List ByteArray)) (p : ByteArray → Bool) (pD : ByteArray → Prop) (Q : Int → Prop) (hp0 : s_.length ≤ 9223372036854775807) (hp1 : ∀ x ∈ s_, pD x) (h : Q ((idxOf p s_))) : ixStr_vc s_ p pD Q := ix_gen s_ p pD Q hp0 hp1 h
theorem cfStr_ok (s_ : (List ByteArray)) (p : ByteArray → Bool) (pD : ByteArray → Prop) (Q : Bool → Prop) (hp0 : s_.length ≤ 9223372036854775807) (hp1 : ∀ x ∈ s_, pD x) (h : Q (s_.any p)) : cfStr_vc s_ p pD Q := ⟨hp0, hp1, by rw [idx_nn]; exact h⟩
theorem list_ext_gi {α : Type} [Inhabited α] {a b : List α} (hl : a.length = b.length) (h : ∀ j : Int, 0 ≤ j → j < a.length → gi a j = gi b j) : a = b := by
 refine List.ext_getElem hl fun i h1 h2 => ?_
 have := h i (by omega) (by omega)
 rwa [gi_nat h1, gi_nat h2] at this
theorem eq_gen {α : Type} [Inhabited α] [DecidableEq α] (e : α → α → Bool) (he : ∀ a b, e a b = true ↔ a = b) (s1 s2 : List α) (Q : Bool → Prop) (hp0 : s1.length ≤ 9223372036854775807) (h : Q (decide (s1 = s2))) :
   ((¬ (s1.length : Int) = (s2.length : Int) → Q false) ∧ ((s1.length : Int) = (s2.length : Int) → lfp (S := Int) (fun again2 x => ((x < (s1.length : Int) → (inL x s1.length ∧ inL x s2.length ∧ (((e (gi s1 x) (gi s2 x)) = false → Q false) ∧ ((e (gi s1 x) (gi s2 x)) = true → (inI (x + 1) ∧ again2 (x + 1)))))) ∧ (¬ x < (s1.length : Int) → Q true))) 0)) := by
 refine ⟨fun hn => ?_, fun hl => ?_⟩
 · rwa [decide_eq_false (fun e => hn (by rw [e]))] at h
 · refine lfp_of (fun x : Int => 0 ≤ x ∧ x ≤ s1.length ∧ ∀ j : Int, 0 ≤ j → j < x → gi s1 j = gi s2 j) (fun x => (s1.length - x).toNat) (fun x hx again hag => ?_) ⟨by omega, by omega, fun j _ _ => by omega⟩
   obtain ⟨h0, h1, h2⟩ := hx
   refine ⟨fun hlt => ⟨by omega, by omega, fun hp => ?_, fun hp => ⟨by omega, hag _ ⟨by omega, by omega, fun j hj hj2 => ?_⟩ (by omega)⟩⟩, fun hn => ?_⟩
   · rwa [decide_eq_false (fun e2 => by rw [e2, (he _ _).2 rfl] at hp; cases hp)] at h
   · by_cases e2 : j = x
     · rw [e2]; exact (he _ _).1 hp
     · exact h2 j hj (by omega)
   · rwa [decide_eq_true (list_ext_gi (by omega) (fun j hj hj2 => h2 j hj (by omega)))] at h
theorem split_none {c : UInt8} : ∀ {l : List UInt8}, (∀ x ∈ l, x ≠ c) → splitL c l = [l]
 | [], _ => rfl
 | b :: l, h => by
   have hb : b ≠ c := h b (by simp)
   rw [splitL, if_neg hb, split_none (fun x hx => h x (by simp [hx]))]
theorem split_at {c : UInt8} : ∀ {p r : List UInt8}, (∀ x ∈ p, x ≠ c) → splitL c (p ++ c :: r) = p :: splitL c r
 | [], r, _ => by rw [List.nil_append, splitL, if_pos rfl]
 | b :: p, r, h => by
   have hb : b ≠ c := h b (by simp)
   rw [List.cons_append, splitL, if_neg hb, split_at (fun x hx => h x (by simp [hx]))]
theorem split_ne {c : UInt8} : ∀ l : List UInt8, splitL c l ≠ []
 | [] => by simp [splitL]
 | b :: l => by
   rw [splitL]
   split
   · simp
   · split <;> simp
theorem split_len {c : UInt8} : ∀ l : List UInt8, (splitL c l).length = l.count c + 1
 | [] => rfl
 | b :: l => by
   rw [splitL]
   have ih := split_len (c := c) l
   by_cases h : b = c
   · rw [if_pos h, h]; simp [ih]
   · rw [if_neg h, List.count_cons_of_ne h]
     cases hs : splitL c l with
     | nil => exact absurd hs (split_ne l)
     | cons p r => rw [hs] at ih; simpa using ih
theorem split_size {c : UInt8} : ∀ l : List UInt8, ∀ p ∈ splitL c l, p.length ≤ l.length
 | [], p, h => by simp [splitL] at h; simp [h]
 | b :: l, p, h => by
   rw [splitL] at h
   have ih := split_size (c := c) l
   split at h
   · rcases List.mem_cons.1 h with rfl | h
     · simp
     · have := ih p h; simp; omega
   · cases hs : splitL c l with
     | nil => exact absurd hs (split_ne l)
     | cons q r =>
       rw [hs] at h ih
       rcases List.mem_cons.1 h with rfl | h
       · have := ih q (by simp); simp; omega
       · have := ih p (by simp [h]); simp; omega
theorem count_split {c : UInt8} : ∀ {l : List UInt8}, 0 < l.count c → ∃ p r, l = p ++ c :: r ∧ (∀ x ∈ p, x ≠ c) ∧ Lib.indexByte l c = p.length
 | [], h => by simp at h
 | b :: l, h => by
   by_cases hb : b = c
   · subst hb
     exact ⟨[], l, rfl, (fun x hx => by cases hx), by simp [Lib.indexByte]⟩
   · rw [List.count_cons_of_ne hb] at h
     obtain ⟨p, r, rfl, h1, h2⟩ := count_split h
     refine ⟨b :: p, r, rfl, fun x hx => ?_, ?_⟩
     · rcases List.mem_cons.1 hx with rfl | hx
       · exact hb
       · exact h1 x hx
     · have h3 : (b == c) = false := by simpa using hb
       have h4 : ((p.length : Int) == -1) = false := by rw [beq_eq_false_iff_ne]; omega
       rw [Lib.indexByte, h3, h2, h4]
       simp
def ba (l : List UInt8) : ByteArray := ⟨l.toArray⟩
@[simp] theorem ba_list (l : List UInt8) : (ba l).data.toList = l := rfl
theorem ba_of (s : ByteArray) : ba s.data.toList = s := rfl
theorem ba_size (l : List UInt8) : (ba l).size = l.length := by simp [ba, ByteArray.size]
theorem size_list (s : ByteArray) : s.size = s.data.toList.length := rfl
theorem ssub_ba (l : List UInt8) (lo hi : Int) : ssub (ba l) lo hi = ba ((l.take hi.toNat).drop lo.toNat) := by
 apply ba_eq
 unfold ssub
 rw [ByteArray.data_extract]
 simp [ba, List.drop_take]
theorem sgi_ba (l : List UInt8) (i : Nat) (h : i < l.length) : sgi (ba l) (i : Int) = (l[i].toNat : Int) := by
 simp [sgi, ba, List.getD, List.getElem?_eq_getElem h]
theorem count_le {c : UInt8} (l : List UInt8) : l.count c ≤ l.length := List.count_le_length
theorem gsplit_ok (s_ : ByteArray) (sep : ByteArray) (sepSave : Int) (n : Int) (Q : (List ByteArray) → Prop) (hp0 : s_.size ≤ 1000000) (hp1 : sep.size = 1) (hp2 : sepSave = (0 : Int)) (hp3 : n = (-1 : Int)) (h : Q (splitG s_ sep sepSave n)) : gsplit_vc s_ sep sepSave n Q := by
 subst hp2 hp3
 obtain ⟨c, rfl⟩ : ∃ c, sep = ⟨#[c]⟩ := by
   obtain ⟨⟨l⟩⟩ := sep
   match l, hp1 with
   | [c], _ => exact ⟨c, rfl⟩
 rw [← ba_of s_] at h hp0 ⊢
 generalize s_.data.toList = l at h hp0 ⊢
 rw [ba_size] at hp0
 have hc := count_le (c := c) l
 have hQ : Q ((splitL c l).map ba) := h
 refine ⟨fun hn => absurd hn (by omega), fun _ => ⟨(fun he => by cases he), fun _ => ⟨fun _ => ⟨rfl, ?_, ?_⟩, fun hn => absurd hn (by omega)⟩⟩⟩
 · show inI (((l.count c : Nat) : Int) + 1); omega
 · have e0 : countF (ba l) ⟨#[c]⟩ = (l.count c : Nat) := rfl
   rw [e0]
   unfold gsplit_J1
   have e1 : gmin ((l.count c : Int) + 1) [(((ba l).size : Int) + 1)] = (l.count c : Int) + 1 := by rw [gmin1, ba_size]; omega
   rw [e1, ba_size]
   refine ⟨by omega, ⟨⟨by omega, by omega⟩, by omega, by omega⟩, by omega, ?_⟩
   refine lfp_of (fun st : (List ByteArray) × ByteArray × Int => ∃ (d : List ByteArray) (r : List UInt8), st = (d ++ List.replicate (r.count c + 1) ByteArray.empty, ba r, (d.length : Int)) ∧ d ++ (splitL c r).map ba = (splitL c l).map ba ∧ d.length + r.count c = l.count c ∧ r.length ≤ l.length)
     (fun st => (l.count c - st.2.2).toNat) (fun st hst again hag => ?_) ⟨[], l, by simp, rfl, by simp, Nat.le_refl _⟩
   obtain ⟨d, r, rfl, hs, hd, hr⟩ := hst
   unfold gsplit_L1
   simp only
   have fin : r.count c = 0 → Q (lsub (si (d ++ List.replicate (r.count c + 1) ByteArray.empty) (d.length : Int) (ba r)) 0 ((d.length : Int) + 1)) := by
     intro h0
     have e : si (d ++ List.replicate (r.count c + 1) ByteArray.empty) (d.length : Int) (ba r) = d ++ [ba r] := by
       rw [h0]
       have := si_last d ByteArray.empty (ba r)
       have e2 : (((d ++ [ByteArray.empty]).length : Int) - 1) = (d.length : Int) := by simp
       rw [e2] at this
       exact this
     rw [e, lsub_to]
     have e3 : (d ++ [ba r]).take ((d.length : Int) + 1).toNat = d ++ [ba r] := by
       rw [List.take_of_length_le]
       simp
     rw [e3]
     have : splitL c r = [r] := split_none (fun x hx he => by
       have := List.count_pos_iff.2 (he ▸ hx)
       omega)
     rw [this] at hs
     have hs' : d ++ [ba r] = (splitL c l).map ba := hs
     rw [hs']
     exact hQ
   rw [gmin1, ba_size]
   refine ⟨fun hlt => ⟨rfl, fun hneg => ?_, fun hpos => ?_⟩, fun hn => ?_⟩
   · have hr0 : 0 < r.count c := by omega
     obtain ⟨p, q, _, _, h3⟩ := count_split hr0
     have : indexF (ba r) ⟨#[c]⟩ = p.length := h3
     omega
   · have hr0 : 0 < r.count c := by omega
     obtain ⟨p, q, rfl, h2, h3⟩ := count_split hr0
     have e3 : indexF (ba (p ++ c :: q)) ⟨#[c]⟩ = p.length := h3
     have e4 : (⟨#[c]⟩ : ByteArray).size = 1 := rfl
     rw [e3, e4]
     have h5 : (p ++ c :: q).length = p.length + 1 + q.length := by simp; omega
     have h6 : (p ++ c :: q).count c = q.count c + 1 := by
       rw [List.count_append, List.count_cons_self, List.count_eq_zero.2 (fun hx => h2 c hx rfl)]; omega
     refine ⟨by omega, by rw [ba_size]; omega, by simp; omega, by omega, by rw [ba_size]; omega, by omega, hag _ ⟨d ++ [ba p], q, ?_, ?_, ?_, by omega⟩ ?_⟩
     · rw [ssub_ba, ssub_ba, h6]
       have e5 : si (d ++ List.replicate (q.count c + 1 + 1) ByteArray.empty) (d.length : Int) (ba (List.drop (Int.toNat 0) (List.take ((p.length : Int) + 0).toNat (p ++ c :: q)))) = d ++ [ba p] ++ List.replicate (q.count c + 1) ByteArray.empty := by
         have e6 : List.take ((p.length : Int) + 0).toNat (p ++ c :: q) = p := by simp
         rw [e6]
         simp [si, List.replicate_succ]
       rw [e5]
       have e7 : List.drop ((p.length : Int) + ((1 : Nat) : Int)).toNat (List.take (((ba (p ++ c :: q)).size : Nat) : Int).toNat (p ++ c :: q)) = q := by
         rw [ba_size, List.take_of_length_le (by omega)]
         have : ((p.length : Int) + ((1 : Nat) : Int)).toNat = p.length + 1 := by omega
         rw [this]
         simp
       rw [e7]
       simp
     · rw [split_at h2] at hs
       simpa using hs
     · simp only [List.length_append, List.length_cons, List.length_nil]; omega
     · simp only; omega
   · have h0 : r.count c = 0 := by omega
     refine ⟨by simp; omega, by omega, ?_, fin h0⟩
     rw [si_length]
     simp only [List.length_append, List.length_replicate]; omega
theorem split_ok (s_ : ByteArray) (sep : ByteArray) (Q : (List ByteArray) → Prop) (hp0 : s_.size ≤ 1000000) (hp1 : sep.size = 1) (h : Q (splitF s_ sep)) : split_vc s_ sep Q := ⟨hp0, hp1, rfl, rfl, h⟩
end Go.Lic
set_option linter.all false
namespace Go.Lic
open Go.Proofs Go.Sort Go.Shelf
theorem decode_low {s : ByteArray} {i : Nat} (h : (s.get! i).toNat < 128) : Utf8.decode s i = ((s.get! i).toNat, 1) := by
 unfold Utf8.decode
 simp only [Nat.add_zero]
 rw [if_pos h]
theorem decode_high {s : ByteArray} {i : Nat} (h : ¬ (s.get! i).toNat < 128) : 128 ≤ (Utf8.decode s i).1 := by
 unfold Utf8.decode Utf8.runeError
 simp only [Nat.add_zero]
 rw [if_neg h]
 split
 · split
   · assumption
   · decide
 · split
   · split
     · next h1 => simp only [Bool.and_eq_true, decide_eq_true_eq] at h1; simp only; omega
     · decide
   · split
     · split
       · next h1 => simp only [Bool.and_eq_true, decide_eq_true_eq] at h1; simp only; omega
       · decide
     · decide
theorem decode_w (s : ByteArray) (i : Nat) : 1 ≤ (Utf8.decode s i).2 := by
 unfold Utf8.decode
 simp only
 split
 · exact Nat.le_refl _
 · split
   · split <;> simp only <;> omega
   · split
     · split <;> simp only <;> omega
     · split
       · split <;> simp only <;> omega
       · exact Nat.le_refl _
theorem get_list (s : ByteArray) (i : Nat) : (s.get! i) = s.data.toList.getD i 0 := by
 obtain ⟨⟨l⟩⟩ := s
 show (Array.mk l)[i]! = l.getD i 0
 by_cases h : i < l.length
 · rw [getElem!_pos _ _ (by simpa using h)]; simp [List.getD, List.getElem?_eq_getElem h]
 · rw [getElem!_neg _ _ (by simpa using h)]; simp [List.getD, List.getElem?_eq_none (Nat.le_of_not_lt h)]; rfl
theorem sgi_get (s : ByteArray) (i : Nat) : sgi s (i : Int) = ((s.get! i).toNat : Int) := by rw [get_list]; rfl
theorem bad_high {r : Int} (h : 128 ≤ r) : badR r = true := by
 unfold badR nameB
 simp only [Bool.not_eq_true', Bool.or_eq_false_iff, Bool.and_eq_false_iff, decide_eq_false_iff_not]
 omega
theorem runes_bytes (s : ByteArray) : ∀ (n : Nat) (i : Nat), s.size - i < n → (0 ≤ runeIdxL (fun r => badR r == true) s n (i : Int) ↔ ∃ k : Nat, i ≤ k ∧ k < s.size ∧ nameB (sgi s (k : Int)) = false)
 | 0, i, h => by omega
 | n + 1, i, h => by
   unfold runeIdxL
   by_cases hi : i < s.size
   · have hi' : (i : Int) < s.size := by omega
     rw [if_pos hi']
     simp only [Int.toNat_natCast]
     by_cases hb : (s.get! i).toNat < 128
     · rw [decode_low hb]
       have e : sgi s (i : Int) = (((s.get! i).toNat : Nat) : Int) := sgi_get s i
       simp only
       cases hn : nameB ((s.get! i).toNat : Int) with
       | false =>
         have : badR ((s.get! i).toNat : Int) = true := by unfold badR; rw [hn]; rfl
         rw [this]
         simp only [beq_self_eq_true, if_true]
         exact ⟨fun _ => ⟨i, Nat.le_refl _, hi, by rw [e]; exact hn⟩, fun _ => by omega⟩
       | true =>
         have : badR ((s.get! i).toNat : Int) = false := by unfold badR; rw [hn]; rfl
         rw [this]
         have e2 : ((false == true) = true) = False := by simp
         simp only [e2, if_false]
         have ih := runes_bytes s n (i + 1) (by omega)
         have e3 : ((i : Int) + ((1 : Nat) : Int)) = ((i + 1 : Nat) : Int) := by omega
         rw [e3, ih]
         constructor
         · rintro ⟨k, h1, h2⟩; exact ⟨k, by omega, h2⟩
         · rintro ⟨k, h1, h2, h3⟩
           refine ⟨k, ?_, h2, h3⟩
           rcases Nat.lt_or_eq_of_le h1 with h4 | h4
           · exact h4
           · rw [← h4, e, hn] at h3; cases h3
     · have h1 := decode_high hb
       have : badR ((Utf8.decode s i).1 : Int) = true := bad_high (by omega)
       rw [this]
       simp only [beq_self_eq_true, if_true]
       refine ⟨fun _ => ⟨i, Nat.le_refl _, hi, ?_⟩, fun _ => by omega⟩
       have h2 : badR (sgi s (i : Int)) = true := bad_high (by rw [sgi_get]; omega)
       unfold badR at h2
       simpa using h2
   · have hi' : ¬ (i : Int) < s.size := by omega
     rw [if_neg hi']
     constructor
     · intro h; omega
     · rintro ⟨k, h1, h2, _⟩; omega
theorem sbytes_all (s : ByteArray) (f : Int → Bool) : (sbytes s).all f = false ↔ ∃ k : Nat, k < s.size ∧ f (sgi s (k : Int)) = false := by
 rw [List.all_eq_false]
 unfold sbytes
 constructor
 · rintro ⟨x, hx, h⟩
   obtain ⟨b, hb, rfl⟩ := List.mem_map.1 hx
   obtain ⟨k, hk, rfl⟩ := List.getElem_of_mem hb
   refine ⟨k, hk, ?_⟩
   have : sgi s (k : Int) = ((s.data.toList[k].toNat : Nat) : Int) := by
     simp only [sgi, Int.toNat_natCast, List.getD, List.getElem?_eq_getElem hk]; rfl
   rw [this]; simpa using h
 · rintro ⟨k, hk, h⟩
   have hk' : k < s.data.toList.length := hk
   refine ⟨(s.data.toList[k].toNat : Int), List.mem_map.2 ⟨_, List.getElem_mem hk', rfl⟩, ?_⟩
   have : sgi s (k : Int) = ((s.data.toList[k].toNat : Nat) : Int) := by
     simp only [sgi, Int.toNat_natCast, List.getD, List.getElem?_eq_getElem hk']; rfl
   rw [this] at h; simpa using h
theorem rune_part (s : ByteArray) : (!(decide (0 ≤ runeIx (fun r => badR r) s true))) = (sbytes s).all nameB := by
 have h := runes_bytes s (s.size + 1) 0 (by omega)
 have h2 := sbytes_all s nameB
 unfold runeIx
 cases ha : (sbytes s).all nameB with
 | false =>
   obtain ⟨k, hk, h3⟩ := h2.1 ha
   have : 0 ≤ runeIdxL (fun r => badR r == true) s (s.size + 1) 0 := h.2 ⟨k, Nat.zero_le _, hk, h3⟩
   rw [decide_eq_true this]; rfl
 | true =>
   have : ¬ 0 ≤ runeIdxL (fun r => badR r == true) s (s.size + 1) 0 := fun h3 => by
     obtain ⟨k, _, hk, h4⟩ := h.1 h3
     rw [h2.2 ⟨k, hk, h4⟩] at ha; cases ha
   rw [decide_eq_false this]; rfl
theorem sixf_ok (s_ : ByteArray) (p : Int → Bool) (pD : Int → Prop) (truth : Bool) (Q : Int → Prop) (hp0 : ∀ x, pD x) (h : Q ((runeIx p s_ truth))) : sixf_vc s_ p pD truth Q := by
 unfold sixf_vc
 refine lfp_of (fun i : Int => 0 ≤ i ∧ ∃ n, runeIx p s_ truth = runeIdxL (fun r => p r == truth) s_ n i ∧ s_.size - i < n) (fun i => (s_.size - i).toNat) (fun i hi again hag => ?_) ⟨by omega, s_.size + 1, rfl, by omega⟩
 obtain ⟨h0, n, h1, h2⟩ := hi
 unfold sixf_L1
 have hw := decode_w s_ i.toNat
 have ew : runeW s_ i = ((Utf8.decode s_ i.toNat).2 : Int) := rfl
 refine ⟨fun hlt => ⟨h0, hp0 _, ?_⟩, fun hn => ?_⟩
 · obtain ⟨m, rfl⟩ : ∃ m, n = m + 1 := ⟨n - 1, by omega⟩
   rw [runeIdxL, if_pos hlt] at h1
   refine ⟨fun hp => ?_, fun hp => ?_⟩
   · have : (p ((Utf8.decode s_ i.toNat).1 : Int) == truth) = true := hp
     rw [if_pos this] at h1
     rwa [h1] at h
   · have : ¬ (p ((Utf8.decode s_ i.toNat).1 : Int) == truth) = true := by
       have h3 : (p ((Utf8.decode s_ i.toNat).1 : Int) == truth) = false := hp
       simp [h3]
     rw [if_neg this] at h1
     exact hag _ ⟨by omega, m, h1, by omega⟩ (by omega)
 · cases n with
   | zero => rw [h1] at h; exact h
   | succ m => rw [runeIdxL, if_neg hn] at h1; rwa [h1] at h
theorem sixF_ok (s_ : ByteArray) (p : Int → Bool) (pD : Int → Prop) (Q : Int → Prop) (hp0 : ∀ x, pD x) (h : Q ((runeIx p s_ true))) : sixF_vc s_ p pD Q := ⟨hp0, h⟩
theorem scf_ok (s_ : ByteArray) (p : Int → Bool) (pD : Int → Prop) (Q : Bool → Prop) (hp0 : ∀ x, pD x) (h : Q ((decide (0 ≤ runeIx p s_ true)))) : scf_vc s_ p pD Q := ⟨hp0, h⟩
theorem int_beq (a b : Int) : (a == b) = decide (a = b) := by
 cases h : (a == b) with
 | true => rw [decide_eq_true (by simpa using h)]
 | false => rw [decide_eq_false (by simpa using h)]
theorem part1_ok (c : Int) (Q : Bool → Prop) (h : Q (badR c)) : part1_vc c Q := by
 unfold part1_vc
 have : badR c = (!((((((decide (c ≥ 97)) && (decide (c ≤ 122))) || ((decide (c ≥ 48)) && (decide (c ≤ 57)))) || (c == 46)) || (c == 95)) || (c == 45))) := by
   simp only [badR, nameB, ge_iff_le, int_beq]
 rwa [← this]
theorem empty_iff (s : ByteArray) : s = (⟨#[]⟩ : ByteArray) ↔ s.size = 0 := by
 obtain ⟨⟨l⟩⟩ := s
 show _ ↔ l.length = 0
 cases l <;> simp
theorem partF_eq (s : ByteArray) : partF s = (decide (1 ≤ s.size) && decide (s.size ≤ 32) && !decide (sgi s 0 = 46) && !decide (sgi s 0 = 45) && (sbytes s).all nameB) := rfl
theorem part_ok (s_ : ByteArray) (Q : Bool → Prop) (hp0 : s_.size ≤ 1000000) (h : Q (partF s_)) : part_vc s_ Q := by
 unfold part_vc
 rw [empty_iff]
 refine ⟨fun h1 => by omega, fun h1 => by omega, fun h1 => ?_, fun h1 => ⟨fun _ => trivial, ?_⟩⟩
 · have : partF s_ = false := by
     rw [partF_eq]
     rcases h1 with ((h1 | h1) | h1) | h1
     · simp [h1]
     · have : ¬ s_.size ≤ 32 := by omega
       simp [this]
     · simp [h1]
     · simp [h1]
   rwa [this] at h
 · obtain ⟨⟨⟨h1, h2⟩, h3⟩, h4⟩ := h1
   rw [rune_part]
   have : partF s_ = (sbytes s_).all nameB := by
     rw [partF_eq]
     have e1 : 1 ≤ s_.size := by omega
     have e2 : s_.size ≤ 32 := by omega
     simp [e1, e2, h3, h4]
   rwa [this] at h
theorem path1_ok (s_ : ByteArray) (Q : Bool → Prop) (hp0 : s_.size ≤ 1000000) (h : Q ((!partF s_))) : path1_vc s_ Q := ⟨hp0, h⟩
theorem splitF_len (s : ByteArray) (c : UInt8) : (splitF s ⟨#[c]⟩).length ≤ s.size + 1 := by
 show ((splitL c s.data.toList).map _).length ≤ _
 rw [List.length_map, split_len]
 have := count_le (c := c) s.data.toList
 rw [size_list]; omega
theorem splitF_size (s : ByteArray) (c : UInt8) : ∀ x ∈ splitF s ⟨#[c]⟩, x.size ≤ s.size := by
 intro x hx
 have hx : x ∈ (splitL c s.data.toList).map ba := hx
 obtain ⟨p, hp, rfl⟩ := List.mem_map.1 hx
 have := split_size _ p hp
 rw [ba_size, size_list]; exact this
theorem path_ok (path : ByteArray) (Q : Int → Prop) (hp0 : path.size ≤ 1000000) (h : Q (pathF path)) : path_vc path Q := by
 have hl := splitF_len path 47
 have hs := splitF_size path 47
 have e : ((splitF path (⟨#[47]⟩ : ByteArray)).any (fun (x0_ : ByteArray) => (!partF x0_))) = !(splitF path (⟨#[47]⟩ : ByteArray)).all partF := by
   rw [List.all_eq_not_any_not, Bool.not_not]
 unfold path_vc
 rw [e]
 unfold pathF pathB at h
 refine ⟨hp0, rfl, fun _ => ⟨by omega, fun x hx => by have := hs x hx; show x.size ≤ 1000000; omega⟩, fun h1 => ?_, fun h1 => ?_⟩
 · rw [if_neg] at h
   · exact h
   · rintro h2
     simp only [Bool.and_eq_true, decide_eq_true_eq] at h2
     rcases h1 with (h1 | h1) | h1
     · omega
     · omega
     · rw [h2.2] at h1; cases h1
 · rw [if_pos] at h
   · exact h
   · simp only [Bool.and_eq_true, decide_eq_true_eq]
     obtain ⟨⟨h1, h2⟩, h3⟩ := h1
     exact ⟨⟨by omega, by omega⟩, by simpa using h3⟩
end Go.Lic
set_option linter.all false
namespace Go.Lic
open Go.Proofs Go.Sort Go.Shelf
theorem drop_gi {α : Type} [Inhabited α] {l : List α} {x : Int} (h : inL x l.length) : l.drop x.toNat = gi l x :: l.drop (x + 1).toNat := by
 rw [List.drop_eq_getElem_cons (by omega), gi_lt h, show (x + 1).toNat = x.toNat + 1 by omega]
theorem drop_end {α : Type} {l : List α} {x : Int} (h : ¬ x < l.length) : l.drop x.toNat = [] := List.drop_eq_nil_of_le (by omega)
theorem lfp2 {A B : Type} (f : (A × B → Prop) → A → B → Prop) (Inv : A → B → Prop) (m : A → B → Nat) (round : ∀ a b, Inv a b → ∀ again : A × B → Prop, (∀ a' b', Inv a' b' → m a' b' < m a b → again (a', b')) → f again a b) {a : A} {b : B} (h : Inv a b) : lfp (S := A × B) (fun again ss => f again ss.1 ss.2) (a, b) :=
 lfp_of (fun s => Inv s.1 s.2) (fun s => m s.1 s.2) (fun s hs again hag => round s.1 s.2 hs again fun a' b' h1 h2 => hag (a', b') h1 h2) h
theorem lfp3 {A B C : Type} (f : (A × B × C → Prop) → A → B → C → Prop) (Inv : A → B → C → Prop) (m : A → B → C → Nat) (round : ∀ a b c, Inv a b c → ∀ again : A × B × C → Prop, (∀ a' b' c', Inv a' b' c' → m a' b' c' < m a b c → again (a', b', c')) → f again a b c) {a : A} {b : B} {c : C} (h : Inv a b c) : lfp (S := A × B × C) (fun again ss => f again ss.1 ss.2.1 ss.2.2) (a, b, c) :=
 lfp_of (fun s => Inv s.1 s.2.1 s.2.2) (fun s => m s.1 s.2.1 s.2.2) (fun s hs again hag => round s.1 s.2.1 s.2.2 hs again fun a' b' c' h1 h2 => hag (a', b', c') h1 h2) h
theorem or_ok (vals : (List Int)) (Q : Int → Prop) (hp0 : vals.length ≤ 9223372036854775807) (h : Q (orF vals)) : or_vc vals Q := by
 refine lfp_of (fun x : Int => 0 ≤ x ∧ x ≤ vals.length ∧ orF vals = orF (vals.drop x.toNat)) (fun x => (vals.length - x).toNat) (fun x hx again hag => ?_) ⟨by omega, by omega, rfl⟩
 obtain ⟨h0, h1, h2⟩ := hx
 refine ⟨fun hlt => ⟨by omega, fun hp => ?_, fun hp => ⟨by omega, hag _ ⟨by omega, by omega, ?_⟩ (by omega)⟩⟩, fun hn => ?_⟩
 · rw [h2, drop_gi (by omega)] at h
   simpa [orF, hp] using h
 · rw [h2, drop_gi (by omega)]
   simp [orF, hp]
 · rw [h2, drop_end hn] at h; exact h
theorem wrap_small {n : Int} (h : inI n) : IntKind.i64.wrap n = n := wrap64_in h
end Go.Lic
set_option linter.all false
namespace Go.Lic
open Go.Proofs Go.Sort Go.Shelf
theorem sbytes_len (s : ByteArray) : (sbytes s).length = s.size := by unfold sbytes; rw [List.length_map]; rfl
end Go.Lic
