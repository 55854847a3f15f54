/-
  The conditions of functions of words hold.
-/
import Derived.Test.YtkifpidbpoghlaaGreatDoorPo2
set_option linter.all false
namespace Go.Lic
open Go.Proofs Go.Sort
theorem word_lt {c : Int} (h : wordB c = true) : 48 ≤ c ∧ c ≤ 122 := by
 unfold wordB digB at h
 simp only [Bool.or_eq_true, Bool.and_eq_true, decide_eq_true_eq, beq_iff_eq] at h
 omega
theorem wrap8 {c : Int} (h0 : 0 ≤ c) (h1 : c ≤ 255) : IntKind.u8.wrap c = c := by
 simp [IntKind.wrap, IntKind.signed, IntKind.bits]; omega
theorem stop_low {c : Int} (h0 : 0 ≤ c) (h1 : c < 128) : stopB c = !wordB c := by
 unfold stopB
 rw [wrap8 h0 (by omega)]
 cases hw : wordB c with
 | true => have := word_lt hw; simp; omega
 | false => simp
theorem stop_high {c : Int} (h : 128 ≤ c) : stopB c = true := by
 unfold stopB; simp; left; omega
theorem rune_word (s : ByteArray) : ∀ (n i k : Nat), s.size - i < n → i ≤ k → k ≤ s.size → (∀ j, i ≤ j → j < k → wordB (sgi s (j : Int)) = true) → (k < s.size → wordB (sgi s (k : Int)) = false) →
   runeIdxL (fun r => stopB r == true) s n (i : Int) = if k < s.size then (k : Int) else -1
 | 0, i, k, h, _, _, _, _ => by omega
 | n + 1, i, k, h, hik, hk, hw, hs => by
   unfold runeIdxL
   by_cases hi : i < s.size
   · rw [if_pos (by omega)]
     simp only [Int.toNat_natCast]
     have e : sgi s (i : Int) = (((s.get! i).toNat : Nat) : Int) := sgi_get s i
     by_cases he : i = k
     · subst he
       have hw0 := hs hi
       rw [e] at hw0
       rw [if_pos hi]
       by_cases hb : (s.get! i).toNat < 128
       · rw [decode_low hb]
         simp only
         rw [stop_low (by omega) (by omega), hw0]
         rfl
       · have h1 := decode_high hb
         rw [stop_high (by omega)]
         rfl
     · have hw0 := hw i (Nat.le_refl _) (by omega)
       rw [e] at hw0
       have hlt := word_lt hw0
       have hb : (s.get! i).toNat < 128 := by omega
       rw [decode_low hb]
       simp only
       rw [stop_low (by omega) (by omega), hw0]
       have e2 : ((!true) == true) = false := rfl
       rw [e2, if_neg (by decide), show ((i : Int) + ((1 : Nat) : Int)) = ((i + 1 : Nat) : Int) by omega]
       exact rune_word s n (i + 1) k (by omega) (by omega) hk (fun j h1 h2 => hw j (by omega) h2) hs
   · rw [if_neg (by omega), if_neg (by omega)]
theorem drop_len (p : UInt8 → Bool) : ∀ l : List UInt8, (l.dropWhile p).length ≤ l.length
 | [] => by simp
 | x :: l => by
   have := drop_len p l
   rw [List.dropWhile_cons]
   split <;> simp <;> omega
theorem words_fuel : ∀ (n m : Nat) (l : List UInt8), l.length ≤ n → l.length ≤ m → wordsU n l = wordsU m l
 | 0, m, l, hn, _ => by
   have : l = [] := List.eq_nil_of_length_eq_zero (by omega)
   subst this
   cases m <;> rfl
 | n + 1, 0, l, _, hm => by
   have : l = [] := List.eq_nil_of_length_eq_zero (by omega)
   subst this; rfl
 | n + 1, m + 1, [], _, _ => rfl
 | n + 1, m + 1, x :: r, hn, hm => by
   simp only [List.length_cons] at hn hm
   have h1 := drop_len wordC r
   unfold wordsU
   rw [words_fuel n m r (by omega) (by omega), words_fuel n m (r.dropWhile wordC) (by omega) (by omega)]
theorem wordsL_ba (l : List UInt8) : wordsL (ba l) = (wordsU l.length l).map ba := by
 unfold wordsL; rw [ba_size]; rfl
theorem take_drop_while (p : UInt8 → Bool) (l : List UInt8) : l.take (l.takeWhile p).length = l.takeWhile p ∧ l.drop (l.takeWhile p).length = l.dropWhile p := by
 induction l with
 | nil => simp
 | cons x l ih =>
   by_cases h : p x = true
   · rw [List.takeWhile_cons_of_pos h, List.dropWhile_cons_of_pos h]; simpa using ih
   · rw [List.takeWhile_cons_of_neg h, List.dropWhile_cons_of_neg h]; simp
theorem tw_word (l : List UInt8) : ∀ j, j < (l.takeWhile wordC).length → wordB (sgi (ba l) (j : Int)) = true := by
 intro j hj
 have hl : (l.takeWhile wordC).length ≤ l.length := (List.takeWhile_prefix wordC).length_le
 rw [sgi_ba l j (by omega)]
 have h1 := List.getElem_mem hj
 have h2 : (l.takeWhile wordC)[j] = l[j] := by
   have := (List.takeWhile_prefix (p := wordC) (l := l))
   exact this.getElem hj
 have h3 : wordC (l.takeWhile wordC)[j] = true := by
   have : ∀ (l : List UInt8), ∀ x ∈ l.takeWhile wordC, wordC x = true := by
     intro l
     induction l with
     | nil => intro x hx; cases hx
     | cons y l ih =>
       intro x hx
       by_cases hy : wordC y = true
       · rw [List.takeWhile_cons_of_pos hy] at hx
         rcases List.mem_cons.1 hx with e | hx
         · rw [e]; exact hy
         · exact ih x hx
       · rw [List.takeWhile_cons_of_neg hy] at hx; cases hx
   exact this l _ h1
 rw [h2] at h3; exact h3
theorem tw_stop (l : List UInt8) (h : (l.takeWhile wordC).length < l.length) : wordB (sgi (ba l) (((l.takeWhile wordC).length : Nat) : Int)) = false := by
 rw [sgi_ba l _ h]
 induction l with
 | nil => simp at h
 | cons y l ih =>
   by_cases hy : wordC y = true
   · simp only [List.takeWhile_cons_of_pos hy, List.length_cons] at h ⊢
     rw [List.getElem_cons_succ]
     exact ih (by omega)
   · simp only [List.takeWhile_cons_of_neg hy, List.length_nil]
     rw [List.getElem_cons_zero]
     simpa using hy
theorem nsplit_ok (line : ByteArray) (Q : (List ByteArray) → Prop) (hp0 : line.size ≤ 1000000) (h : Q (wordsL line)) : nsplit_vc line Q := by
 refine lfp2 _ (fun (out : List ByteArray) (s : ByteArray) => out ++ wordsL s = wordsL line ∧ out.length + s.size ≤ line.size) (fun (_ : List ByteArray) (s : ByteArray) => s.size) (fun out s hs again hag => ?_) ⟨rfl, by simp⟩
 obtain ⟨h1, h2⟩ := hs
 obtain ⟨l, rfl⟩ : ∃ l, s = ba l := ⟨s.data.toList, (ba_of s).symm⟩
 rw [ba_size] at h2
 refine ⟨fun hne => ?_, fun he => ?_⟩
 · rcases l with _ | ⟨x, r⟩
   · exact absurd rfl hne
   simp only [List.length_cons] at h2
   have hsz : (ba (x :: r)).size = r.length + 1 := by rw [ba_size]; simp
   have e0 : sgi (ba (x :: r)) 0 = (x.toNat : Int) := sgi_ba (x :: r) 0 (by simp)
   have tail : ∀ k : Nat, 1 ≤ k → k ≤ r.length + 1 → ssub (ba (x :: r)) ((k : Nat) : Int) ((ba (x :: r)).size : Int) = ba ((x :: r).drop k) := by
     intro k _ hk
     rw [ssub_ba, hsz, Int.toNat_natCast, Int.toNat_natCast, List.take_of_length_le (by simp)]
   have front : ∀ k : Nat, k ≤ r.length + 1 → ssub (ba (x :: r)) 0 ((k : Nat) : Int) = ba ((x :: r).take k) := by
     intro k hk
     rw [ssub_ba, Int.toNat_natCast]; rfl
   have join : ∀ k : Nat, 1 ≤ k → k ≤ r.length + 1 → wordsL (ba (x :: r)) = ba ((x :: r).take k) :: wordsL (ba ((x :: r).drop k)) → nsplit_J1 out (ba (x :: r)) again (k : Int) := by
     intro k k1 k2 e
     refine ⟨⟨by omega, by omega, by omega⟩, ⟨by simp; omega, by simp; omega⟩, ⟨by omega, by omega, by omega⟩, ?_⟩
     rw [front k k2, tail k k1 k2]
     refine hag _ _ ⟨?_, ?_⟩ ?_
     · rw [← h1, e]; simp
     · rw [ba_size, List.length_append, List.length_drop]; simp; omega
     · rw [ba_size, hsz, List.length_drop]; simp; omega
   have w1 : blankF (x.toNat : Int) = false → wordC x = false → wordsL (ba (x :: r)) = ba [x] :: wordsL (ba r) := by
     intro a b
     rw [wordsL_ba, wordsL_ba, List.length_cons, wordsU, if_neg (by rw [a]; decide), if_neg (by rw [b]; decide)]; rfl
   refine ⟨by omega, fun hb => ⟨⟨by omega, by omega, by omega⟩, ?_⟩, fun hb => ⟨by omega, fun hw => ?_, fun hw => ?_⟩⟩
   · rw [show (1 : Int) = ((1 : Nat) : Int) from rfl, tail 1 (by omega) (by omega)]
     refine hag _ _ ⟨?_, ?_⟩ ?_
     · rw [← h1]
       congr 1
       rw [e0] at hb
       rw [wordsL_ba (x :: r), List.length_cons, wordsU, if_pos hb, wordsL_ba]; rfl
     · rw [ba_size]; simp; omega
     · rw [ba_size, hsz]; simp
   · rw [e0] at hb hw
     have hx : wordC x = true := hw
     have e1 : runeIx (fun (x0_ : Int) => stopB x0_) (ba (x :: r)) true = if ((x :: r).takeWhile wordC).length < (ba (x :: r)).size then ((((x :: r).takeWhile wordC).length : Nat) : Int) else -1 := by
       have hl : ((x :: r).takeWhile wordC).length ≤ (x :: r).length := (List.takeWhile_prefix wordC).length_le
       exact rune_word (ba (x :: r)) _ 0 _ (by omega) (by omega) (by rw [ba_size]; exact hl) (fun j _ hj => tw_word (x :: r) j hj) (fun hlt => tw_stop (x :: r) (by rw [ba_size] at hlt; exact hlt))
     have hk1 : 1 ≤ ((x :: r).takeWhile wordC).length := by rw [List.takeWhile_cons_of_pos hx]; simp
     have hk2 : ((x :: r).takeWhile wordC).length ≤ r.length + 1 := (List.takeWhile_prefix wordC).length_le
     have ew : wordsL (ba (x :: r)) = ba ((x :: r).take ((x :: r).takeWhile wordC).length) :: wordsL (ba ((x :: r).drop ((x :: r).takeWhile wordC).length)) := by
       have hd := drop_len wordC r
       rw [(take_drop_while wordC (x :: r)).1, (take_drop_while wordC (x :: r)).2, List.takeWhile_cons_of_pos hx, List.dropWhile_cons_of_pos hx, wordsL_ba, wordsL_ba, List.length_cons, wordsU, if_neg (by rw [hb]; decide), if_pos hx, words_fuel r.length _ (r.dropWhile wordC) (by omega) (Nat.le_refl _)]
       rfl
     refine ⟨fun _ => trivial, fun hn => ?_, fun hn => ?_⟩
     · rw [e1] at hn
       have : ((x :: r).takeWhile wordC).length = r.length + 1 := by
         split at hn
         · omega
         · omega
       rw [hsz, ← this]
       exact join _ hk1 hk2 ew
     · rw [e1] at hn ⊢
       split at hn
       · next hlt => rw [if_pos hlt]; exact join _ hk1 hk2 ew
       · omega
   · rw [e0] at hb hw
     exact join 1 (by omega) (by omega) (by rw [w1 hb hw]; rfl)
 · have : l = [] := by
     cases l with
     | nil => rfl
     | cons x r =>
       have h0 : (x :: r).length = 0 := by rw [← ba_size, he]; rfl
       simp at h0
   subst this
   have e : wordsL (ba []) = [] := rfl
   rw [e, List.append_nil] at h1
   rw [h1]; exact h
theorem words_pos : ∀ (n : Nat) (l : List UInt8), ∀ p ∈ wordsU n l, 0 < p.length ∧ p.length ≤ l.length
 | 0, l, p, h => by cases h
 | n + 1, [], p, h => by cases h
 | n + 1, x :: r, p, h => by
   unfold wordsU at h
   split at h
   · have := words_pos n r p h; simp; omega
   · split at h
     · rcases List.mem_cons.1 h with e | h
       · subst e
         have hl : (r.takeWhile wordC).length ≤ r.length := (List.takeWhile_prefix wordC).length_le
         simp; omega
       · have := words_pos n _ p h
         have h1 := drop_len wordC r
         simp; omega
     · rcases List.mem_cons.1 h with e | h
       · subst e; simp
       · have := words_pos n r p h; simp; omega
theorem words_len : ∀ (n : Nat) (l : List UInt8), (wordsU n l).length ≤ l.length
 | 0, l => by simp [wordsU]
 | n + 1, [] => by simp [wordsU]
 | n + 1, x :: r => by
   have h1 := words_len n r; have h2 := words_len n (r.dropWhile wordC); have h3 := drop_len wordC r
   unfold wordsU
   split
   · simp; omega
   · split <;> simp <;> omega
theorem wordsL_len (s : ByteArray) : (wordsL s).length ≤ s.size := by
 unfold wordsL; rw [List.length_map]; exact words_len _ _
theorem wordsL_pos (s : ByteArray) : ∀ w ∈ wordsL s, 0 < w.size ∧ w.size ≤ s.size := by
 intro w hw
 obtain ⟨l, hl, rfl⟩ := List.mem_map.1 hw
 exact (words_pos _ _ l hl).imp (fun a => by rw [show (⟨l.toArray⟩ : ByteArray).size = l.length from ba_size l]; exact a) (fun a => by rw [show (⟨l.toArray⟩ : ByteArray).size = l.length from ba_size l]; exact a)
theorem note_ge (l : List ByteArray) : noteF l ≤ 9223372036854775807 ∧ -1 ≤ noteF l ∨ noteF l < -1 ∧ -9223372036854775808 ≤ noteF l := by
 unfold noteF
 split
 · split
   · next n hn =>
     split
     · have hb : (-9223372036854775808 : Int) ≤ n ∧ n ≤ 9223372036854775807 := by
         unfold atoiO at hn
         split at hn
         · next v hv => cases hn; exact Lib.atoiAll_bounds hv
         · cases hn
       omega
     · left; omega
   · left; omega
 · left; omega
theorem split_sum (c : UInt8) : ∀ l : List UInt8, ((splitL c l).map (·.length)).sum + (splitL c l).length = l.length + 1
 | [] => rfl
 | b :: l => by
   have ih := split_sum c l
   unfold splitL
   by_cases hb : b = c
   · rw [if_pos hb]; simp only [List.map_cons, List.sum_cons, List.length_cons, List.length_nil]; omega
   · rw [if_neg hb]
     cases hs : splitL c l with
     | nil => exact absurd hs (split_ne l)
     | cons p r => rw [hs] at ih; simp only [List.map_cons, List.sum_cons, List.length_cons] at ih ⊢; omega
def sumW : List ByteArray → Nat
 | [] => 0
 | s :: l => s.size + sumW l
theorem sumW_eq (l : List (List UInt8)) : sumW (l.map ba) = (l.map (·.length)).sum := by
 induction l with
 | nil => rfl
 | cons p l ih => simp only [List.map_cons, sumW, List.sum_cons, ih, ba_size]
theorem sum_split (data : ByteArray) : sumW (splitF data nlS) ≤ data.size := by
 have h := split_sum 10 data.data.toList
 have e : splitF data nlS = (splitL 10 data.data.toList).map ba := rfl
 have hl : 0 < (splitL 10 data.data.toList).length := List.length_pos_iff.2 (split_ne _)
 rw [e, sumW_eq]
 have : data.data.toList.length = data.size := rfl
 omega
theorem nwords_ok (path : ByteArray) (data : ByteArray) (names : Bool) (numbers : Bool) (Q : Text × Int → Prop) (hq : path.size ≤ 1000000) (hp0 : data.size ≤ 1000000) (h : Q (normF path data names numbers)) : nwords_vc path data names numbers Q := by
 unfold normF at h
 simp only [nlS] at h
 refine ⟨hq, fun k => by rw [if_neg k] at h; exact h, fun k => ⟨fun _ => rfl, fun hb => ?_, fun hb => ⟨hp0, rfl, ?_⟩⟩⟩
 · rw [if_pos k, if_pos (by unfold bigT; simpa using hb)] at h; exact h
 rw [if_pos k, if_neg (by unfold bigT; simp only [Bool.or_eq_true, decide_eq_true_eq, not_or]; exact hb)] at h
 have hsum : sumW (splitF data (⟨#[10]⟩ : ByteArray)) ≤ data.size := sum_split data
 refine ⟨fun s => 0 ≤ s.2 ∧ s.2 ≤ ((splitF data (⟨#[10]⟩ : ByteArray)).length : Int) ∧ s.1.1 ++ normL names numbers s.1.2.1 s.1.2.2 ((splitF data (⟨#[10]⟩ : ByteArray)).drop s.2.toNat) = normL names numbers 0 0 (splitF data (⟨#[10]⟩ : ByteArray)) ∧ s.1.1.length + sumW ((splitF data (⟨#[10]⟩ : ByteArray)).drop s.2.toNat) ≤ data.size ∧ (0 ≤ s.1.2.2 ∧ s.1.2.2 ≤ s.2) ∧ (0 ≤ s.1.2.1 ∧ s.1.2.1 ≤ 9223372036854775807), ⟨by simp, by simp, rfl, by simpa using hsum, by simp, by simp⟩, ?_⟩
 rintro ⟨⟨xs, skip, at_⟩, ix⟩ ⟨h0, h1, h2, h3, h4, h5⟩
 simp only at h0 h1 h2 h3 h4 h5
 show nwords_L1 path data names numbers Q _ xs skip at_ ix
 have hlen : ((splitF data (⟨#[10]⟩ : ByteArray)).length : Int) ≤ 1000001 := by have : (splitF data (⟨#[10]⟩ : ByteArray)).length ≤ data.size + 1 := splitF_len data 10; omega
 refine ⟨fun hlt => ?_, fun hn => ?_⟩
 · have hm := gi_mem (l := splitF data (⟨#[10]⟩ : ByteArray)) (i := ix) hlt
   have hz : (gi (splitF data (⟨#[10]⟩ : ByteArray)) ix).size ≤ data.size := splitF_size data 10 _ hm
   have hwl := wordsL_len (gi (splitF data (⟨#[10]⟩ : ByteArray)) ix)
   have hnote := note_ge (wordsL (gi (splitF data (⟨#[10]⟩ : ByteArray)) ix))
   rw [drop_gi (by omega), normL] at h2
   rw [drop_gi (by omega), sumW] at h3
   refine ⟨by omega, by omega, fun k1 => ⟨by omega, by omega, ?_⟩, fun k1 => ⟨fun k2 => ⟨by omega, ?_⟩, fun k2 => ?_⟩⟩
   · rw [if_pos k1] at h2
     exact ⟨by simp only; omega, by simp only; omega, h2, by simp only; omega, by simp only; omega, by simp only; omega⟩
   · rw [if_neg k1, if_pos k2] at h2
     exact ⟨by simp only; omega, by simp only; omega, h2, by simp only; omega, by simp only; omega, by simp only; omega⟩
   · rw [if_neg k1, if_neg k2] at h2
     refine lfp2 _ (fun (ys : List Lexeme) (x : Int) => 0 ≤ x ∧ x ≤ ((wordsL (gi (splitF data (⟨#[10]⟩ : ByteArray)) ix)).length : Int) ∧ ys ++ ((wordsL (gi (splitF data (⟨#[10]⟩ : ByteArray)) ix)).drop x.toNat).map (fun w => (⟨classF w names numbers, at_⟩ : Lexeme)) = xs ++ (wordsL (gi (splitF data (⟨#[10]⟩ : ByteArray)) ix)).map (fun w => (⟨classF w names numbers, at_⟩ : Lexeme)) ∧ (ys.length : Int) = xs.length + x) (fun (_ : List Lexeme) (x : Int) => ((wordsL (gi (splitF data (⟨#[10]⟩ : ByteArray)) ix)).length - x).toNat) (fun ys x hs again hag => ?_) ⟨by omega, by omega, rfl, by omega⟩
     obtain ⟨g0, g1, g2, g3⟩ := hs
     refine ⟨fun hx => ⟨by omega, (wordsL_pos _ _ (gi_mem (by omega))).1, ⟨by simp; omega, by simp; omega⟩, by omega, hag _ _ ⟨by omega, by omega, ?_, ?_⟩ (by omega)⟩, fun hx => ⟨by omega, ?_⟩⟩
     · rw [← g2, drop_gi (l := wordsL (gi (splitF data (⟨#[10]⟩ : ByteArray)) ix)) (x := x) (by omega)]; simp
     · simp; omega
     · rw [drop_end hx, List.map_nil, List.append_nil] at g2
       refine ⟨by simp only; omega, by simp only; omega, ?_, ?_, by simp only; omega, by simp only; omega⟩
       · simp only
         rw [← h2, g2, List.append_assoc]
       · simp only
         rw [g2, List.length_append, List.length_map]
         omega
 · have e : ix = ((splitF data (⟨#[10]⟩ : ByteArray)).length : Int) := by omega
   subst e
   rw [Int.toNat_natCast, List.drop_length, normL, List.append_nil] at h2
   rw [h2]
   exact ⟨fun k1 => by rw [if_pos k1] at h; exact h, fun k1 => by rw [if_neg k1] at h; exact h⟩
theorem twords_ok (s_ : ByteArray) (Q : (List Lexeme) → Prop) (hp0 : s_.size ≤ 1000000) (h : Q (lexL s_)) : twords_vc s_ Q := by
 have hT := (linesT_len s_).1
 refine ⟨hp0, ?_⟩
 refine lfp2 _ (fun (out : List Lexeme) (x : Int) => 0 ≤ x ∧ x ≤ ((zaf s_).1.length : Int) ∧ out = (List.range x.toNat).map fun (i : Nat) => (⟨gi (zaf s_).1 i, i⟩ : Lexeme)) (fun (_ : List Lexeme) (x : Int) => ((zaf s_).1.length - x).toNat) (fun out x hs again hag => ?_) ⟨by omega, by omega, rfl⟩
 obtain ⟨h0, h1, h2⟩ := hs
 have hl : out.length = x.toNat := by rw [h2]; simp
 refine ⟨fun hlt => ⟨by omega, ⟨by simp; omega, by simp; omega⟩, by omega, hag _ _ ⟨by omega, by omega, ?_⟩ (by omega)⟩, fun hn => ?_⟩
 · rw [h2, show (x + 1).toNat = x.toNat + 1 by omega, List.range_succ, List.map_append]
   have : ((x.toNat : Nat) : Int) = x := by omega
   simp [this]
 · have : x.toNat = (zaf s_).1.length := by omega
   rw [this] at h2
   rw [h2]; exact h
end Go.Lic
