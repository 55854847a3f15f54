/-
  Texts of sets of lines: numbers, lines, whole texts: the conditions hold. No program in sight.
-/
import Derived.Test.YtjncggaheahjiaaGreatDoorNo
set_option linter.all false
namespace Go.Lic
open Go.Proofs Go.Sort Go.Shelf
theorem atoi_itoa2 : ∀ a b : Fin 100, Lib.atoiAll (Lib.itoa ((100 * a.val + b.val : Nat) : Int)) = .ok ((100 * a.val + b.val : Nat) : Int) ∧ (Lib.itoa ((100 * a.val + b.val : Nat) : Int)).length ≤ 4 := by decide +kernel
theorem atoi_itoa {n : Nat} (h : n < 10000) : Lib.atoiAll (Lib.itoa (n : Int)) = .ok (n : Int) ∧ (Lib.itoa (n : Int)).length ≤ 4 := by
 have := atoi_itoa2 ⟨n / 100, by omega⟩ ⟨n % 100, by omega⟩
 simp only at this
 rwa [show 100 * (n / 100) + n % 100 = n by omega] at this
theorem itoa_digs2 : ∀ a b : Fin 100, numR (itoaF ((100 * a.val + b.val : Nat) : Int)) 4 = (((100 * a.val + b.val : Nat) : Int), true) := by decide +kernel
theorem itoa_digs {n : Nat} (h : n < 10000) : numR (itoaF (n : Int)) 4 = ((n : Int), true) := by
 have := itoa_digs2 ⟨n / 100, by omega⟩ ⟨n % 100, by omega⟩
 simp only at this
 rwa [show 100 * (n / 100) + n % 100 = n by omega] at this
theorem digs1 : ∀ a : Fin 10, itoaF ((a.val : Nat) : Int) = ⟨#[UInt8.ofNat (48 + a.val)]⟩ := by decide +kernel
theorem dec_snoc {f d : Nat} (hf : 1 ≤ f) (hd : d < 10) : itoaF ((10 * f + d : Nat) : Int) = ⟨((Lib.itoa (f : Int)) ++ [UInt8.ofNat (48 + d)]).toArray⟩ := by
 have e : ∀ n : Nat, Lib.itoa (n : Int) = Lib.decDigits n := fun n => by unfold Lib.itoa; rw [if_neg (by omega)]; simp
 unfold itoaF
 rw [e, e, Lib.decDigits, dif_neg (by omega), show (10 * f + d) / 10 = f by omega, show (10 * f + d) % 10 = d by omega]
theorem digs2 (a b : Fin 10) (h : a.val ≠ 0) : itoaF ((10 * a.val + b.val : Nat) : Int) = ⟨#[UInt8.ofNat (48 + a.val), UInt8.ofNat (48 + b.val)]⟩ := by
 rw [dec_snoc (by omega) b.isLt]
 have h1 : Lib.itoa ((a.val : Nat) : Int) = [UInt8.ofNat (48 + a.val)] := congrArg (fun s : ByteArray => s.data.toList) (digs1 a)
 rw [h1]; rfl
theorem digs3 (a b c : Fin 10) (h : a.val ≠ 0) : itoaF ((100 * a.val + 10 * b.val + c.val : Nat) : Int) = ⟨#[UInt8.ofNat (48 + a.val), UInt8.ofNat (48 + b.val), UInt8.ofNat (48 + c.val)]⟩ := by
 rw [show 100 * a.val + 10 * b.val + c.val = 10 * (10 * a.val + b.val) + c.val by omega, dec_snoc (by omega) c.isLt]
 have h1 : Lib.itoa ((10 * a.val + b.val : Nat) : Int) = [UInt8.ofNat (48 + a.val), UInt8.ofNat (48 + b.val)] := congrArg (fun s : ByteArray => s.data.toList) (digs2 a b h)
 rw [h1]; rfl
theorem digs4 (a b c d : Fin 10) (h : a.val ≠ 0) : itoaF ((1000 * a.val + 100 * b.val + 10 * c.val + d.val : Nat) : Int) = ⟨#[UInt8.ofNat (48 + a.val), UInt8.ofNat (48 + b.val), UInt8.ofNat (48 + c.val), UInt8.ofNat (48 + d.val)]⟩ := by
 rw [show 1000 * a.val + 100 * b.val + 10 * c.val + d.val = 10 * (100 * a.val + 10 * b.val + c.val) + d.val by omega, dec_snoc (by omega) d.isLt]
 have h1 : Lib.itoa ((100 * a.val + 10 * b.val + c.val : Nat) : Int) = [UInt8.ofNat (48 + a.val), UInt8.ofNat (48 + b.val), UInt8.ofNat (48 + c.val)] := congrArg (fun s : ByteArray => s.data.toList) (digs3 a b c h)
 rw [h1]; rfl
theorem dig_of {x : UInt8} (h : digB (x.toNat : Int) = true) : ∃ a : Fin 10, x = UInt8.ofNat (48 + a.val) ∧ (x.toNat : Int) - 48 = (a.val : Int) := by
 unfold digB at h
 simp only [Bool.and_eq_true, decide_eq_true_eq] at h
 refine ⟨⟨x.toNat - 48, by omega⟩, ?_, by simp only; omega⟩
 simp only
 rw [show 48 + (x.toNat - 48) = x.toNat by omega]
 simp
theorem numR_canon {s : ByteArray} (h : (numR s 4).2 = true) : ∃ n : Nat, n < 10000 ∧ s = itoaF (n : Int) ∧ (numR s 4).1 = n := by
 have key : ∃ n : Nat, n < 10000 ∧ s = itoaF (n : Int) := by
   unfold numR at h
   split at h
   · cases h
   · next h1 =>
     split at h
     · next h2 =>
       obtain ⟨⟨l⟩⟩ := s
       have h1 : ¬ ((l.length : Int) < 1 ∨ (4 : Int) < l.length ∨ ((1 : Int) < l.length ∧ sgi ⟨⟨l⟩⟩ 0 = 48)) := h1
       have hd : ∀ x ∈ l, digB (x.toNat : Int) = true := fun x hx => by
         have := List.all_eq_true.1 h2
         exact this _ (List.mem_map.2 ⟨x, hx, rfl⟩)
       have hz : ∀ {x : UInt8} {a : Fin 10}, x = UInt8.ofNat (48 + a.val) → x.toNat ≠ 48 → a.val ≠ 0 := fun {x a} e hne h0 => hne (by rw [e, h0]; rfl)
       match l, h1, hd with
       | [], h1, _ => simp at h1
       | [x], h1, hd =>
         obtain ⟨a, ea, _⟩ := dig_of (hd x (by simp))
         exact ⟨a.val, by omega, by rw [digs1, ← ea]⟩
       | [x, y], h1, hd =>
         obtain ⟨a, ea, _⟩ := dig_of (hd x (by simp))
         obtain ⟨b, eb, _⟩ := dig_of (hd y (by simp))
         have h0 : x.toNat ≠ 48 := fun e => h1 (.inr (.inr ⟨by simp, by simp [sgi, e]⟩))
         exact ⟨10 * a.val + b.val, by omega, by rw [digs2 a b (hz ea h0), ← ea, ← eb]⟩
       | [x, y, z], h1, hd =>
         obtain ⟨a, ea, _⟩ := dig_of (hd x (by simp))
         obtain ⟨b, eb, _⟩ := dig_of (hd y (by simp))
         obtain ⟨c, ec, _⟩ := dig_of (hd z (by simp))
         have h0 : x.toNat ≠ 48 := fun e => h1 (.inr (.inr ⟨by simp only [List.length_cons, List.length_nil]; omega, by simp [sgi, e]⟩))
         exact ⟨100 * a.val + 10 * b.val + c.val, by omega, by rw [digs3 a b c (hz ea h0), ← ea, ← eb, ← ec]⟩
       | [x, y, z, u], h1, hd =>
         obtain ⟨a, ea, _⟩ := dig_of (hd x (by simp))
         obtain ⟨b, eb, _⟩ := dig_of (hd y (by simp))
         obtain ⟨c, ec, _⟩ := dig_of (hd z (by simp))
         obtain ⟨d, ed, _⟩ := dig_of (hd u (by simp))
         have h0 : x.toNat ≠ 48 := fun e => h1 (.inr (.inr ⟨by simp only [List.length_cons, List.length_nil]; omega, by simp [sgi, e]⟩))
         exact ⟨1000 * a.val + 100 * b.val + 10 * c.val + d.val, by omega, by rw [digs4 a b c d (hz ea h0), ← ea, ← eb, ← ec, ← ed]⟩
       | x :: y :: z :: u :: v :: l, h1, _ => simp only [List.length_cons] at h1; omega
     · cases h
 obtain ⟨n, hn, rfl⟩ := key
 exact ⟨n, hn, rfl, by rw [itoa_digs hn]⟩
theorem numF_itoa {n : Nat} (h : n < 10000) : numF (itoaF (n : Int)) = n := by
 obtain ⟨h1, h2⟩ := atoi_itoa h
 have e : (itoaF (n : Int)).data.toList = Lib.itoa (n : Int) := rfl
 unfold numF
 rw [e, h1]
 simp only
 rw [if_pos ⟨by rw [size_list, e]; exact h2, trivial⟩]
theorem numF_canon {s : ByteArray} (h : 0 ≤ numF s) : ∃ n : Nat, n < 10000 ∧ s = itoaF (n : Int) ∧ numF s = n := by
 have key : s.size ≤ 4 ∧ itoaF (numF s) = s := by
   unfold numF at h ⊢
   split at h
   · next v hv =>
     split at h
     · next hc => rw [if_pos hc]; exact hc
     · omega
   · omega
 obtain ⟨n, hn⟩ : ∃ n : Nat, numF s = n := ⟨(numF s).toNat, by omega⟩
 rw [hn] at key
 refine ⟨n, ?_, key.2.symm, hn⟩
 have h4 : (Lib.itoa (n : Int)).length ≤ 4 := by
   have := key.1
   rw [← key.2, size_list] at this; exact this
 have hi : Lib.itoa (n : Int) = Lib.decDigits n := by unfold Lib.itoa; rw [if_neg (by omega)]; simp
 rw [hi, Lib.decDigits_length] at h4
 have := Lib.lt_pow_nDigits n
 have h5 : (10 : Nat) ^ Lib.nDigits n ≤ 10 ^ 4 := Nat.pow_le_pow_right (by omega) h4
 omega
theorem num_same (s : ByteArray) : ((numR s 4).2 = true ↔ 0 ≤ numF s) ∧ ((numR s 4).2 = true → (numR s 4).1 = numF s) := by
 refine ⟨⟨fun h => ?_, fun h => ?_⟩, fun h => ?_⟩
 · obtain ⟨n, hn, rfl, _⟩ := numR_canon h
   rw [numF_itoa hn]; omega
 · obtain ⟨n, hn, rfl, _⟩ := numF_canon h
   rw [itoa_digs hn]
 · obtain ⟨n, hn, rfl, e⟩ := numR_canon h
   rw [e, numF_itoa hn]
theorem rnumber_ok (s_ : ByteArray) (digits : Int) (Q : Int × Bool → Prop) (hp0 : s_.size ≤ 1000000) (hp1 : digits = (4 : Int)) (h : Q (numR s_ digits)) : rnumber_vc s_ digits Q := by
 subst hp1
 unfold numR at h
 have hl := sbytes_len s_
 have hg : ∀ i : Int, inL i s_.size → gi (sbytes s_) i = sgi s_ i ∧ 0 ≤ sgi s_ i ∧ sgi s_ i < 256 := fun i hi => by
   have e : gi (sbytes s_) i = ((s_.data.toList[i.toNat]'(by have := size_list s_; omega)).toNat : Int) := by
     rw [gi_lt (by rw [hl]; exact hi)]; simp [sbytes]
   have e2 : sgi s_ i = ((s_.data.toList[i.toNat]'(by have := size_list s_; omega)).toNat : Int) := by
     simp [sgi, List.getD, List.getElem?_eq_getElem (show i.toNat < s_.data.toList.length by have := size_list s_; omega)]
   refine ⟨e.trans e2.symm, ?_, ?_⟩
   · rw [e2]; omega
   · rw [e2]; have := (s_.data.toList[i.toNat]'(by have := size_list s_; omega)).toNat_lt; omega
 refine ⟨fun _ _ => by omega, fun hb => ?_, fun hn => ?_⟩
 · rw [if_pos (by omega)] at h; exact h
 rw [if_neg (by omega)] at h
 refine lfp2 (rnumber_L1 s_ Q) (fun n i => 0 ≤ i ∧ i ≤ s_.size ∧ 0 ≤ n ∧ n < 10 ^ i.toNat ∧ ((sbytes s_).take i.toNat).all digB = true ∧ n = ((sbytes s_).take i.toNat).foldl (fun n c => 10 * n + (c - 48)) 0) (fun _ i => (s_.size - i).toNat) (fun n i hst again hag => ?_) ⟨by omega, by omega, by omega, by simp, by simp, by simp⟩
 obtain ⟨h0, h1, h2, h3, h4, h5⟩ := hst
 have hp : (10 : Int) ^ i.toNat ≤ 10 ^ 4 := by
   have : (10 : Nat) ^ i.toNat ≤ 10 ^ 4 := Nat.pow_le_pow_right (by omega) (by omega)
   exact_mod_cast this
 unfold rnumber_L1
 refine ⟨fun hlt => ⟨by omega, fun hb => ?_, fun hd => ?_⟩, fun hn2 => ?_⟩
 · have hx := hg i (by omega)
   rw [if_neg] at h
   · exact h
   · rw [List.all_eq_true]
     intro hall
     have := hall (gi (sbytes s_) i) (gi_mem (by omega))
     rw [hx.1] at this
     unfold digB at this
     simp only [Bool.and_eq_true, decide_eq_true_eq] at this
     omega
 · have hx := hg i (by omega)
   have hw : IntKind.i64.wrap (IntKind.u8.wrap ((sgi s_ i) - 48)) = sgi s_ i - 48 := by
     have e1 : IntKind.u8.wrap ((sgi s_ i) - 48) = sgi s_ i - 48 := by
       unfold IntKind.wrap IntKind.bits
       simp only [IntKind.signed]
       have : (sgi s_ i - 48) % 256 = sgi s_ i - 48 := by omega
       simpa using this
     rw [e1, wrap_small (by omega)]
   have hnew : ((sbytes s_).take (i + 1).toNat) = (sbytes s_).take i.toNat ++ [sgi s_ i] := by
     rw [show (i + 1).toNat = i.toNat + 1 by omega, List.take_succ_eq_append_getElem (by omega), ← hx.1, gi_lt (by omega)]
   have hp1 : (10 : Int) ^ (i + 1).toNat = 10 ^ i.toNat * 10 := by rw [show (i + 1).toNat = i.toNat + 1 by omega, Int.pow_succ]
   have hdg : digB (sgi s_ i) = true := by unfold digB; simp only [Bool.and_eq_true, decide_eq_true_eq]; omega
   rw [hw]
   refine ⟨by omega, by omega, by omega, by omega, hag _ _ ⟨by omega, by omega, by omega, by omega, ?_, ?_⟩ (by omega)⟩
   · rw [hnew, List.all_append, h4]; simp [hdg]
   · rw [hnew, List.foldl_append, ← h5]; rfl
 · rw [List.take_of_length_le (by omega)] at h4 h5
   rw [if_pos h4, ← h5] at h
   exact h
theorem codeS_nil (s : Span) : codeS s [] = if s.from_ < 0 ∨ s.to < 0 then 4 else if pathF s.path ≠ 0 then 2 else if insideF s = false then 3 else 0 := by
 unfold codeS; simp
theorem codeS_more (s : Span) (out : List Span) : codeS s out = if codeS s [] = 0 then (if 0 < out.length ∧ behindF (lastD out) s = false then 5 else 0) else codeS s [] := by
 rw [codeS_nil]; unfold codeS
 split
 · simp
 · split
   · simp
   · split <;> simp
theorem oneF_code (l : ByteArray) : (oneF l).2 = (spanF l []).2 := by
 unfold oneF; split
 · rfl
 · rfl
theorem spanF_more (l : ByteArray) (out : List Span) : (spanF l out).1 = (spanF l []).1 ∧ (spanF l out).2 = if (spanF l []).2 = 0 then (if 0 < out.length ∧ behindF (lastD out) (spanF l []).1 = false then 5 else 0) else (spanF l []).2 := by
 unfold spanF
 split
 · exact ⟨rfl, codeS_more _ _⟩
 · simp
theorem rone_ok (s_ : ByteArray) (Q : Span × Int → Prop) (hp0 : s_.size ≤ 1000000) (h : Q (oneF s_)) : rone_vc s_ Q := by
 have hb : splitB s_ 32 = splitF s_ ⟨#[32]⟩ := rfl
 have hz := splitF_size s_ 32
 unfold oneF spanF spanN at h
 unfold rone_vc
 rw [hb]
 generalize splitF s_ (⟨#[32]⟩ : ByteArray) = w at h hz ⊢
 have hg : ∀ i : Int, inL i w.length → (gi w i).size ≤ 1000000 := fun i hi => Nat.le_trans (hz _ (gi_mem hi)) hp0
 have e0 : (Span.mk ByteArray.empty 0 0) = noSpan := rfl
 rw [e0]
 refine ⟨hp0, by omega, fun hn => ?_, fun h3 => ?_⟩
 · rw [if_neg (by rw [if_neg (by omega)]; simp)] at h
   rw [if_neg (by omega)] at h; exact h
 have h3' : w.length = 3 := by omega
 simp only [if_pos h3'] at h
 obtain ⟨a1, a2⟩ := num_same (gi w 1)
 obtain ⟨b1, b2⟩ := num_same (gi w 2)
 have hpath : pathF (gi w 0) = 0 ↔ pathB (gi w 0) = true := by unfold pathF; cases pathB (gi w 0) <;> simp
 refine ⟨by omega, hg 1 (by omega), rfl, by omega, hg 2 (by omega), rfl, fun hb => ?_, fun hn => ⟨by omega, hg 0 (by omega), fun hb => ?_, fun hp => ⟨by omega, hg 0 (by omega), fun hb => ?_, fun hok => ?_⟩⟩⟩
 · have e : codeS (Span.mk (gi w 0) (numF (gi w 1)) (numF (gi w 2))) [] = 4 := by
     rw [codeS_nil, if_pos]
     simp only
     rcases hb with hb | hb
     · left
       have : ¬ 0 ≤ numF (gi w 1) := fun k => by rw [a1.2 k] at hb; cases hb
       omega
     · right
       have : ¬ 0 ≤ numF (gi w 2) := fun k => by rw [b1.2 k] at hb; cases hb
       omega
   rw [e, if_neg (by omega)] at h; exact h
 all_goals
   have k1 := a1.1 hn.1
   have k2 := b1.1 hn.2
   have e1 := a2 hn.1
   have e2 := b2 hn.2
 · have e : codeS (Span.mk (gi w 0) (numF (gi w 1)) (numF (gi w 2))) [] = 2 := by
     rw [codeS_nil, if_neg (by simp only; omega), if_pos]
     simp only
     rw [ne_eq, hpath, hb]; simp
   rw [e, if_neg (by omega)] at h; exact h
 · rw [e1, e2] at hb
   have e : codeS (Span.mk (gi w 0) (numF (gi w 1)) (numF (gi w 2))) [] = 3 := by
     rw [codeS_nil, if_neg (by simp only; omega), if_neg (by simpa using hpath.2 hp), if_pos]
     unfold spanR at hb
     simp only [hp, Bool.true_and] at hb
     exact hb
   rw [e, if_neg (by omega)] at h; exact h
 · rw [e1, e2] at hok ⊢
   have e : codeS (Span.mk (gi w 0) (numF (gi w 1)) (numF (gi w 2))) [] = 0 := by
     rw [codeS_nil, if_neg (by simp only; omega), if_neg (by simpa using hpath.2 hp), if_neg]
     unfold spanR at hok
     simp only [hp, Bool.true_and] at hok
     rw [hok]; simp
   rw [e, if_pos rfl] at h; exact h
theorem rparse_ok (s_ : ByteArray) (Q : (List Span) × Int × Int → Prop) (hp0 : s_.size ≤ 1000000) (h : Q (parseF s_)) : rparse_vc s_ Q := by
 have hb : splitB s_ 10 = splitF s_ ⟨#[10]⟩ := rfl
 have hz := splitF_size s_ 10
 have hlen := splitF_len s_ 10
 have hne := splits_ne s_ 10
 unfold parseF at h
 unfold rparse_vc rparse_L1
 rw [hb]
 generalize splitF s_ (⟨#[10]⟩ : ByteArray) = w at h hz hlen hne ⊢
 refine ⟨hp0, by omega, ?_⟩
 have hpos : 0 < w.length := List.length_pos_iff.2 hne
 refine lfp_of (S := List Span × Int) (fun st => 0 ≤ st.2 ∧ st.2 < w.length ∧ (st.1.length : Int) = st.2 ∧ parseL 0 [] w = parseL st.2 st.1 (w.drop st.2.toNat)) (fun st => (w.length - st.2).toNat) (fun st hst again hag => ?_) ⟨by simp, by simp only; omega, rfl, by simp⟩
 obtain ⟨out, i⟩ := st
 obtain ⟨h0, h1, h2, h3⟩ := hst
 simp only at h0 h1 h2 h3 hag ⊢
 have hi : inL i w.length := ⟨h0, h1⟩
 rw [h3, drop_gi hi] at h
 refine ⟨fun _ => ⟨by omega, fun he => ⟨hi, ?_⟩, fun hn => ⟨hi, Nat.le_trans (hz _ (gi_mem hi)) hp0, ?_⟩⟩, fun hn => absurd h1 hn⟩
 · rw [drop_end (by omega), parse_last] at h
   rw [empty_iff]
   exact ⟨fun hz0 => by rw [if_pos hz0] at h; exact h, fun hz0 => by rw [if_neg hz0] at h; exact h⟩
 · have hd : w.drop (i + 1).toNat ≠ [] := by
     intro e
     have := List.drop_eq_nil_iff.1 e
     omega
   rw [parse_more hd] at h
   obtain ⟨s1, s2⟩ := spanF_more (gi w i) out
   have ho := oneF_code (gi w i)
   refine ⟨fun hb => ?_, fun hz0 => ?_⟩
   · rw [s2, if_neg (by rw [ho] at hb; rw [if_neg hb]; exact hb), if_neg (by rw [ho] at hb; exact hb), ← ho] at h
     exact h
   · have hz1 : (spanF (gi w i) []).2 = 0 := by rw [← ho]; exact hz0
     have he : (oneF (gi w i)).1 = (spanF (gi w i) []).1 := by unfold oneF; rw [if_pos hz1]
     rw [he]
     rw [s2, if_pos hz1, s1] at h
     refine ⟨fun hl => by omega, fun hb => ?_, fun hok => ⟨⟨?_, ?_⟩, by omega, hag _ ⟨by simp only; omega, by simp only; omega, by simp only [List.length_append, List.length_singleton]; omega, ?_⟩ (by simp only; omega)⟩⟩
     · have hc : 0 < out.length ∧ behindF (lastD out) (spanF (gi w i) []).1 = false := ⟨by omega, hb.2⟩
       rw [if_pos hc, if_neg (by omega)] at h
       exact h
     · simp only [List.length_singleton]; omega
     · simp only [List.length_singleton]; omega
     · have hc : ¬ (0 < out.length ∧ behindF (lastD out) (spanF (gi w i) []).1 = false) := by
         rintro ⟨k1, k2⟩
         rcases hok with k | k
         · omega
         · unfold lastD at k2; rw [k2] at k; cases k
       simp only
       rw [h3, drop_gi hi, parse_more hd, s2, if_pos hz1, if_neg hc, if_pos rfl, s1]
end Go.Lic
