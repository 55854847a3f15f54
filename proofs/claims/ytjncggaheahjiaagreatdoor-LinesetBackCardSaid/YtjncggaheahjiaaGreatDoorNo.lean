/-
  Texts of sets of lines: the conditions hold. No program in sight.
-/
import Derived.Test.YtjncggaheahjiaaGreatDoorNv
import Derived.Test.YtjncggaheahjiaaGreatDoorLw
set_option linter.all false
namespace Go.Lic
open Go.Proofs Go.Sort Go.Shelf
theorem sep_one {sep : ByteArray} (h : sep.size = 1) : ∃ c, sep = ⟨#[c]⟩ := by
 obtain ⟨⟨l⟩⟩ := sep
 match l, h with
 | [c], _ => exact ⟨c, rfl⟩
theorem ix_none : ∀ {l : List UInt8} {c : UInt8}, l.count c = 0 → Lib.indexByte l c = -1
 | [], c, _ => rfl
 | b :: l, c, h => by
   have hb : b ≠ c := by
     rintro rfl
     rw [List.count_cons_self] at h; omega
   rw [List.count_cons_of_ne hb] at h
   have h3 : (b == c) = false := by simpa using hb
   rw [Lib.indexByte, h3, ix_none h]; rfl
theorem ix_cases (l : List UInt8) (c : UInt8) : (∃ p r, l = p ++ c :: r ∧ (∀ x ∈ p, x ≠ c) ∧ indexF (ba l) ⟨#[c]⟩ = p.length) ∨ ((∀ x ∈ l, x ≠ c) ∧ indexF (ba l) ⟨#[c]⟩ = -1) := by
 by_cases h : 0 < l.count c
 · obtain ⟨p, r, h1, h2, h3⟩ := count_split h
   exact .inl ⟨p, r, h1, h2, h3⟩
 · have h2 : Lib.indexByte l c = -1 := ix_none (by omega)
   exact .inr ⟨fun x hx e => h (List.count_pos_iff.2 (e ▸ hx)), h2⟩
theorem cut_some {p r : List UInt8} {c : UInt8} (h : ∀ x ∈ p, x ≠ c) (hi : indexF (ba (p ++ c :: r)) ⟨#[c]⟩ = p.length) : scutF (ba (p ++ c :: r)) ⟨#[c]⟩ = (ba p, ba r, true) := by
 unfold scutF
 rw [if_pos (by omega), hi, ssub_ba, ssub_ba]
 have e1 : ((⟨#[c]⟩ : ByteArray).size : Int) = 1 := rfl
 rw [e1, ba_size]
 congr 2
 · simp
 · congr 1
   rw [show (((p ++ c :: r).length : Nat) : Int).toNat = (p ++ c :: r).length by omega, List.take_length, show ((p.length : Int) + 1).toNat = p.length + 1 by omega]
   simp
theorem cut_none {l : List UInt8} {c : UInt8} (hi : indexF (ba l) ⟨#[c]⟩ = -1) : scutF (ba l) ⟨#[c]⟩ = (ba l, ⟨#[]⟩, false) := by
 unfold scutF; rw [if_neg (by omega)]
theorem lcut_ok (s_ : ByteArray) (sep : ByteArray) (Q : ByteArray × ByteArray × Bool → Prop) (hp0 : s_.size ≤ 1000000) (hp1 : sep.size = 1) (h : Q (scutF s_ sep)) : lcut_vc s_ sep Q := by
 obtain ⟨c, rfl⟩ := sep_one hp1
 unfold scutF at h
 have hix := ix_cases s_.data.toList c
 rw [ba_of] at hix
 have hsz := size_list s_
 have e1 : (⟨#[c]⟩ : ByteArray).size = 1 := rfl
 refine ⟨rfl, fun hg => ?_, fun hn => by rw [if_neg (by omega)] at h; exact h⟩
 rw [if_pos (by omega)] at h
 rcases hix with ⟨p, r, h1, _, h2⟩ | ⟨_, h2⟩
 · have hl : s_.size = p.length + (r.length + 1) := by rw [hsz, h1]; simp
   rw [e1, h2]
   rw [e1, h2] at h
   exact ⟨by omega, by omega, by omega, h⟩
 · omega
theorem scut_ok (s_ : ByteArray) (sep : ByteArray) (Q : ByteArray × ByteArray × Bool → Prop) (hp0 : s_.size ≤ 1000000) (hp1 : sep.size = 1) (h : Q (scutF s_ sep)) : scut_vc s_ sep Q := ⟨hp0, hp1, h⟩
theorem lspan_ok (line : ByteArray) (before : (List Span)) (Q : Span × Int → Prop) (hp0 : line.size ≤ 1000000) (hp1 : before.length ≤ 1000000) (h : Q (spanF line before)) : lspan_vc line before Q := by
 unfold spanF codeS spanN at h
 have hz := splitF_size line 32
 unfold lspan_vc
 generalize splitF line (⟨#[32]⟩ : ByteArray) = w at h hz ⊢
 have hg : ∀ i : Int, inL i w.length → (gi w i).size ≤ 1000000 := fun i hi => Nat.le_trans (hz _ (gi_mem hi)) hp0
 refine ⟨hp0, rfl, fun hn => by rw [if_neg (by omega)] at h; exact h, fun h3 => ?_⟩
 rw [if_pos (by omega)] at h
 refine ⟨by omega, by omega, hg 1 (by omega), by omega, hg 2 (by omega), fun hb => ?_, fun hn => ⟨hg 0 (by omega), fun hb => ?_, fun hp => ⟨fun hb => ?_, fun hi => ⟨fun hl => by omega, fun hb => ?_, fun hok => ?_⟩⟩⟩⟩
 · rw [if_pos hb] at h; exact h
 · rw [if_neg (by simp only; omega), if_pos hb] at h; exact h
 · rw [if_neg (by simp only; omega), if_neg (by simpa using hp), if_pos hb] at h; exact h
 · rw [if_neg (by simp only; omega), if_neg (by simpa using hp), if_neg (by rw [hi]; simp), if_pos ⟨by omega, hb.2⟩] at h; exact h
 · rw [if_neg (by simp only; omega), if_neg (by simpa using hp), if_neg (by rw [hi]; simp), if_neg] at h
   · exact h
   · rintro ⟨k1, k2⟩
     rcases hok with k | k
     · omega
     · unfold lastD at k2; rw [k2] at k; cases k
theorem parse_last {i : Int} {out : List Span} {l : ByteArray} : parseL i out [l] = if l.size = 0 then (out, -1, 0) else ([], i, 4) := rfl
theorem parse_more {i : Int} {out : List Span} {l : ByteArray} {r : List ByteArray} (h : r ≠ []) : parseL i out (l :: r) = if (spanF l out).2 = 0 then parseL (i + 1) (out ++ [(spanF l out).1]) r else ([], i, (spanF l out).2) := by
 cases r with
 | nil => exact absurd rfl h
 | cons m r => rfl
theorem splits_ne (s : ByteArray) (c : UInt8) : splitF s ⟨#[c]⟩ ≠ [] := by
 show (splitL c s.data.toList).map ba ≠ []
 intro e
 exact split_ne _ (List.map_eq_nil_iff.1 e)
theorem splits_at {p r : List UInt8} {c : UInt8} (h : ∀ x ∈ p, x ≠ c) : splitF (ba (p ++ c :: r)) ⟨#[c]⟩ = ba p :: splitF (ba r) ⟨#[c]⟩ := by
 rw [splitF_ba, split_at h, splitF_ba]; rfl
theorem splits_none {l : List UInt8} {c : UInt8} (h : ∀ x ∈ l, x ≠ c) : splitF (ba l) ⟨#[c]⟩ = [ba l] := by
 rw [splitF_ba, split_none h]; rfl
theorem lparse_ok (s_ : ByteArray) (Q : (List Span) × Int × Int → Prop) (hp0 : s_.size ≤ 1000000) (h : Q (parseF s_)) : lparse_vc s_ Q := by
 refine lfp3 (lparse_L1 Q) (fun out s i => 0 ≤ i ∧ i + s.size ≤ s_.size ∧ (out.length : Int) = i ∧ parseF s_ = parseL i out (splitF s ⟨#[10]⟩)) (fun _ s _ => s.size) (fun out s i hst again hag => ?_) ⟨by omega, by omega, rfl, rfl⟩
 obtain ⟨h0, h1, h2, h3⟩ := hst
 rw [h3] at h
 have e1 : (⟨#[10]⟩ : ByteArray).size = 1 := rfl
 refine ⟨fun hne => ⟨by omega, rfl, ?_⟩, fun he => ?_⟩
 · rw [empty_iff] at hne
   have hix := ix_cases s.data.toList 10
   rw [← ba_of s]
   rcases hix with ⟨p, r, e, hp, hi⟩ | ⟨hn, hi⟩
   · rw [← ba_of s, e, splits_at hp, parse_more (splits_ne _ _)] at h
     have hsz : s.size = p.length + (r.length + 1) := by rw [size_list, e]; simp
     rw [e] at hi ⊢
     rw [cut_some hp hi]
     refine ⟨nofun, fun _ => ⟨by rw [ba_size]; omega, by omega, fun hb => ?_, fun hz => ⟨⟨?_, ?_⟩, by omega, hag _ _ _ ⟨by omega, by rw [ba_size]; omega, by simp only [List.length_append, List.length_singleton]; omega, ?_⟩ (by rw [ba_size]; omega)⟩⟩⟩
     · rw [if_neg hb] at h; exact h
     · simp only [List.length_singleton]; omega
     · simp only [List.length_singleton]; omega
     · rw [h3, ← ba_of s, e, splits_at hp, parse_more (splits_ne _ _), if_pos hz]
   · rw [← ba_of s, splits_none hn, parse_last, if_neg (by rw [ba_of]; exact hne)] at h
     rw [cut_none hi]
     exact ⟨fun _ => h, nofun⟩
 · subst he
   have : splitF (⟨#[]⟩ : ByteArray) ⟨#[10]⟩ = [⟨#[]⟩] := rfl
   rw [this, parse_last, if_pos (show (⟨#[]⟩ : ByteArray).size = 0 from rfl)] at h
   exact h
end Go.Lic
