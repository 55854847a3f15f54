/-
  The digest of a corpus, printed texts: conditions hold. No program in sight.
-/
import Derived.Test.YtkoomieafmjjfaaGreatDoorCy
import Derived.Test.YtkoomieafmjjfaaGreatDoorCw
import Derived.Test.YtkoomieafmjjfaaGreatDoorDo2
set_option linter.all false
namespace Go.Lic
open Go.Proofs Go.Sort Go.Shelf

theorem itoa_small : ∀ n : Fin 1025, (Lib.itoa (n.val : Int)).length ≤ 4 := by decide +kernel
theorem itoa_sz {n : Int} (h0 : 0 ≤ n) (h1 : n ≤ 1024) : (itoaF n).size ≤ 4 := by
  have := itoa_small ⟨n.toNat, by omega⟩
  simp only at this
  rw [show ((n.toNat : Nat) : Int) = n by omega] at this
  unfold itoaF
  rw [size_list]; exact this
/-! lists of bytes -/
abbrev bi (u : List UInt8) : List Int := u.map fun b => (b.toNat : Int)
theorem bi_app (u : List UInt8) (s : ByteArray) : bi u ++ sbytes s = bi (u ++ s.data.toList) := by unfold sbytes; rw [← List.map_append]
theorem bi_snoc (u : List UInt8) : bi (u ++ [10]) = bi u ++ [10] := by unfold bi; rw [List.map_append]; rfl
theorem bstr_bi (u : List UInt8) : bstr (bi u) = ba u := by
  unfold bstr ba
  congr 1
  simp [List.map_map, Function.comp_def]
theorem app_list (a b : ByteArray) : (a ++ b).data.toList = a.data.toList ++ b.data.toList := by rw [ByteArray.data_append, Array.toList_append]
theorem app_sz (a b : ByteArray) : (a ++ b).size = a.size + b.size := ByteArray.size_append

/-! printed texts -/
theorem words_line : ∀ {l : List Lexeme} {least : Int}, wordsF least l = true → ∀ w ∈ l, least ≤ w.line ∧ w.line < 1024
  | [], _, _, w, hw => by cases hw
  | x :: l, least, h, w, hw => by
    rw [wordsF, Bool.and_eq_true] at h
    obtain ⟨h1, h2⟩ := h
    unfold wordF at h1
    simp only [Bool.and_eq_true, decide_eq_true_eq] at h1
    rcases List.mem_cons.1 hw with rfl | hw
    · omega
    · have := words_line h2 w hw
      omega
theorem vwords_ok {t : Text} (h : validT t = true) : wordsF 0 t.words = true := by
  unfold validT at h
  rw [Bool.and_eq_true] at h
  exact h.2
def prevL (l : List Lexeme) (x : Int) : Option Int := if x = 0 then none else some (gi l (x - 1)).line
theorem prevL_succ (l : List Lexeme) {x : Int} (h : 0 ≤ x) : prevL l (x + 1) = some (gi l x).line := by
  unfold prevL
  rw [if_neg (by omega), show x + 1 - 1 = x by omega]
theorem textTx_cons (p : Option Int) (w : Lexeme) (l : List Lexeme) : textTx p (w :: l) = wordTx p w ++ textTx (some w.line) l := by cases p <;> rfl
theorem nprint_ok (t : Text) (Q : ByteArray × Int → Prop) (hp0 : okT t) (h : Q (printT t)) : nprint_vc t Q := by
  unfold printT at h
  refine ⟨hp0, fun hv => by rw [hv] at h; exact h, fun hv => ?_⟩
  rw [if_pos hv] at h
  have hw1 := words_line (vwords_ok hv)
  have hlen := hp0.2.1
  refine lfp2 (nprint_L1 t Q) (fun xs i => 0 ≤ i ∧ i ≤ t.words.length ∧ ∃ u, xs = bi u ∧ (u.length : Int) ≤ i * 1000100 ∧ u ++ textTx (prevL t.words i) (t.words.drop i.toNat) = textTx none t.words) (fun _ i => (t.words.length - i).toNat) (fun xs i hst again hag => ?_) ⟨by omega, by omega, [], rfl, by simp, by simp [prevL]⟩
  obtain ⟨h0, h1, u, rfl, h2, h4⟩ := hst
  have zu : (bi u).length = u.length := List.length_map _
  refine ⟨fun hlt => ?_, fun hn => ?_⟩
  · have hx : inL i t.words.length := by omega
    have hl := hw1 _ (gi_mem hx)
    have hz := hp0.2.2 _ (gi_mem hx)
    have hit := itoa_sz (n := (gi t.words i).line) hl.1 (by omega)
    have z32 : (⟨#[32]⟩ : ByteArray).size = 1 := rfl
    have z58 : (⟨#[58]⟩ : ByteArray).size = 1 := rfl
    have zt : (sbytes ((⟨#[32]⟩ : ByteArray) ++ (gi t.words i).text)).length = 1 + (gi t.words i).text.size := by rw [sbytes_len, app_sz, z32]
    have zi : (sbytes (itoaF (gi t.words i).line ++ (⟨#[58]⟩ : ByteArray))).length = (itoaF (gi t.words i).line).size + 1 := by rw [sbytes_len, app_sz, z58]
    rw [drop_gi hx, textTx_cons, ← prevL_succ t.words h0] at h4
    have A : ∀ pre : List UInt8, pre.length ≤ 10 → wordTx (prevL t.words i) (gi t.words i) = pre ++ (32 :: (gi t.words i).text.data.toList) → again (bi (u ++ pre) ++ sbytes ((⟨#[32]⟩ : ByteArray) ++ (gi t.words i).text), i + 1) := by
      intro pre hp he
      rw [bi_app, app_list]
      refine hag _ _ ⟨by omega, by omega, _, rfl, ?_, ?_⟩ (by omega)
      · simp only [List.length_append]
        rw [← size_list]
        simp only [List.length_cons, List.length_nil]
        omega
      · rw [← h4, he]
        simp
    have J1 : ∀ pre : List UInt8, pre.length ≤ 1 → wordTx (prevL t.words i) (gi t.words i) = (pre ++ (itoaF (gi t.words i).line).data.toList ++ [58]) ++ (32 :: (gi t.words i).text.data.toList) → nprint_J1 t i again (bi (u ++ pre)) := by
      intro pre hp he
      have zp : (bi (u ++ pre)).length = u.length + pre.length := by rw [List.length_map, List.length_append]
      refine ⟨by omega, by omega, by omega, by omega, by omega, ?_, by omega, ?_⟩
      · constructor <;> (simp only [List.length_append, zt, zi, zp]; omega)
      · show again ((bi (u ++ pre) ++ sbytes (itoaF (gi t.words i).line ++ (⟨#[58]⟩ : ByteArray))) ++ sbytes ((⟨#[32]⟩ : ByteArray) ++ (gi t.words i).text), i + 1)
        rw [bi_app, app_list, List.append_assoc, ← List.append_assoc pre]
        refine A _ ?_ he
        simp only [List.length_append]
        rw [← size_list]
        simp; omega
    refine ⟨hx, fun hne => by omega, fun hy => ⟨fun hi => ⟨?_, ?_⟩, fun hi => ?_⟩, fun hy => ⟨by omega, by omega, by omega, ?_⟩⟩
    · simp only [List.length_cons, List.length_nil]; omega
    · have hne : (gi t.words i).line ≠ (gi t.words (i - 1)).line := by
        rcases hy with hy | hy <;> omega
      have := J1 [10] (by simp) (by
        unfold prevL wordTx
        rw [if_neg (by omega)]
        simp only
        rw [if_neg hne]
        simp)
      rw [bi_snoc] at this
      exact this
    · have e : i = 0 := by omega
      have := J1 [] (by simp) (by subst e; simp [prevL, wordTx])
      rwa [List.append_nil] at this
    · have := A [] (by simp) (by
        unfold prevL wordTx
        rw [if_neg hy.1]
        simp only
        rw [if_pos hy.2])
      rwa [List.append_nil] at this
  · rw [drop_end hn] at h4
    by_cases hz : i = 0
    · have e : prevL t.words i = none := by unfold prevL; rw [if_pos hz]
      rw [e, textTx, List.append_nil] at h4
      subst h4
      refine ⟨fun hb => by omega, fun _ => ⟨by omega, ?_⟩⟩
      rw [bstr_bi]; exact h
    · have e : prevL t.words i = some (gi t.words (i - 1)).line := by unfold prevL; rw [if_neg hz]
      rw [e, textTx] at h4
      refine ⟨fun _ => ⟨by simp only [List.length_cons, List.length_nil]; omega, by rw [List.length_append]; simp only [List.length_cons, List.length_nil]; omega, ?_⟩, fun hb => by omega⟩
      have e2 : bi u ++ [10] = bi (u ++ [10]) := (bi_snoc u).symm
      rw [e2, bstr_bi, h4]; exact h

/-! the digest of a corpus -/
theorem idF_pos {c : Corpus} (h : checkF c = 0) : idF c = (sumF (ba (idL c)), 0) := by unfold idF; rw [if_pos h]; rfl
theorem flat_at {l : List Text} {x : Int} (h : inL x l.length) : (l.drop x.toNat).flatMap textL = textL (gi l x) ++ (l.drop (x + 1).toNat).flatMap textL := by rw [drop_gi h, List.flatMap_cons]
theorem head_list (c : Corpus) : ((((itoaF c.k) ++ (⟨#[32]⟩ : ByteArray)) ++ (itoaF c.w)) ++ (⟨#[10]⟩ : ByteArray)).data.toList = headL c := by rw [app_list, app_list, app_list]; rfl
theorem text_list (t : Text) : ((t.path ++ (⟨#[10]⟩ : ByteArray)) ++ (printT t).1).data.toList = textL t := by rw [app_list, app_list]; rfl
theorem text_len (t : Text) : (textL t).length = t.path.size + 1 + (printT t).1.size := by unfold textL; simp only [List.length_append]; rfl
theorem head_len (c : Corpus) : (headL c).length = (itoaF c.k).size + 1 + (itoaF c.w).size + 1 := by unfold headL; simp only [List.length_append]; rfl
theorem cid_ok (c : Corpus) (Q : ByteArray × Int → Prop) (hp0 : okC c) (hp1 : checkF c = 0 → (idL c).length ≤ 1000000) (h : Q (idF c)) : cid_vc c Q := by
  refine ⟨hp0, fun hn => ?_, fun hc => ?_⟩
  · unfold idF at h; rw [if_neg hn] at h; exact h
  · have hb := hp1 hc
    have h1000 : c.texts.length ≤ 1000 := hp0.1.1
    rw [idF_pos hc] at h
    have G := (checkF_iff c).1 hc
    have hk := (sizeF_iff _).1 G.k; have hw := (sizeF_iff _).1 G.w
    have s1 := itoa_sz (n := c.k) (by omega) (by omega); have s2 := itoa_sz (n := c.w) (by omega) (by omega)
    have z32 : (⟨#[32]⟩ : ByteArray).size = 1 := rfl
    have z10 : (⟨#[10]⟩ : ByteArray).size = 1 := rfl
    have zh : (sbytes ((((itoaF c.k) ++ (⟨#[32]⟩ : ByteArray)) ++ (itoaF c.w)) ++ (⟨#[10]⟩ : ByteArray))).length = (itoaF c.k).size + 1 + (itoaF c.w).size + 1 := by rw [sbytes_len, app_sz, app_sz, app_sz, z32, z10]
    refine ⟨by omega, by omega, by omega, by omega, by omega, by simp only [app_sz]; omega, by simp only [app_sz]; omega, by simp only [List.length_nil]; omega, ?_⟩
    refine lfp2 (cid_L1 c Q) (fun xs x => 0 ≤ x ∧ x ≤ c.texts.length ∧ ∃ u, xs = bi u ∧ u ++ (c.texts.drop x.toNat).flatMap textL = idL c) (fun _ x => (c.texts.length - x).toNat) (fun xs x hst again hag => ?_) ⟨by omega, by omega, headL c, ?_, rfl⟩
    · obtain ⟨h0, h1, u, rfl, h2⟩ := hst
      have zu : (bi u).length = u.length := List.length_map _
      have hl2 := congrArg List.length h2
      rw [List.length_append] at hl2
      refine ⟨fun hlt => ?_, fun hn => ?_⟩
      · have hx : inL x c.texts.length := by omega
        rw [flat_at hx] at h2 hl2
        rw [List.length_append, text_len] at hl2
        have zt : (sbytes (((gi c.texts x).path ++ (⟨#[10]⟩ : ByteArray)) ++ (printT (gi c.texts x)).1)).length = (gi c.texts x).path.size + 1 + (printT (gi c.texts x)).1.size := by rw [sbytes_len, app_sz, app_sz, z10]
        refine ⟨hx, hp0.1.2 _ (gi_mem hx), by omega, by simp only [app_sz]; omega, by omega, by omega, ?_⟩
        show again (bi u ++ sbytes (((gi c.texts x).path ++ (⟨#[10]⟩ : ByteArray)) ++ (printT (gi c.texts x)).1), x + 1)
        rw [bi_app, text_list]
        exact hag _ _ ⟨by omega, by omega, _, rfl, by rw [List.append_assoc]; exact h2⟩ (by omega)
      · rw [drop_end hn] at h2
        simp only [List.flatMap_nil, List.append_nil] at h2
        rw [bstr_bi, h2]
        rw [h2] at zu
        exact ⟨by omega, by rw [ba_size]; exact hb, h⟩
    · show ([] : List Int) ++ sbytes _ = _
      rw [List.nil_append]
      unfold sbytes
      rw [head_list]
/-! sizes -/
theorem wordTx_len (p : Option Int) {w : Lexeme} (h0 : 0 ≤ w.line) (h1 : w.line ≤ 1024) : (wordTx p w).length ≤ w.text.size + 7 := by
  have := itoa_sz h0 h1
  rw [size_list] at this
  unfold wordTx
  rw [size_list]
  cases p with
  | none => simp only [List.length_append, List.length_cons, List.length_nil]; omega
  | some q =>
    simp only [List.length_append, List.length_cons]
    split <;> simp only [List.length_append, List.length_cons, List.length_nil] <;> omega
theorem textTx_len {S : Nat} : ∀ (l : List Lexeme) (p : Option Int), (∀ w ∈ l, 0 ≤ w.line ∧ w.line < 1024 ∧ w.text.size ≤ S) → (textTx p l).length ≤ l.length * (S + 7) + 1
  | [], none, _ => by simp [textTx]
  | [], some q, _ => by simp [textTx]
  | w :: l, p, h => by
    rw [textTx_cons, List.length_append]
    have h1 := h w (by simp)
    have h2 := wordTx_len p (w := w) h1.1 (by omega)
    have h3 := textTx_len l (some w.line) (fun v hv => h v (by simp [hv]))
    rw [List.length_cons, Nat.add_mul]
    omega
theorem printT_len {t : Text} (h : fewW t.words = true) : (printT t).1.size ≤ 2000 := by
  unfold fewW at h
  rw [Bool.and_eq_true, decide_eq_true_eq, List.all_eq_true] at h
  unfold printT
  split
  · next hv =>
    have hw := words_line (vwords_ok hv)
    have := textTx_len (S := 40) t.words none (fun w hm => ⟨(hw w hm).1, (hw w hm).2, of_decide_eq_true (h.2 w hm)⟩)
    have hz : (⟨(textTx none t.words).toArray⟩ : ByteArray).size = (textTx none t.words).length := ba_size _
    simp only
    rw [hz]
    omega
  · show (0 : Nat) ≤ 2000
    omega
theorem flat_len : ∀ l : List Text, (∀ t ∈ l, fewW t.words = true ∧ t.path.size ≤ 200) → (l.flatMap textL).length ≤ l.length * 2300
  | [], _ => by simp
  | t :: l, h => by
    rw [List.flatMap_cons, List.length_append, text_len, List.length_cons]
    have h1 := h t (by simp)
    have h2 := printT_len h1.1
    have h3 := flat_len l (fun u hu => h u (by simp [hu]))
    omega
theorem idL_len {c : Corpus} (hc : checkF c = 0) (h : fewTs c.texts = true) : (idL c).length ≤ 1000000 := by
  have G := (checkF_iff c).1 hc
  have hk := (sizeF_iff _).1 G.k; have hw := (sizeF_iff _).1 G.w
  have s1 := itoa_sz (n := c.k) (by omega) (by omega); have s2 := itoa_sz (n := c.w) (by omega) (by omega)
  have h5 := fewTs_len h
  unfold fewTs at h
  rw [Bool.and_eq_true, List.all_eq_true] at h
  have := flat_len c.texts (fun t ht => by
    have := h.2 t ht
    rw [Bool.and_eq_true, decide_eq_true_eq] at this
    exact this)
  unfold idL
  rw [List.length_append, head_len]
  omega
end Go.Lic
