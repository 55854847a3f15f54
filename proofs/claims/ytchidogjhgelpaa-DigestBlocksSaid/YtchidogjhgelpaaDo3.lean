/-
  Hexadecimal texts: conditions and laws. No program in sight.
-/
import Derived.Test.YtchidogjhgelpaaDo2
set_option linter.all false
namespace Go.Lic

theorem byteN (x : Int) (h : 0 ≤ x ∧ x ≤ 255) : ∃ n : Fin 256, x = n.val := ⟨⟨x.toNat, by omega⟩, by simp; omega⟩
theorem hi_b : ∀ n : Fin 256, inL (gshr .u8 (n.val : Int) 4) 16 ∧ inL (gand .u8 (n.val : Int) 15) 16 ∧ 16 * gshr .u8 (n.val : Int) 4 + gand .u8 (n.val : Int) 15 = n.val := by decide +kernel
theorem idx_b : ∀ n : Fin 256, idxB digsF (n.val : Int) = digF n.val ∧ -1 ≤ digF n.val ∧ digF n.val ≤ 15 ∧ (0 ≤ digF n.val → sgi digsF (digF n.val) = n.val) := by decide +kernel
theorem dig_b : ∀ n : Fin 16, digF (sgi digsF (n.val : Int)) = n.val := by decide +kernel
theorem nib_b : ∀ a b : Fin 16, gor .u8 (gshl .u8 (a.val : Int) 4) (IntKind.u8.wrap (b.val : Int)) = 16 * a.val + b.val ∧ IntKind.u8.wrap (16 * (a.val : Int) + b.val) = 16 * a.val + b.val ∧ gshr .u8 (16 * (a.val : Int) + b.val) 4 = a.val ∧ gand .u8 (16 * (a.val : Int) + b.val) 15 = b.val := by decide +kernel
theorem sgi_b (s : ByteArray) (i : Int) : inL (gshr .u8 (sgi s i) 4) 16 ∧ inL (gand .u8 (sgi s i) 15) 16 ∧ 16 * gshr .u8 (sgi s i) 4 + gand .u8 (sgi s i) 15 = sgi s i := by
  obtain ⟨n, e⟩ := byteN _ (sgi_bd s i)
  rw [e]; exact hi_b n
theorem idx_s (s : ByteArray) (i : Int) : idxB digsF (sgi s i) = digF (sgi s i) ∧ -1 ≤ digF (sgi s i) ∧ digF (sgi s i) ≤ 15 ∧ (0 ≤ digF (sgi s i) → sgi digsF (digF (sgi s i)) = sgi s i) := by
  obtain ⟨n, e⟩ := byteN _ (sgi_bd s i)
  rw [e]; exact idx_b n
theorem nib_s {a b : Int} (ha : inL a 16) (hb : inL b 16) : gor .u8 (gshl .u8 a 4) (IntKind.u8.wrap b) = 16 * a + b ∧ IntKind.u8.wrap (16 * a + b) = 16 * a + b ∧ gshr .u8 (16 * a + b) 4 = a ∧ gand .u8 (16 * a + b) 15 = b := by
  have := nib_b ⟨a.toNat, by omega⟩ ⟨b.toNat, by omega⟩
  simpa [Int.toNat_of_nonneg ha.1, Int.toNat_of_nonneg hb.1] using this

theorem rhex_ok (d : ByteArray) (Q : ByteArray × Int → Prop) (h : Q (hexF d)) : rhex_vc d Q := by
  unfold rhex_vc
  unfold hexF at h
  refine ⟨fun hc => by rwa [if_neg hc] at h, fun hc => ?_⟩
  rw [if_pos hc] at h
  have hl : ∀ n, (fori (hexL d) [] n).length = 2 * n := by
    intro n; induction n with
    | zero => rfl
    | succ n ih => rw [fori_succ]; simp [hexL, hex1, ih]; omega
  refine lfp_for 32 (fori (hexL d) []) (fun i hi again hag => ?_) (fun again => ?_)
  · unfold rhex_L1
    have hc2 := hl i
    rw [fori_succ] at hag
    generalize fori (hexL d) [] i = u at hc2 hag ⊢
    unfold hexL hex1 digsF at hag
    rw [List.append_assoc] at hag
    have hb := sgi_b d i
    have hs : (⟨#[48, 49, 50, 51, 52, 53, 54, 55, 56, 57, 97, 98, 99, 100, 101, 102]⟩ : ByteArray).size = 16 := rfl
    refine ⟨fun _ => ⟨by omega, by omega, by rw [hs]; exact hb.1, by rw [hs]; exact hb.2.1, by simp; omega, by omega, hag⟩, fun hn => absurd (by omega) hn⟩
  · unfold rhex_L1
    generalize fori (hexL d) [] 32 = u at h ⊢
    exact ⟨fun hn => absurd hn (by omega), fun _ => h⟩
theorem hex1_ok (x : Int) (b : List Int) (Q : List Int → Prop) (hx : inL x 16) (hb : b.length ≤ 1000) (h : Q (hex1 x b)) : hex1_vc x b Q := ⟨hx, by simp; omega, h⟩
theorem hex_ok (d : ByteArray) (Q : ByteArray × Int → Prop) (h : Q (hexF d)) : hex_vc d Q := by
  unfold hex_vc
  unfold hexF at h
  refine ⟨fun hc => by rwa [if_neg hc] at h, fun hc => ?_⟩
  rw [if_pos hc] at h
  have hl : ∀ n, (fori (hexL d) [] n).length = 2 * n := by
    intro n; induction n with
    | zero => rfl
    | succ n ih => rw [fori_succ]; simp [hexL, hex1, ih]; omega
  refine lfp_for 32 (fori (hexL d) []) (fun i hi again hag => ?_) (fun again => ?_)
  · unfold hex_L1
    dsimp only
    have hc2 := hl i
    rw [fori_succ] at hag
    generalize fori (hexL d) [] i = u at hc2 hag ⊢
    have hb := sgi_b d i
    refine ⟨fun _ => ⟨by omega, by omega, hb.1, by omega, by omega, hb.2.1, by simp [hex1]; omega, by omega, hag⟩, fun hn => absurd (by omega) hn⟩
  · unfold hex_L1
    dsimp only
    have hc2 := hl 32
    generalize fori (hexL d) [] 32 = u at h hc2 ⊢
    exact ⟨fun hn => absurd hn (by omega), fun _ => ⟨by omega, h⟩⟩
theorem dig_ok (c : Int) (Q : Int → Prop) (h : Q (digF c)) : dig_vc c Q := by
  unfold dig_vc
  unfold digF at h
  refine ⟨fun hc => ?_, fun hc => ⟨fun hc2 => ?_, fun hc2 => ?_⟩⟩
  · rw [if_pos hc] at h
    have e : IntKind.i64.wrap (IntKind.u8.wrap (c - 48)) = c - 48 := by simp [IntKind.wrap, IntKind.bits, IntKind.signed]; omega
    rwa [e]
  · rw [if_neg (by omega), if_pos hc2] at h
    have e : IntKind.i64.wrap (IntKind.u8.wrap (c - 97)) = c - 97 := by simp [IntKind.wrap, IntKind.bits, IntKind.signed]; omega
    rw [e]; exact ⟨by omega, h⟩
  · rwa [if_neg (by omega), if_neg (by omega)] at h
theorem slib_ok (s : ByteArray) (c : Int) (Q : Int → Prop) (h : Q (idxB s c)) : slib_vc s c Q := h
theorem idxB_ok (s : ByteArray) (c : Int) (Q : Int → Prop) (h : Q (idxB s c)) : idxB_vc s c Q := h

abbrev dgF (t : ByteArray) (k : Nat) : Int := digF (sgi t (k : Int))
theorem parseF_neg {t : ByteArray} (ht : t.size = 64) {k : Nat} (hk : k < 64) (h : dgF t k < 0) : parseF t = (⟨#[]⟩, 4) := by
  unfold parseF
  rw [if_pos (by omega), if_neg]
  intro hh
  rw [List.all_eq_true] at hh
  have := hh k (by simpa using hk)
  simp only [decide_eq_true_eq] at this
  have h2 : 0 ≤ dgF t k := this
  omega
theorem parseF_pos {t : ByteArray} (ht : t.size = 64) (h : ∀ k < 64, 0 ≤ dgF t k) : parseF t = (bstr ((List.range 32).map fun i => 16 * dgF t (2 * i) + dgF t (2 * i + 1)), 0) := by
  unfold parseF
  rw [if_pos (by omega), if_pos]
  · rfl
  · rw [List.all_eq_true]
    intro k hk
    simpa using h k (by simpa using hk)
theorem rparse_ok (t : ByteArray) (Q : ByteArray × Int → Prop) (h : Q (parseF t)) : rparse_vc t Q := by
  unfold rparse_vc
  refine ⟨fun hc => by unfold parseF at h; rwa [if_neg hc] at h, fun hc => ?_⟩
  have ht : t.size = 64 := by omega
  refine lfp_of (fun s : List Int × Int => ∃ j : Nat, j ≤ 32 ∧ s = ((List.range j).map (fun i => 16 * dgF t (2 * i) + dgF t (2 * i + 1)), 2 * (j : Int)) ∧ ∀ k < 2 * j, 0 ≤ dgF t k) (fun s => (64 - s.2).toNat) ?_ ⟨0, by omega, rfl, fun k hk => by omega⟩
  rintro _ ⟨j, hj, rfl, hd⟩ again hag
  unfold rparse_L1
  dsimp only
  have e1 : digF (sgi t (2 * (j : Int))) = dgF t (2 * j) := rfl
  have e2 : digF (sgi t (2 * (j : Int) + 1)) = dgF t (2 * j + 1) := rfl
  rw [e1, e2]
  have b1 : dgF t (2 * j) ≤ 15 := (idx_s t _).2.2.1
  have b2 : dgF t (2 * j + 1) ≤ 15 := (idx_s t _).2.2.1
  refine ⟨fun hi => ⟨by omega, by omega, by omega, fun hn => ?_, fun hn => ⟨by omega, by omega, by simp; omega, by omega, ?_⟩⟩, fun hi => ?_⟩
  · have : ∃ k < 64, dgF t k < 0 := by
      rcases hn with hn | hn
      · exact ⟨_, by omega, hn⟩
      · exact ⟨_, by omega, hn⟩
    obtain ⟨k, hk, hk2⟩ := this
    rwa [parseF_neg ht hk hk2] at h
  · refine hag _ ⟨j + 1, by omega, ?_, fun k hk => ?_⟩ (by dsimp only; omega)
    · have hn := nib_s (a := dgF t (2 * j)) (b := dgF t (2 * j + 1)) (by omega) (by omega)
      rw [hn.2.1, List.range_succ, List.map_append]
      congr 1
    · rcases Nat.lt_trichotomy k (2 * j) with hk2 | hk2 | hk2
      · exact hd k hk2
      · rw [hk2]; omega
      · rw [show k = 2 * j + 1 by omega]; omega
  · have : j = 32 := by omega
    subst this
    rwa [parseF_pos ht (fun k hk => hd k (by omega))] at h
def parS (t : ByteArray) (i : Nat) : List Int := (List.range 32).map fun j => if 2 * j + 1 < i then 16 * dgF t (2 * j) + dgF t (2 * j + 1) else if 2 * j < i then dgF t (2 * j) else 0
theorem gi_range {f : Nat → Int} {n i : Nat} (h : i < n) : gi ((List.range n).map f) (i : Int) = f i := by
  rw [gi_nat (by simpa using h)]; simp
theorem si_getElem {α : Type} (l : List α) (i : Int) (v : α) (k : Nat) (h : k < (si l i v).length) : (si l i v)[k] = if i.toNat = k then v else l[k]'(by simpa using h) := by
  unfold si; exact List.getElem_set ..
theorem parse_ok (t : ByteArray) (Q : ByteArray × Int → Prop) (h : Q (parseF t)) : parse_vc t Q := by
  unfold parse_vc
  refine ⟨fun hc => by unfold parseF at h; rwa [if_neg hc] at h, fun hc => ⟨by omega, ?_⟩⟩
  have ht : t.size = 64 := by omega
  refine lfp_of (fun s : List Int × Int => ∃ j : Nat, j ≤ 64 ∧ s = (parS t j, (j : Int)) ∧ ∀ k < j, 0 ≤ dgF t k) (fun s => (64 - s.2).toNat) ?_ ⟨0, by omega, by simp [parS]; rfl, fun k hk => by omega⟩
  rintro _ ⟨j, hj, rfl, hd⟩ again hag
  unfold parse_L1
  have e0 : (⟨#[48, 49, 50, 51, 52, 53, 54, 55, 56, 57, 97, 98, 99, 100, 101, 102]⟩ : ByteArray) = digsF := rfl
  rw [e0]
  dsimp only
  have hi := idx_s t (j : Int)
  rw [hi.1]
  have e1 : digF (sgi t (j : Int)) = dgF t j := rfl
  rw [e1] at hi ⊢
  refine ⟨fun hlt => ⟨by omega, fun hn => ?_, fun hn => ⟨by omega, by simp [parS]; omega, by omega, by omega, ?_⟩⟩, fun hlt => ?_⟩
  · rwa [parseF_neg ht (by omega) hn] at h
  · refine hag _ ⟨j + 1, by omega, ?_, fun k hk => ?_⟩ (by dsimp only; omega)
    · congr 1
      have hg : gi (parS t j) ((j : Int) / 2) = if 2 * (j / 2) + 1 < j then 16 * dgF t (2 * (j / 2)) + dgF t (2 * (j / 2) + 1) else if 2 * (j / 2) < j then dgF t (2 * (j / 2)) else 0 := by
        rw [show ((j : Int) / 2) = ((j / 2 : Nat) : Int) by omega, parS, gi_range (by omega)]
      rw [hg]
      refine List.ext_getElem (by simp [parS]) fun k h1 h2 => ?_
      have hk : k < 32 := by simpa [parS] using h2
      rw [si_getElem]
      by_cases hkj : ((j : Int) / 2).toNat = k
      · rw [if_pos hkj]
        have hkj2 : j / 2 = k := by omega
        rw [hkj2]
        simp only [parS, List.getElem_map, List.getElem_range]
        rcases Nat.mod_two_eq_zero_or_one j with hm | hm
        · rw [if_neg (by omega), if_neg (by omega), if_neg (by omega), if_pos (by omega), show 2 * k = j by omega]
          have := nib_s (a := 0) (b := dgF t j) (by omega) (by omega)
          rw [this.1]; omega
        · rw [if_neg (by omega), if_pos (by omega), if_pos (by omega), show 2 * k + 1 = j by omega]
          have h0 := hd (2 * k) (by omega)
          have h15 : dgF t (2 * k) ≤ 15 := (idx_s t _).2.2.1
          exact (nib_s (a := dgF t (2 * k)) (b := dgF t j) (by omega) (by omega)).1
      · rw [if_neg hkj]
        simp only [parS, List.getElem_map, List.getElem_range]
        have : (2 * k + 1 < j) = (2 * k + 1 < j + 1) := by apply propext; omega
        have h3 : (2 * k < j) = (2 * k < j + 1) := by apply propext; omega
        simp only [this, h3]
    · by_cases hk2 : k = j
      · rw [hk2]; omega
      · exact hd k (by omega)
  · have : j = 64 := by omega
    subst this
    rw [parseF_pos ht (fun k hk => hd k hk)] at h
    have e : parS t 64 = (List.range 32).map fun i => 16 * dgF t (2 * i) + dgF t (2 * i + 1) := by
      refine List.map_congr_left fun k hk => ?_
      have : k < 32 := by simpa using hk
      rw [if_pos (by omega)]
    rwa [e]

/-! There and back. -/
def hexAt (s : ByteArray) (k : Nat) : Int := if k % 2 = 0 then sgi digsF (gshr .u8 (sgi s ((k / 2 : Nat) : Int)) 4) else sgi digsF (gand .u8 (sgi s ((k / 2 : Nat) : Int)) 15)
theorem hexL_eq (s : ByteArray) (n : Nat) : fori (hexL s) [] n = (List.range (2 * n)).map (hexAt s) := by
  induction n with
  | zero => rfl
  | succ n ih =>
    rw [fori_succ, ih, show 2 * (n + 1) = 2 * n + 1 + 1 by omega, List.range_succ, List.range_succ, List.map_append, List.map_append]
    unfold hexL hex1
    have e1 : hexAt s (2 * n) = sgi digsF (gshr .u8 (sgi s (n : Int)) 4) := by
      unfold hexAt; rw [if_pos (by omega), show 2 * n / 2 = n by omega]
    have e2 : hexAt s (2 * n + 1) = sgi digsF (gand .u8 (sgi s (n : Int)) 15) := by
      unfold hexAt; rw [if_neg (by omega), show (2 * n + 1) / 2 = n by omega]
    simp [e1, e2]
theorem str_eq (s : ByteArray) : s = bstr ((List.range s.size).map fun k : Nat => sgi s (k : Int)) := by
  conv => lhs; rw [← bstr_sbytes s]
  congr 1
  refine List.ext_getElem (by simp [sbytes_len]) fun k h1 h2 => ?_
  rw [← gi_nat h1, gi_sbytes]; simp
theorem sgi_bstr {n : Nat} {f : Nat → Int} (hf : ∀ k < n, 0 ≤ f k ∧ f k ≤ 255) {k : Nat} (hk : k < n) : sgi (bstr ((List.range n).map f)) (k : Int) = f k := by
  rw [← gi_sbytes, sbytes_bstr (by intro x hx; simp only [List.mem_map, List.mem_range] at hx; obtain ⟨j, hj, rfl⟩ := hx; exact hf j hj), gi_range hk]
theorem bstr_size (l : List Int) : (bstr l).size = l.length := by
  unfold bstr; show Array.size _ = _; simp
theorem hexAt_b (s : ByteArray) (k : Nat) : 0 ≤ hexAt s k ∧ hexAt s k ≤ 255 := by
  unfold hexAt; split <;> exact sgi_bd _ _
theorem dig_n {x : Int} (h : inL x 16) : digF (sgi digsF x) = x := by
  have := dig_b ⟨x.toNat, by omega⟩
  simpa [Int.toNat_of_nonneg h.1] using this
theorem hex_there (s : ByteArray) (h : (hexF s).2 = 0) : parseF (hexF s).1 = (s, 0) := by
  unfold hexF at h ⊢
  split at h
  · next hc =>
    rw [if_pos hc, hexL_eq]
    dsimp only
    have hg : ∀ k : Nat, k < 64 → sgi (bstr ((List.range 64).map (hexAt s))) (k : Int) = hexAt s k := fun k hk => sgi_bstr (fun k _ => hexAt_b s k) hk
    have hd : ∀ k : Nat, k < 64 → dgF (bstr ((List.range 64).map (hexAt s))) k = if k % 2 = 0 then gshr .u8 (sgi s ((k / 2 : Nat) : Int)) 4 else gand .u8 (sgi s ((k / 2 : Nat) : Int)) 15 := by
      intro k hk
      have hb := sgi_b s ((k / 2 : Nat) : Int)
      unfold dgF
      rw [hg k hk]
      unfold hexAt
      split
      · exact dig_n hb.1
      · exact dig_n hb.2.1
    rw [parseF_pos (by rw [bstr_size]; simp) (fun k hk => by
      rw [hd k hk]
      have hb := sgi_b s ((k / 2 : Nat) : Int)
      split
      · exact hb.1.1
      · exact hb.2.1.1)]
    congr 1
    conv => rhs; rw [str_eq s]
    have hs : s.size = 32 := by omega
    rw [hs]
    congr 1
    refine List.map_congr_left fun k hk => ?_
    have hk2 : k < 32 := by simpa using hk
    rw [hd _ (by omega), hd _ (by omega), if_pos (by omega), if_neg (by omega), show 2 * k / 2 = k by omega, show (2 * k + 1) / 2 = k by omega]
    exact (sgi_b s k).2.2
  · next hc => simp at h
theorem parse_back (t : ByteArray) (h : (parseF t).2 = 0) : hexF (parseF t).1 = (t, 0) := by
  have ht : t.size = 64 := by
    unfold parseF at h
    split at h
    · omega
    · simp at h
  have hd : ∀ k < 64, 0 ≤ dgF t k := by
    intro k hk
    by_cases hn : dgF t k < 0
    · rw [parseF_neg ht hk hn] at h; simp at h
    · omega
  rw [parseF_pos ht hd]
  dsimp only
  unfold hexF
  rw [if_pos (by rw [bstr_size]; simp), hexL_eq]
  congr 1
  conv => rhs; rw [str_eq t]
  rw [ht]
  congr 1
  refine List.map_congr_left fun k hk => ?_
  have hk2 : k < 64 := by simpa using hk
  have h15 : ∀ k, dgF t k ≤ 15 := fun k => (idx_s t _).2.2.1
  unfold hexAt
  rw [sgi_bstr (fun k hk => by have := h15 (2 * k); have := h15 (2 * k + 1); have := hd (2 * k) (by omega); have := hd (2 * k + 1) (by omega); omega) (show k / 2 < 32 by omega)]
  have a1 := h15 (2 * (k / 2)); have a2 := h15 (2 * (k / 2) + 1); have a3 := hd (2 * (k / 2)) (by omega); have a4 := hd (2 * (k / 2) + 1) (by omega)
  have hn := nib_s (a := dgF t (2 * (k / 2))) (b := dgF t (2 * (k / 2) + 1)) (by omega) (by omega)
  split
  · next hm =>
    rw [hn.2.2.1, show 2 * (k / 2) = k by omega]
    exact (idx_s t k).2.2.2 (hd k hk2)
  · next hm =>
    rw [hn.2.2.2, show 2 * (k / 2) + 1 = k by omega]
    exact (idx_s t k).2.2.2 (hd k hk2)
theorem lawTexts_ok (s t : ByteArray) (Q : Bool → Prop) (h : Q true) : lawTexts_vc s t Q := by
  have hJ : lawTexts_J1 t Q := by
    unfold lawTexts_J1
    refine ⟨fun h0 => ?_, fun _ => h⟩
    rw [parse_back t h0]
    exact ⟨fun hc => by simp at hc, fun _ => h⟩
  unfold lawTexts_vc
  refine ⟨fun hc => (by cases hc), fun _ => ⟨fun _ => h, fun _ => ⟨fun hc => by simp at hc, fun _ => ⟨fun h0 => ?_, fun _ => hJ⟩⟩⟩⟩
  rw [hex_there s h0]
  exact ⟨fun hc => by simp at hc, fun _ => hJ⟩
end Go.Lic
