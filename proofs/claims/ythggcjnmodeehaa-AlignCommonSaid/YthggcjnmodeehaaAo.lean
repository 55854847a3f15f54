/-
  The conditions of functions of chapter 28 hold. No program in sight.
-/
import Derived.Test.YthggcjnmodeehaaAv
set_option linter.all false
namespace Go.Lic

theorem dist_ok (a b : List Lexeme) (c : Costs) (Q : Int × Int → Prop) (h : Q (distF a b c)) : dist_vc a b c Q := by
  unfold dist_vc
  refine ⟨fun hk => by simpa [distF, hk] using h, fun hk => ?_⟩
  obtain ⟨hc, ha, hb⟩ := checkF_ok hk
  have hl : (frontF a b c).length = a.length + 1 := by simp [frontF]
  refine ⟨hk, by omega, by rw [front_gi (by omega)]; simp; omega, ?_⟩
  rw [front_cell (by omega) (by omega)]
  simpa [distF, hk, fkv_all hc] using h
theorem pot_ok (a b : List Lexeme) (c : Costs) (Q : List (List Int) × Int → Prop) (h : Q (potF a b c)) : pot_vc a b c Q := by
  unfold pot_vc
  exact ⟨fun hk => by simpa [potF, hk] using h, fun hk => ⟨hk, by simpa [potF, hk] using h⟩⟩

theorem metric1_ok (p q : Lexeme) (Q : Bool → Prop) (h : Q (metric1F p q)) : metric1_vc p q Q := h
theorem bounds1_ok (l : List Int) (Q : Bool → Prop) (h : Q (bounds1F l)) : bounds1_vc l Q := h
theorem opt1_ok (l : List Int) (Q : Bool → Prop) (h : Q (bounds1F l)) : opt1_vc l Q := h

theorem same_ok (a b : List (List Int)) (Q : Bool → Prop) (ha : a.length ≤ 1025) (hr : ∀ r ∈ a, r.length ≤ 1025) (h : Q (decide (a = b))) : same_vc a b Q := by
  unfold same_vc
  refine ⟨fun hl => ?_, fun hl => ?_⟩
  · have : a ≠ b := by rintro rfl; exact hl rfl
    simpa [this] using h
  · refine lfp_of (fun i : Int => 0 ≤ i ∧ i ≤ a.length ∧ ∀ k : Int, 0 ≤ k → k < i → gi a k = gi b k) (fun i => ((a.length : Int) - i).toNat) ?_ ⟨by omega, by omega, by omega⟩
    rintro i ⟨h0, h1, h2⟩ again hag
    unfold same_L1
    refine ⟨fun hi => ⟨by omega, by omega, fun hl2 => ?_, fun hl2 => ?_⟩, fun hi => ?_⟩
    · have : a ≠ b := by rintro rfl; exact hl2 rfl
      simpa [this] using h
    · have hri := hr _ (gi_mem (l := a) (i := i) (by omega))
      refine lfp_of (fun j : Int => 0 ≤ j ∧ j ≤ (gi a i).length ∧ ∀ k : Int, 0 ≤ k → k < j → gi (gi a i) k = gi (gi b i) k) (fun j => (((gi a i).length : Int) - j).toNat) ?_ ⟨by omega, by omega, by omega⟩
      rintro j ⟨g0, g1, g2⟩ again2 hag2
      unfold same_L2
      refine ⟨by omega, fun hj => ⟨by omega, by omega, by omega, by omega, fun hne => ?_, fun he => ⟨by omega, ?_⟩⟩, fun hj => ⟨by omega, ?_⟩⟩
      · have : a ≠ b := by rintro rfl; exact hne rfl
        simpa [this] using h
      · refine hag2 _ ⟨by omega, by omega, fun k k0 k1 => ?_⟩ (by omega)
        by_cases hk : k < j
        · exact g2 k k0 hk
        · rw [show k = j by omega]; exact he
      · refine hag _ ⟨by omega, by omega, fun k k0 k1 => ?_⟩ (by omega)
        by_cases hk : k < i
        · exact h2 k k0 hk
        · rw [show k = i by omega]; exact gi_ext (by omega) fun k q0 q1 => g2 k q0 (by omega)
    · have : a = b := gi_ext (by omega) fun k q0 q1 => h2 k q0 (by omega)
      simpa [this] using h

theorem zip_all {p : Lexeme → Lexeme → Bool} : ∀ {a b : List Lexeme}, a.length = b.length → ((List.zipWith p a b).all id = true ↔ ∀ k : Int, 0 ≤ k → k < a.length → p (gi a k) (gi b k) = true)
  | [], [], _ => ⟨fun _ k h1 h2 => by simp at h2; omega, fun _ => rfl⟩
  | [], _ :: _, h => by simp at h
  | _ :: _, [], h => by simp at h
  | x :: a, y :: b, h => by
    simp only [List.zipWith_cons_cons, List.all_cons, id, Bool.and_eq_true]
    rw [zip_all (by simpa using h)]
    constructor
    · rintro ⟨h1, h2⟩ k k0 k1
      rcases Int.lt_or_eq_of_le k0 with hk | hk
      · rw [gi_cons _ _ hk, gi_cons _ _ hk]; exact h2 _ (by omega) (by simp at k1; omega)
      · subst hk; rw [gi_cons0, gi_cons0]; exact h1
    · intro hk
      refine ⟨by have := hk 0 (by omega) (by simp); rwa [gi_cons0, gi_cons0] at this, fun k k0 k1 => ?_⟩
      have := hk (k + 1) (by omega) (by simp; omega)
      rw [gi_cons _ _ (by omega), gi_cons _ _ (by omega)] at this
      simpa using this
theorem eqf_ok (a b : List Lexeme) (p : Lexeme → Lexeme → Bool) (pD : Lexeme → Lexeme → Prop) (Q : Bool → Prop) (hl : a.length ≤ 9223372036854775807) (hD : ∀ x y, pD x y) (h : Q (eqFunc p a b)) : eqf_vc a b p pD Q := by
  unfold eqf_vc
  refine ⟨fun he => ?_, fun he => ?_⟩
  · have : ¬ a.length = b.length := by omega
    simpa [eqFunc, this] using h
  · have he' : a.length = b.length := by omega
    refine lfp_of (fun i : Int => 0 ≤ i ∧ i ≤ a.length ∧ ∀ k : Int, 0 ≤ k → k < i → p (gi a k) (gi b k) = true) (fun i => ((a.length : Int) - i).toNat) ?_ ⟨by omega, by omega, by omega⟩
    rintro i ⟨h0, h1, h2⟩ again hag
    unfold eqf_L1
    refine ⟨fun hi => ⟨by omega, by omega, hD _ _, fun hp => ?_, fun hp => ⟨by omega, hag _ ⟨by omega, by omega, fun k k0 k1 => ?_⟩ (by omega)⟩⟩, fun hi => ?_⟩
    · have : eqFunc p a b = false := by
        rw [eqFunc, Bool.and_eq_false_iff]; right
        rw [Bool.eq_false_iff]; intro hz
        have := (zip_all he').1 hz i h0 hi
        rw [this] at hp; cases hp
      rwa [this] at h
    · by_cases hk : k < i
      · exact h2 k k0 hk
      · rw [show k = i by omega]; exact hp
    · have : eqFunc p a b = true := by
        rw [eqFunc, Bool.and_eq_true]
        exact ⟨by simpa using he', (zip_all he').2 fun k k0 k1 => h2 k k0 (by omega)⟩
      rwa [this] at h
theorem eqFunc_metric {a b : List Lexeme} : eqFunc (fun x y => metric1F x y) a b = decide (a.map (·.text) = b.map (·.text)) := by
  rw [Bool.eq_iff_iff]
  unfold eqFunc metric1F
  simp only [Bool.and_eq_true, decide_eq_true_eq]
  constructor
  · rintro ⟨h1, h2⟩
    have := (zip_all h1).1 h2
    refine List.ext_getElem (by simpa using h1) fun i g1 g2 => ?_
    have := this i (by omega) (by simp at g1; omega)
    simp only [decide_eq_true_eq] at this
    rw [gi_nat (by simpa using g1), gi_nat (by simpa using g2)] at this
    simpa using this
  · intro h
    have hl : a.length = b.length := by simpa using congrArg List.length h
    refine ⟨hl, (zip_all hl).2 fun k k0 k1 => ?_⟩
    obtain ⟨n, rfl⟩ : ∃ n : Nat, k = n := ⟨k.toNat, by omega⟩
    rw [gi_nat (by omega), gi_nat (by omega)]
    have : (a.map (·.text))[n]? = (b.map (·.text))[n]? := by rw [h]
    simp [show n < a.length by omega, show n < b.length by omega] at this
    simpa using this

/-! The reference's table. -/
section
variable {a b : List Lexeme} {c : Costs}
def rowF (a b : List Lexeme) (c : Costs) (i : Nat) : List Int := (List.range (b.length + 1)).map (fkv a b c i)
theorem rpot_J1_ok (hck : checkF a b c = 0) {i j : Nat} (hi : i ≤ a.length) (hj : j ≤ b.length) {again : List Int × Int → Prop} {best : Int}
    (hb : (0 < i → 0 < j → (∀ (h1 : i - 1 < a.length) (h2 : j - 1 < b.length), fkv a b c i j = if fkv a b c (i - 1) (j - 1) + pairF a[i - 1] b[j - 1] c < best then fkv a b c (i - 1) (j - 1) + pairF a[i - 1] b[j - 1] c else best)) ∧ (i = 0 ∨ j = 0 → best = fkv a b c i j))
    (hag : again ((List.range (j + 1)).map (fkv a b c i), (j : Int) + 1)) : rpot_J1 a b c ((List.range i).map (rowF a b c)) i ((List.range j).map (fkv a b c i)) j again best := by
  obtain ⟨hc, ha, hb2⟩ := checkF_ok hck
  unfold rpot_J1
  have hbd := fun x y => fkv_bd hc ha hb2 x y
  have hcost := hc.change
  have er : 0 < i → gi ((List.range i).map (rowF a b c)) ((i : Int) - 1) = rowF a b c (i - 1) := fun h => by rw [gi_range (by omega)]; congr 1; omega
  have ec : 0 < j → ∀ x, gi (rowF a b c x) ((j : Int) - 1) = fkv a b c x (j - 1) := fun h x => by rw [rowF, gi_range (by omega)]; congr 1; omega
  have rl : ∀ x, (rowF a b c x).length = b.length + 1 := fun x => by simp [rowF]
  have ea : 0 < i → ∀ h1 : i - 1 < a.length, gi a ((i : Int) - 1) = a[i - 1] := fun h h1 => by rw [show (i : Int) - 1 = ((i - 1 : Nat) : Int) by omega, gi_nat]
  have eb : 0 < j → ∀ h1 : j - 1 < b.length, gi b ((j : Int) - 1) = b[j - 1] := fun h h1 => by rw [show (j : Int) - 1 = ((j - 1 : Nat) : Int) by omega, gi_nat]
  have snoc : ∀ v, v = fkv a b c i j → (List.range j).map (fkv a b c i) ++ [v] = (List.range (j + 1)).map (fkv a b c i) := fun v hv => by rw [List.range_succ, List.map_append, hv]; rfl
  have fin : ∀ v, v = fkv a b c i j → (((List.range j).map (fkv a b c i)).length + ([v] : List Int).length) * 8 ≤ 140737488355328 ∧ ((List.range j).map (fkv a b c i)).length + ([v] : List Int).length ≤ 9223372036854775807 := fun v hv => by simp; omega
  refine ⟨fun hp => ?_, fun hp => ?_, fun hp => ?_⟩
  · have hi0 : 0 < i := by omega
    have hj0 : 0 < j := by omega
    rw [er hi0, ec hj0, ea hi0 (by omega), eb hj0 (by omega), rl]
    have := hbd (i - 1) (j - 1)
    have := pairF_bd (x := a[i - 1]'(by omega)) (y := b[j - 1]'(by omega)) hcost
    refine ⟨by omega, by simp; omega, by omega, by omega, by omega, by omega, by omega⟩
  · have hi0 : 0 < i := by omega
    have hj0 : 0 < j := by omega
    have hp2 := hp.2
    rw [er hi0, ec hj0, ea hi0 (by omega), eb hj0 (by omega)] at hp2
    rw [er hi0, ec hj0, ea hi0 (by omega), eb hj0 (by omega), rl]
    have := hbd (i - 1) (j - 1)
    have := pairF_bd (x := a[i - 1]'(by omega)) (y := b[j - 1]'(by omega)) hcost
    have e := hb.1 hi0 hj0 (by omega) (by omega)
    rw [if_pos hp2] at e
    refine ⟨by omega, by simp; omega, by omega, by omega, by omega, by omega, by omega, fin _ e.symm, by omega, ?_⟩
    rw [snoc _ e.symm]; exact hag
  · have e : best = fkv a b c i j := by
      by_cases h0 : 0 < i ∧ 0 < j
      · have := hb.1 h0.1 h0.2 (by omega) (by omega)
        rw [er h0.1, ec h0.2, ea h0.1 (by omega), eb h0.2 (by omega)] at hp
        rw [if_neg (by omega)] at this
        exact this.symm
      · exact hb.2 (by omega)
    refine ⟨fin _ e, by omega, ?_⟩
    rw [snoc _ e]; exact hag
theorem rpot_J2_ok (hck : checkF a b c = 0) {i j : Nat} (hi : i ≤ a.length) (hj : j ≤ b.length) {again : List Int × Int → Prop} {best : Int}
    (hb : best = if 0 < i then fkv a b c (i - 1) j + c.drop else 0)
    (hag : again ((List.range (j + 1)).map (fkv a b c i), (j : Int) + 1)) : rpot_J2 a b c ((List.range i).map (rowF a b c)) i ((List.range j).map (fkv a b c i)) j again best := by
  obtain ⟨hc, ha, hb2⟩ := checkF_ok hck
  unfold rpot_J2
  have hbd := fun x y => fkv_bd hc ha hb2 x y
  have hadd := hc.add
  have hdrop := hc.drop
  have ec : 0 < j → gi ((List.range j).map (fkv a b c i)) ((j : Int) - 1) = fkv a b c i (j - 1) := fun h => by rw [gi_range (by omega)]; congr 1; omega
  have e0 : i = 0 → 0 < j → fkv a b c i (j - 1) + c.add = fkv a b c i j := fun h h2 => by
    subst h; rw [fkv_a (by omega), fkv_a hj, show ((j - 1 : Nat) : Int) = (j : Int) - 1 by omega, Int.sub_mul, Int.one_mul]; omega
  have e1 : j = 0 → 0 < i → fkv a b c (i - 1) j + c.drop = fkv a b c i j := fun h h2 => by
    subst h; rw [fkv_b (by omega), fkv_b hi, show ((i - 1 : Nat) : Int) = (i : Int) - 1 by omega, Int.sub_mul, Int.one_mul]; omega
  have e2 : i = 0 → j = 0 → fkv a b c i j = 0 := fun h h2 => by subst h; subst h2; rw [fkv_a (by omega)]; simp
  have step : ∀ (h : 0 < i) (h2 : 0 < j), _ := fun h h2 => fkv_step' (a := a) (b := b) (c := c) h hi h2 hj
  have mc := fun (h1 : i - 1 < a.length) (h2 : j - 1 < b.length) => min3_cases (fkv a b c (i - 1) (j - 1) + pairF a[i - 1] b[j - 1] c) (fkv a b c (i - 1) j + c.drop) (fkv a b c i (j - 1) + c.add)
  refine ⟨fun h1 h2 => ?_, fun h => ?_, fun h => ?_⟩
  · rw [ec (by omega)]
    have := hbd i (j - 1)
    refine ⟨by omega, by simp; omega, by omega⟩
  · have hj0 : 0 < j := by omega
    have h2 := h.2
    rw [ec hj0] at h2 ⊢
    have := hbd i (j - 1)
    refine ⟨by omega, by simp; omega, by omega, rpot_J1_ok hck hi hj ⟨fun hi0 _ g1 g2 => ?_, fun h0 => ?_⟩ hag⟩
    · rw [if_pos hi0] at hb
      have h3 := step hi0 hj0
      have h4 := mc g1 g2
      rw [h3]
      split <;> omega
    · exact e0 (by omega) hj0
  · refine rpot_J1_ok hck hi hj ⟨fun hi0 hj0 g1 g2 => ?_, fun h0 => ?_⟩ hag
    · rw [if_pos hi0] at hb
      rw [ec hj0] at h
      have h3 := step hi0 hj0
      have h4 := mc g1 g2
      rw [h3]
      split <;> omega
    · by_cases hi0 : 0 < i
      · rw [if_pos hi0] at hb
        rw [hb]; exact e1 (by omega) hi0
      · rw [if_neg hi0] at hb
        by_cases hj0 : 0 < j
        · exfalso; omega
        · rw [hb, e2 (by omega) (by omega)]
end
theorem rpot_ok (a b : List Lexeme) (c : Costs) (Q : List (List Int) × Int → Prop) (h : Q (potF a b c)) : rpot_vc a b c Q := by
  unfold rpot_vc
  refine ⟨fun hk => by simpa [potF, hk] using h, fun hk => ?_⟩
  obtain ⟨hc, ha, hb⟩ := checkF_ok hk
  have hbd := fun x y => fkv_bd hc ha hb x y
  have hdrop := hc.drop
  refine lfp_of (fun s => ∃ i : Nat, i ≤ a.length + 1 ∧ s = ((List.range i).map (rowF a b c), (i : Int))) (fun s => a.length + 1 - s.2.toNat) ?_ ⟨0, by omega, rfl⟩
  rintro _ ⟨i, hi, rfl⟩ again hag
  show rpot_L1 a b c Q again _ _
  unfold rpot_L1
  refine ⟨fun hlt => ?_, fun hge => ?_⟩
  · refine lfp_of (fun s => ∃ j : Nat, j ≤ b.length + 1 ∧ s = ((List.range j).map (fkv a b c i), (j : Int))) (fun s => b.length + 1 - s.2.toNat) ?_ ⟨0, by omega, rfl⟩
    rintro _ ⟨j, hj, rfl⟩ again2 hag2
    show rpot_L2 a b c _ _ again again2 _ _
    unfold rpot_L2
    refine ⟨fun hlt2 => ?_, fun hge2 => ?_⟩
    · have hnext := hag2 ((List.range (j + 1)).map (fkv a b c i), ((j + 1 : Nat) : Int)) ⟨j + 1, by omega, rfl⟩ (by simp; omega)
      refine ⟨fun hi0 => ?_, fun hi0 => rpot_J2_ok hk (by omega) (by omega) (by rw [if_neg (by omega)]) hnext⟩
      have er : gi ((List.range i).map (rowF a b c)) ((i : Int) - 1) = rowF a b c (i - 1) := by rw [gi_range (by omega)]; congr 1; omega
      have ec : gi (rowF a b c (i - 1)) (j : Int) = fkv a b c (i - 1) j := by rw [rowF, gi_range (by omega)]; rfl
      rw [er, ec]
      have := hbd (i - 1) j
      refine ⟨by omega, by simp; omega, by simp [rowF]; omega, by omega, rpot_J2_ok hk (by omega) (by omega) (by rw [if_pos (by omega)]) hnext⟩
    · have hj' : j = b.length + 1 := by omega
      subst hj'
      refine ⟨by simp; omega, by omega, ?_⟩
      have := hag ((List.range (i + 1)).map (rowF a b c), ((i + 1 : Nat) : Int)) ⟨i + 1, by omega, rfl⟩ (by simp; omega)
      rw [List.range_succ, List.map_append] at this
      exact this
  · have hi' : i = a.length + 1 := by omega
    subst hi'
    have e : potF a b c = ((List.range (a.length + 1)).map (rowF a b c), 0) := by rw [potF, if_pos hk]; rfl
    rwa [e] at h

/-! Bounds. -/
theorem bound_ok (a b : List Lexeme) (c : Costs) (p : List (List Int)) (Q : Int × Int → Prop) (hp : p.length ≤ 42) (hr : ∀ r ∈ p, r.length ≤ 42) (h : Q (boundF a b c p)) : bound_vc a b c p Q := by
  unfold bound_vc
  refine ⟨fun hk => by rwa [boundF_err hk] at h, fun hk => ?_⟩
  obtain ⟨hc, ha, hb⟩ := checkF_ok hk
  have g1 := hc.change; have g2 := hc.drop; have g3 := hc.add
  refine ⟨by omega, fun hl => ?_, fun hl => ?_⟩
  · rwa [boundF_bad hk (fun hb => hl hb.len)] at h
  · refine lfp_of (fun i : Int => 0 ≤ i ∧ i ≤ p.length ∧ ∀ k : Int, 0 ≤ k → k < i → ((gi p k).length : Int) = b.length + 1) (fun i => ((p.length : Int) - i).toNat) ?_ ⟨by omega, by omega, by omega⟩
    rintro i ⟨h0, h1, h2⟩ again hag
    unfold bound_L1
    refine ⟨fun hi => ⟨by omega, by omega, fun hl2 => ?_, fun hl2 => ⟨by omega, hag _ ⟨by omega, by omega, fun k k0 k1 => ?_⟩ (by omega)⟩⟩, fun hi => ?_⟩
    · rwa [boundF_bad hk (fun hb => hl2 (hb.rows i h0 hi))] at h
    · by_cases hki : k < i
      · exact h2 k k0 hki
      · rw [show k = i by omega]; exact hl2
    have hrows : ∀ k : Int, 0 ≤ k → k < p.length → ((gi p k).length : Int) = b.length + 1 := fun k k0 k1 => h2 k k0 (by omega)
    refine lfp_of (fun i : Int => 0 ≤ i ∧ i ≤ p.length ∧ ∀ k j : Int, 0 ≤ k → k < i → 0 ≤ j → j ≤ b.length → CellOk a b c p k j) (fun i => ((p.length : Int) - i).toNat) ?_ ⟨by omega, by omega, by omega⟩
    rintro i ⟨q0, q1, q2⟩ again hag
    unfold bound_L2
    refine ⟨fun hi => ⟨by omega, ?_⟩, fun hi => ?_⟩
    · have hli := hrows i q0 hi
      refine lfp_of (fun j : Int => 0 ≤ j ∧ j ≤ (gi p i).length ∧ ∀ k : Int, 0 ≤ k → k < j → CellOk a b c p i k) (fun j => (((gi p i).length : Int) - j).toNat) ?_ ⟨by omega, by omega, by omega⟩
      rintro j ⟨r0, r1, r2⟩ again2 hag2
      unfold bound_L3
      refine ⟨fun hj => ⟨by omega, ?_⟩, fun hj => ⟨by omega, hag _ ⟨by omega, by omega, fun k m k0 k1 m0 m1 => ?_⟩ (by omega)⟩⟩
      · have hup : 0 < i → ((gi p (i - 1)).length : Int) = b.length + 1 := fun h => hrows (i - 1) (by omega) (by omega)
        -- what is known of the cells before
        have huc : 0 < i → CellOk a b c p (i - 1) j := fun h => q2 _ _ (by omega) (by omega) (by omega) (by omega)
        have hlc : 0 < j → CellOk a b c p i (j - 1) := fun h => r2 _ (by omega) (by omega)
        have hdc : 0 < i → 0 < j → CellOk a b c p (i - 1) (j - 1) := fun h h' => q2 _ _ (by omega) (by omega) (by omega) (by omega)
        have hpb := pairF_bd (x := gi a (i - 1)) (y := gi b (j - 1)) g1
        refine ⟨fun _ => by omega, fun _ h4 => ?_, fun _ h4 => ?_, fun _ h4 => ?_, fun hbad => ?_, fun hgood => ⟨by omega, hag2 _ ⟨by omega, by omega, fun k k0 k1 => ?_⟩ (by omega)⟩⟩
        · have := hup (by omega); have := (huc (by omega)).lo; have := (huc (by omega)).hi
          exact ⟨by omega, by omega, by omega, by omega⟩
        · have := (hlc (by omega)).lo; have := (hlc (by omega)).hi
          exact ⟨by omega, by omega, by omega⟩
        · have := hup (by omega); have := (hdc (by omega) (by omega)).lo; have := (hdc (by omega) (by omega)).hi
          exact ⟨by omega, by omega, by omega, by omega, by omega, by omega, by omega⟩
        · have hn : ¬ BoundOk a b c p := by
            intro hB
            have hC := hB.cell i j q0 (by omega) r0 (by omega)
            have c1 := hC.lo; have c2 := hC.hi; have c3 := hC.zero; have c4 := hC.up; have c5 := hC.left; have c6 := hC.diag
            omega
          rwa [boundF_bad hk hn] at h
        · by_cases hkj : k < j
          · exact r2 k k0 hkj
          · rw [show k = j by omega]
            exact ⟨by omega, by omega, by omega, by omega, by omega, by omega⟩
      · by_cases hki : k < i
        · exact q2 k m k0 hki m0 m1
        · rw [show k = i by omega]; exact r2 m m0 (by omega)
    · have hB : BoundOk a b c p := ⟨by omega, hrows, fun k j k0 k1 j0 j1 => q2 k j k0 (by omega) j0 j1⟩
      have := hrows a.length (by omega) (by omega)
      exact ⟨by omega, by omega, by rwa [boundF_ok hk hB] at h⟩

theorem rbound_ok (a b : List Lexeme) (c : Costs) (p : List (List Int)) (Q : Int × Int → Prop) (hp : p.length ≤ 42) (hr : ∀ r ∈ p, r.length ≤ 42) (h : Q (boundF a b c p)) : rbound_vc a b c p Q := by
  unfold rbound_vc
  refine ⟨fun hk => by rwa [boundF_err hk] at h, fun hk => ?_⟩
  obtain ⟨hc, ha, hb⟩ := checkF_ok hk
  have g1 := hc.change; have g2 := hc.drop; have g3 := hc.add
  refine ⟨by omega, fun hl => ?_, fun hl => ?_⟩
  · rwa [boundF_bad hk (fun hb => hl hb.len)] at h
  · refine lfp_of (fun i : Int => 0 ≤ i ∧ i ≤ p.length ∧ (∀ k : Int, 0 ≤ k → k < i → ((gi p k).length : Int) = b.length + 1) ∧ ∀ k j : Int, 0 ≤ k → k < i → 0 ≤ j → j ≤ b.length → CellOk a b c p k j) (fun i => ((p.length : Int) - i).toNat) ?_ ⟨by omega, by omega, by omega, by omega⟩
    rintro i ⟨q0, q1, hrw, q2⟩ again hag
    unfold rbound_L1
    refine ⟨fun hi => ⟨by omega, by omega, fun hl2 => ?_, fun hli => ?_⟩, fun hi => ?_⟩
    · rwa [boundF_bad hk (fun hb => hl2 (hb.rows i q0 (by omega)))] at h
    · refine lfp_of (fun j : Int => 0 ≤ j ∧ j ≤ (gi p i).length ∧ ∀ k : Int, 0 ≤ k → k < j → CellOk a b c p i k) (fun j => (((gi p i).length : Int) - j).toNat) ?_ ⟨by omega, by omega, by omega⟩
      rintro j ⟨r0, r1, r2⟩ again2 hag2
      unfold rbound_L2
      refine ⟨fun hj => ?_, fun hj => ⟨by omega, hag _ ⟨by omega, by omega, fun k k0 k1 => ?_, fun k m k0 k1 m0 m1 => ?_⟩ (by omega)⟩⟩
      · have hup : 0 < i → ((gi p (i - 1)).length : Int) = b.length + 1 := fun h => hrw (i - 1) (by omega) (by omega)
        have huc : 0 < i → CellOk a b c p (i - 1) j := fun h => q2 _ _ (by omega) (by omega) (by omega) (by omega)
        have hlc : 0 < j → CellOk a b c p i (j - 1) := fun h => r2 _ (by omega) (by omega)
        have hdc : 0 < i → 0 < j → CellOk a b c p (i - 1) (j - 1) := fun h h' => q2 _ _ (by omega) (by omega) (by omega) (by omega)
        have hpb := pairF_bd (x := gi a (i - 1)) (y := gi b (j - 1)) g1
        have hU : i > 0 → inL (i - 1) p.length ∧ inL j (gi p (i - 1)).length ∧ inI (gi (gi p (i - 1)) j + c.drop) := fun h => by
          have := hup h; have := (huc h).lo; have := (huc h).hi; omega
        have hL : j > 0 → inL (j - 1) (gi p i).length ∧ inI (gi (gi p i) (j - 1) + c.add) := fun h => by
          have := (hlc h).lo; have := (hlc h).hi; omega
        have hD : i > 0 → j > 0 → inL (i - 1) p.length ∧ inL (j - 1) (gi p (i - 1)).length ∧ inL (i - 1) a.length ∧ inL (j - 1) b.length ∧ inI (gi (gi p (i - 1)) (j - 1) + pairF (gi a (i - 1)) (gi b (j - 1)) c) := fun h h' => by
          have := hup h; have := (hdc h h').lo; have := (hdc h h').hi; omega
        have bad : ¬ CellOk a b c p i j → Q (0, 18) := fun hn => by
          rwa [boundF_bad hk (fun hB => hn (hB.cell i j q0 (by omega) r0 (by omega)))] at h
        have good : CellOk a b c p i j → again2 (j + 1) := fun hC => hag2 _ ⟨by omega, by omega, fun k k0 k1 => by
          by_cases hkj : k < j
          · exact r2 k k0 hkj
          · rw [show k = j by omega]; exact hC⟩ (by omega)
        refine ⟨by omega, by omega, fun _ => by omega, fun _ h4 => ?_, fun _ h4 => ?_, fun _ h4 => ?_, fun hbad => bad ?_, fun hgood => ⟨by omega, good ?_⟩⟩
        · have := hU h4; exact ⟨by omega, by omega, by omega, by omega⟩
        · have := hL h4; exact ⟨by omega, by omega, by omega⟩
        · have := hD h4.1 h4.2; exact ⟨by omega, by omega, by omega, by omega, by omega, by omega, by omega⟩
        · intro hC
          have c1 := hC.lo; have c2 := hC.hi; have c3 := hC.zero; have c4 := hC.up; have c5 := hC.left; have c6 := hC.diag
          omega
        · exact ⟨by omega, by omega, by omega, by omega, by omega, by omega⟩
      · by_cases hki : k < i
        · exact hrw k k0 hki
        · rw [show k = i by omega]; exact hli
      · by_cases hki : k < i
        · exact q2 k m k0 hki m0 m1
        · rw [show k = i by omega]; exact r2 m m0 (by omega)
    · have hB : BoundOk a b c p := ⟨by omega, fun k k0 k1 => hrw k k0 (by omega), fun k j k0 k1 j0 j1 => q2 k j k0 (by omega) j0 j1⟩
      have := hrw a.length (by omega) (by omega)
      exact ⟨by omega, by omega, by rwa [boundF_ok hk hB] at h⟩
end Go.Lic
