/-
  The laws of chapter 28, as conditions over plain data, hold. No program in sight.
-/
import Derived.Test.YthggcjnmodeehaaAo
set_option linter.all false
namespace Go.Lic

theorem few_len {l : List (List Lexeme)} (h : (!l.any (fun x => !fewF x)) = true) : ∀ x ∈ l, x.length ≤ 40 := by
  intro x hx
  simp only [Bool.not_eq_true', List.any_eq_false] at h
  have := h x hx
  simp [fewF] at this
  exact this.1
theorem distF_ok {a b : List Lexeme} {c : Costs} (h : checkF a b c = 0) : distF a b c = (edit c a b, 0) := by simp [distF, h]
theorem distF_err {a b : List Lexeme} {c : Costs} (h : ¬ checkF a b c = 0) : distF a b c = (0, checkF a b c) := by simp [distF, h]
theorem alignR_snd (a b : List Lexeme) (c : Costs) : (alignR a b c).2 = checkF a b c := by unfold alignR; split <;> simp_all
theorem distF_snd (a b : List Lexeme) (c : Costs) : (distF a b c).2 = checkF a b c := by unfold distF; split <;> simp_all
theorem potF_snd (a b : List Lexeme) (c : Costs) : (potF a b c).2 = checkF a b c := by unfold potF; split <;> simp_all
theorem distF_fst (a b : List Lexeme) (c : Costs) : (distF a b c).1 = (alignR a b c).1.cost := by unfold distF alignR; split <;> simp_all

theorem lawBest_ok (a b : List Lexeme) (c : Costs) (Q : Bool → Prop) (h : Q true) : lawBest_vc a b c Q := by
  refine ⟨fun e => (by cases e), fun _ => ⟨by simp, fun _ => h, fun hf => ⟨fun _ => ?_, of_true h ?_⟩⟩⟩
  · have h1 := alignR_len a b c
    have h2 := few_len hf a (by simp)
    have h3 := few_len hf b (by simp)
    omega
  · simp [distF_snd, distF_fst, alignR_snd]

theorem lawBounds_ok (a b : List Lexeme) (c : Costs) (p : List (List Int)) (Q : Bool → Prop) (h : Q true) : lawBounds_vc a b c p Q := by
  refine ⟨fun e => (by cases e), fun _ => ⟨by simp, fun hf => by omega, fun _ => h, fun ⟨⟨hf, hp⟩, hr⟩ => ?_⟩⟩
  have h1 : p.length ≤ 42 := by omega
  have h2 : ∀ r ∈ p, r.length ≤ 42 := fun r hr' => by
    rw [List.any_eq_false] at hr
    have := hr r hr'
    simp [bounds1F] at this; omega
  refine ⟨h1, h2, h1, h2, fun _ => ?_, of_true h (by simp)⟩
  have ha := few_len hf a (by simp)
  have hb := few_len hf b (by simp)
  unfold potF
  split
  · refine ⟨by simp [frontF]; omega, fun r hr => ?_⟩
    simp [frontF] at hr
    obtain ⟨k, _, rfl⟩ := hr
    simp; omega
  · simp

theorem lawOptimal_ok (a b : List Lexeme) (c : Costs) (other : Alignment) (p : List (List Int)) (Q : Bool → Prop) (h : Q true) : lawOptimal_vc a b c other p Q := by
  refine ⟨fun e => (by cases e), fun _ => ⟨by simp, fun hf => by omega, fun _ => h, fun ⟨⟨⟨hf, ho⟩, hp⟩, hr⟩ => ?_⟩⟩
  have h1 : p.length ≤ 42 := by omega
  have h2 : ∀ r ∈ p, r.length ≤ 42 := fun r hr' => by
    rw [List.any_eq_false] at hr
    have := hr r hr'
    simp [bounds1F] at this; omega
  have ha := few_len hf a (by simp)
  have hb := few_len hf b (by simp)
  refine ⟨fun he => ?_, fun he => ?_⟩
  · rw [alignR_snd] at he
    refine ⟨fun _ => by omega, of_true h ?_⟩
    rw [alignR_err he, checkAlF_err he]; simp
  · rw [alignR_snd] at he
    obtain ⟨hc, _, _⟩ := checkF_ok he
    have hpot : potF a b c = (frontF a b c, 0) := by simp [potF, he]
    have hB := front_ok he
    have hbd : boundF a b c (frontF a b c) = (edit c a b, 0) := by
      rw [boundF_ok he hB, front_cell (by omega) (by omega)]
      simp [fkv_all hc]
    have hal : (alignR a b c).1 = ⟨edit c a b, alignS c a b⟩ := by rw [alignR_ok he]
    have hck : checkAlF a b c (alignR a b c).1 = 0 := checkAlF_best he
    rw [hpot, hbd]
    rw [hal] at hck ⊢
    refine ⟨by simp [frontF]; omega, fun r hr => ?_, fun _ => ?_, fun hbad => ?_, fun _ => ⟨h1, h2, fun hbad => ?_, fun _ => ⟨by omega, of_true h ?_⟩⟩⟩
    · simp [frontF] at hr
      obtain ⟨k, _, rfl⟩ := hr
      simp; omega
    · have := (Al.best c a b).len; simp; omega
    · exfalso; simp [hck] at hbad
    · exfalso
      by_cases hb2 : BoundOk a b c p
      · rw [boundF_ok he hb2] at hbad
        have := hb2.edit hc
        have := hbad.2
        simp only at this
        omega
      · rw [boundF_bad he hb2] at hbad; simp at hbad
    · by_cases hx : checkAlF a b c other = 0
      · have := ((checkAlF_iff he other).1 hx).least hc
        simp [hx]; exact this
      · simp [hx]

theorem lawMetric_ok (a b c : List Lexeme) (x : Costs) (Q : Bool → Prop) (h : Q true) : lawMetric_vc a b c x Q := by
  refine ⟨fun e => (by cases e), fun _ => ⟨by simp, fun _ => h, fun hf => ?_⟩⟩
  have ha := few_len hf a (by simp)
  have hb := few_len hf b (by simp)
  have hcl := few_len hf c (by simp)
  have hck : checkF b a ⟨x.change, x.add, x.drop⟩ = checkF a b x := by
    unfold checkF
    have e : (costB x.change && costB x.add && costB x.drop) = (costB x.change && costB x.drop && costB x.add) := by
      cases costB x.change <;> cases costB x.add <;> cases costB x.drop <;> rfl
    simp only [e, or_comm (a := b.length > 1024)]
  have hd : distF b a ⟨x.change, x.add, x.drop⟩ = distF a b x := by
    by_cases he : checkF a b x = 0
    · rw [distF_ok he, distF_ok (by rw [hck]; exact he)]
      have := edit_flip (checkF_ok he).1 a b
      rw [show (⟨x.change, x.add, x.drop⟩ : Costs) = x.flip from rfl, this]
    · rw [distF_err he, distF_err (by rw [hck]; exact he), hck]
  show (_ ∧ _)
  rw [hd]
  refine ⟨fun hbad => by exfalso; simp at hbad, fun _ => ⟨fun he => of_true h ?_, fun he => ?_⟩⟩
  · rw [distF_snd] at he; rw [distF_err he]; simp
  · rw [distF_snd] at he
    obtain ⟨hc, _, _⟩ := checkF_ok he
    have g1 := hc.change; have g2 := hc.drop; have g3 := hc.add
    have hs : ∀ u v : List Lexeme, u.length ≤ 40 → v.length ≤ 40 → checkF u v ⟨x.drop, x.drop, x.drop⟩ = 0 := fun u v hu hv => by
      unfold checkF
      rw [if_pos (by simp [costB]; omega), if_neg (by omega)]
    have hsc := (checkF_ok (hs a b ha hb)).1
    rw [distF_ok he, distF_ok (hs a b ha hb), distF_ok (hs b c hb hcl), distF_ok (hs a c ha hcl), eqFunc_metric]
    have hz := edit_zero hc a b
    have hbd := (edit_bd hc a b).1
    have heq : ((edit x a b == 0) != decide (a.map (·.text) = b.map (·.text))) = false := by
      by_cases hq : a.map (·.text) = b.map (·.text)
      · simp [hz.2 hq, hq]
      · have : edit x a b ≠ 0 := fun e => hq (hz.1 e)
        simp [hq, this]
    refine ⟨by omega, fun x y => trivial, fun hbad => ?_, fun _ => ⟨fun _ => ?_, fun _ => ?_, of_true h ?_⟩⟩
    · exfalso
      rcases hbad with h1 | h1
      · simp only at h1; omega
      · rw [heq] at h1; cases h1
    · have h1 := edit_bd hsc a b; have h2 := edit_bd hsc b c
      simp only; omega
    · simp only [gmax, List.foldl_cons, List.foldl_nil]
      split
      · have := Int.mul_le_mul (a := x.drop) (b := b.length) (c := 1000) (d := 40) (by omega) (by omega) (by omega) (by omega)
        have := Int.mul_nonneg (a := x.drop) (b := b.length) (by omega) (by omega)
        omega
      · have := Int.mul_le_mul (a := x.drop) (b := a.length) (c := 1000) (d := 40) (by omega) (by omega) (by omega) (by omega)
        have := Int.mul_nonneg (a := x.drop) (b := a.length) (by omega) (by omega)
        omega
    · have h1 := edit_trans hsc rfl a b c
      have h2 := edit_max hsc rfl a b
      have e : gmax (a.length : Int) [(b.length : Int)] = (max a.length b.length : Nat) := by
        simp only [gmax, List.foldl_cons, List.foldl_nil]; split <;> omega
      rw [e]
      simp [h1, h2]

theorem chg_take {l : List Int} {k : Nat} (h : k < l.length) : chg (l.take (k + 1)) = chg (l.take k) + if l[k] = 2 then 1 else 0 := by
  unfold chg
  rw [List.take_succ_eq_append_getElem h, List.filter_append, List.length_append]
  congr 1
  split <;> simp_all
theorem chg_le (l : List Int) : chg l ≤ l.length := List.length_filter_le _ _

theorem lawKept_ok (a b : List Lexeme) (c : Costs) (Q : Bool → Prop) (h : Q true) : lawKept_vc a b c Q := by
  refine ⟨fun e => (by cases e), fun _ => ⟨by simp, fun _ => h, fun hf => ⟨fun _ => h, fun he => ?_⟩⟩⟩
  have ha := few_len hf a (by simp)
  have hb := few_len hf b (by simp)
  rw [alignR_snd] at he
  obtain ⟨hc, _, _⟩ := checkF_ok he
  have g1 := hc.change; have g2 := hc.drop; have g3 := hc.add
  have hlen := alignR_len a b c
  obtain ⟨k1, k2, k3, k4⟩ := alignR_kept he
  have hkl := keptF_len (alignR a b c).1
  have hcnt := alignR_cnt he
  refine ⟨by omega, ?_⟩
  generalize hx : (alignR a b c).1 = x at *
  generalize ho : keptF x = o at *
  have hpw : ∀ k : Int, 0 < k → k < o.length → (gi o (k - 1)).1 < (gi o k).1 ∧ (gi o (k - 1)).2 < (gi o k).2 := fun k h0 h1 => by
    obtain ⟨n, rfl⟩ : ∃ n : Nat, k = ((n + 1 : Nat) : Int) := ⟨(k - 1).toNat, by omega⟩
    rw [show ((n + 1 : Nat) : Int) - 1 = (n : Int) by omega, gi_nat (by omega), gi_nat (by omega)]
    exact (List.pairwise_iff_getElem.1 k2) n (n + 1) (by omega) (by omega) (by omega)
  refine lfp_of (fun i : Int => 0 ≤ i ∧ i ≤ o.length) (fun i => ((o.length : Int) - i).toNat) ?_ ⟨by omega, by omega⟩
  rintro i ⟨h0, h1⟩ again hag
  unfold lawKept_L1
  rw [hx, ho]
  refine ⟨fun hi => ?_, fun hi => ?_⟩
  · obtain ⟨q1, q2, q3, q4, q5⟩ := k1 _ (gi_mem (l := o) (i := i) (by omega))
    refine ⟨by omega, fun _ => ⟨by omega, by omega⟩, fun _ _ => ⟨by omega, by omega⟩, fun hbad => ?_, fun _ => ⟨by omega, hag _ ⟨by omega, by omega⟩ (by omega)⟩⟩
    exfalso
    by_cases hi0 : 0 < i
    · have := hpw i hi0 hi
      rcases hbad with h | h
      · rcases h with h | h
        · omega
        · exact h q5
      · omega
    · rcases hbad with h | h
      · rcases h with h | h
        · omega
        · exact h q5
      · omega
  · refine lfp_of (fun s : Int × Int => ∃ k : Nat, k ≤ x.steps.length ∧ s = ((chg (x.steps.take k) : Int), (k : Int))) (fun s => x.steps.length - s.2.toNat) ?_ ⟨0, by omega, rfl⟩
    rintro _ ⟨k, hk, rfl⟩ again2 hag2
    show lawKept_L2 a b c Q again2 (chg (x.steps.take k)) k
    unfold lawKept_L2
    rw [hx, ho]
    have hcl := chg_le (x.steps.take k)
    rw [List.length_take] at hcl
    refine ⟨fun hlt => ⟨by omega, fun h2 => ?_, fun h2 => ?_⟩, fun hge => ?_⟩
    · have e := chg_take (l := x.steps) (k := k) (by omega)
      rw [gi_nat (by omega)] at h2
      rw [if_pos h2] at e
      have := hag2 ((chg (x.steps.take (k + 1)) : Int), ((k + 1 : Nat) : Int)) ⟨k + 1, by omega, rfl⟩ (by simp; omega)
      refine ⟨by omega, by omega, ?_⟩
      rw [e] at this; exact this
    · have e := chg_take (l := x.steps) (k := k) (by omega)
      rw [gi_nat (by omega)] at h2
      rw [if_neg h2] at e
      have := hag2 ((chg (x.steps.take (k + 1)) : Int), ((k + 1 : Nat) : Int)) ⟨k + 1, by omega, rfl⟩ (by simp; omega)
      refine ⟨by omega, ?_⟩
      rw [e] at this; exact this
    · have hk' : x.steps.take k = x.steps := List.take_of_length_le (by omega)
      rw [hk'] at hcl ⊢
      have e1 : (o.length : Int) + chg x.steps ≤ a.length ∧ (o.length : Int) + chg x.steps ≤ b.length := by omega
      have m1 := Int.mul_le_mul (a := c.change) (b := (chg x.steps : Int)) (c := 1000) (d := 1000) (by omega) (by omega) (by omega) (by omega)
      have m1' := Int.mul_nonneg (a := c.change) (b := (chg x.steps : Int)) (by omega) (by omega)
      have m2 := Int.mul_le_mul (a := c.drop) (b := (a.length : Int) - (o.length + chg x.steps)) (c := 1000) (d := 1000) (by omega) (by omega) (by omega) (by omega)
      have m2' := Int.mul_nonneg (a := c.drop) (b := (a.length : Int) - (o.length + chg x.steps)) (by omega) (by omega)
      have m3 := Int.mul_le_mul (a := c.add) (b := (b.length : Int) - (o.length + chg x.steps)) (c := 1000) (d := 1000) (by omega) (by omega) (by omega) (by omega)
      have m3' := Int.mul_nonneg (a := c.add) (b := (b.length : Int) - (o.length + chg x.steps)) (by omega) (by omega)
      refine ⟨by omega, by omega, by omega, by omega, by omega, by omega, by omega, by omega, fun _ => ⟨by omega, by omega⟩, of_true h ?_⟩
      simp [k3, k4]
end Go.Lic
