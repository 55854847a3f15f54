/-
  Fingerprints: the rightmost least number of a window; the list that the program keeps; what is selected.
-/
import Derived.Test.YtkifpidbpoghlaaGreatDoorCv0
import Derived.Test.YtkifpidbpoghlaaGreatDoorSort
set_option linter.all false
namespace Go.Lic
open Go.Proofs Go.Sort
def IsL (l : List Int) (a b p : Int) : Prop := a ≤ p ∧ p < b ∧ (∀ q, a ≤ q → q < p → gi l p ≤ gi l q) ∧ (∀ q, p < q → q < b → gi l p < gi l q)
theorem isL_unique {l : List Int} {a b p q : Int} (h : IsL l a b p) (k : IsL l a b q) : p = q := by
 obtain ⟨h1, h2, h3, h4⟩ := h
 obtain ⟨k1, k2, k3, k4⟩ := k
 rcases Int.lt_trichotomy p q with h | h | h
 · have := h4 q h k2; have := k3 p h1 h; omega
 · exact h
 · have := k4 p h h2; have := h3 q k1 h; omega
theorem isL_snoc {l : List Int} {a b p : Int} (h : IsL l a b p) : IsL l a (b + 1) (if gi l b ≤ gi l p then b else p) := by
 obtain ⟨h1, h2, h3, h4⟩ := h
 split
 · next hle =>
   refine ⟨by omega, by omega, fun q hq hq2 => ?_, fun q hq hq2 => by omega⟩
   rcases Int.lt_trichotomy q p with h | h | h
   · have := h3 q hq h; omega
   · rw [h]; exact hle
   · have := h4 q h hq2; omega
 · next hn =>
   refine ⟨h1, by omega, h3, fun q hq hq2 => ?_⟩
   by_cases e : q = b
   · rw [e]; omega
   · exact h4 q hq (by omega)
theorem leastF_isL (l : List Int) (a : Int) : ∀ n : Nat, 0 < n → IsL l a (a + n) (leastF l a (a + n))
 | 0, h => by omega
 | 1, _ => by
   have : leastF l a (a + (1 : Nat)) = a := by
     unfold leastF
     rw [show (a + ((1 : Nat) : Int) - a).toNat = 1 from by omega]
     simp [List.range_succ]
   rw [this]
   exact ⟨by omega, by omega, fun q _ _ => by omega, fun q _ _ => by omega⟩
 | n + 2, _ => by
   have ih := isL_snoc (leastF_isL l a (n + 1) (by omega))
   have e : leastF l a (a + ((n + 2 : Nat) : Int)) = if gi l (a + ((n + 1 : Nat) : Int)) ≤ gi l (leastF l a (a + ((n + 1 : Nat) : Int))) then a + ((n + 1 : Nat) : Int) else leastF l a (a + ((n + 1 : Nat) : Int)) := by
     unfold leastF
     rw [show (a + ((n + 2 : Nat) : Int) - a).toNat = (n + 1) + 1 from by omega, show (a + ((n + 1 : Nat) : Int) - a).toNat = n + 1 from by omega, List.range_succ (n := n + 1), List.foldl_append]
     rfl
   rw [e, show a + ((n + 2 : Nat) : Int) = a + ((n + 1 : Nat) : Int) + 1 from by omega]
   exact ih
theorem leastF_spec {l : List Int} {a b : Int} (h : a < b) : IsL l a b (leastF l a b) := by
 have := leastF_isL l a (b - a).toNat (by omega)
 rwa [show a + (((b - a).toNat : Nat) : Int) = b from by omega] at this
theorem isL_mono {l : List Int} {a b p q : Int} (h : IsL l a b p) (k : IsL l (a + 1) (b + 1) q) : p ≤ q := by
 obtain ⟨h1, h2, h3, h4⟩ := h
 obtain ⟨k1, k2, k3, k4⟩ := k
 by_cases hlt : q < p
 · have := h3 q (by omega) hlt; have := k4 p hlt (by omega); omega
 · omega
def selN (l : List Int) (w n : Nat) : List Int := ((List.range n).map fun i : Nat => leastF l i ((i : Int) + w)).foldl selStep []
theorem selL_eq (l : List Int) (w : Nat) : selL l w = selN l w (l.length + 1 - w) := rfl
theorem selN_succ (l : List Int) (w n : Nat) : selN l w (n + 1) = selStep (selN l w n) (leastF l n ((n : Int) + w)) := by
 unfold selN; rw [List.range_succ, List.map_append, List.foldl_append]; rfl
theorem selStep_app (o : List Int) (t n : Int) : selStep (o ++ [t]) n = if t < n then o ++ [t] ++ [n] else o ++ [t] := by
 unfold selStep
 rw [gi_last]
 have : 0 < (o ++ [t]).length := by simp
 by_cases h : t < n
 · rw [if_neg (by omega), if_pos h]
 · rw [if_pos ⟨this, h⟩, if_neg h]
theorem selN_facts (l : List Int) {w : Nat} (hw : 0 < w) : ∀ n, (selN l w n).Pairwise (· < ·) ∧ (0 < n → ∃ o, selN l w n = o ++ [leastF l ((n : Int) - 1) ((n : Int) - 1 + w)]) ∧ (∀ p ∈ selN l w n, ∃ i : Nat, i < n ∧ p = leastF l i ((i : Int) + w)) ∧ (∀ i : Nat, i < n → leastF l i ((i : Int) + w) ∈ selN l w n)
 | 0 => ⟨.nil, by omega, (fun p hp => by cases hp), by omega⟩
 | n + 1 => by
   obtain ⟨h1, h2, h3, h4⟩ := selN_facts l hw n
   have e0 : ((n + 1 : Nat) : Int) - 1 = n := by omega
   rw [selN_succ, e0]
   rcases Nat.eq_zero_or_pos n with hn | hn
   · subst hn
     have : selN l w 0 = [] := rfl
     rw [this]
     have e : selStep [] (leastF l ((0 : Nat) : Int) (((0 : Nat) : Int) + w)) = [leastF l ((0 : Nat) : Int) (((0 : Nat) : Int) + w)] := by simp [selStep]
     rw [e]
     refine ⟨List.pairwise_singleton _ _, fun _ => ⟨[], rfl⟩, fun p hp => ⟨0, by omega, List.mem_singleton.1 hp⟩, fun i hi => ?_⟩
     obtain rfl : i = 0 := by omega
     exact List.mem_singleton.2 rfl
   · obtain ⟨o, ho⟩ := h2 hn
     have hm : leastF l ((n : Int) - 1) ((n : Int) - 1 + w) ≤ leastF l n ((n : Int) + w) := by
       refine isL_mono (leastF_spec (l := l) (a := (n : Int) - 1) (b := (n : Int) - 1 + w) (by omega)) ?_
       have := leastF_spec (l := l) (a := (n : Int)) (b := (n : Int) + w) (by omega)
       rwa [show (n : Int) - 1 + 1 = n from by omega, show (n : Int) - 1 + w + 1 = n + w from by omega]
     rw [ho] at h1 h3 h4 ⊢
     rw [selStep_app]
     split
     · next hlt =>
       refine ⟨?_, fun _ => ⟨_, rfl⟩, fun p hp => ?_, fun i hi => ?_⟩
       · rw [List.pairwise_append]
         refine ⟨h1, List.pairwise_singleton _ _, fun p hp q hq => ?_⟩
         rw [List.mem_singleton.1 hq]
         rw [List.pairwise_append] at h1
         rcases List.mem_append.1 hp with hp | hp
         · have := h1.2.2 p hp _ (List.mem_singleton.2 rfl); omega
         · rw [List.mem_singleton.1 hp]; exact hlt
       · rcases List.mem_append.1 hp with hp | hp
         · obtain ⟨i, hi, e⟩ := h3 p hp; exact ⟨i, by omega, e⟩
         · exact ⟨n, by omega, List.mem_singleton.1 hp⟩
       · by_cases e : i = n
         · subst e; exact List.mem_append_right _ (List.mem_singleton.2 rfl)
         · exact List.mem_append_left _ (h4 i (by omega))
     · next hn2 =>
       have e : leastF l ((n : Int) - 1) ((n : Int) - 1 + w) = leastF l n ((n : Int) + w) := by omega
       refine ⟨h1, fun _ => ⟨o, by rw [e]⟩, fun p hp => ?_, fun i hi => ?_⟩
       · obtain ⟨i, hi, e⟩ := h3 p hp; exact ⟨i, by omega, e⟩
       · by_cases e2 : i = n
         · subst e2; exact List.mem_append_right _ (List.mem_singleton.2 e.symm)
         · exact h4 i (by omega)
theorem selL_sorted (l : List Int) {w : Nat} (hw : 0 < w) : (selL l w).Pairwise (· < ·) := by rw [selL_eq]; exact (selN_facts l hw _).1
theorem selL_mem {l : List Int} {w : Nat} (hw : 0 < w) {p : Int} : p ∈ selL l w ↔ ∃ i : Nat, i + w ≤ l.length ∧ IsL l i ((i : Int) + w) p := by
 rw [selL_eq]
 obtain ⟨_, _, h3, h4⟩ := selN_facts l hw (l.length + 1 - w)
 constructor
 · intro h
   obtain ⟨i, hi, e⟩ := h3 p h
   exact ⟨i, by omega, e ▸ leastF_spec (by omega)⟩
 · rintro ⟨i, hi, h⟩
   have := h4 i (by omega)
   rwa [isL_unique (leastF_spec (by omega)) h] at this
theorem selL_bd {l : List Int} {w : Nat} (hw : 0 < w) {p : Int} (h : p ∈ selL l w) : inL p l.length := by
 obtain ⟨i, hi, h1, h2, _⟩ := (selL_mem hw).1 h
 exact ⟨by omega, by omega⟩
theorem selStep_len (o : List Int) (n : Int) : (selStep o n).length ≤ o.length + 1 := by unfold selStep; split <;> simp
theorem selN_len (l : List Int) (w n : Nat) : (selN l w n).length ≤ n := by
 have := foldl_len (f := selStep) selStep_len ((List.range n).map fun i : Nat => leastF l i ((i : Int) + w)) []
 simpa [selN] using this
structure Deq (l : List Int) (lo i : Int) (L : List Int) : Prop where
 asc : L.Pairwise (fun p q => p < q ∧ gi l p < gi l q)
 inn : ∀ p ∈ L, lo ≤ p ∧ p < i
 dom : ∀ p, lo ≤ p → p < i → ∃ s ∈ L, p ≤ s ∧ gi l s ≤ gi l p
theorem Deq.head {l : List Int} {lo i h : Int} {L : List Int} (d : Deq l lo i (h :: L)) : IsL l lo i h := by
 obtain ⟨h1, h2⟩ := d.inn h (by simp)
 have ha := List.pairwise_cons.1 d.asc
 refine ⟨h1, h2, fun q hq hq2 => ?_, fun q hq hq2 => ?_⟩
 · obtain ⟨s, hs, hs1, hs2⟩ := d.dom q hq (by omega)
   rcases List.mem_cons.1 hs with rfl | hs
   · exact hs2
   · have := (ha.1 s hs).2; omega
 · obtain ⟨s, hs, hs1, hs2⟩ := d.dom q (by omega) hq2
   rcases List.mem_cons.1 hs with rfl | hs
   · omega
   · have := (ha.1 s hs).2; omega
structure DeqP (l : List Int) (lo i : Int) (L : List Int) : Prop where
 asc : L.Pairwise (fun p q => p < q ∧ gi l p < gi l q)
 inn : ∀ p ∈ L, lo ≤ p ∧ p < i
 dom : ∀ p, lo ≤ p → p < i → (∃ s ∈ L, p ≤ s ∧ gi l s ≤ gi l p) ∨ gi l i ≤ gi l p
theorem Deq.start {l : List Int} {lo i : Int} {L : List Int} (d : Deq l lo i L) : DeqP l lo i L := ⟨d.asc, d.inn, fun p h1 h2 => .inl (d.dom p h1 h2)⟩
theorem DeqP.pop {l : List Int} {lo i t : Int} {o : List Int} (d : DeqP l lo i (o ++ [t])) (h : gi l i ≤ gi l t) : DeqP l lo i o := by
 refine ⟨(List.pairwise_append.1 d.asc).1, fun p hp => d.inn p (List.mem_append_left _ hp), fun p h1 h2 => ?_⟩
 rcases d.dom p h1 h2 with ⟨s, hs, hs1, hs2⟩ | h3
 · rcases List.mem_append.1 hs with hs | hs
   · exact .inl ⟨s, hs, hs1, hs2⟩
   · rw [List.mem_singleton.1 hs] at hs2; exact .inr (by omega)
 · exact .inr h3
theorem DeqP.push {l : List Int} {lo i : Int} {L : List Int} (d : DeqP l lo i L) (hlo : lo ≤ i) (h : ∀ o t, L = o ++ [t] → gi l t < gi l i) : Deq l lo (i + 1) (L ++ [i]) := by
 have hall : ∀ p ∈ L, gi l p < gi l i := by
   rcases list_last L with rfl | ⟨o, t, rfl⟩
   · intro p hp; cases hp
   · intro p hp
     have ht := h o t rfl
     rcases List.mem_append.1 hp with hp | hp
     · have := ((List.pairwise_append.1 d.asc).2.2 p hp t (by simp)).2; omega
     · rw [List.mem_singleton.1 hp]; exact ht
 refine ⟨?_, fun p hp => ?_, fun p h1 h2 => ?_⟩
 · rw [List.pairwise_append]
   exact ⟨d.asc, List.pairwise_singleton _ _, fun p hp q hq => by rw [List.mem_singleton.1 hq]; exact ⟨(d.inn p hp).2, hall p hp⟩⟩
 · rcases List.mem_append.1 hp with hp | hp
   · have := d.inn p hp; omega
   · rw [List.mem_singleton.1 hp]; omega
 · by_cases e : p = i
   · exact ⟨i, by simp, by omega, by rw [e]; exact Int.le_refl _⟩
   · rcases d.dom p h1 (by omega) with ⟨s, hs, hs1, hs2⟩ | h3
     · exact ⟨s, List.mem_append_left _ hs, hs1, hs2⟩
     · exact ⟨i, by simp, by omega, h3⟩
theorem Deq.shift {l : List Int} {lo i h : Int} {L : List Int} (d : Deq l lo i (h :: L)) : Deq l (lo + 1) i (if h ≤ lo then L else h :: L) := by
 obtain ⟨h1, h2⟩ := d.inn h (by simp)
 have ha := List.pairwise_cons.1 d.asc
 split
 · next hle =>
   refine ⟨ha.2, fun p hp => ?_, fun p hp1 hp2 => ?_⟩
   · have := (ha.1 p hp).1; have := d.inn p (List.mem_cons_of_mem _ hp); omega
   · obtain ⟨s, hs, hs1, hs2⟩ := d.dom p (by omega) hp2
     rcases List.mem_cons.1 hs with rfl | hs
     · omega
     · exact ⟨s, hs, hs1, hs2⟩
 · next hn =>
   refine ⟨d.asc, fun p hp => ?_, fun p hp1 hp2 => d.dom p (by omega) hp2⟩
   rcases List.mem_cons.1 hp with rfl | hp
   · omega
   · have := (ha.1 p hp).1; have := d.inn p (List.mem_cons_of_mem _ hp); omega
end Go.Lic
namespace Go.Lic
open Go.Proofs Go.Sort
theorem mod_bd (a : Int) : 0 ≤ a % PR ∧ a % PR < PR := ⟨Int.emod_nonneg _ (by decide), Int.emod_lt_of_pos _ (by decide)⟩
theorem addP_bd (a b : Int) : 0 ≤ addP a b ∧ addP a b < PR := mod_bd _
theorem mulP_bd (a b : Int) : 0 ≤ mulP a b ∧ mulP a b < PR := mod_bd _
theorem mm (a : Int) : a % PR % PR = a % PR := Int.emod_emod_of_dvd _ (Int.dvd_refl _)
theorem add_l (a b : Int) : (a % PR + b) % PR = (a + b) % PR := by rw [Int.add_emod, mm, ← Int.add_emod]
theorem add_r (a b : Int) : (a + b % PR) % PR = (a + b) % PR := by rw [Int.add_emod, mm, ← Int.add_emod]
theorem mul_l (a b : Int) : (a % PR * b) % PR = (a * b) % PR := by rw [Int.mul_emod, mm, ← Int.mul_emod]
theorem mul_r (a b : Int) : (a * (b % PR)) % PR = (a * b) % PR := by rw [Int.mul_emod, mm, ← Int.mul_emod]
theorem addP_small {a b : Int} (h : 0 ≤ a ∧ a ≤ PR) (h2 : 0 ≤ b ∧ b ≤ PR) : addP a b = if a + b ≥ PR then (if a + b - PR ≥ PR then a + b - PR - PR else a + b - PR) else a + b := by
 unfold addP; simp only [PR] at *; split <;> (try split) <;> omega
theorem mod_small {a : Int} (h : 0 ≤ a ∧ a < PR) : a % PR = a := Int.emod_eq_of_lt h.1 h.2
theorem fold61 (x : Int) (hx : 0 ≤ x) : (x % 2305843009213693952 + x / 2305843009213693952) % PR = x % PR := by simp only [PR]; omega
def wnum (w : Lexeme) : Int := codeF w.text + 1
def bigH (l : List Lexeme) : Int := l.foldl (fun h w => h * 1000003 + wnum w) 0
theorem bigH_from (l : List Lexeme) : ∀ h : Int, l.foldl (fun h w => h * 1000003 + wnum w) h = h * 1000003 ^ l.length + bigH l := by
 induction l with
 | nil => intro h; simp [bigH]
 | cons w l ih =>
   intro h
   have e : bigH (w :: l) = (0 * 1000003 + wnum w) * 1000003 ^ l.length + bigH l := by
     show List.foldl _ _ _ = _
     rw [List.foldl_cons, ih]
   rw [List.foldl_cons, ih, e, List.length_cons, Int.pow_succ]
   simp only [Int.add_mul, Int.zero_mul, Int.zero_add]
   rw [Int.mul_assoc h, Int.mul_comm (1000003 ^ l.length) 1000003, Int.add_assoc]
theorem bigH_cons (w : Lexeme) (l : List Lexeme) : bigH (w :: l) = wnum w * 1000003 ^ l.length + bigH l := by
 show List.foldl _ _ _ = _
 rw [List.foldl_cons, bigH_from]; simp
theorem bigH_snoc (l : List Lexeme) (w : Lexeme) : bigH (l ++ [w]) = bigH l * 1000003 + wnum w := by
 unfold bigH; rw [List.foldl_append]; rfl
theorem pushF_mod (h : Int) (w : Lexeme) : pushF (h % PR) w.text = (h * 1000003 + wnum w) % PR := by
 unfold pushF addP mulP wnum
 rw [mul_r, add_l, add_r, Int.mul_comm]
theorem pushF_bd (h : Int) (s : ByteArray) : 0 ≤ pushF h s ∧ pushF h s < PR := mod_bd _
theorem hashF_from (l : List Lexeme) : ∀ h : Int, l.foldl (fun h w => pushF h w.text) (h % PR) = (l.foldl (fun h w => h * 1000003 + wnum w) h) % PR := by
 induction l with
 | nil => intro h; rfl
 | cons w l ih => intro h; rw [List.foldl_cons, List.foldl_cons, pushF_mod, ih]
theorem hashF_eq (l : List Lexeme) : hashF l = bigH l % PR := by
 have := hashF_from l 0
 simpa [hashF, bigH] using this
theorem hashF_bd (l : List Lexeme) : 0 ≤ hashF l ∧ hashF l < PR := by rw [hashF_eq]; exact mod_bd _
theorem codeF_from (s : List Int) : ∀ c : Int, 0 ≤ c ∧ c < PR → 0 ≤ s.foldl (fun c b => addP (mulP 257 c) (b + 1)) c ∧ s.foldl (fun c b => addP (mulP 257 c) (b + 1)) c < PR := by
 induction s with
 | nil => intro c h; exact h
 | cons b s ih => intro c _; rw [List.foldl_cons]; exact ih _ (addP_bd _ _)
theorem codeF_bd (s : ByteArray) : 0 ≤ codeF s ∧ codeF s < PR := codeF_from _ 0 ⟨by decide, by decide⟩
theorem roll_eq (x : Lexeme) (l : List Lexeme) (y : Lexeme) : rollF (hashF (x :: l)) x.text y.text (powF l.length) = hashF (l ++ [y]) := by
 unfold rollF
 have e : addP (hashF (x :: l)) (PR - mulP (addP (codeF x.text) 1) (powF l.length)) = (bigH l) % PR := by
   unfold addP mulP powF
   rw [hashF_eq, bigH_cons, mul_l, mul_r, add_l]
   have e1 : (codeF x.text + 1) = wnum x := rfl
   rw [e1, Int.toNat_natCast]
   generalize wnum x * 1000003 ^ l.length = a
   generalize bigH l = b
   rw [show a + b + (PR - a % PR) = b + (a + (PR - a % PR)) from by omega, Int.add_emod, show (a + (PR - a % PR)) % PR = 0 from by simp only [PR]; omega, Int.add_zero, mm]
 rw [e, pushF_mod, ← bigH_snoc, ← hashF_eq]
theorem grams_len (l : List Lexeme) (k : Nat) : (gramsL l k).length = l.length + 1 - k := by simp [gramsL]
end Go.Lic
set_option linter.all false
namespace Go.Lic
open Go.Proofs Go.Sort
section
variable {T : Type} {lt : T → T → Prop}
end
theorem cmpI_neg (a b : Int) : cmpI a b < 0 ↔ a < b := by unfold cmpI; split <;> (try split) <;> omega
theorem cmpI_zero (a b : Int) : cmpI a b = 0 ↔ a = b := by unfold cmpI; split <;> (try split) <;> omega
abbrev TLt (a b : Text) : Prop := sless a.path b.path = true
theorem checkT_iff : ∀ (l : List Text) (p : Option ByteArray), checkT p l = 0 ↔ (∀ t ∈ l, validT t = true) ∧ l.Pairwise TLt ∧ (∀ q t, p = some q → l.head? = some t → sless q t.path = true)
 | [], p => by simp [checkT]
 | t :: l, p => by
   unfold checkT
   by_cases hv : validT t = true
   · rw [if_pos hv]
     by_cases hp : (p.all fun q => sless q t.path) = true
     · rw [if_pos hp, checkT_iff l (some t.path)]
       constructor
       · rintro ⟨h1, h2, h3⟩
         refine ⟨fun u hu => ?_, List.pairwise_cons.2 ⟨fun u hu => ?_, h2⟩, fun q u hq hu => ?_⟩
         · rcases List.mem_cons.1 hu with rfl | hu
           · exact hv
           · exact h1 u hu
         · cases l with
           | nil => cases hu
           | cons v l =>
             have hv2 := h3 _ v rfl rfl
             rcases List.mem_cons.1 hu with rfl | hu
             · exact hv2
             · exact sl_trans hv2 ((List.pairwise_cons.1 h2).1 u hu)
         · subst hq; simp at hu; subst hu; simpa using hp
       · rintro ⟨h1, h2, h3⟩
         obtain ⟨h4, h5⟩ := List.pairwise_cons.1 h2
         refine ⟨fun u hu => h1 u (List.mem_cons_of_mem _ hu), h5, fun q u hq hu => ?_⟩
         cases hq
         exact h4 u (by cases l with | nil => cases hu | cons v l => simp at hu; simp [hu])
     · rw [if_neg hp]
       refine ⟨fun h => absurd h (by decide), fun ⟨_, _, h3⟩ => absurd ?_ hp⟩
       cases p with
       | none => rfl
       | some q => exact h3 q t rfl rfl
   · rw [if_neg hv]
     exact ⟨fun h => absurd h (by decide), fun ⟨h1, _⟩ => absurd (h1 t (by simp)) hv⟩
theorem checkT_none (l : List Text) : checkT none l = 0 ↔ (∀ t ∈ l, validT t = true) ∧ l.Pairwise TLt := by
 rw [checkT_iff]; simp
end Go.Lic
set_option linter.all false
namespace Go.Lic
open Go.Proofs Go.Sort
def blank_vc (c : Int) (Q : Bool → Prop) : Prop :=
 Q ((decide (c ≤ 32)) || (c == 127))
def ixB_L1 (s_ : (List Int)) (p : Int → Bool) (pD : Int → Prop) (Q : Int → Prop) (again1 : Int → Prop) (x : Int) : Prop :=
 ((x < (s_.length : Int) → (inL x s_.length ∧ pD (gi s_ x) ∧ (((p (gi s_ x)) = true → Q x) ∧ ((p (gi s_ x)) = false → (inI (x + 1) ∧ again1 (x + 1)))))) ∧ (¬ x < (s_.length : Int) → Q (-1)))
def ixB_vc (s_ : (List Int)) (p : Int → Bool) (pD : Int → Prop) (Q : Int → Prop) : Prop :=
 lfp (S := Int) (fun again1 ss => ixB_L1 s_ p pD Q again1 ss) 0
def cfB_vc (s_ : (List Int)) (p : Int → Bool) (pD : Int → Prop) (Q : Bool → Prop) : Prop :=
 (s_.length ≤ 9223372036854775807 ∧ (∀ z_ ∈ s_, pD z_) ∧ Q (decide ((idxOf p s_) ≥ 0)))
def nvalid_L1 (t : Text) (Q : Bool → Prop) (again3 : Int × Int → Prop) (least : Int) (x : Int) : Prop :=
 ((x < (t.words.length : Int) → (inL x t.words.length ∧ ((¬ (gi t.words x).text = (⟨#[]⟩ : ByteArray) → (sbytes ((gi t.words x).text)).length ≤ 9223372036854775807 ∧ (∀ z_ ∈ (sbytes ((gi t.words x).text)), (fun (x0_ : Int) => True) z_)) ∧ ((((((gi t.words x).text = (⟨#[]⟩ : ByteArray) ∨ ((sbytes ((gi t.words x).text)).any (fun (x0_ : Int) => blankF x0_)) = true) ∨ (gi t.words x).line < least) ∨ (gi t.words x).line ≥ 1024) → Q false) ∧ ((((¬ (gi t.words x).text = (⟨#[]⟩ : ByteArray) ∧ ((sbytes ((gi t.words x).text)).any (fun (x0_ : Int) => blankF x0_)) = false) ∧ ¬ (gi t.words x).line < least) ∧ ¬ (gi t.words x).line ≥ 1024) → (inI (x + 1) ∧ again3 ((gi t.words x).line, (x + 1)))))))) ∧ (¬ x < (t.words.length : Int) → Q true))
def nvalid_vc (t : Text) (Q : Bool → Prop) : Prop :=
 ((¬ (t.words.length : Int) > 8192 → t.path.size ≤ 1000000) ∧ ((((t.words.length : Int) > 8192 ∨ ¬ (pathF t.path) = 0) → Q false) ∧ ((¬ (t.words.length : Int) > 8192 ∧ (pathF t.path) = 0) → lfp (S := Int × Int) (fun again3 ss => nvalid_L1 t Q again3 ss.1 ss.2) (0, 0))))
def gadd_J1 (Q : Int → Prop) (n : Int) : Prop :=
 ((n ≥ 2305843009213693951 → (inI (n - 2305843009213693951) ∧ Q (n - 2305843009213693951))) ∧ (¬ n ≥ 2305843009213693951 → Q n))
def gadd_vc (a : Int) (b : Int) (Q : Int → Prop) : Prop :=
 (inI (a + b) ∧ (((a + b) ≥ 2305843009213693951 → (inI ((a + b) - 2305843009213693951) ∧ gadd_J1 Q ((a + b) - 2305843009213693951))) ∧ (¬ (a + b) ≥ 2305843009213693951 → gadd_J1 Q (a + b))))
def gmul_vc (a : Int) (b : Int) (Q : Int → Prop) : Prop :=
 ((0 : Int) ≤ (IntKind.u64.wrap a) ∧ (IntKind.u64.wrap a) ≤ (18446744073709551615 : Int) ∧ (0 : Int) ≤ (IntKind.u64.wrap b) ∧ (IntKind.u64.wrap b) ≤ (18446744073709551615 : Int) ∧ ((0 : Int) ≤ 3 ∧ (0 : Int) ≤ 61 ∧ (0 : Int) ≤ (IntKind.i64.wrap (gand .u64 ((mul64F (IntKind.u64.wrap a) (IntKind.u64.wrap b)).2) 2305843009213693951)) ∧ (IntKind.i64.wrap (gand .u64 ((mul64F (IntKind.u64.wrap a) (IntKind.u64.wrap b)).2) 2305843009213693951)) ≤ PR ∧ (0 : Int) ≤ (IntKind.i64.wrap (gor .u64 (gshl .u64 ((mul64F (IntKind.u64.wrap a) (IntKind.u64.wrap b)).1) 3) (gshr .u64 ((mul64F (IntKind.u64.wrap a) (IntKind.u64.wrap b)).2) 61))) ∧ (IntKind.i64.wrap (gor .u64 (gshl .u64 ((mul64F (IntKind.u64.wrap a) (IntKind.u64.wrap b)).1) 3) (gshr .u64 ((mul64F (IntKind.u64.wrap a) (IntKind.u64.wrap b)).2) 61))) ≤ PR ∧ Q (addP (IntKind.i64.wrap (gand .u64 ((mul64F (IntKind.u64.wrap a) (IntKind.u64.wrap b)).2) 2305843009213693951)) (IntKind.i64.wrap (gor .u64 (gshl .u64 ((mul64F (IntKind.u64.wrap a) (IntKind.u64.wrap b)).1) 3) (gshr .u64 ((mul64F (IntKind.u64.wrap a) (IntKind.u64.wrap b)).2) 61))))))
def gcode_L1 (word : ByteArray) (Q : Int → Prop) (again1 : Int × Int → Prop) (c : Int) (x : Int) : Prop :=
 ((x < (word.size : Int) → ((0 : Int) ≤ 257 ∧ 257 < PR ∧ (0 : Int) ≤ c ∧ c < PR ∧ inL x word.size ∧ inI ((IntKind.i64.wrap (sgi word x)) + 1) ∧ (0 : Int) ≤ (mulP 257 c) ∧ (mulP 257 c) ≤ PR ∧ (0 : Int) ≤ ((IntKind.i64.wrap (sgi word x)) + 1) ∧ ((IntKind.i64.wrap (sgi word x)) + 1) ≤ PR ∧ (inI (x + 1) ∧ again1 ((addP (mulP 257 c) ((IntKind.i64.wrap (sgi word x)) + 1)), (x + 1))))) ∧ (¬ x < (word.size : Int) → Q c))
def gcode_vc (word : ByteArray) (Q : Int → Prop) : Prop :=
 lfp (S := Int × Int) (fun again1 ss => gcode_L1 word Q again1 ss.1 ss.2) (0, 0)
def gpower_L1 (Q : Int → Prop) (again1 : Int × Int × Int → Prop) (n1 : Int) (out : Int) (square : Int) : Prop :=
 ((n1 > 0 → (((0 : Int) ≤ n1 ∧ (0 : Int) < 2) ∧ (((n1 % 2) = 1 → ((0 : Int) ≤ out ∧ out < PR ∧ (0 : Int) ≤ square ∧ square < PR ∧ ((0 : Int) ≤ square ∧ square < PR ∧ ((((0 : Int) ≤ n1 ∧ (0 : Int) < 2) ∧ n1 ≤ 9223372036854775807) ∧ again1 ((n1 / 2), (mulP out square), (mulP square square)))))) ∧ (¬ (n1 % 2) = 1 → ((0 : Int) ≤ square ∧ square < PR ∧ ((((0 : Int) ≤ n1 ∧ (0 : Int) < 2) ∧ n1 ≤ 9223372036854775807) ∧ again1 ((n1 / 2), out, (mulP square square)))))))) ∧ (¬ n1 > 0 → Q out))
def gpower_vc (n : Int) (Q : Int → Prop) : Prop :=
 lfp (S := Int × Int × Int) (fun again1 ss => gpower_L1 Q again1 ss.1 ss.2.1 ss.2.2) (n, 1, 1000003)
def gpush_vc (hash : Int) (word : ByteArray) (Q : Int → Prop) : Prop :=
 ((0 : Int) ≤ 1000003 ∧ 1000003 < PR ∧ (0 : Int) ≤ hash ∧ hash < PR ∧ word.size ≤ 1000000 ∧ (0 : Int) ≤ (codeF word) ∧ (codeF word) ≤ PR ∧ (0 : Int) ≤ 1 ∧ 1 ≤ PR ∧ (0 : Int) ≤ (mulP 1000003 hash) ∧ (mulP 1000003 hash) ≤ PR ∧ (0 : Int) ≤ (addP (codeF word) 1) ∧ (addP (codeF word) 1) ≤ PR ∧ Q (addP (mulP 1000003 hash) (addP (codeF word) 1)))
def ghash_L1 (l : (List Lexeme)) (Q : Int → Prop) (again1 : Int × Int → Prop) (h_ : Int) (x : Int) : Prop :=
 ((x < (l.length : Int) → (inL x l.length ∧ ((0 : Int) ≤ h_ ∧ h_ < PR ∧ ((gi l x).text).size ≤ 1000000 ∧ (inI (x + 1) ∧ again1 ((pushF h_ ((gi l x).text)), (x + 1)))))) ∧ (¬ x < (l.length : Int) → Q h_))
def ghash_vc (l : (List Lexeme)) (Q : Int → Prop) : Prop :=
 lfp (S := Int × Int) (fun again1 ss => ghash_L1 l Q again1 ss.1 ss.2) (0, 0)
def groll_vc (hash : Int) (out : ByteArray) (in_ : ByteArray) (top : Int) (Q : Int → Prop) : Prop :=
 (out.size ≤ 1000000 ∧ (0 : Int) ≤ (codeF out) ∧ (codeF out) ≤ PR ∧ (0 : Int) ≤ 1 ∧ 1 ≤ PR ∧ (0 : Int) ≤ (addP (codeF out) 1) ∧ (addP (codeF out) 1) < PR ∧ (0 : Int) ≤ top ∧ top < PR ∧ (inI (2305843009213693951 - (mulP (addP (codeF out) 1) top)) ∧ (0 : Int) ≤ hash ∧ hash ≤ PR ∧ (0 : Int) ≤ (2305843009213693951 - (mulP (addP (codeF out) 1) top)) ∧ (2305843009213693951 - (mulP (addP (codeF out) 1) top)) ≤ PR ∧ (0 : Int) ≤ (addP hash (2305843009213693951 - (mulP (addP (codeF out) 1) top))) ∧ (addP hash (2305843009213693951 - (mulP (addP (codeF out) 1) top))) < PR ∧ in_.size ≤ 1000000 ∧ Q (pushF (addP hash (2305843009213693951 - (mulP (addP (codeF out) 1) top))) in_)))
def ggrams_L1 (l : (List Lexeme)) (k : Int) (Q : (List Int) × Int → Prop) (again5 : (List Int) × Int → Prop) (out : (List Int)) (x : Int) : Prop :=
 ((x < ((lsub l k (l.length : Int)).length : Int) → (inL x (lsub l k (l.length : Int)).length ∧ (inL x out.length ∧ inL x l.length ∧ (0 : Int) ≤ (gi out x) ∧ (gi out x) < PR ∧ ((gi l x).text).size ≤ 1000000 ∧ ((gi (lsub l k (l.length : Int)) x).text).size ≤ 1000000 ∧ (0 : Int) ≤ (powF (k - 1)) ∧ (powF (k - 1)) < PR ∧ ((out.length + ([(rollF (gi out x) ((gi l x).text) ((gi (lsub l k (l.length : Int)) x).text) (powF (k - 1)))] : List Int).length) * 8 ≤ 140737488355328 ∧ out.length + ([(rollF (gi out x) ((gi l x).text) ((gi (lsub l k (l.length : Int)) x).text) (powF (k - 1)))] : List Int).length ≤ 9223372036854775807) ∧ (inI (x + 1) ∧ again5 ((out ++ ([(rollF (gi out x) ((gi l x).text) ((gi (lsub l k (l.length : Int)) x).text) (powF (k - 1)))] : List Int)), (x + 1)))))) ∧ (¬ x < ((lsub l k (l.length : Int)).length : Int) → Q (out, 0)))
def ggrams_vc (l : (List Lexeme)) (k : Int) (Q : (List Int) × Int → Prop) : Prop :=
 (((k < 1 ∨ k > 8192) → Q ([], 3)) ∧ ((¬ k < 1 ∧ ¬ k > 8192) → (((l.length : Int) > 8192 → Q ([], 10)) ∧ (¬ (l.length : Int) > 8192 → (((l.length : Int) < k → Q ([], 0)) ∧ (¬ (l.length : Int) < k → (inS 0 k l.length ∧ okW (lsub l 0 k) ∧ (inI (k - 1) ∧ (0 : Int) ≤ (k - 1) ∧ (k - 1) ≤ (8192 : Int) ∧ (inS k (l.length : Int) l.length ∧ lfp (S := (List Int) × Int) (fun again5 ss => ggrams_L1 l k Q again5 ss.1 ss.2) (([(hashF (lsub l 0 k))] : List Int), 0))))))))))
def wsize_vc (n : Int) (Q : Bool → Prop) : Prop :=
 Q ((decide (n ≥ 1)) && (decide (n ≤ 1024)))
def wselect_J1 (w : Int) (out : (List Int)) (x : Int) (again5 : (List Int) × (List Int) × Int → Prop) (list_2 : (List Int)) : Prop :=
 (inI (w - 1) ∧ (x ≥ (w - 1) → (¬ (out.length : Int) = 0 → inI ((out.length : Int) - 1) ∧ inL ((out.length : Int) - 1) out.length ∧ inL 0 list_2.length)) ∧ (((x ≥ (w - 1) ∧ ((out.length : Int) = 0 ∨ ¬ (gi out ((out.length : Int) - 1)) = (gi list_2 0))) → (inL 0 list_2.length ∧ ((out.length + ([(gi list_2 0)] : List Int).length) * 8 ≤ 140737488355328 ∧ out.length + ([(gi list_2 0)] : List Int).length ≤ 9223372036854775807) ∧ (inI (x + 1) ∧ again5 (list_2, (out ++ ([(gi list_2 0)] : List Int)), (x + 1))))) ∧ ((¬ x ≥ (w - 1) ∨ (¬ (out.length : Int) = 0 ∧ (gi out ((out.length : Int) - 1)) = (gi list_2 0))) → (inI (x + 1) ∧ again5 (list_2, out, (x + 1))))))
def wselect_L2 (l : (List Int)) (w : Int) (out : (List Int)) (x : Int) (again5 : (List Int) × (List Int) × Int → Prop) (again7 : (List Int) → Prop) (list_1 : (List Int)) : Prop :=
 (((list_1.length : Int) > 0 → inI ((list_1.length : Int) - 1) ∧ inL ((list_1.length : Int) - 1) list_1.length ∧ inL (gi list_1 ((list_1.length : Int) - 1)) l.length ∧ inL x l.length) ∧ ((((list_1.length : Int) > 0 ∧ (gi l (gi list_1 ((list_1.length : Int) - 1))) ≥ (gi l x)) → (inI ((list_1.length : Int) - 1) ∧ inS 0 ((list_1.length : Int) - 1) list_1.length ∧ again7 (lsub list_1 0 ((list_1.length : Int) - 1)))) ∧ ((¬ (list_1.length : Int) > 0 ∨ ¬ (gi l (gi list_1 ((list_1.length : Int) - 1))) ≥ (gi l x)) → (((list_1.length + ([x] : List Int).length) * 8 ≤ 140737488355328 ∧ list_1.length + ([x] : List Int).length ≤ 9223372036854775807) ∧ (inL 0 (list_1 ++ ([x] : List Int)).length ∧ inI (x - w) ∧ (((gi (list_1 ++ ([x] : List Int)) 0) ≤ (x - w) → (inS 1 ((list_1 ++ ([x] : List Int)).length : Int) (list_1 ++ ([x] : List Int)).length ∧ wselect_J1 w out x again5 (lsub (list_1 ++ ([x] : List Int)) 1 ((list_1 ++ ([x] : List Int)).length : Int)))) ∧ (¬ (gi (list_1 ++ ([x] : List Int)) 0) ≤ (x - w) → wselect_J1 w out x again5 (list_1 ++ ([x] : List Int)))))))))
def wselect_L1 (l : (List Int)) (w : Int) (Q : (List Int) × Int → Prop) (again5 : (List Int) × (List Int) × Int → Prop) (list_ : (List Int)) (out : (List Int)) (x : Int) : Prop :=
 ((x < (l.length : Int) → lfp (S := (List Int)) (fun again7 ss => wselect_L2 l w out x again5 again7 ss) list_) ∧ (¬ x < (l.length : Int) → Q (out, 0)))
def wselect_vc (l : (List Int)) (w : Int) (Q : (List Int) × Int → Prop) : Prop :=
 (((sizeF w) = false → Q ([], 3)) ∧ ((sizeF w) = true → (((l.length : Int) > 8192 → Q ([], 10)) ∧ (¬ (l.length : Int) > 8192 → lfp (S := (List Int) × (List Int) × Int) (fun again5 ss => wselect_L1 l w Q again5 ss.1 ss.2.1 ss.2.2) (([] : List Int), ([] : List Int), 0)))))
def wprints_L1 (t : Text) (k : Int) (w : Int) (Q : (List Print) × Int → Prop) (again7 : (List Print) × Int → Prop) (out : (List Print)) (x : Int) : Prop :=
 ((x < (((selectF ((gramsF t.words k).1) w).1).length : Int) → (inL x ((selectF ((gramsF t.words k).1) w).1).length ∧ (inL (gi ((selectF ((gramsF t.words k).1) w).1) x) ((gramsF t.words k).1).length ∧ ((out.length + ([(Print.mk (gi ((gramsF t.words k).1) (gi ((selectF ((gramsF t.words k).1) w).1) x)) (gi ((selectF ((gramsF t.words k).1) w).1) x))] : List Print).length) * 16 ≤ 140737488355328 ∧ out.length + ([(Print.mk (gi ((gramsF t.words k).1) (gi ((selectF ((gramsF t.words k).1) w).1) x)) (gi ((selectF ((gramsF t.words k).1) w).1) x))] : List Print).length ≤ 9223372036854775807) ∧ (inI (x + 1) ∧ again7 ((out ++ ([(Print.mk (gi ((gramsF t.words k).1) (gi ((selectF ((gramsF t.words k).1) w).1) x)) (gi ((selectF ((gramsF t.words k).1) w).1) x))] : List Print)), (x + 1)))))) ∧ (¬ x < (((selectF ((gramsF t.words k).1) w).1).length : Int) → Q (out, 0)))
def wprints_vc (t : Text) (k : Int) (w : Int) (Q : (List Print) × Int → Prop) : Prop :=
 (okT t ∧ (((validT t) = false → Q ([], 1)) ∧ ((validT t) = true → ((((sizeF k) = false ∨ (sizeF w) = false) → Q ([], 3)) ∧ (((sizeF k) = true ∧ (sizeF w) = true) → (okW t.words ∧ ((¬ (gramsF t.words k).2 = 0 → Q ([], (gramsF t.words k).2)) ∧ ((gramsF t.words k).2 = 0 → (((gramsF t.words k).1).length ≤ 1000000 ∧ ((¬ (selectF ((gramsF t.words k).1) w).2 = 0 → Q ([], (selectF ((gramsF t.words k).1) w).2)) ∧ ((selectF ((gramsF t.words k).1) w).2 = 0 → lfp (S := (List Print) × Int) (fun again7 ss => wprints_L1 t k w Q again7 ss.1 ss.2) (([] : List Print), 0))))))))))))
def wguar_vc (k : Int) (w : Int) (Q : Int × Int → Prop) : Prop :=
 ((((sizeF k) = false ∨ (sizeF w) = false) → Q (0, 3)) ∧ (((sizeF k) = true ∧ (sizeF w) = true) → (inI (k + w) ∧ inI ((k + w) - 1) ∧ Q (((k + w) - 1), 0))))
end Go.Lic
