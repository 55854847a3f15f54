/-
  Clones: the search finds all of them. No program in sight.
-/
import Derived.Test.YtkifpidbpoghlaaGreatDoorKm
import Derived.Test.YtkifpidbpoghlaaGreatDoorStates
set_option linter.all false
namespace Go.Lic
open Go.Proofs Go.Sort Go.Shelf
section
variable {U T : Type} [DecidableEq U]
theorem kget_set (d : T) (k k' : U) (v : T) : ∀ l : List (U × T), kget d (kset l k v) k' = if k = k' then v else kget d l k'
 | [] => by simp [kset, kget]
 | p :: l => by
   by_cases h : p.1 = k
   · simp only [kset, if_pos h, kget]
     by_cases h2 : k = k'
     · simp [h2]
     · rw [if_neg h2, if_neg h2, if_neg (by rw [h]; exact h2)]
   · simp only [kset, if_neg h, kget, kget_set d k k' v l]
     by_cases h2 : p.1 = k'
     · rw [if_pos h2, if_pos h2, if_neg (by rw [← h2]; exact fun e => h e.symm)]
     · rw [if_neg h2, if_neg h2]
theorem kset_keys (k : U) (v : T) : ∀ l : List (U × T), (kset l k v).map (·.1) = if k ∈ l.map (·.1) then l.map (·.1) else l.map (·.1) ++ [k]
 | [] => by simp [kset]
 | p :: l => by
   by_cases h : p.1 = k
   · subst h; simp [kset]
   · simp only [kset, if_neg h, List.map_cons, kset_keys k v l, List.mem_cons]
     by_cases h2 : k ∈ l.map (·.1)
     · simp [h2]
     · have : ¬ (k = p.1 ∨ k ∈ l.map (·.1)) := fun e => e.elim (fun e => h e.symm) h2
       rw [if_neg h2, if_neg this]; rfl
theorem kset_nd {k : U} {v : T} {l : List (U × T)} (h : (l.map (·.1)).Nodup) : ((kset l k v).map (·.1)).Nodup := by
 rw [kset_keys]
 split
 · exact h
 · next hk =>
   rw [List.nodup_append]
   exact ⟨h, by simp, fun a ha b hb => by simp at hb; subst hb; exact fun e => hk (e ▸ ha)⟩
theorem kset_mem {k c : U} {v : T} {l : List (U × T)} : c ∈ (kset l k v).map (·.1) ↔ c ∈ l.map (·.1) ∨ c = k := by
 rw [kset_keys]
 split
 · next hk => exact ⟨.inl, fun h => h.elim id (fun e => e ▸ hk)⟩
 · simp
end
theorem mget_set {T : Type} (d : T) (k k' : Int) (v : T) : ∀ l : List (Int × T), mget d (mset l k v) k' = if k = k' then v else mget d l k'
 | [] => by simp [mset, mget]
 | p :: l => by
   by_cases h : p.1 = k
   · simp only [mset, if_pos h, mget]
     by_cases h2 : k = k'
     · simp [h2]
     · rw [if_neg h2, if_neg h2, if_neg (by rw [h]; exact h2)]
   · simp only [mset, if_neg h, mget, mget_set d k k' v l]
     by_cases h2 : p.1 = k'
     · rw [if_pos h2, if_pos h2, if_neg (by rw [← h2]; exact fun e => h e.symm)]
     · rw [if_neg h2, if_neg h2]
theorem mset_keys {T : Type} (k : Int) (v : T) : ∀ l : List (Int × T), (mset l k v).map (·.1) = if k ∈ l.map (·.1) then l.map (·.1) else l.map (·.1) ++ [k]
 | [] => by simp [mset]
 | p :: l => by
   by_cases h : p.1 = k
   · subst h; simp [mset]
   · simp only [mset, if_neg h, List.map_cons, mset_keys k v l, List.mem_cons]
     by_cases h2 : k ∈ l.map (·.1)
     · simp [h2]
     · have : ¬ (k = p.1 ∨ k ∈ l.map (·.1)) := fun e => e.elim (fun e => h e.symm) h2
       rw [if_neg h2, if_neg this]; rfl
theorem mset_nd {T : Type} {k : Int} {v : T} {l : List (Int × T)} (h : mnd l) : mnd (mset l k v) := by
 unfold mnd at *
 rw [mset_keys]
 split
 · exact h
 · next hk =>
   rw [List.nodup_append]
   exact ⟨h, by simp, fun a ha b hb => by simp at hb; subst hb; exact fun e => hk (e ▸ ha)⟩
theorem places_acc : ∀ (l : List Pst) (m : List (Int × List ClonePlace)) (h : Int), mget [] (l.foldl putP m) h = mget [] m h ++ (l.filter fun p => decide (p.hash = h)).map plOf
 | [], m, h => by simp
 | p :: l, m, h => by
   rw [List.foldl_cons, places_acc l, putP, mget_set]
   by_cases e : p.hash = h
   · simp [e]
   · simp [e]
theorem places_get (l : List Pst) (h : Int) : mget [] (placesF l) h = (l.filter fun p => decide (p.hash = h)).map plOf := by
 rw [placesF, places_acc]; simp [mget]
theorem places_nd_acc : ∀ (l : List Pst) (m : List (Int × List ClonePlace)), mnd m → mnd (l.foldl putP m)
 | [], _, h => h
 | p :: l, m, h => places_nd_acc l _ (mset_nd h)
theorem places_nd (l : List Pst) : mnd (placesF l) := places_nd_acc l [] (by simp [mnd])
theorem places_snoc (l : List Pst) (p : Pst) : placesF (l ++ [p]) = putP (placesF l) p := by simp [placesF]
theorem places_len (l : List Pst) (h : Int) : (mget [] (placesF l) h).length ≤ l.length := by
 rw [places_get, List.length_map]; exact List.length_filter_le _ _
def eqAt (A B : List Lexeme) (i j : Nat) : Prop := ∃ x y, A[i]? = some x ∧ B[j]? = some y ∧ x.text = y.text
theorem common_lt : ∀ {a b : List Lexeme} {s : Nat}, s < commonW a b → eqAt a b s s
 | [], _, _, h => by simp [commonW] at h
 | _ :: _, [], _, h => by simp [commonW] at h
 | x :: a, y :: b, s, h => by
   simp only [commonW] at h
   split at h
   · next e =>
     cases s with
     | zero => exact ⟨x, y, rfl, rfl, e⟩
     | succ s => obtain ⟨u, v, h1, h2, h3⟩ := common_lt (a := a) (b := b) (s := s) (by omega); exact ⟨u, v, by simpa using h1, by simpa using h2, h3⟩
   · omega
theorem common_end : ∀ {a b : List Lexeme}, ¬ eqAt a b (commonW a b) (commonW a b)
 | [], _ => fun ⟨_, _, h, _⟩ => by simp at h
 | _ :: _, [] => fun ⟨_, _, _, h, _⟩ => by simp at h
 | x :: a, y :: b => by
   simp only [commonW]
   split
   · next e =>
     intro ⟨u, v, h1, h2, h3⟩
     exact common_end (a := a) (b := b) ⟨u, v, by simpa using h1, by simpa using h2, h3⟩
   · next e =>
     intro ⟨u, v, h1, h2, h3⟩
     simp at h1 h2; subst h1; subst h2; exact e h3
theorem common_uniq {a b : List Lexeme} {t : Nat} (h1 : ∀ s, s < t → eqAt a b s s) (h2 : ¬ eqAt a b t t) : commonW a b = t := by
 rcases Nat.lt_trichotomy (commonW a b) t with h | h | h
 · exact absurd (h1 _ h) common_end
 · exact h
 · exact absurd (common_lt h) h2
section
variable {A B : List Lexeme}
theorem eqAt_drop {i j s : Nat} : eqAt (A.drop i) (B.drop j) s s ↔ eqAt A B (i + s) (j + s) := by simp [eqAt, List.getElem?_drop]
theorem eqAt_rev {i j s : Nat} (hi : i ≤ A.length) (hj : j ≤ B.length) : eqAt (A.take i).reverse (B.take j).reverse s s ↔ s < i ∧ s < j ∧ eqAt A B (i - 1 - s) (j - 1 - s) := by
 have key : ∀ (A : List Lexeme) (i : Nat), i ≤ A.length → ∀ x, (A.take i).reverse[s]? = some x ↔ s < i ∧ A[i - 1 - s]? = some x := fun A i hi x => by
   have hl : (A.take i).length = i := by simp; omega
   by_cases h : s < i
   · rw [List.getElem?_reverse (by omega), hl, List.getElem?_take_of_lt (by omega)]; simp [h]
   · rw [List.getElem?_eq_none (by simp; omega)]; simp [h]
 constructor
 · rintro ⟨x, y, h1, h2, h3⟩
   have h1 := (key A i hi x).1 h1; have h2 := (key B j hj y).1 h2
   exact ⟨h1.1, h2.1, x, y, h1.2, h2.2, h3⟩
 · rintro ⟨h1, h2, x, y, h3, h4, h5⟩
   exact ⟨x, y, (key A i hi x).2 ⟨h1, h3⟩, (key B j hj y).2 ⟨h2, h4⟩, h5⟩
theorem eqAt_lt {i j : Nat} (h : eqAt A B i j) : i < A.length ∧ j < B.length := by
 obtain ⟨x, y, h1, h2, _⟩ := h
 exact ⟨(List.getElem?_eq_some_iff.1 h1).1, (List.getElem?_eq_some_iff.1 h2).1⟩
theorem toN_lt {i j s : Nat} (h : s < toN A B i j) : eqAt A B (i + s) (j + s) := eqAt_drop.1 (common_lt h)
theorem toN_end {i j : Nat} : ¬ eqAt A B (i + toN A B i j) (j + toN A B i j) := fun h => common_end (eqAt_drop.2 h)
theorem toN_uniq {i j t : Nat} (h1 : ∀ s, s < t → eqAt A B (i + s) (j + s)) (h2 : ¬ eqAt A B (i + t) (j + t)) : toN A B i j = t :=
 common_uniq (fun s hs => eqAt_drop.2 (h1 s hs)) (fun h => h2 (eqAt_drop.1 h))
theorem backN_lt {i j s : Nat} (hi : i ≤ A.length) (hj : j ≤ B.length) (h : s < backN A B i j) : s < i ∧ s < j ∧ eqAt A B (i - 1 - s) (j - 1 - s) := (eqAt_rev hi hj).1 (common_lt h)
theorem backN_end {i j : Nat} (hi : i ≤ A.length) (hj : j ≤ B.length) (h1 : backN A B i j < i) (h2 : backN A B i j < j) : ¬ eqAt A B (i - 1 - backN A B i j) (j - 1 - backN A B i j) := fun h => common_end ((eqAt_rev hi hj).2 ⟨h1, h2, h⟩)
theorem backN_le {i j : Nat} (hi : i ≤ A.length) (hj : j ≤ B.length) : backN A B i j ≤ i ∧ backN A B i j ≤ j := by
 rcases Nat.eq_zero_or_pos (backN A B i j) with h | h
 · omega
 · have := backN_lt hi hj (s := backN A B i j - 1) (by omega); omega
def preN (A B : List Lexeme) (i j : Nat) : Prop := 0 < i ∧ 0 < j ∧ eqAt A B (i - 1) (j - 1)
theorem run_start {p q : Nat} (ht : 0 < toN A B p q) : p < A.length ∧ q < B.length ∧ backN A B p q ≤ p ∧ backN A B p q ≤ q ∧ ¬ preN A B (p - backN A B p q) (q - backN A B p q) ∧ toN A B (p - backN A B p q) (q - backN A B p q) = backN A B p q + toN A B p q := by
 obtain ⟨h1, h2⟩ := eqAt_lt (toN_lt ht)
 simp only [Nat.add_zero] at h1 h2
 obtain ⟨h3, h4⟩ := backN_le (A := A) (B := B) (i := p) (j := q) (by omega) (by omega)
 refine ⟨h1, h2, h3, h4, fun ⟨g1, g2, g3⟩ => ?_, toN_uniq (fun s hs => ?_) ?_⟩
 · refine backN_end (A := A) (B := B) (i := p) (j := q) (by omega) (by omega) (by omega) (by omega) ?_
   rwa [show p - backN A B p q - 1 = p - 1 - backN A B p q by omega, show q - backN A B p q - 1 = q - 1 - backN A B p q by omega] at g3
 · by_cases hb : s < backN A B p q
   · have := (backN_lt (A := A) (B := B) (i := p) (j := q) (s := backN A B p q - 1 - s) (by omega) (by omega) (by omega)).2.2
     rwa [show p - 1 - (backN A B p q - 1 - s) = p - backN A B p q + s by omega, show q - 1 - (backN A B p q - 1 - s) = q - backN A B p q + s by omega] at this
   · have := toN_lt (A := A) (B := B) (i := p) (j := q) (s := s - backN A B p q) (by omega)
     rwa [show p + (s - backN A B p q) = p - backN A B p q + s by omega, show q + (s - backN A B p q) = q - backN A B p q + s by omega] at this
 · have := toN_end (A := A) (B := B) (i := p) (j := q)
   rwa [show p - backN A B p q + (backN A B p q + toN A B p q) = p + toN A B p q by omega, show q - backN A B p q + (backN A B p q + toN A B p q) = q + toN A B p q by omega]
theorem run_at {i j d : Nat} (hp : ¬ preN A B i j) (hd : d < toN A B i j) : toN A B (i + d) (j + d) = toN A B i j - d ∧ backN A B (i + d) (j + d) = d := by
 refine ⟨toN_uniq (fun s hs => ?_) ?_, ?_⟩
 · have := toN_lt (A := A) (B := B) (i := i) (j := j) (s := d + s) (by omega)
   rwa [← Nat.add_assoc, ← Nat.add_assoc] at this
 · have := toN_end (A := A) (B := B) (i := i) (j := j)
   rwa [show i + d + (toN A B i j - d) = i + toN A B i j by omega, show j + d + (toN A B i j - d) = j + toN A B i j by omega]
 · obtain ⟨l1, l2⟩ := eqAt_lt (toN_lt hd)
   rcases Nat.lt_trichotomy (backN A B (i + d) (j + d)) d with h | h | h
   · have h1 := backN_end (A := A) (B := B) (i := i + d) (j := j + d) (by omega) (by omega) (by omega) (by omega)
     have h2 := toN_lt (A := A) (B := B) (i := i) (j := j) (s := d - 1 - backN A B (i + d) (j + d)) (by omega)
     rw [show i + (d - 1 - backN A B (i + d) (j + d)) = i + d - 1 - backN A B (i + d) (j + d) by omega, show j + (d - 1 - backN A B (i + d) (j + d)) = j + d - 1 - backN A B (i + d) (j + d) by omega] at h2
     exact absurd h2 h1
   · exact h
   · obtain ⟨h1, h2, h3⟩ := backN_lt (A := A) (B := B) (i := i + d) (j := j + d) (by omega) (by omega) h
     rw [show i + d - 1 - d = i - 1 by omega, show j + d - 1 - d = j - 1 by omega] at h3
     exact absurd ⟨by omega, by omega, h3⟩ hp
end
theorem sameW_pre (a b : Text) (i j : Nat) : sameW a ((i : Int) - 1) b ((j : Int) - 1) = true ↔ preN a.words b.words i j := by
 simp only [sameW, Bool.and_eq_true, decide_eq_true_eq, preN, eqAt]
 constructor
 · rintro ⟨⟨⟨⟨h1, h2⟩, h3⟩, h4⟩, h5⟩
   refine ⟨by omega, by omega, a.words[i - 1], b.words[j - 1], List.getElem?_eq_getElem (by omega), List.getElem?_eq_getElem (by omega), ?_⟩
   rw [show (i : Int) - 1 = ((i - 1 : Nat) : Int) by omega, show (j : Int) - 1 = ((j - 1 : Nat) : Int) by omega, gi_nat (by omega), gi_nat (by omega)] at h5
   exact h5
 · rintro ⟨h1, h2, x, y, h3, h4, h5⟩
   obtain ⟨l1, e1⟩ := List.getElem?_eq_some_iff.1 h3
   obtain ⟨l2, e2⟩ := List.getElem?_eq_some_iff.1 h4
   refine ⟨⟨⟨⟨by omega, by omega⟩, by omega⟩, by omega⟩, ?_⟩
   rw [show (i : Int) - 1 = ((i - 1 : Nat) : Int) by omega, show (j : Int) - 1 = ((j - 1 : Nat) : Int) by omega, gi_nat (by omega), gi_nat (by omega), e1, e2]
   exact h5
theorem lenC_pos {a b : Text} {i j : Nat} (h : 0 < lenC a i b j) : ¬ preN a.words b.words i j ∧ lenC a i b j = (toN a.words b.words i j : Nat) := by
 unfold lenC at *
 split at h
 · omega
 · next hs =>
   rw [if_neg hs]
   exact ⟨fun hp => hs ((sameW_pre a b i j).2 hp), by simp⟩
theorem lenC_of {a b : Text} {i j : Nat} (h : ¬ preN a.words b.words i j) : lenC a i b j = (toN a.words b.words i j : Nat) := by
 unfold lenC
 rw [if_neg (fun hs => h ((sameW_pre a b i j).1 hs))]; simp
theorem mem_pair {l : List Text} {a b : Nat} {i : Nat} {n : Int} {c : Clone} : c ∈ pairF l a i b n ↔ ∃ j : Nat, j < (gi l (b : Nat)).words.length ∧ (a ≠ b ∨ i < j) ∧ n ≤ lenC (gi l (a : Nat)) i (gi l (b : Nat)) j ∧ c = ⟨a, i, b, j, lenC (gi l (a : Nat)) i (gi l (b : Nat)) j⟩ := by
 simp only [pairF, List.mem_map, List.mem_filter, List.mem_range, Bool.and_eq_true, Bool.or_eq_true, decide_eq_true_eq]
 constructor
 · rintro ⟨j, ⟨h1, h2, h3⟩, rfl⟩; exact ⟨j, h1, by omega, h3, rfl⟩
 · rintro ⟨j, h1, h2, h3, rfl⟩; exact ⟨j, ⟨h1, by omega, h3⟩, rfl⟩
theorem mem_ref {l : List Text} {n only : Int} {c : Clone} : c ∈ refL l n only ↔ ∃ a i b j : Nat, a < l.length ∧ i < (gi l (a : Nat)).words.length ∧ b < l.length ∧ okB only a b = true ∧ j < (gi l (b : Nat)).words.length ∧ (a ≠ b ∨ i < j) ∧ n ≤ lenC (gi l (a : Nat)) i (gi l (b : Nat)) j ∧ c = ⟨a, i, b, j, lenC (gi l (a : Nat)) i (gi l (b : Nat)) j⟩ := by
 simp only [refL, List.mem_flatMap, List.mem_range, List.mem_filter, mem_pair]
 constructor
 · rintro ⟨a, h1, i, h2, b, ⟨h3, h4⟩, j, h5, h6, h7, h8⟩; exact ⟨a, i, b, j, h1, h2, h3, h4, h5, h6, h7, h8⟩
 · rintro ⟨a, i, b, j, h1, h2, h3, h4, h5, h6, h7, h8⟩; exact ⟨a, h1, i, h2, b, ⟨h3, h4⟩, j, h5, h6, h7, h8⟩
def CLt (x y : Clone) : Prop := x.a < y.a ∨ (x.a = y.a ∧ (x.atA < y.atA ∨ (x.atA = y.atA ∧ (x.b < y.b ∨ (x.b = y.b ∧ x.atB < y.atB)))))
theorem orF4 (x y z u : Int) : orF [x, y, z, u] = if x ≠ 0 then x else if y ≠ 0 then y else if z ≠ 0 then z else u := by
 unfold orF
 by_cases h1 : x = 0
 · by_cases h2 : y = 0
   · by_cases h3 : z = 0
     · by_cases h4 : u = 0 <;> simp [h1, h2, h3, h4]
     · simp [h1, h2, h3]
   · simp [h1, h2]
 · simp [h1]
theorem cloneCmp_neg (a b : Clone) : cloneCmp a b < 0 ↔ CLt a b := by
 unfold CLt cloneCmp
 rw [orF4]
 have h1 := cmpI_neg a.a b.a; have h2 := cmpI_zero a.a b.a
 have h3 := cmpI_neg a.atA b.atA; have h4 := cmpI_zero a.atA b.atA
 have h5 := cmpI_neg a.b b.b; have h6 := cmpI_zero a.b b.b
 have h7 := cmpI_neg a.atB b.atB
 generalize cmpI a.a b.a = x at *
 generalize cmpI a.atA b.atA = y at *
 generalize cmpI a.b b.b = z at *
 generalize cmpI a.atB b.atB = u at *
 split
 · omega
 · split
   · omega
   · split <;> omega
theorem cloneCmp_swo : SWO (ltOf cloneCmp) := by
 have h1 : ∀ a b, ltOf cloneCmp a b = true ↔ CLt a b := fun a b => by unfold ltOf; rw [decide_eq_true_eq]; exact cloneCmp_neg a b
 have h2 : ∀ a b, ltOf cloneCmp a b = false ↔ ¬ CLt a b := fun a b => by rw [← h1]; simp
 exact { irrefl := fun a => (h2 _ _).2 (by unfold CLt; omega), trans := fun a b c k1 k2 => (h1 _ _).2 (by have := (h1 _ _).1 k1; have := (h1 _ _).1 k2; unfold CLt at *; omega), ntrans := fun a b c k1 k2 => (h2 _ _).2 (by have := (h2 _ _).1 k1; have := (h2 _ _).1 k2; unfold CLt at *; omega) }
theorem range_lt (n : Nat) : (List.range n).Pairwise (· < ·) := List.pairwise_lt_range
theorem pair_sorted (l : List Text) (a b : Nat) (i : Nat) (n : Int) : (pairF l a i b n).Pairwise CLt := by
 unfold pairF
 rw [List.pairwise_map]
 refine ((range_lt _).filter _).imp ?_
 intro x y h
 unfold CLt; simp; omega
theorem ref_sorted (l : List Text) (n only : Int) : (refL l n only).Pairwise CLt := by
 unfold refL
 rw [List.pairwise_flatMap]
 refine ⟨fun a _ => ?_, (range_lt _).imp fun {x y} hxy u hu v hv => ?_⟩
 · rw [List.pairwise_flatMap]
   refine ⟨fun i _ => ?_, (range_lt _).imp fun {x y} hxy u hu v hv => ?_⟩
   · rw [List.pairwise_flatMap]
     refine ⟨fun b _ => pair_sorted l a b i n, ((range_lt _).filter _).imp fun {x y} hxy u hu v hv => ?_⟩
     obtain ⟨_, _, _, _, rfl⟩ := mem_pair.1 hu
     obtain ⟨_, _, _, _, rfl⟩ := mem_pair.1 hv
     unfold CLt; simp; omega
   · simp only [List.mem_flatMap] at hu hv
     obtain ⟨_, _, hu⟩ := hu; obtain ⟨_, _, hv⟩ := hv
     obtain ⟨_, _, _, _, rfl⟩ := mem_pair.1 hu
     obtain ⟨_, _, _, _, rfl⟩ := mem_pair.1 hv
     unfold CLt; simp; omega
 · simp only [List.mem_flatMap] at hu hv
   obtain ⟨_, _, _, _, hu⟩ := hu; obtain ⟨_, _, _, _, hv⟩ := hv
   obtain ⟨_, _, _, _, rfl⟩ := mem_pair.1 hu
   obtain ⟨_, _, _, _, rfl⟩ := mem_pair.1 hv
   unfold CLt; simp; omega
theorem ref_nodup (l : List Text) (n only : Int) : (refL l n only).Nodup := (ref_sorted l n only).imp fun h e => by subst e; unfold CLt at h; omega
theorem nodup_leK {T : Type} [DecidableEq T] : ∀ {a b : List T}, a.Nodup → (∀ x ∈ a, x ∈ b) → a.length ≤ b.length
 | [], _, _, _ => by simp
 | x :: a, b, hn, hs => by
   obtain ⟨h1, h2⟩ := List.nodup_cons.1 hn
   have hx := hs x (by simp)
   have := nodup_leK (a := a) (b := b.erase x) h2 (fun y hy => (List.mem_erase_of_ne (fun e : y = x => h1 (by rw [← e]; exact hy))).2 (hs y (List.mem_cons_of_mem _ hy)))
   rw [List.length_erase_of_mem hx] at this
   have : 0 < b.length := List.length_pos_of_mem hx
   simp; omega
theorem ext_sorted {T : Type} {lt : T → T → Prop} (asym : ∀ x y, lt x y → ¬ lt y x) : ∀ {a b : List T}, a.Pairwise lt → b.Pairwise lt → (∀ x, x ∈ a ↔ x ∈ b) → a = b
 | [], [], _, _, _ => rfl
 | [], y :: b, _, _, h => by have := (h y).2 (by simp); simp at this
 | x :: a, [], _, _, h => by have := (h x).1 (by simp); simp at this
 | x :: a, y :: b, ha, hb, h => by
   obtain ⟨ha1, ha2⟩ := List.pairwise_cons.1 ha
   obtain ⟨hb1, hb2⟩ := List.pairwise_cons.1 hb
   have irr : ∀ x, ¬ lt x x := fun x hx => asym x x hx hx
   have e : x = y := by
     rcases List.mem_cons.1 ((h x).1 (by simp)) with e | h1
     · exact e
     rcases List.mem_cons.1 ((h y).2 (by simp)) with e | h2
     · exact e.symm
     exact absurd (hb1 x h1) (asym _ _ (ha1 y h2))
   subst e
   rw [ext_sorted asym ha2 hb2 (fun z => ⟨fun hz => by
     rcases List.mem_cons.1 ((h z).1 (List.mem_cons_of_mem _ hz)) with e | h1
     · subst e; exact absurd (ha1 _ hz) (irr _)
     · exact h1, fun hz => by
     rcases List.mem_cons.1 ((h z).2 (List.mem_cons_of_mem _ hz)) with e | h1
     · subst e; exact absurd (hb1 _ hz) (irr _)
     · exact h1⟩)]
theorem found_sorted {l : List Text} {n only : Int} {m : List Clone} (hn : m.Nodup) (hm : ∀ c, c ∈ m ↔ c ∈ refL l n only) : sortF cloneCmp m = refL l n only := by
 have hp : (sortF cloneCmp m).Perm m := sortF_perm cloneCmp_swo m
 have hs := sortF_sorted cloneCmp_swo m
 have hlen := sortF_len cloneCmp_swo m
 generalize hS : sortF cloneCmp m = S at *
 have hSm : ∀ c, c ∈ S ↔ c ∈ refL l n only := fun c => hp.mem_iff.trans (hm c)
 have hSn : S.Nodup := hp.nodup_iff.2 hn
 -- two clones of the list with the same places are the same
 have huniq : ∀ x ∈ S, ∀ y ∈ S, ¬ CLt x y → ¬ CLt y x → x = y := fun x hx y hy h1 h2 => by
   obtain ⟨a, i, b, j, _, _, _, _, _, _, _, rfl⟩ := mem_ref.1 ((hSm x).1 hx)
   obtain ⟨a', i', b', j', _, _, _, _, _, _, _, rfl⟩ := mem_ref.1 ((hSm y).1 hy)
   unfold CLt at h1 h2
   simp only at h1 h2
   have e1 : a = a' := by omega
   have e2 : i = i' := by omega
   have e3 : b = b' := by omega
   have e4 : j = j' := by omega
   subst e1; subst e2; subst e3; subst e4; rfl
 have hSs : S.Pairwise CLt := by
   rw [List.pairwise_iff_getElem]
   intro i j hi hj hij
   have h1 := hs i j hij (by rw [← hlen]; exact hj)
   rw [getElem!_pos S i hi, getElem!_pos S j hj, cloneCmp_neg] at h1
   by_cases h2 : CLt S[i] S[j]
   · exact h2
   · have e := huniq _ (List.getElem_mem hi) _ (List.getElem_mem hj) h2 h1
     have := (List.nodup_iff_pairwise_ne.1 hSn)
     rw [List.pairwise_iff_getElem] at this
     exact absurd e (this i j hi hj hij)
 have asym : ∀ x y, CLt x y → ¬ CLt y x := fun x y => by unfold CLt; omega
 exact (ext_sorted asym hSs (ref_sorted l n only) hSm)
end Go.Lic
set_option linter.all false
namespace Go.Lic
open Go.Proofs Go.Sort Go.Shelf
end Go.Lic
set_option linter.all false
namespace Go.Lic
open Go.Proofs Go.Sort
def sortiC_L2 (data : (List Clone)) (a : Int) (p : Clone → Clone → Int) (pD : Clone → Clone → Prop) (i : Int) (again1 : Int → Prop) (again3 : Unit → Prop) : Prop :=
 ((i > a → inL i data.length ∧ inI (i - 1) ∧ inL (i - 1) data.length ∧ pD (gi data i) (gi data (i - 1))) ∧ (((i > a ∧ (p (gi data i) (gi data (i - 1))) < 0) → False) ∧ ((¬ i > a ∨ ¬ (p (gi data i) (gi data (i - 1))) < 0) → (inI (i + 1) ∧ again1 (i + 1)))))
def sortiC_L1 (data : (List Clone)) (a : Int) (b : Int) (p : Clone → Clone → Int) (pD : Clone → Clone → Prop) (Q : Unit → Prop) (again1 : Int → Prop) (i : Int) : Prop :=
 ((i < b → lfp (S := Unit) (fun again3 ss => sortiC_L2 data a p pD i again1 again3 ) ()) ∧ (¬ i < b → Q ()))
def sortiC_vc (data : (List Clone)) (a : Int) (b : Int) (p : Clone → Clone → Int) (pD : Clone → Clone → Prop) (Q : Unit → Prop) : Prop :=
 (inI (a + 1) ∧ lfp (S := Int) (fun again1 ss => sortiC_L1 data a b p pD Q again1 ss) (a + 1))
def sortpC_L1 (data : (List Clone)) (a : Int) (b : Int) (limit : Int) (Q : Unit → Prop) (again1 : Unit → Prop) : Prop :=
 (inI (b - a) ∧ (((b - a) ≤ 12 → (data = ([] : List Clone) ∧ a = (0 : Int) ∧ b = (0 : Int) ∧ Q ())) ∧ (¬ (b - a) ≤ 12 → ((limit = 0 → False) ∧ (¬ limit = 0 → False)))))
def sortpC_vc (data : (List Clone)) (a : Int) (b : Int) (limit : Int) (p : Clone → Clone → Int) (pD : Clone → Clone → Prop) (Q : Unit → Prop) : Prop :=
 lfp (S := Unit) (fun again1 ss => sortpC_L1 data a b limit Q again1 ) ()
def sort0C_vc (x : (List Clone)) (p : Clone → Clone → Int) (pD : Clone → Clone → Prop) (Q : Unit → Prop) : Prop :=
 ((0 : Int) ≤ (IntKind.u64.wrap (x.length : Int)) ∧ (IntKind.u64.wrap (x.length : Int)) ≤ (18446744073709551615 : Int) ∧ x = ([] : List Clone) ∧ 0 = (0 : Int) ∧ (x.length : Int) = (0 : Int) ∧ Q ())
def kright_L1 (l : (List Text)) (Q : Bool → Prop) (again2 : Int → Prop) (x : Int) : Prop :=
 ((x < (l.length : Int) → (inL x l.length ∧ (okT (gi l x) ∧ ((validT (gi l x)) = true → (x > 0 → inI (x - 1) ∧ inL (x - 1) l.length)) ∧ ((((validT (gi l x)) = false ∨ (x > 0 ∧ (sless ((gi l x).path) ((gi l (x - 1)).path) || decide ((gi l x).path = (gi l (x - 1)).path)) = true)) → Q false) ∧ (((validT (gi l x)) = true ∧ (¬ x > 0 ∨ (sless ((gi l x).path) ((gi l (x - 1)).path) || decide ((gi l x).path = (gi l (x - 1)).path)) = false)) → (inI (x + 1) ∧ again2 (x + 1))))))) ∧ (¬ x < (l.length : Int) → Q true))
def kright_vc (l : (List Text)) (Q : Bool → Prop) : Prop :=
 (((l.length : Int) > 64 → Q false) ∧ (¬ (l.length : Int) > 64 → lfp (S := Int) (fun again2 ss => kright_L1 l Q again2 ss) 0))
def kcompare_vc (a : Clone) (b : Clone) (Q : Int → Prop) : Prop :=
 (([(cmpI a.a b.a), (cmpI a.atA b.atA), (cmpI a.b b.b), (cmpI a.atB b.atB)] : List Int).length ≤ 9223372036854775807 ∧ Q (orF ([(cmpI a.a b.a), (cmpI a.atA b.atA), (cmpI a.b b.b), (cmpI a.atB b.atB)] : List Int)))
def klook_L2 (texts : (List Text)) (least : Int) (seen : (List (CloneDiagonal × Int))) (found : (List (Clone × Unit))) (x : ClonePlace) (y : ClonePlace) (to : Int) (Q : (List (CloneDiagonal × Int)) × (List (Clone × Unit)) → Prop) (again7 : Int → Prop) (from_ : Int) : Prop :=
 ((((to > 0 ∧ x.at_ > from_) ∧ y.at_ > from_) → inI (x.at_ - from_) ∧ inI ((x.at_ - from_) - 1) ∧ inL ((x.at_ - from_) - 1) ((gi texts x.text).words).length ∧ inI (y.at_ - from_) ∧ inI ((y.at_ - from_) - 1) ∧ inL ((y.at_ - from_) - 1) ((gi texts y.text).words).length) ∧ (((((to > 0 ∧ x.at_ > from_) ∧ y.at_ > from_) ∧ (gi ((gi texts x.text).words) ((x.at_ - from_) - 1)).text = (gi ((gi texts y.text).words) ((y.at_ - from_) - 1)).text) → (inI (from_ + 1) ∧ again7 (from_ + 1))) ∧ ((((¬ to > 0 ∨ ¬ x.at_ > from_) ∨ ¬ y.at_ > from_) ∨ ¬ (gi ((gi texts x.text).words) ((x.at_ - from_) - 1)).text = (gi ((gi texts y.text).words) ((y.at_ - from_) - 1)).text) → (inI (from_ + to) ∧ ((((from_ + to) ≥ least ∧ to > 0) → (inI (x.at_ - from_) ∧ inI (y.at_ - from_) ∧ inI (from_ + to) ∧ Q ((kset seen (CloneDiagonal.mk x.text y.text (y.at_ - x.at_)) (x.at_ + (gmax to [1]))), (kset found (Clone.mk x.text (x.at_ - from_) y.text (y.at_ - from_) (from_ + to)) ())))) ∧ ((¬ (from_ + to) ≥ least ∨ ¬ to > 0) → Q ((kset seen (CloneDiagonal.mk x.text y.text (y.at_ - x.at_)) (x.at_ + (gmax to [1]))), found)))))))
def klook_L1 (texts : (List Text)) (least : Int) (seen : (List (CloneDiagonal × Int))) (found : (List (Clone × Unit))) (x : ClonePlace) (y : ClonePlace) (Q : (List (CloneDiagonal × Int)) × (List (Clone × Unit)) → Prop) (again5 : Int → Prop) (to : Int) : Prop :=
 (inI (x.at_ + to) ∧ ((x.at_ + to) < (((gi texts x.text).words).length : Int) → inI (y.at_ + to)) ∧ (((x.at_ + to) < (((gi texts x.text).words).length : Int) ∧ (y.at_ + to) < (((gi texts y.text).words).length : Int)) → inL (x.at_ + to) ((gi texts x.text).words).length ∧ inI (y.at_ + to) ∧ inL (y.at_ + to) ((gi texts y.text).words).length) ∧ (((((x.at_ + to) < (((gi texts x.text).words).length : Int) ∧ (y.at_ + to) < (((gi texts y.text).words).length : Int)) ∧ (gi ((gi texts x.text).words) (x.at_ + to)).text = (gi ((gi texts y.text).words) (y.at_ + to)).text) → (inI (to + 1) ∧ again5 (to + 1))) ∧ (((¬ (x.at_ + to) < (((gi texts x.text).words).length : Int) ∨ ¬ (y.at_ + to) < (((gi texts y.text).words).length : Int)) ∨ ¬ (gi ((gi texts x.text).words) (x.at_ + to)).text = (gi ((gi texts y.text).words) (y.at_ + to)).text) → (inI (x.at_ + (gmax to [1])) ∧ lfp (S := Int) (fun again7 ss => klook_L2 texts least seen found x y to Q again7 ss) 0))))
def klook_vc (texts : (List Text)) (least : Int) (seen : (List (CloneDiagonal × Int))) (found : (List (Clone × Unit))) (x : ClonePlace) (y : ClonePlace) (Q : (List (CloneDiagonal × Int)) × (List (Clone × Unit)) → Prop) : Prop :=
 (inI (y.at_ - x.at_) ∧ (((kget 0 seen (CloneDiagonal.mk x.text y.text (y.at_ - x.at_))) > x.at_ → Q (seen, found)) ∧ (¬ (kget 0 seen (CloneDiagonal.mk x.text y.text (y.at_ - x.at_))) > x.at_ → (inL x.text texts.length ∧ inL y.text texts.length ∧ lfp (S := Int) (fun again5 ss => klook_L1 texts least seen found x y Q again5 ss) 0))))
def kclones_L2 (texts : (List Text)) (k : Int) (w : Int) (prints : (List (List Print))) (x : Int) (again6 : (List (List Print)) × (List (Int × List ClonePlace)) × Int → Prop) (again9 : (List (Int × List ClonePlace)) × Int → Prop) (m_351 : (List (Int × List ClonePlace))) (x1 : Int) : Prop :=
 ((x1 < ((gi (si prints x ((printsF (gi texts x) k w).1)) x).length : Int) → (inL x1 (gi (si prints x ((printsF (gi texts x) k w).1)) x).length ∧ ((((mget [] m_351 ((gi (gi (si prints x ((printsF (gi texts x) k w).1)) x) x1).hash)).length + ([(ClonePlace.mk x ((gi (gi (si prints x ((printsF (gi texts x) k w).1)) x) x1).at_))] : List ClonePlace).length) * 16 ≤ 140737488355328 ∧ (mget [] m_351 ((gi (gi (si prints x ((printsF (gi texts x) k w).1)) x) x1).hash)).length + ([(ClonePlace.mk x ((gi (gi (si prints x ((printsF (gi texts x) k w).1)) x) x1).at_))] : List ClonePlace).length ≤ 9223372036854775807) ∧ mnd m_351 ∧ (inI (x1 + 1) ∧ again9 ((mset m_351 ((gi (gi (si prints x ((printsF (gi texts x) k w).1)) x) x1).hash) ((mget [] m_351 ((gi (gi (si prints x ((printsF (gi texts x) k w).1)) x) x1).hash)) ++ ([(ClonePlace.mk x ((gi (gi (si prints x ((printsF (gi texts x) k w).1)) x) x1).at_))] : List ClonePlace))), (x1 + 1)))))) ∧ (¬ x1 < ((gi (si prints x ((printsF (gi texts x) k w).1)) x).length : Int) → (inI (x + 1) ∧ again6 ((si prints x ((printsF (gi texts x) k w).1)), m_351, (x + 1)))))
def kclones_L5 (texts : (List Text)) (k : Int) (w : Int) (only_ : Int) (prints : (List (List Print))) (m_35 : (List (Int × List ClonePlace))) (x2 : Int) (x3 : Int) (Q : (List Clone) × Int → Prop) (again174 : (List (Clone × Unit)) × (List (CloneDiagonal × Int)) × Int → Prop) (again178 : (List (Clone × Unit)) × (List (CloneDiagonal × Int)) × Int → Prop) (m_322 : (List (Clone × Unit))) (m_312 : (List (CloneDiagonal × Int))) (x4 : Int) : Prop :=
 ((x4 < ((mget [] m_35 ((gi (gi prints x2) x3).hash)).length : Int) → (inL x4 (mget [] m_35 ((gi (gi prints x2) x3).hash)).length ∧ ((((((eqClonePlace (gi (mget [] m_35 ((gi (gi prints x2) x3).hash)) x4) (ClonePlace.mk x2 ((gi (gi prints x2) x3).at_))) = true ∨ (gi (mget [] m_35 ((gi (gi prints x2) x3).hash)) x4).text < x2) ∨ ((gi (mget [] m_35 ((gi (gi prints x2) x3).hash)) x4).text = x2 ∧ (gi (mget [] m_35 ((gi (gi prints x2) x3).hash)) x4).at_ < (gi (gi prints x2) x3).at_)) ∨ (only_ ≥ 0 ∧ (¬ (gi (mget [] m_35 ((gi (gi prints x2) x3).hash)) x4).text = only_ ∨ x2 = only_))) → (inI (x4 + 1) ∧ again178 (m_322, m_312, (x4 + 1)))) ∧ (((((eqClonePlace (gi (mget [] m_35 ((gi (gi prints x2) x3).hash)) x4) (ClonePlace.mk x2 ((gi (gi prints x2) x3).at_))) = false ∧ ¬ (gi (mget [] m_35 ((gi (gi prints x2) x3).hash)) x4).text < x2) ∧ (¬ (gi (mget [] m_35 ((gi (gi prints x2) x3).hash)) x4).text = x2 ∨ ¬ (gi (mget [] m_35 ((gi (gi prints x2) x3).hash)) x4).at_ < (gi (gi prints x2) x3).at_)) ∧ (¬ only_ ≥ 0 ∨ ((gi (mget [] m_35 ((gi (gi prints x2) x3).hash)) x4).text = only_ ∧ ¬ x2 = only_))) → (okTs texts ∧ OkP texts ((ClonePlace.mk x2 ((gi (gi prints x2) x3).at_)), (gi (mget [] m_35 ((gi (gi prints x2) x3).hash)) x4)) ∧ (((((lookF texts ((k + w) - 1) m_312 m_322 (ClonePlace.mk x2 ((gi (gi prints x2) x3).at_)) (gi (mget [] m_35 ((gi (gi prints x2) x3).hash)) x4)).2).length : Int) > 1024 → Q ([], 10)) ∧ (¬ (((lookF texts ((k + w) - 1) m_312 m_322 (ClonePlace.mk x2 ((gi (gi prints x2) x3).at_)) (gi (mget [] m_35 ((gi (gi prints x2) x3).hash)) x4)).2).length : Int) > 1024 → (inI (x4 + 1) ∧ again178 (((lookF texts ((k + w) - 1) m_312 m_322 (ClonePlace.mk x2 ((gi (gi prints x2) x3).at_)) (gi (mget [] m_35 ((gi (gi prints x2) x3).hash)) x4)).2), ((lookF texts ((k + w) - 1) m_312 m_322 (ClonePlace.mk x2 ((gi (gi prints x2) x3).at_)) (gi (mget [] m_35 ((gi (gi prints x2) x3).hash)) x4)).1), (x4 + 1)))))))))) ∧ (¬ x4 < ((mget [] m_35 ((gi (gi prints x2) x3).hash)).length : Int) → (inI (x3 + 1) ∧ again174 (m_322, m_312, (x3 + 1)))))
def kclones_L4 (texts : (List Text)) (k : Int) (w : Int) (only_ : Int) (prints : (List (List Print))) (m_35 : (List (Int × List ClonePlace))) (x2 : Int) (Q : (List Clone) × Int → Prop) (again172 : (List (Clone × Unit)) × (List (CloneDiagonal × Int)) × Int → Prop) (again174 : (List (Clone × Unit)) × (List (CloneDiagonal × Int)) × Int → Prop) (m_321 : (List (Clone × Unit))) (m_311 : (List (CloneDiagonal × Int))) (x3 : Int) : Prop :=
 ((x3 < ((gi prints x2).length : Int) → (inL x3 (gi prints x2).length ∧ lfp (S := (List (Clone × Unit)) × (List (CloneDiagonal × Int)) × Int) (fun again178 ss => kclones_L5 texts k w only_ prints m_35 x2 x3 Q again174 again178 ss.1 ss.2.1 ss.2.2) (m_321, m_311, 0))) ∧ (¬ x3 < ((gi prints x2).length : Int) → (inI (x2 + 1) ∧ again172 (m_321, m_311, (x2 + 1)))))
def kclones_L6 (m_32 : (List (Clone × Unit))) (Q : (List Clone) × Int → Prop) (again193 : (List Nat) × (List Clone) → Prop) (seen : (List Nat)) (out : (List Clone)) : Prop :=
 (((∀ k_ : Nat, k_ < m_32.length → k_ ∈ seen) → ((SWO (ltOf cloneCmp) ∧ out.length < 4611686018427387904) ∧ Q ((sortF cloneCmp out), 0))) ∧ (∀ at_ : Nat, at_ < m_32.length → at_ ∉ seen → (((out.length + ([(gi m_32 (at_ : Int)).1] : List Clone).length) * 40 ≤ 140737488355328 ∧ out.length + ([(gi m_32 (at_ : Int)).1] : List Clone).length ≤ 9223372036854775807) ∧ again193 ((seen ++ [at_]), (out ++ ([(gi m_32 (at_ : Int)).1] : List Clone))))))
def kclones_L3 (texts : (List Text)) (k : Int) (w : Int) (only_ : Int) (prints : (List (List Print))) (m_35 : (List (Int × List ClonePlace))) (Q : (List Clone) × Int → Prop) (again172 : (List (Clone × Unit)) × (List (CloneDiagonal × Int)) × Int → Prop) (m_32 : (List (Clone × Unit))) (m_31 : (List (CloneDiagonal × Int))) (x2 : Int) : Prop :=
 ((x2 < (prints.length : Int) → (inL x2 prints.length ∧ lfp (S := (List (Clone × Unit)) × (List (CloneDiagonal × Int)) × Int) (fun again174 ss => kclones_L4 texts k w only_ prints m_35 x2 Q again172 again174 ss.1 ss.2.1 ss.2.2) (m_32, m_31, 0))) ∧ (¬ x2 < (prints.length : Int) → lfp (S := (List Nat) × (List Clone)) (fun again193 ss => kclones_L6 m_32 Q again193 ss.1 ss.2) (([] : List Nat), ([] : List Clone))))
def kclones_L1 (texts : (List Text)) (k : Int) (w : Int) (only_ : Int) (Q : (List Clone) × Int → Prop) (again6 : (List (List Print)) × (List (Int × List ClonePlace)) × Int → Prop) (prints : (List (List Print))) (m_35 : (List (Int × List ClonePlace))) (x : Int) : Prop :=
 ((x < (texts.length : Int) → (inL x texts.length ∧ (okT (gi texts x) ∧ inL x prints.length ∧ (inL x (si prints x ((printsF (gi texts x) k w).1)).length ∧ lfp (S := (List (Int × List ClonePlace)) × Int) (fun again9 ss => kclones_L2 texts k w prints x again6 again9 ss.1 ss.2) (m_35, 0))))) ∧ (¬ x < (texts.length : Int) → lfp (S := (List (Clone × Unit)) × (List (CloneDiagonal × Int)) × Int) (fun again172 ss => kclones_L3 texts k w only_ prints m_35 Q again172 ss.1 ss.2.1 ss.2.2) (([] : List (Clone × Unit)), ([] : List (CloneDiagonal × Int)), 0)))
def kclones_vc (texts : (List Text)) (k : Int) (w : Int) (only_ : Int) (Q : (List Clone) × Int → Prop) : Prop :=
 (inI (k + w) ∧ inI ((k + w) - 1) ∧ ((((0 : Int) ≤ (texts.length : Int) ∧ ((texts.length : Int) : Int) ≤ (texts.length : Int)) ∧ (24 : Int) * (texts.length : Int) ≤ 281474976710656 ∧ ((texts.length : Int) : Int) ≤ 9223372036854775807) ∧ lfp (S := (List (List Print)) × (List (Int × List ClonePlace)) × Int) (fun again6 ss => kclones_L1 texts k w only_ Q again6 ss.1 ss.2.1 ss.2.2) ((List.replicate (Int.toNat (texts.length : Int)) ([] : (List Print))), ([] : List (Int × List ClonePlace)), 0)))
def kfind_vc (l : (List Text)) (k : Int) (w : Int) (Q : (List Clone) × Int → Prop) : Prop :=
 (okTs l ∧ (((rightL l) = false → Q (([] : List Clone), 1)) ∧ ((rightL l) = true → ((¬ (guarF k w).2 = 0 → Q (([] : List Clone), 3)) ∧ ((guarF k w).2 = 0 → (okTs l ∧ (∀ t_ ∈ l, validT t_ = true) ∧ sizeF k = true ∧ sizeF w = true ∧ inI (-1) ∧ Q ((clonesF l k w (-1)).1, (clonesF l k w (-1)).2)))))))
def eqClones_L1 (s1 : (List Clone)) (s2 : (List Clone)) (Q : Bool → Prop) (again2 : Int → Prop) (x : Int) : Prop :=
 ((x < (s1.length : Int) → (inL x s1.length ∧ inL x s2.length ∧ (((eqClone (gi s1 x) (gi s2 x)) = false → Q false) ∧ ((eqClone (gi s1 x) (gi s2 x)) = true → (inI (x + 1) ∧ again2 (x + 1)))))) ∧ (¬ x < (s1.length : Int) → Q true))
def eqClones_vc (s1 : (List Clone)) (s2 : (List Clone)) (Q : Bool → Prop) : Prop :=
 ((¬ (s1.length : Int) = (s2.length : Int) → Q false) ∧ ((s1.length : Int) = (s2.length : Int) → lfp (S := Int) (fun again2 ss => eqClones_L1 s1 s2 Q again2 ss) 0))
end Go.Lic
