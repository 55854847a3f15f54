/-
  The conditions of functions of chapter 25 hold: fingerprints. No program in sight.
-/
import Derived.Test.YtglclijalehcmaaGreatDoorCo1
set_option linter.all false
namespace Go.Lic
open Go.Proofs Go.Sort Go.Shelf
theorem sizeF_iff (n : Int) : sizeF n = true ↔ 1 ≤ n ∧ n ≤ 1024 := by unfold sizeF; simp
theorem sizes_iff (k w : Int) : (sizeF k && sizeF w) = true ↔ sizeF k = true ∧ sizeF w = true := Bool.and_eq_true_iff
theorem sizes_not {k w : Int} (h : sizeF k = false ∨ sizeF w = false) : ¬ (sizeF k && sizeF w) = true := by
 rcases h with h | h <;> simp [h]
theorem wsize_ok (n : Int) (Q : Bool → Prop) (h : Q (sizeF n)) : wsize_vc n Q := h
theorem wguar_ok (k : Int) (w : Int) (Q : Int × Int → Prop) (h : Q (guarF k w)) : wguar_vc k w Q := by
 unfold guarF at h
 refine ⟨fun hb => ?_, fun hg => ?_⟩
 · rw [if_neg (sizes_not hb)] at h; exact h
 · rw [if_pos ((sizes_iff k w).2 hg)] at h
   have h1 := (sizeF_iff k).1 hg.1; have h2 := (sizeF_iff w).1 hg.2
   exact ⟨by omega, by omega, h⟩
theorem selN_step (l : List Int) {w : Nat} (hw : 0 < w) (n : Nat) : selN l w (n + 1) = if ((selN l w n).length : Int) = 0 ∨ ¬ gi (selN l w n) (((selN l w n).length : Int) - 1) = leastF l n ((n : Int) + w) then selN l w n ++ [leastF l n ((n : Int) + w)] else selN l w n := by
 rw [selN_succ]
 rcases Nat.eq_zero_or_pos n with hn | hn
 · subst hn
   have : selN l w 0 = [] := rfl
   rw [this]; simp [selStep]
 · obtain ⟨o, ho⟩ := (selN_facts l hw n).2.1 hn
   have hm : leastF l ((n : Int) - 1) ((n : Int) - 1 + w) ≤ leastF l n ((n : Int) + w) := by
     refine isL_mono (leastF_spec (l := l) (a := (n : Int) - 1) (b := (n : Int) - 1 + w) (by omega)) ?_
     have := leastF_spec (l := l) (a := (n : Int)) (b := (n : Int) + w) (by omega)
     rwa [show (n : Int) - 1 + 1 = n from by omega, show (n : Int) - 1 + w + 1 = n + w from by omega]
   rw [ho, selStep_app, gi_last]
   by_cases hlt : leastF l ((n : Int) - 1) ((n : Int) - 1 + w) < leastF l n ((n : Int) + w)
   · rw [if_pos hlt, if_pos (.inr (by omega))]
   · rw [if_neg hlt, if_neg]
     simp only [List.length_append, List.length_singleton]
     omega
theorem asc_len {l : List Int} : ∀ {L : List Int} {lo hi : Int}, L.Pairwise (fun p q => p < q ∧ gi l p < gi l q) → (∀ p ∈ L, lo ≤ p ∧ p < hi) → L.length ≤ (hi - lo).toNat
 | [], _, _, _, _ => by simp
 | x :: L, lo, hi, hp, hb => by
   obtain ⟨h1, h2⟩ := List.pairwise_cons.1 hp
   have hx := hb x (by simp)
   have := asc_len (lo := x + 1) (hi := hi) h2 (fun p hp => ⟨by have := (h1 p hp).1; omega, (hb p (List.mem_cons_of_mem _ hp)).2⟩)
   simp only [List.length_cons]; omega
theorem wselect_ok (l : (List Int)) (w : Int) (Q : (List Int) × Int → Prop) (hp0 : l.length ≤ 1000000) (h : Q (selectF l w)) : wselect_vc l w Q := by
 unfold selectF at h
 refine ⟨fun hb => by rw [hb] at h; exact h, fun hg => ?_⟩
 rw [hg, if_pos rfl] at h
 refine ⟨fun hb => by rw [if_pos (by omega)] at h; exact h, fun hs => ?_⟩
 rw [if_neg (by omega)] at h
 have hw := (sizeF_iff w).1 hg
 obtain ⟨wn, rfl⟩ := Int.eq_ofNat_of_zero_le (show 0 ≤ w by omega)
 rw [Int.toNat_natCast, selL_eq] at h
 refine lfp3 (wselect_L1 l (wn : Int) Q) (fun list_ out x => 0 ≤ x ∧ x ≤ l.length ∧ Deq l (max 0 (x - wn)) x list_ ∧ out = selN l wn (x + 1 - wn).toNat) (fun _ _ x => (l.length - x).toNat) (fun list_ out x hst again hag => ?_) ⟨by omega, by omega, ⟨.nil, (fun p hp => by cases hp), fun p h1 h2 => by omega⟩, ?_⟩
 · obtain ⟨h0, h1, h2, h3⟩ := hst
   have hol : out.length ≤ 1000001 := by rw [h3]; exact Nat.le_trans (selN_len _ _ _) (by omega)
   refine ⟨fun hlt => ?_, fun hn => ?_⟩
   · -- what is done with the list, once the new place stands in it
     have J : ∀ L2 : List Int, Deq l (max 0 (x + 1 - wn)) (x + 1) L2 → wselect_J1 (wn : Int) out x again L2 := by
       intro L2 hd
       have hne : L2 ≠ [] := by
         rintro rfl
         obtain ⟨s, hs, _⟩ := hd.dom x (by omega) (by omega)
         cases hs
       obtain ⟨hh, L3, rfl⟩ := List.exists_cons_of_ne_nil hne
       have e0 : gi (hh :: L3) 0 = hh := rfl
       have key : x ≥ (wn : Int) - 1 → selN l wn (x + 1 + 1 - (wn : Int)).toNat = if (out.length : Int) = 0 ∨ ¬ gi out ((out.length : Int) - 1) = hh then out ++ [hh] else out := fun hx => by
         obtain ⟨n, hn⟩ : ∃ n : Nat, x + 1 - (wn : Int) = n := ⟨(x + 1 - wn).toNat, by omega⟩
         have hx1 : x + 1 = (n : Int) + wn := by omega
         have hst := selN_step l (w := wn) (by omega) n
         have hh' : hh = leastF l n ((n : Int) + wn) := by
           refine isL_unique (l := l) ?_ (leastF_spec (by omega))
           have := hd.head
           rw [hx1, show max 0 ((n : Int) + wn - wn) = n by omega] at this
           exact this
         rw [hn, Int.toNat_natCast] at h3
         rw [show (x + 1 + 1 - (wn : Int)).toNat = n + 1 by omega, hst, ← hh', ← h3]
       refine ⟨by omega, fun hge hne2 => ⟨by omega, by omega, by simp; omega⟩, fun hc => ⟨by simp; omega, ⟨by simp; omega, by simp; omega⟩, by omega, hag _ _ _ ⟨by omega, by omega, hd, ?_⟩ (by omega)⟩, fun hc => ⟨by omega, hag _ _ _ ⟨by omega, by omega, hd, ?_⟩ (by omega)⟩⟩
       · rw [e0] at hc ⊢
         rw [key hc.1, if_pos hc.2]
       · rw [e0] at hc
         by_cases hx : x ≥ (wn : Int) - 1
         · rw [key hx, if_neg]
           rintro (hz | hz)
           · rcases hc with hc | hc
             · exact hc hx
             · exact hc.1 hz
           · rcases hc with hc | hc
             · exact hc hx
             · exact hz hc.2
         · rw [h3, show (x + 1 + 1 - (wn : Int)).toNat = 0 by omega, show (x + 1 - (wn : Int)).toNat = 0 by omega]
     refine lfp_of (fun L => DeqP l (max 0 (x - wn)) x L) (fun L => L.length) (fun L hL again7 hag7 => ?_) h2.start
     have hin : ∀ o t, L = o ++ [t] → 0 ≤ t ∧ t < x := fun o t e => by have := hL.inn t (by rw [e]; simp); omega
     have hlen : L.length ≤ l.length := by have := asc_len hL.asc hL.inn; omega
     refine ⟨fun hpos => ?_, fun hc => ?_, fun hc => ?_⟩
     · rcases list_last L with rfl | ⟨o, t, rfl⟩
       · simp at hpos
       · have := hin o t rfl
         rw [gi_last]
         exact ⟨by omega, by omega, by omega, by omega⟩
     · rcases list_last L with rfl | ⟨o, t, rfl⟩
       · simp at hc
       · rw [gi_last] at hc
         have e : lsub (o ++ [t]) 0 (((o ++ [t]).length : Int) - 1) = o := by rw [lsub_to]; simp
         rw [e]
         exact ⟨by omega, by omega, hag7 _ (hL.pop hc.2) (by simp)⟩
     · have hd : Deq l (max 0 (x - wn)) (x + 1) (L ++ [x]) := by
         refine hL.push (by omega) fun o t e => ?_
         subst e
         rw [gi_last] at hc
         rcases hc with hc | hc
         · exact absurd (by simp) hc
         · omega
       obtain ⟨hh, L3, e⟩ : ∃ a b, L ++ [x] = a :: b := by cases L <;> exact ⟨_, _, rfl⟩
       have hll : (L ++ [x]).length = L.length + 1 := by simp
       refine ⟨⟨by simp; omega, by simp; omega⟩, by omega, by omega, ?_, ?_⟩
       · intro hle
         refine ⟨by omega, J _ ?_⟩
         rw [e] at hle hd ⊢
         have e0 : gi (hh :: L3) 0 = hh := rfl
         rw [e0] at hle
         have hsh := hd.shift
         have hi := hd.inn hh (by simp)
         rw [if_pos (by omega), show max 0 (x - (wn : Int)) + 1 = max 0 (x + 1 - wn) by omega] at hsh
         rw [lsub_from]
         exact hsh
       · intro hle
         refine J _ ?_
         rw [e] at hle hd ⊢
         have e0 : gi (hh :: L3) 0 = hh := rfl
         rw [e0] at hle
         by_cases hz : x - (wn : Int) < 0
         · rw [show max 0 (x - (wn : Int)) = max 0 (x + 1 - wn) by omega] at hd
           exact hd
         · have hsh := hd.shift
           rw [if_neg (by omega), show max 0 (x - (wn : Int)) + 1 = max 0 (x + 1 - wn) by omega] at hsh
           exact hsh
   · rw [show l.length + 1 - wn = (x + 1 - wn).toNat by omega, ← h3] at h
     exact h
 · rw [show ((0 : Int) + 1 - wn).toNat = 0 by omega]; rfl
theorem selL_len (l : List Int) (w : Nat) : (selL l w).length ≤ l.length + 1 := by
 rw [selL_eq]; exact Nat.le_trans (selN_len _ _ _) (by omega)
theorem tk_gi {α : Type} [Inhabited α] {l : List α} {x : Int} (h : inL x l.length) : l.take (x + 1).toNat = l.take x.toNat ++ [gi l x] := by
 rw [show (x + 1).toNat = x.toNat + 1 by omega, List.take_succ_eq_append_getElem (by omega), gi_lt h]
theorem tk_end {α : Type} {l : List α} {x : Int} (h : ¬ x < l.length) : l.take x.toNat = l := List.take_of_length_le (by omega)
theorem prints_len (t : Text) (k w : Int) : (printsF t k w).1.length ≤ t.words.length + 1 := by
 unfold printsF
 split
 · split
   · next h =>
     have h1 := (sizeF_iff k).1 ((sizes_iff _ _).1 h).1
     simp only [printsL, List.length_map]
     have := selL_len (gramsL t.words k.toNat) w.toNat
     rw [grams_len] at this
     omega
   · simp
 · simp
theorem prints_loop (G S : List Int) (hS : ∀ a ∈ S, inL a G.length) (hl : S.length ≤ 1000001) (Q : (List Print) × Int → Prop) (h : Q (S.map (fun a => ⟨gi G a, a⟩), 0)) (again : (List Print) × Int → Prop) (out : List Print) (x : Int) (h0 : 0 ≤ x) (h1 : x ≤ S.length) (h2 : out = (S.take x.toNat).map (fun a => ⟨gi G a, a⟩))
   (hag : ∀ (out' : List Print) (x' : Int), (0 ≤ x' ∧ x' ≤ S.length ∧ out' = (S.take x'.toNat).map (fun a => (⟨gi G a, a⟩ : Print))) → (S.length - x').toNat < (S.length - x).toNat → again (out', x')) :
   ((x < (S.length : Int) → (inL x S.length ∧ (inL (gi S x) G.length ∧ ((out.length + ([(Print.mk (gi G (gi S x)) (gi S x))] : List Print).length) * 16 ≤ 140737488355328 ∧ out.length + ([(Print.mk (gi G (gi S x)) (gi S x))] : List Print).length ≤ 9223372036854775807) ∧ (inI (x + 1) ∧ again ((out ++ ([(Print.mk (gi G (gi S x)) (gi S x))] : List Print)), (x + 1)))))) ∧ (¬ x < (S.length : Int) → Q (out, 0))) := by
 have hol : out.length ≤ 1000001 := by rw [h2]; simp; omega
 refine ⟨fun hlt => ⟨by omega, hS _ (gi_mem (by omega)), ⟨by simp; omega, by simp; omega⟩, by omega, hag _ _ ⟨by omega, by omega, ?_⟩ (by omega)⟩, fun hn => ?_⟩
 · rw [tk_gi (by omega), h2, List.map_append]; rfl
 · rw [h2, tk_end hn]; exact h
theorem gramsF_valid {t : Text} {k : Int} (hv : validT t = true) (hk : sizeF k = true) : gramsF t.words k = (gramsL t.words k.toNat, 0) := by
 have h1 := (sizeF_iff k).1 hk
 have h2 : t.words.length ≤ 8192 := by
   unfold validT at hv
   simp only [Bool.and_eq_true, decide_eq_true_eq] at hv
   exact hv.1.1
 unfold gramsF
 rw [if_neg (by omega), if_neg (by omega)]
theorem selectF_valid {t : Text} {k w : Int} (hv : validT t = true) (hk : sizeF k = true) (hw : sizeF w = true) : selectF (gramsL t.words k.toNat) w = (selL (gramsL t.words k.toNat) w.toNat, 0) := by
 have h1 := (sizeF_iff k).1 hk
 have h2 : t.words.length ≤ 8192 := by
   unfold validT at hv
   simp only [Bool.and_eq_true, decide_eq_true_eq] at hv
   exact hv.1.1
 unfold selectF
 rw [hw, if_pos rfl, if_neg (by rw [grams_len]; omega)]
theorem wprints_ok (t : Text) (k : Int) (w : Int) (Q : (List Print) × Int → Prop) (hp0 : okT t) (h : Q (printsF t k w)) : wprints_vc t k w Q := by
 unfold printsF at h
 refine ⟨hp0, fun hb => by rw [hb] at h; exact h, fun hv => ?_⟩
 rw [hv, if_pos rfl] at h
 refine ⟨fun hb => by rw [if_neg (sizes_not hb)] at h; exact h, fun hg => ?_⟩
 rw [if_pos ((sizes_iff _ _).2 hg)] at h
 have hG := gramsF_valid hv hg.1
 have hS := selectF_valid hv hg.1 hg.2
 have hw := (sizeF_iff w).1 hg.2
 have hk := (sizeF_iff k).1 hg.1
 have hl := selL_len (gramsL t.words k.toNat) w.toNat
 have hgl := grams_len t.words k.toNat
 have hwl := hp0.2.1
 have e1 : (gramsF t.words k).1 = gramsL t.words k.toNat := by rw [hG]
 have e3 : (gramsF t.words k).2 = 0 := by rw [hG]
 have e4 : (selectF (gramsF t.words k).1 w).2 = 0 := by rw [e1, hS]
 have hm : ∀ a ∈ selL (gramsL t.words k.toNat) w.toNat, inL a (gramsL t.words k.toNat).length := fun a ha => selL_bd (by omega) ha
 unfold printsL at h
 refine ⟨hp0.2, fun hn => absurd e3 hn, fun _ => ⟨by rw [e1, grams_len]; omega, fun hn => absurd e4 hn, fun _ => ?_⟩⟩
 refine lfp2 (wprints_L1 t k w Q) (fun out x => 0 ≤ x ∧ x ≤ (selL (gramsL t.words k.toNat) w.toNat).length ∧ out = ((selL (gramsL t.words k.toNat) w.toNat).take x.toNat).map (fun a => (⟨gi (gramsL t.words k.toNat) a, a⟩ : Print))) (fun _ x => ((selL (gramsL t.words k.toNat) w.toNat).length - x).toNat) (fun out x hst again hag => ?_) ⟨by omega, by omega, rfl⟩
 unfold wprints_L1
 rw [e1, hS]
 exact prints_loop (gramsL t.words k.toNat) (selL (gramsL t.words k.toNat) w.toNat) hm (by omega) Q h again out x hst.1 hst.2.1 hst.2.2 hag
end Go.Lic
