/-
  The conditions of 'Against' hold. No program in sight.
-/
import Derived.Test.YtglclijalehcmaaGreatDoorKw1
import Derived.Test.YtglclijalehcmaaGreatDoorDel
set_option linter.all false
namespace Go.Lic
open Go.Proofs Go.Sort Go.Shelf
theorem against_texts {c : Corpus} {t : Text} (hp0 : okC c) (hp1 : okT t) (G : GoodC c) (hv : validT t = true) : okTs (c.texts ++ [t]) ∧ (∀ t_ ∈ (c.texts ++ [t]), validT t_ = true) ∧ c.texts.length ≤ 64 := by
 have hl := G.few
 refine ⟨⟨by simp; omega, fun u hu => ?_⟩, fun u hu => ?_, hl⟩
 · rcases List.mem_append.1 hu with hu | hu
   · exact hp0.1.2 u hu
   · simp at hu; subst hu; exact hp1
 · rcases List.mem_append.1 hu with hu | hu
   · exact G.val u hu
   · simp at hu; subst hu; exact hv
theorem kagainst_ok (c : Corpus) (t : Text) (Q : (List Clone) × Int → Prop) (hp0 : okC c) (hp1 : okT t) (h : Q (againstC c t)) : kagainst_vc c t Q := by
 unfold againstC at h
 refine ⟨hp0, fun _ => hp1, fun hb => ?_, fun hg => ?_⟩
 · rw [if_neg] at h
   · exact h
   · rintro ⟨h1, h2⟩
     rcases hb with hb | hb
     · exact hb h1
     · rw [h2] at hb; cases hb
 · rw [if_pos hg] at h
   have G := (checkF_iff c).1 hg.1
   obtain ⟨h1, h2, h3⟩ := against_texts hp0 hp1 G hg.2
   exact ⟨⟨⟨by simp; omega, by simp; omega⟩, by simp⟩, h1, h2, G.k, G.w, by omega, h⟩
end Go.Lic
set_option linter.all false
namespace Go.Lic
open Go.Proofs Go.Sort Go.Shelf
end Go.Lic
set_option linter.all false
namespace Go.Lic
open Go.Proofs Go.Sort Go.Shelf
theorem fewC_ok {c : Corpus} (h : fewC c = true) : okC c := by
 unfold fewC at h
 rw [Bool.and_eq_true, decide_eq_true_eq] at h
 exact ⟨fewTs_ok h.1, by omega⟩
theorem fewT_ok {t : Text} (h : fewTs [t] = true) : okT t := (fewTs_ok h).2 t (by simp)
theorem against_len (c : Corpus) (t : Text) : (againstC c t).1.length ≤ 1024 := by
 unfold againstC clonesF
 split
 · split
   · simp
   · simp only; omega
 · simp
theorem ref_between {l : List Text} {m : Nat} (n : Int) : (refL l n (-1)).filter (fun z_ => !((decide (z_.b ≠ (m : Int)) || decide (z_.a = (m : Int))))) = refL l n (m : Int) := by
 have asym : ∀ x y, CLt x y → ¬ CLt y x := fun x y => by unfold CLt; omega
 refine ext_sorted asym ((ref_sorted l n (-1)).filter _) (ref_sorted l n m) (fun c => ?_)
 rw [List.mem_filter, mem_ref, mem_ref]
 constructor
 · rintro ⟨⟨a, i, b, j, h1, h2, h3, h4, h5, h6, h7, rfl⟩, hc⟩
   simp only [Bool.not_eq_true', Bool.or_eq_false_iff, decide_eq_false_iff_not, ne_eq, Decidable.not_not] at hc
   refine ⟨a, i, b, j, h1, h2, h3, ?_, h5, h6, h7, rfl⟩
   simp only [okB, Bool.and_eq_true, Bool.or_eq_true, decide_eq_true_eq] at h4 ⊢
   exact ⟨h4.1, .inr ⟨hc.1, hc.2⟩⟩
 · rintro ⟨a, i, b, j, h1, h2, h3, h4, h5, h6, h7, rfl⟩
   simp only [okB, Bool.and_eq_true, Bool.or_eq_true, decide_eq_true_eq] at h4
   have h8 : (b : Int) = m ∧ (a : Int) ≠ m := by
     rcases h4.2 with h | h
     · omega
     · exact h
   refine ⟨⟨a, i, b, j, h1, h2, h3, ?_, h5, h6, h7, rfl⟩, ?_⟩
   · simp only [okB, Bool.and_eq_true, Bool.or_eq_true, decide_eq_true_eq]
     exact ⟨h4.1, .inl (by omega)⟩
   · simp only [Bool.not_eq_true', Bool.or_eq_false_iff, decide_eq_false_iff_not, ne_eq, Decidable.not_not]
     exact h8
theorem lawKnown_ok (c : Corpus) (t : Text) (Q : Bool → Prop) (h : Q (true)) : lawKnown_vc c t Q := by
 unfold lawKnown_vc
 generalize (Text.mk (⟨#[122, 122, 122]⟩ : ByteArray) t.words) = u
 refine ⟨nofun, fun _ => ⟨fun _ => h, fun ⟨hc, hu⟩ => ?_⟩⟩
 have h1 := fewC_ok hc; have h2 := fewT_ok hu
 refine ⟨h1, h2, fun hn => Q_true ?_ h, fun hz => ?_⟩
 · unfold againstC clonesF at *
   split
   · next h3 =>
     rw [if_pos h3] at hn
     split
     · rfl
     · next h4 => rw [if_neg h4] at hn; exact absurd rfl hn
   · rfl
 · have hg : checkF c = 0 ∧ validT u = true := by
     by_cases hg : checkF c = 0 ∧ validT u = true
     · exact hg
     · unfold againstC at hz; rw [if_neg hg] at hz; cases hz
   have G := (checkF_iff c).1 hg.1
   obtain ⟨t1, t2, t3⟩ := against_texts h1 h2 G hg.2
   have hlen := against_len c u
   have hfl : (findC (c.texts ++ [u]) c.k c.w).1.length ≤ 1024 := by
     unfold findC clonesF
     split
     · split
       · split
         · simp
         · simp only; omega
       · simp
     · simp
   have hks : (sizeF c.k && sizeF c.w) = true := by rw [G.k, G.w]; rfl
   refine ⟨by omega, ⟨by simp; omega, by simp; omega⟩, t1, fun hf => ⟨fun _ _ => ⟨by omega, fun _ _ => trivial⟩, Q_true ?_ h⟩, fun hf => ⟨by omega, fun _ _ => trivial, by omega, Q_true ?_ h⟩⟩
   · by_cases hr : rightL (c.texts ++ [u]) = true
     · have : (findC (c.texts ++ [u]) c.k c.w).2 = 10 := by
         unfold findC clonesF at *
         rw [if_pos hr, if_pos hks] at *
         split
         · rfl
         · next h4 => rw [if_neg h4] at hf; exact absurd rfl hf
       simp [this]
     · have : (findC (c.texts ++ [u]) c.k c.w).2 = 1 := by
         unfold findC
         rw [if_neg hr]
       rw [this]
       by_cases h64 : c.texts.length = 64
       · simp [h64]
       · have : c.texts.any (fun x0_ => !sless x0_.path u.path) = true := by
           rw [List.any_eq_true]
           rcases Classical.em (∃ x ∈ c.texts, (!sless x.path u.path) = true) with he | he
           · exact he
           · exfalso
             apply hr
             rw [rightL_iff, checkT_none]
             refine ⟨by simp; omega, t2, ?_⟩
             rw [List.pairwise_append]
             refine ⟨G.ord, by simp, fun a ha b hb => ?_⟩
             simp at hb; subst hb
             by_cases hs : sless a.path b.path = true
             · exact hs
             · exact absurd ⟨a, ha, by simpa using hs⟩ he
         simp [this]
   · have e1 : (findC (c.texts ++ [u]) c.k c.w).1 = refL (c.texts ++ [u]) (c.k + c.w - 1) (-1) := by
       unfold findC clonesF at *
       split at hf
       · next r1 =>
         rw [if_pos r1]
         rw [if_pos hks] at *
         split at hf
         · cases hf
         · next r2 => rw [if_neg r2]
       · cases hf
     have e2 : (againstC c u).1 = refL (c.texts ++ [u]) (c.k + c.w - 1) (c.texts.length : Int) := by
       unfold againstC clonesF at *
       rw [if_pos hg] at *
       split at hz
       · cases hz
       · next r2 => rw [if_neg r2]
     rw [e1, e2, ref_between, decide_eq_true_eq]
end Go.Lic
set_option linter.all false
namespace Go.Lic
open Go.Proofs Go.Sort Go.Shelf
theorem clonesO_ok (texts : (List Text)) (k : Int) (w : Int) (only_ : Int) (Q : (List Clone) × Int → Prop) (hp0 : okTs texts) (hp1 : ∀ t_ ∈ texts, validT t_ = true) (hp2 : sizeF k = true) (hp3 : sizeF w = true) (hp4 : inI only_) (h : Q (clonesF texts k w only_)) : clonesO_vc texts k w only_ Q := kclones_ok texts k w only_ Q hp0 hp1 hp2 hp3 hp4 h
theorem findO_ok (l : (List Text)) (k : Int) (w : Int) (Q : (List Clone) × Int → Prop) (hp0 : okTs l) (h : Q (findC l k w)) : findO_vc l k w Q := kfind_ok l k w Q hp0 h
theorem cloneTO_ok (s_ : (List Text)) (Q : (List Text) → Prop) (hp0 : s_.length ≤ 1000000) (h : Q (s_)) : cloneTO_vc s_ Q := by
 intro isnil hi
 refine ⟨fun e => ?_, fun _ => ⟨⟨by simp; omega, by simp; omega⟩, by rw [List.nil_append]; exact h⟩⟩
 rw [hi e] at h; exact h
theorem ixTx_ok (s_ : (List Text)) (p : Text → Bool) (pD : Text → Prop) (Q : Int → Prop) (hp0 : s_.length ≤ 9223372036854775807) (hp1 : ∀ z_ ∈ s_, pD z_) (h : Q ((idxOf p s_))) : ixTx_vc s_ p pD Q := ix_gen s_ p pD Q hp0 hp1 h
theorem cfTx_ok (s_ : (List Text)) (p : Text → Bool) (pD : Text → Prop) (Q : Bool → Prop) (hp0 : s_.length ≤ 9223372036854775807) (hp1 : ∀ z_ ∈ s_, pD z_) (h : Q ((s_.any p))) : cfTx_vc s_ p pD Q := ⟨hp0, hp1, by rw [idx_nn]; exact h⟩
theorem known1_ok (u : Text) (t : Text) (Q : Bool → Prop) (h : Q ((!sless u.path t.path))) : known1_vc u t Q := h
theorem known2_ok (z : Clone) (n : Int) (Q : Bool → Prop) (h : Q ((decide (z.b ≠ n) || decide (z.a = n)))) : known2_vc z n Q := by
 have e1 : (z.b != n) = decide (z.b ≠ n) := by by_cases h : z.b = n <;> simp [h]
 have e2 : (z.a == n) = decide (z.a = n) := by by_cases h : z.a = n <;> simp [h]
 show Q _
 rw [e1, e2]; exact h
theorem idx_cases {α : Type} [Inhabited α] (p : α → Bool) (l : List α) : (idxOf p l = -1 ∧ ∀ x ∈ l, p x = false) ∨ (inL (idxOf p l) l.length ∧ p (gi l (idxOf p l)) = true ∧ ∀ j : Int, 0 ≤ j → j < idxOf p l → p (gi l j) = false) := by
 unfold idxOf
 cases h : l.findIdx? p with
 | none =>
   rw [List.findIdx?_eq_none_iff] at h
   exact .inl ⟨rfl, h⟩
 | some i =>
   rw [List.findIdx?_eq_some_iff_getElem] at h
   obtain ⟨h1, h2, h3⟩ := h
   refine .inr ⟨⟨by simp, by simp only; omega⟩, by simp only; rw [gi_nat h1]; exact h2, fun j j0 j1 => ?_⟩
   simp only at j1
   have := h3 j.toNat (by omega)
   rw [gi_lt ⟨j0, by omega⟩]
   simpa using this
theorem take_si {α : Type} [Inhabited α] {l : List α} {i : Int} (h : inL i l.length) (v : α) : (si l i v).take (i + 1).toNat = l.take i.toNat ++ [v] := by
 have h2 : inL i (si l i v).length := by rw [si_length]; exact h
 rw [tk_gi h2, gi_siK h v h.1, if_pos rfl]
 congr 1
 unfold si
 rw [List.take_set]
 rw [List.set_eq_of_length_le (by simp; omega)]
theorem delC_ok (s_ : (List Clone)) (p : Clone → Bool) (pD : Clone → Prop) (Q : (List Clone) → Prop) (hp0 : s_.length ≤ 1000000) (hp1 : ∀ z_ ∈ s_, pD z_) (h : Q ((s_.filter fun z_ => !(p z_)))) : delC_vc s_ p pD Q := by
 refine ⟨by omega, hp1, fun e => ?_, fun hne => ?_⟩
 · rcases idx_cases p s_ with ⟨_, h2⟩ | ⟨h2, _⟩
   · rw [List.filter_eq_self.2 (fun x hx => by simp [h2 x hx])] at h
     exact h
   · omega
 · rcases idx_cases p s_ with ⟨h1, _⟩ | ⟨h1, h2, h3⟩
   · exact absurd h1 hne
   generalize idxOf p s_ = i0 at *
   refine ⟨by omega, ?_⟩
   have hst : (s_.take i0.toNat) = (s_.take (i0 + 1).toNat).filter (fun z_ => !(p z_)) := by
     rw [tk_gi h1, List.filter_append, List.filter_cons, if_neg (by simp [h2])]
     rw [List.filter_eq_self.2 (fun x hx => ?_)]
     · simp
     · obtain ⟨q, hq, e⟩ := List.getElem_of_mem hx
       rw [List.getElem_take] at e
       rw [List.length_take] at hq
       have := h3 (q : Int) (by omega) (by omega)
       rw [gi_nat (by omega), e] at this
       simp [this]
   refine lfp3 (delC_L1 p pD Q) (fun s1 i j => s1.length = s_.length ∧ 0 ≤ i ∧ i < j ∧ j ≤ s_.length ∧ s1.take i.toNat = (s_.take j.toNat).filter (fun z_ => !(p z_)) ∧ ∀ q : Int, j ≤ q → q < s_.length → gi s1 q = gi s_ q) (fun _ _ j => (s_.length - j).toNat) (fun s1 i j hst' again hag => ?_) ⟨rfl, by omega, by omega, by omega, hst, fun q _ _ => rfl⟩
   obtain ⟨g1, g2, g3, g4, g5, g6⟩ := hst'
   refine ⟨fun hlt => ?_, fun hn => ?_⟩
   · have hj : inL j s_.length := by omega
     have hgj := g6 j (by omega) (by omega)
     have htk := tk_gi hj
     unfold delC_L1 at *
     rw [hgj]
     refine ⟨by omega, hp1 _ (gi_mem hj), fun hf => ⟨by omega, by omega, by omega, hag _ _ _ ⟨by rw [si_length]; exact g1, by omega, by omega, by omega, ?_, fun q q0 q1 => ?_⟩ (by omega)⟩, fun ht => ⟨by omega, hag _ _ _ ⟨g1, g2, by omega, by omega, ?_, fun q q0 q1 => g6 q (by omega) q1⟩ (by omega)⟩⟩
     · rw [take_si (by omega), htk, List.filter_append, ← g5, List.filter_cons, if_pos (by simp [hf])]; rfl
     · rw [gi_siK (by omega) _ (by omega), if_neg (by omega)]; exact g6 q (by omega) q1
     · rw [htk, List.filter_append, ← g5, List.filter_cons, if_neg (by simp [ht])]; simp
   · refine ⟨by omega, by rw [clearF_length]; omega, ?_⟩
     rw [lsub_to]
     have e : (clearF s1 i (Clone.mk 0 0 0 0 0)).take i.toNat = s1.take i.toNat := by
       unfold clearF
       rw [List.take_append_of_le_length (by simp; omega), List.take_take, Nat.min_self]
     rw [e, g5, List.take_of_length_le (by omega)]
     exact h
end Go.Lic
