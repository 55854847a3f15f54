/-
  Posts: their order, their sorted list; texts in order.
-/
import Derived.Test.YtglclijalehcmaaGreatDoorCe
import Derived.Test.YtglclijalehcmaaGreatDoorClip
set_option linter.all false
namespace Go.Lic
open Go.Proofs Go.Sort
structure Tot {T : Type} (lt : T → T → Prop) : Prop where
 irrefl : ∀ a, ¬ lt a a
 trans : ∀ a b c, lt a b → lt b c → lt a c
 tri : ∀ a b, lt a b ∨ a = b ∨ lt b a
section
variable {T : Type} {lt : T → T → Prop}
theorem Tot.ntrans (h : Tot lt) {a b c : T} (h1 : ¬ lt a b) (h2 : ¬ lt b c) : ¬ lt a c := by
 intro h3
 rcases h.tri a b with h4 | rfl | h4
 · exact h1 h4
 · exact h2 h3
 · exact h2 (h.trans _ _ _ h4 h3)
theorem Tot.swo (h : Tot lt) {cf : T → T → Int} (he : ∀ a b, cf a b < 0 ↔ lt a b) : SWO (ltOf cf) := by
 have h1 : ∀ a b, ltOf cf a b = true ↔ lt a b := fun a b => by unfold ltOf; rw [decide_eq_true_eq]; exact he a b
 have h2 : ∀ a b, ltOf cf a b = false ↔ ¬ lt a b := fun a b => by rw [← h1]; simp
 exact { irrefl := fun a => (h2 _ _).2 (h.irrefl a), trans := fun a b c k1 k2 => (h1 _ _).2 (h.trans _ _ _ ((h1 _ _).1 k1) ((h1 _ _).1 k2)), ntrans := fun a b c k1 k2 => (h2 _ _).2 (h.ntrans ((h2 _ _).1 k1) ((h2 _ _).1 k2)) }
end
abbrev PoLt (a b : Pst) : Prop := postLt a b = true
theorem poLt_iff (a b : Pst) : PoLt a b ↔ a.hash < b.hash ∨ (a.hash = b.hash ∧ (a.text < b.text ∨ (a.text = b.text ∧ a.at_ < b.at_))) := by
 unfold PoLt postLt; simp
theorem post_tot : Tot PoLt where
 irrefl a := by rw [poLt_iff]; omega
 trans a b c := by rw [poLt_iff, poLt_iff, poLt_iff]; omega
 tri a b := by
   rw [poLt_iff, poLt_iff]
   obtain ⟨a1, a2, a3⟩ := a; obtain ⟨b1, b2, b3⟩ := b
   simp only [Pst.mk.injEq]
   omega
theorem orF3 (x y z : Int) : orF [x, y, z] = if x ≠ 0 then x else if y ≠ 0 then y else z := by
 unfold orF
 by_cases h1 : x = 0
 · by_cases h2 : y = 0
   · by_cases h3 : z = 0 <;> simp [h1, h2, h3]
   · simp [h1, h2]
 · simp [h1]
theorem cmpI_neg (a b : Int) : cmpI a b < 0 ↔ a < b := by unfold cmpI; split <;> (try split) <;> omega
theorem cmpI_zero (a b : Int) : cmpI a b = 0 ↔ a = b := by unfold cmpI; split <;> (try split) <;> omega
theorem postCmp_neg (a b : Pst) : postCmp a b < 0 ↔ PoLt a b := by
 rw [poLt_iff]
 unfold postCmp
 rw [orF3]
 have h1 := cmpI_neg a.hash b.hash; have h2 := cmpI_zero a.hash b.hash
 have h3 := cmpI_neg a.text b.text; have h4 := cmpI_zero a.text b.text
 have h5 := cmpI_neg a.at_ b.at_
 generalize cmpI a.hash b.hash = x at *
 generalize cmpI a.text b.text = y at *
 generalize cmpI a.at_ b.at_ = z at *
 split
 · omega
 · split <;> omega
theorem postCmp_swo : SWO (ltOf postCmp) := post_tot.swo postCmp_neg
abbrev TLt (a b : Text) : Prop := sless a.path b.path = true
theorem checkT_iff : ∀ (l : List Text) (p : Option ByteArray), checkT p l = 0 ↔ (∀ t ∈ l, validT t = true) ∧ l.Pairwise TLt ∧ (∀ q t, p = some q → l.head? = some t → sless q t.path = true)
 | [], p => by simp [checkT]
 | t :: l, p => by
   unfold checkT
   by_cases hv : validT t = true
   · rw [if_pos hv]
     by_cases hp : (p.all fun q => sless q t.path) = true
     · rw [if_pos hp, checkT_iff l (some t.path)]
       constructor
       · rintro ⟨h1, h2, h3⟩
         refine ⟨fun u hu => ?_, List.pairwise_cons.2 ⟨fun u hu => ?_, h2⟩, fun q u hq hu => ?_⟩
         · rcases List.mem_cons.1 hu with rfl | hu
           · exact hv
           · exact h1 u hu
         · cases l with
           | nil => cases hu
           | cons v l =>
             have hv2 := h3 _ v rfl rfl
             rcases List.mem_cons.1 hu with rfl | hu
             · exact hv2
             · exact sl_trans hv2 ((List.pairwise_cons.1 h2).1 u hu)
         · subst hq; simp at hu; subst hu; simpa using hp
       · rintro ⟨h1, h2, h3⟩
         obtain ⟨h4, h5⟩ := List.pairwise_cons.1 h2
         refine ⟨fun u hu => h1 u (List.mem_cons_of_mem _ hu), h5, fun q u hq hu => ?_⟩
         cases hq
         exact h4 u (by cases l with | nil => cases hu | cons v l => simp at hu; simp [hu])
     · rw [if_neg hp]
       refine ⟨fun h => absurd h (by decide), fun ⟨_, _, h3⟩ => absurd ?_ hp⟩
       cases p with
       | none => rfl
       | some q => exact h3 q t rfl rfl
   · rw [if_neg hv]
     exact ⟨fun h => absurd h (by decide), fun ⟨h1, _⟩ => absurd (h1 t (by simp)) hv⟩
theorem checkT_none (l : List Text) : checkT none l = 0 ↔ (∀ t ∈ l, validT t = true) ∧ l.Pairwise TLt := by
 rw [checkT_iff]; simp
structure GoodC (c : Corpus) : Prop where
 k : sizeF c.k = true
 w : sizeF c.w = true
 few : c.texts.length ≤ 64
 val : ∀ t ∈ c.texts, validT t = true
 ord : c.texts.Pairwise TLt
 posts : c.posts = postsF c.texts c.k c.w
theorem checkF_iff (c : Corpus) : checkF c = 0 ↔ GoodC c := by
 unfold checkF
 by_cases h1 : (sizeF c.k && sizeF c.w) = true
 · rw [if_pos h1]
   rw [Bool.and_eq_true] at h1
   by_cases h2 : 64 < c.texts.length
   · rw [if_pos h2]; exact ⟨fun h => absurd h (by decide), fun h => absurd h.few (by omega)⟩
   · rw [if_neg h2]
     by_cases h3 : checkT none c.texts = 0
     · rw [if_pos h3]
       obtain ⟨h4, h5⟩ := (checkT_none _).1 h3
       by_cases h6 : c.posts = postsF c.texts c.k c.w
       · rw [if_pos h6]; exact ⟨fun _ => ⟨h1.1, h1.2, by omega, h4, h5, h6⟩, fun _ => rfl⟩
       · rw [if_neg h6]; exact ⟨fun h => absurd h (by decide), fun h => absurd h.posts h6⟩
     · rw [if_neg h3]
       exact ⟨fun h => absurd h h3, fun h => absurd ((checkT_none _).2 ⟨h.val, h.ord⟩) h3⟩
 · rw [if_neg h1]
   exact ⟨fun h => absurd h (by decide), fun h => absurd (by rw [h.k, h.w]; rfl) h1⟩
end Go.Lic
