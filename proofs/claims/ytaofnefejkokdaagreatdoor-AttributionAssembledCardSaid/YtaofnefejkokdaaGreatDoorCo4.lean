/-
  The conditions of functions of chapter 26 hold: what is found, what is near. No program in sight.
-/
import Derived.Test.YtaofnefejkokdaaGreatDoorCo3
set_option linter.all false
namespace Go.Lic
open Go.Proofs Go.Sort Go.Shelf

theorem c26fewt_ok (l : (List Text)) (Q : Bool → Prop)  (h : Q (fewTs l)) : c26fewt_vc l Q := by
  unfold fewTs at h
  refine ⟨fun hb => by rw [decide_eq_false (by omega)] at h; exact h, fun hg => ?_⟩
  rw [decide_eq_true (by omega), Bool.true_and] at h
  refine lfp_of (fun x : Int => 0 ≤ x ∧ x ≤ l.length ∧ (l.drop x.toNat).all (fun t => fewW t.words && decide (t.path.size ≤ 200)) = l.all (fun t => fewW t.words && decide (t.path.size ≤ 200))) (fun x => (l.length - x).toNat) (fun x hst again hag => ?_) ⟨by omega, by omega, rfl⟩
  obtain ⟨h0, h1, h2⟩ := hst
  refine ⟨fun hlt => ?_, fun hn => ?_⟩
  · rw [drop_gi (by omega), List.all_cons] at h2
    refine ⟨by omega, fun hb => ?_, fun hs => ⟨by omega, hag _ ⟨by omega, by omega, ?_⟩ (by omega)⟩⟩
    · have e : (fewW (gi l x).words && decide ((gi l x).path.size ≤ 200)) = false := by
        rcases hb with hb | hb
        · rw [hb, Bool.false_and]
        · rw [decide_eq_false (by omega), Bool.and_false]
      rw [e, Bool.false_and] at h2
      rw [← h2] at h; exact h
    · rw [hs.1, decide_eq_true (by omega), Bool.true_and, Bool.true_and] at h2
      exact h2
  · rw [drop_end hn] at h2
    rw [← h2] at h; exact h
theorem c26few_ok (c : Corpus) (Q : Bool → Prop)  (h : Q (fewC c)) : c26few_vc c Q := by
  unfold fewC at h
  have e : decide ((c.posts.length : Int) ≤ 300) = decide (c.posts.length ≤ 300) := decide_eq_decide.2 (by omega)
  unfold c26few_vc
  rw [e]; exact h

/-! how many fingerprints two texts share -/
/-! sorting by insertion -/
/-! maps -/
/-! what is near, by a stable sort -/
theorem ixInt_ok (s_ : (List Int)) (v : Int) (Q : Int → Prop) (hp0 : s_.length ≤ 9223372036854775807) (h : Q ((idxOf (fun z_ => decide (z_ = v)) s_))) : ixInt_vc s_ v Q := by
  refine lfp_of (fun x : Int => 0 ≤ x ∧ x ≤ s_.length ∧ ∀ j : Int, 0 ≤ j → j < x → ¬ gi s_ j = v) (fun x => (s_.length - x).toNat) (fun x hst again hag => ?_) ⟨by omega, by omega, fun j _ _ => by omega⟩
  obtain ⟨h0, h1, h2⟩ := hst
  refine ⟨fun hlt => ⟨by omega, fun hp => ?_, fun hp => ⟨by omega, hag _ ⟨by omega, by omega, fun j hj hj2 => ?_⟩ (by omega)⟩⟩, fun hn => ?_⟩
  · rw [idx_some (p := fun z_ : Int => decide (z_ = v)) (l := s_) (x := x) (by omega) (decide_eq_true hp.symm) (fun j hj hj2 => decide_eq_false (h2 j hj hj2))] at h; exact h
  · by_cases e : j = x
    · rw [e]; exact fun k => hp k.symm
    · exact h2 j hj (by omega)
  · rw [idx_none (p := fun z_ : Int => decide (z_ = v)) (l := s_) (fun j hj hj2 => decide_eq_false (h2 j hj (by omega)))] at h; exact h
end Go.Lic
