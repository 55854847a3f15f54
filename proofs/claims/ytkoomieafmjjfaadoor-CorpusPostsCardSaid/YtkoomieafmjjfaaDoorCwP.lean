/-
  The statement about posts holds over plain data. No program in sight.
-/
import Derived.Test.YtkoomieafmjjfaaDoorCn
set_option linter.all false
namespace Go.Lic
open Go.Proofs Go.Sort Go.Shelf

theorem flatP_app (k w : Int) : ∀ (a b : List Text) (i : Nat), flatP i (a ++ b) k w = flatP i a k w ++ flatP (i + a.length) b k w
  | [], b, i => by simp [flatP]
  | t :: a, b, i => by
    rw [List.cons_append, flatP, flatP, flatP_app k w a b (i + 1), List.append_assoc, show i + 1 + a.length = i + (t :: a).length by simp; omega]
theorem flatP_take {l : List Text} {x : Int} (h : inL x l.length) (k w : Int) : (flatP 0 (l.take (x + 1).toNat) k w).length = (flatP 0 (l.take x.toNat) k w).length + (printsF (gi l x) k w).1.length := by
  rw [tk_gi h, flatP_app]
  simp [flatP, postsOf_len]
theorem flatP_bound {l : List Text} {x : Int} (k w : Int) (h : ∀ t ∈ l, okT t) (hl : l.length ≤ 1000) : (flatP 0 (l.take x.toNat) k w).length ≤ 1000000000000 := by
  have h1 := flatP_len (l.take x.toNat) 0 k w (fun t ht => h t (List.mem_of_mem_take ht))
  rw [List.length_take] at h1
  have : min x.toNat l.length * 1000001 ≤ 1000 * 1000001 := Nat.mul_le_mul_right _ (by omega)
  omega
theorem find_has {c : Corpus} (G : GoodC c) {x : Int} (hx : inL x c.texts.length) {u : Print} (hu : u ∈ (printsF (gi c.texts x) c.k c.w).1) : (findP c u.hash).any (fun z_ => decide (z_ = ⟨u.hash, x, u.at_⟩)) = true := by
  unfold findP
  rw [if_pos ((checkF_iff c).2 G)]
  exact List.any_eq_true.2 ⟨⟨u.hash, x, u.at_⟩, List.mem_filter.2 ⟨by rw [G.posts]; exact posts_mem.2 ⟨x, hx, u, hu, rfl⟩, decide_eq_true rfl⟩, decide_eq_true rfl⟩
theorem find_pos {c : Corpus} (h : checkF c = 0) {p : Pst} (hp : p ∈ c.posts) : 0 < (findP c p.hash).length := by
  unfold findP
  rw [if_pos h]
  exact List.length_pos_of_mem (List.mem_filter.2 ⟨hp, decide_eq_true rfl⟩)
theorem find_sub {c : Corpus} {h : Int} {x : Pst} (hx : x ∈ findP c h) : x ∈ c.posts ∧ x.hash = h := by
  unfold findP at hx
  split at hx
  · obtain ⟨h1, h2⟩ := List.mem_filter.1 hx
    exact ⟨h1, of_decide_eq_true h2⟩
  · cases hx
theorem find_no {c : Corpus} (h : Int) : (findP c h).any (fun x => (decide (x.hash ≠ h) || !(c.posts.any fun z_ => decide (z_ = x)))) = false := by
  rw [List.any_eq_false]
  intro x hx
  obtain ⟨h1, h2⟩ := find_sub hx
  have : (c.posts.any fun z_ => decide (z_ = x)) = true := List.any_eq_true.2 ⟨x, h1, decide_eq_true rfl⟩
  rw [this]
  simp [h2]
theorem hash_le {l : List Pst} (hs : PSorted l) {x : Int} (h0 : 0 < x) (h1 : x < l.length) : (gi l (x - 1)).hash ≤ (gi l x).hash := by
  have h2 := pw_gi hs (i := x - 1) (j := x) (by omega) (by omega) h1
  rw [poLt_iff] at h2
  omega
theorem posts_len {c : Corpus} (G : GoodC c) : (flatP 0 c.texts c.k c.w).length = c.posts.length := by
  rw [G.posts, (posts_perm c.texts c.k c.w).length_eq]

theorem ixPo_ok (s_ : (List Pst)) (p : Pst → Bool) (pD : Pst → Prop) (Q : Int → Prop) (hp0 : s_.length ≤ 9223372036854775807) (hp1 : ∀ z_ ∈ s_, pD z_) (h : Q ((idxOf p s_))) : ixPo_vc s_ p pD Q := ix_gen s_ p pD Q hp0 hp1 h
theorem cfPo_ok (s_ : (List Pst)) (p : Pst → Bool) (pD : Pst → Prop) (Q : Bool → Prop) (hp0 : s_.length ≤ 9223372036854775807) (hp1 : ∀ z_ ∈ s_, pD z_) (h : Q ((s_.any p))) : cfPo_vc s_ p pD Q := ⟨hp0, hp1, by rw [idx_nn]; exact h⟩
theorem ixPoI_ok (s_ : (List Pst)) (v : Pst) (Q : Int → Prop) (hp0 : s_.length ≤ 9223372036854775807) (h : Q ((idxOf (fun z_ => decide (z_ = v)) s_))) : ixPoI_vc s_ v Q := by
  refine lfp_of (fun x : Int => 0 ≤ x ∧ x ≤ s_.length ∧ ∀ j : Int, 0 ≤ j → j < x → ¬ gi s_ j = v) (fun x => (s_.length - x).toNat) (fun x hst again hag => ?_) ⟨by omega, by omega, fun j _ _ => by omega⟩
  obtain ⟨h0, h1, h2⟩ := hst
  refine ⟨fun hlt => ⟨by omega, fun hp => ?_, fun hp => ⟨by omega, hag _ ⟨by omega, by omega, fun j hj hj2 => ?_⟩ (by omega)⟩⟩, fun hn => ?_⟩
  · have hp := (eqPst_iff _ _).1 hp
    rw [idx_some (p := fun z_ : Pst => decide (z_ = v)) (l := s_) (x := x) (by omega) (decide_eq_true hp.symm) (fun j hj hj2 => decide_eq_false (h2 j hj hj2))] at h; exact h
  · by_cases e : j = x
    · rw [e]
      intro k
      rw [(eqPst_iff _ _).2 k.symm] at hp
      cases hp
    · exact h2 j hj (by omega)
  · rw [idx_none (p := fun z_ : Pst => decide (z_ = v)) (l := s_) (fun j hj hj2 => decide_eq_false (h2 j hj (by omega)))] at h; exact h
theorem ctPo_ok (s_ : (List Pst)) (v : Pst) (Q : Bool → Prop) (hp0 : s_.length ≤ 9223372036854775807) (h : Q ((s_.any (fun z_ => decide (z_ = v))))) : ctPo_vc s_ v Q := ⟨hp0, by rw [idx_nn]; exact h⟩
theorem posts1_ok (x : Pst) (p : Pst) (c : Corpus) (Q : Bool → Prop) (hp0 : c.posts.length ≤ 9223372036854775807) (h : Q ((decide (x.hash ≠ p.hash) || !(c.posts.any fun z_ => decide (z_ = x))))) : posts1_vc x p c Q := by
  refine ⟨fun _ => hp0, ?_⟩
  have e : (x.hash != p.hash) = decide (x.hash ≠ p.hash) := by
    unfold bne
    rw [int_beq]
    by_cases hh : x.hash = p.hash <;> simp [hh]
  rw [e]
  exact h
theorem lawPosts_ok (c : Corpus) (Q : Bool → Prop)  (h : Q (true)) : lawPosts_vc c Q := by
  refine ⟨(fun e => by cases e), fun _ => ⟨fun hf => fewC_ok hf, fun _ => h, fun hf => ?_⟩⟩
  obtain ⟨hfc, hch⟩ := hf
  have hok := fewC_ok hfc
  have hl := fewC_len hfc
  have G := (checkF_iff c).1 hch
  have hs := good_sorted G
  have hpl := hok.2
  refine lfp2 (lawPosts_L1 c Q) (fun many x => 0 ≤ x ∧ x ≤ c.texts.length ∧ many = ((flatP 0 (c.texts.take x.toNat) c.k c.w).length : Nat)) (fun _ x => (c.texts.length - x).toNat) (fun many x hst again4 hag4 => ?_) ⟨by omega, by omega, rfl⟩
  obtain ⟨h0, h1, h2⟩ := hst
  refine ⟨fun hlt => ?_, fun hn => ?_⟩
  · have hxl : inL x c.texts.length := by omega
    have hxo := hok.1.2 _ (gi_mem hxl)
    have eT := printsF_valid (G.val _ (gi_mem hxl)) G.k G.w
    have e0 : (printsF (gi c.texts x) c.k c.w).2 = 0 := by rw [eT]
    have hb := flatP_bound (x := x + 1) c.k c.w hok.1.2 (by omega)
    rw [flatP_take hxl] at hb
    refine ⟨hxl, hxo, fun hb => absurd e0 hb, fun _ => ⟨by omega, ?_⟩⟩
    refine lfp_of (fun x1 : Int => 0 ≤ x1 ∧ x1 ≤ (printsF (gi c.texts x) c.k c.w).1.length) (fun x1 => ((printsF (gi c.texts x) c.k c.w).1.length - x1).toNat) (fun x1 hx1 again8 hag8 => ?_) ⟨by omega, by omega⟩
    refine ⟨fun hlt1 => ⟨by omega, hok, ?_, fun hb => ?_, fun _ => ⟨by omega, hag8 _ ⟨by omega, by omega⟩ (by omega)⟩⟩, fun hn1 => ⟨by omega, hag4 _ _ ⟨by omega, by omega, ?_⟩ (by omega)⟩⟩
    · have := findP_len c (gi (printsF (gi c.texts x) c.k c.w).1 x1).hash
      omega
    · exfalso
      rw [find_has G hxl (gi_mem (by omega))] at hb
      cases hb
    · rw [flatP_take hxl, h2]; omega
  · have e : c.texts.take x.toNat = c.texts := List.take_of_length_le (by omega)
    rw [e, posts_len G] at h2
    refine ⟨fun hb => absurd h2 hb, fun _ => ?_⟩
    refine lfp_of (fun x2 : Int => 0 ≤ x2 ∧ x2 ≤ c.posts.length) (fun x2 => (c.posts.length - x2).toNat) (fun x2 hx2 again13 hag13 => ?_) ⟨by omega, by omega⟩
    refine ⟨fun hlt2 => ?_, fun _ => h⟩
    have hm := gi_mem (l := c.posts) (i := x2) (by omega)
    have hp := find_pos hch hm
    have hfl := findP_len c (gi c.posts x2).hash
    refine ⟨by omega, hok, fun _ => ⟨by omega, fun _ _ => by omega⟩, fun hb => ?_, fun _ => ⟨fun _ => by omega, fun hb => ?_, fun _ => ⟨by omega, hag13 _ ⟨by omega, by omega⟩ (by omega)⟩⟩⟩
    · exfalso
      rcases hb with hb | hb
      · omega
      · rw [find_no] at hb; cases hb
    · exfalso
      have := hash_le hs (x := x2) (by omega) (by omega)
      omega
end Go.Lic
