/-
  The statement about what is near holds over plain data. No program in sight.
-/
import Derived.Test.YtglclijalehcmaaGreatDoorCn
set_option linter.all false
namespace Go.Lic
open Go.Proofs Go.Sort Go.Shelf

theorem ixPr_ok (s_ : (List Print)) (p : Print → Bool) (pD : Print → Prop) (Q : Int → Prop) (hp0 : s_.length ≤ 9223372036854775807) (hp1 : ∀ z_ ∈ s_, pD z_) (h : Q ((idxOf p s_))) : ixPr_vc s_ p pD Q := ix_gen s_ p pD Q hp0 hp1 h
theorem cfPr_ok (s_ : (List Print)) (p : Print → Bool) (pD : Print → Prop) (Q : Bool → Prop) (hp0 : s_.length ≤ 9223372036854775807) (hp1 : ∀ z_ ∈ s_, pD z_) (h : Q ((s_.any p))) : cfPr_vc s_ p pD Q := ⟨hp0, hp1, by rw [idx_nn]; exact h⟩
theorem near11_ok (y : Print) (x : Print) (Q : Bool → Prop)  (h : Q ((decide (x.hash = y.hash)))) : near11_vc y x Q := by
  unfold near11_vc; rw [int_beq]; exact h
theorem near1_ok (x : Print) (theirs : (List Print)) (Q : Bool → Prop) (hp0 : theirs.length ≤ 9223372036854775807) (h : Q ((theirs.any fun y_ => decide (x.hash = y_.hash)))) : near1_vc x theirs Q := ⟨hp0, fun _ _ => trivial, h⟩
theorem lawNear_ok (c : Corpus) (t : Text) (Q : Bool → Prop)  (h : Q (true)) : lawNear_vc c t Q := by
  refine ⟨(fun e => by cases e), fun _ => ⟨fun hf => fewC_ok hf.1, fun hf => fewT_ok hf.1.2, fun _ => h, fun hf => ?_⟩⟩
  obtain ⟨⟨⟨hfc, hft⟩, hch⟩, hv⟩ := hf
  have hok := fewC_ok hfc
  have hl := fewC_len hfc
  have ht := fewT_ok hft
  have G := (checkF_iff c).1 hch
  have hs := good_sorted G
  have hk := (sizeF_iff _).1 G.k; have hw := (sizeF_iff _).1 G.w
  have eN : nearF c t = (nearL c (printsF t c.k c.w).1, 0) := by unfold nearF; rw [if_pos ⟨hch, hv⟩]
  have eG : guarF c.k c.w = (c.k + c.w - 1, 0) := by unfold guarF; rw [if_pos ((sizes_iff _ _).2 ⟨G.k, G.w⟩)]
  have eP := printsF_valid hv G.k G.w
  have e1 : (nearF c t).1 = nearL c (printsF t c.k c.w).1 := by rw [eN]
  have hnl := nearF_len c t
  refine ⟨hok, ht, by omega, ht, fun hb => ?_, fun _ => ?_⟩
  · exfalso
    rcases hb with (hb | hb) | hb
    · exact hb (by rw [eN])
    · exact hb (by rw [eG])
    · exact hb (by rw [eP])
  refine lfp_of (fun x : Int => 0 ≤ x ∧ x ≤ c.texts.length) (fun x => (c.texts.length - x).toNat) (fun x hx again6 hag6 => ?_) ⟨by omega, by omega⟩
  refine ⟨fun hlt => ⟨by omega, ?_⟩, fun hn => ?_⟩
  · have hxl : inL x c.texts.length := by omega
    have hxo := hok.1.2 _ (gi_mem hxl)
    have hxv := G.val _ (gi_mem hxl)
    -- the longest is 0 or how many words are in common from two places on
    refine lfp2 (lawNear_L2 c t x Q again6) (fun longest x1 => 0 ≤ x1 ∧ x1 ≤ (gi c.texts x).words.length ∧ (longest = 0 ∨ ∃ p q : Int, 0 ≤ p ∧ 0 ≤ q ∧ longest = (commonW ((gi c.texts x).words.drop p.toNat) (t.words.drop q.toNat) : Nat))) (fun _ x1 => ((gi c.texts x).words.length - x1).toNat) (fun longest x1 hst again9 hag9 => ?_) ⟨by omega, by omega, .inl rfl⟩
    obtain ⟨g0, g1, g2⟩ := hst
    refine ⟨fun hlt1 => ?_, fun hn1 => ⟨fun _ => by omega, fun hb => ?_, fun _ => ⟨by omega, hag6 _ ⟨by omega, by omega⟩ (by omega)⟩⟩⟩
    · refine lfp2 (lawNear_L3 c t x x1 again9) (fun longest1 x2 => 0 ≤ x2 ∧ x2 ≤ t.words.length ∧ (longest1 = 0 ∨ ∃ p q : Int, 0 ≤ p ∧ 0 ≤ q ∧ longest1 = (commonW ((gi c.texts x).words.drop p.toNat) (t.words.drop q.toNat) : Nat))) (fun _ x2 => (t.words.length - x2).toNat) (fun longest1 x2 hst2 again11 hag11 => ?_) ⟨by omega, by omega, g2⟩
      obtain ⟨k0, k1, k2⟩ := hst2
      have hwx := hxo.2.1; have hwt := ht.2.1
      refine ⟨fun hlt2 => ⟨hxo, ht, by omega, hag11 _ _ ⟨by omega, by omega, ?_⟩ (by omega)⟩, fun hn2 => ⟨by omega, hag9 _ _ ⟨by omega, by omega, k2⟩ (by omega)⟩⟩
      have ec : commonF4 (gi c.texts x) x1 t x2 = (commonW ((gi c.texts x).words.drop x1.toNat) (t.words.drop x2.toNat) : Nat) := by
        unfold commonF4; rw [if_pos ⟨by omega, by omega, by omega, by omega, hxv, hv⟩]
      rw [gmax1]
      rcases Int.le_total longest1 (commonF4 (gi c.texts x) x1 t x2) with hm | hm
      · right; exact ⟨x1, x2, by omega, by omega, by rw [← ec]; omega⟩
      · rw [show max longest1 (commonF4 (gi c.texts x) x1 t x2) = longest1 by omega]; exact k2
    · exfalso
      obtain ⟨hge, hna⟩ := hb
      rw [eG] at hge
      rcases g2 with g2 | ⟨p, q, hp, hq, e⟩
      · simp only at hge; omega
      · have hm := near_common G hv hxl hp hq (by rw [← e]; exact hge)
        rw [e1] at hna
        have : (nearL c (printsF t c.k c.w).1).any (fun z_ => decide (z_ = x)) = true := List.any_eq_true.2 ⟨x, hm, decide_eq_true rfl⟩
        rw [this] at hna; cases hna
  · refine lfp_of (fun x3 : Int => 0 ≤ x3 ∧ x3 ≤ (nearF c t).1.length) (fun x3 => ((nearF c t).1.length - x3).toNat) (fun x3 hx3 again15 hag15 => ?_) ⟨by omega, by omega⟩
    refine ⟨fun hlt3 => ?_, fun _ => h⟩
    have hm := gi_mem (l := (nearF c t).1) (i := x3) (by omega)
    have hnd : (lsub (nearF c t).1 0 x3).any (fun z_ => decide (z_ = gi (nearF c t).1 x3)) = false := by
      rw [anyI_false]
      intro j hj
      rw [lsub_to] at hj ⊢
      rw [List.length_take] at hj
      have hnn := near_nodup (l := (printsF t c.k c.w).1) hs
      rw [← e1] at hnn
      have := pw_gi hnn hj.1 (show j < x3 by omega) hlt3
      have e2 : gi ((nearF c t).1.take x3.toNat) j = gi (nearF c t).1 j := by
        rw [gi_lt (by rw [List.length_take]; omega), gi_lt (by omega), List.getElem_take]
      rw [e2]
      exact decide_eq_false this
    rw [e1, near_mem hs, ← e1] at hm
    obtain ⟨m1, m2, m3⟩ := hm
    have hnl2 : inL (gi (nearF c t).1 x3) c.texts.length := ⟨m1, m2⟩
    obtain ⟨u, hu, v, hv2, e⟩ := (shared_pos G hnl2).1 m3
    have eT := printsF_valid (G.val _ (gi_mem hnl2)) G.k G.w
    have ho := hok.1.2 _ (gi_mem hnl2)
    have pl1 := prints_len t c.k c.w; have pl2 := prints_len (gi c.texts (gi (nearF c t).1 x3)) c.k c.w
    have w1 := ht.2.1; have w2 := ho.2.1
    refine ⟨by omega, fun _ => ⟨by omega, by rw [lsub_to, List.length_take]; omega⟩, fun hb => ?_, fun hg => ⟨hnl2, ho, fun _ => ⟨by omega, fun _ _ => by omega⟩, fun hb => ?_, fun _ => ⟨by omega, hag15 _ ⟨by omega, by omega⟩ (by omega)⟩⟩⟩
    · exfalso
      rcases hb with (hb | hb) | hb
      · omega
      · omega
      · rw [hnd] at hb; cases hb
    · exfalso
      rcases hb with hb | hb
      · exact hb (by rw [eT])
      · have : ((printsF t c.k c.w).1.any (fun (x0_ : Print) => ((printsF (gi c.texts (gi (nearF c t).1 x3)) c.k c.w).1.any fun y_ => decide (x0_.hash = y_.hash)))) = true :=
          List.any_eq_true.2 ⟨v, hv2, List.any_eq_true.2 ⟨u, hu, decide_eq_true e⟩⟩
        rw [this] at hb; cases hb
end Go.Lic
