/-
  The conditions of functions of chapter 01 hold. No program in sight.
-/
import Derived.Test.YtkoomieafmjjfaaGreatDoorDv
set_option linter.all false
namespace Go.Lic

theorem rot_ok (x k : Int) (Q : Int → Prop) (h : Q (rotF x k)) : rot_vc x k Q := by
  unfold rot_vc
  exact ⟨wrap_nn rfl _, wrap_nn rfl _, h⟩
theorem rot_small : ∀ n : Fin 64, gand .u64 (IntKind.u64.wrap (n.val : Int)) 63 = n.val ∧ IntKind.u64.wrap (n.val : Int) = n.val := by decide +kernel
theorem rrot_ok (w n : Int) (Q : Int → Prop) (h0 : 0 ≤ n) (h1 : n ≤ 63) (h : Q (rotF w n)) : rrot_vc w n Q := by
  unfold rrot_vc
  obtain ⟨m, rfl⟩ : ∃ m : Nat, n = m := ⟨n.toNat, by omega⟩
  have hm := rot_small ⟨m, by omega⟩
  simp only at hm
  rw [rotF, hm.1] at h
  rw [hm.2]
  exact ⟨by omega, by omega, wrap_nn rfl _, h⟩
theorem off_ok (x y : Int) (Q : Int → Prop) (hx : inL x 5) (hy : inL y 5) (h : Q (offF x y)) : off_vc x y Q := by
  unfold off_vc
  exact ⟨by omega, by omega, by simp; omega, h⟩
theorem con_ok (r : Int) (Q : Int → Prop) (hr : inL r 24) (h : Q (conF r)) : con_vc r Q := ⟨by simp; omega, h⟩
theorem offs_ok (Q : List Int → Prop) (h : Q offsF) : offs_vc Q := h
theorem cons_ok (Q : List Int → Prop) (h : Q consF) : cons_vc Q := h

theorem round_ok (s o : List Int) (c : Int) (Q : List Int → Prop) (hl : s.length = 25) (h : Q (roundF s o c)) : round_vc s o c Q := by
  unfold round_vc
  unfold roundF at h
  refine lfp_for 25 (fori (colF s) (List.replicate 5 0)) (fun i hi again hag => ?_) (fun again => ?_)
  · unfold round_L1
    have hc : (fori (colF s) (List.replicate 5 0) i).length = 5 := by rw [fori_len (fun _ _ => by simp)]; simp
    rw [fori_succ] at hag
    generalize fori (colF s) (List.replicate 5 0) i = u at hc hag ⊢
    unfold colF at hag
    exact ⟨fun _ => ⟨by omega, by omega, by omega, hc, by omega, hag⟩, fun hn => absurd (by omega) hn⟩
  · unfold round_L1
    generalize fori (colF s) (List.replicate 5 0) 25 = p at h ⊢
    refine ⟨fun hn => absurd hn (by omega), fun _ => ?_⟩
    refine lfp_for 25 (fori (movF s o p) (List.replicate 25 0)) (fun i hi again hag => ?_) (fun again => ?_)
    · unfold round_L2
      have hc : (fori (movF s o p) (List.replicate 25 0) i).length = 25 := by rw [fori_len (fun _ _ => by simp)]; simp
      rw [fori_succ] at hag
      generalize fori (movF s o p) (List.replicate 25 0) i = u at hc hag ⊢
      unfold movF at hag
      refine ⟨fun _ => ⟨by omega, by omega, by omega, by omega, by omega, by omega, by omega, by omega, by omega, by omega, by omega, by omega, by omega, by omega, by omega, by omega, by omega, hc, by omega, hag⟩, fun hn => absurd (by omega) hn⟩
    · unfold round_L2
      generalize fori (movF s o p) (List.replicate 25 0) 25 = t at h ⊢
      refine ⟨fun hn => absurd hn (by omega), fun _ => ?_⟩
      refine lfp_for 25 (fori (chiF t) s) (fun i hi again hag => ?_) (fun again => ?_)
      · unfold round_L3
        have hc : (fori (chiF t) s i).length = 25 := by rw [fori_len (fun _ _ => by simp)]; exact hl
        rw [fori_succ] at hag
        generalize fori (chiF t) s i = u at hc hag ⊢
        unfold chiF at hag
        refine ⟨fun _ => ⟨by omega, by omega, by omega, by omega, by omega, by omega, by omega, by omega, by omega, by omega, by omega, hc, by omega, hag⟩, fun hn => absurd (by omega) hn⟩
      · unfold round_L3
        have hc : (fori (chiF t) s 25).length = 25 := by rw [fori_len (fun _ _ => by simp)]; exact hl
        generalize fori (chiF t) s 25 = u at hc h ⊢
        unfold iotF at h
        refine ⟨fun hn => absurd hn (by omega), fun _ => ?_⟩
        exact ⟨by omega, hc, h⟩
theorem off_le : ∀ (x y : Fin 5), 0 ≤ offF x.val y.val ∧ offF x.val y.val ≤ 63 := by decide +kernel
theorem rround_ok (s : List Int) (c : Int) (Q : List Int → Prop) (hl : s.length = 25) (h : Q (roundR s c)) : rround_vc s c Q := by
  unfold rround_vc
  refine lfp_for 5 (fori (sumR s) (List.replicate 5 0)) (fun i hi again hag => ?_) (fun again => ?_)
  · unfold rround_L1
    have hc : (fori (sumR s) (List.replicate 5 0) i).length = 5 := by rw [fori_len (fun _ _ => by simp)]; simp
    rw [fori_succ] at hag
    exact ⟨fun _ => ⟨by omega, by omega, by omega, by omega, by omega, by omega, by omega, by omega, by omega, by omega, hc, by omega, hag⟩, fun hn => absurd (by omega) hn⟩
  · unfold rround_L1
    refine ⟨fun hn => absurd hn (by omega), fun _ => ?_⟩
    unfold roundR at h
    generalize fori (sumR s) (List.replicate 5 0) 5 = p at h ⊢
    have hm : ∀ i, (fori (fun t x => fori (movR s p x) t 5) (List.replicate 25 0) i).length = 25 := fun i => by rw [fori_len (fun _ _ => by rw [fori_len (fun _ _ => by simp)])]; simp
    refine lfp_for 5 (fori (fun t x => fori (movR s p x) t 5) (List.replicate 25 0)) (fun i hi again hag => ?_) (fun again => ?_)
    · unfold rround_L2
      rw [fori_succ] at hag
      refine ⟨fun _ => ⟨by omega, by omega, by omega, by omega, by omega, by omega, by omega, by omega, ?_⟩, fun hn => absurd (by omega) hn⟩
      refine lfp_for 5 (fori (movR s p i) (fori (fun t x => fori (movR s p x) t 5) (List.replicate 25 0) i)) (fun j hj again2 hag2 => ?_) (fun again2 => ?_)
      · unfold rround_L3
        rw [fori_succ] at hag2
        have ho := off_le ⟨i, hi⟩ ⟨j, hj⟩
        simp only at ho
        have hc : (fori (movR s p i) (fori (fun t x => fori (movR s p x) t 5) (List.replicate 25 0) i) j).length = 25 := by rw [fori_len (fun _ _ => by simp)]; exact hm i
        generalize fori (movR s p i) (fori (fun t x => fori (movR s p x) t 5) (List.replicate 25 0) i) j = u at hc hag2 ⊢
        unfold movR at hag2
        refine ⟨fun _ => ⟨by omega, by omega, by omega, by omega, by omega, by omega, by omega, by omega, by omega, by omega, by omega, ho.1, ho.2, by omega, hc, by omega, hag2⟩, fun hn => absurd (by omega) hn⟩
      · unfold rround_L3
        exact ⟨fun hn => absurd hn (by omega), fun _ => ⟨by omega, hag⟩⟩
    · unfold rround_L2
      refine ⟨fun hn => absurd hn (by omega), fun _ => ?_⟩
      generalize fori (fun t x => fori (movR s p x) t 5) (List.replicate 25 0) 5 = t at h ⊢
      have hm2 : ∀ i, (fori (fun u x => fori (chiR t x) u 5) (List.replicate 25 0) i).length = 25 := fun i => by rw [fori_len (fun _ _ => by rw [fori_len (fun _ _ => by simp)])]; simp
      refine lfp_for 5 (fori (fun u x => fori (chiR t x) u 5) (List.replicate 25 0)) (fun i hi again hag => ?_) (fun again => ?_)
      · unfold rround_L4
        rw [fori_succ] at hag
        refine ⟨fun _ => ?_, fun hn => absurd (by omega) hn⟩
        refine lfp_for 5 (fori (chiR t i) (fori (fun u x => fori (chiR t x) u 5) (List.replicate 25 0) i)) (fun j hj again2 hag2 => ?_) (fun again2 => ?_)
        · unfold rround_L5
          rw [fori_succ] at hag2
          have hc : (fori (chiR t i) (fori (fun u x => fori (chiR t x) u 5) (List.replicate 25 0) i) j).length = 25 := by rw [fori_len (fun _ _ => by simp)]; exact hm2 i
          generalize fori (chiR t i) (fori (fun u x => fori (chiR t x) u 5) (List.replicate 25 0) i) j = u at hc hag2 ⊢
          unfold chiR at hag2
          exact ⟨fun _ => ⟨by omega, by omega, by omega, by omega, by omega, by omega, by omega, by omega, by omega, by omega, by omega, hc, by omega, hag2⟩, fun hn => absurd (by omega) hn⟩
        · unfold rround_L5
          exact ⟨fun hn => absurd hn (by omega), fun _ => ⟨by omega, hag⟩⟩
      · unfold rround_L4
        have hc := hm2 5
        generalize fori (fun u x => fori (chiR t x) u 5) (List.replicate 25 0) 5 = u at hc h ⊢
        unfold iotF at h
        exact ⟨fun hn => absurd hn (by omega), fun _ => ⟨by omega, hc, h⟩⟩
theorem perm_ok (s : List Int) (Q : List Int → Prop) (hl : s.length = 25) (h : Q (permF s)) : perm_vc s Q := by
  unfold perm_vc
  refine lfp_for 24 (fori (fun s i => roundF s offsF (gi consF i)) s) (fun i hi again hag => ?_) (fun again => ?_)
  · unfold perm_L1
    rw [fori_succ] at hag
    exact ⟨fun _ => ⟨by omega, by rw [fori_len (fun _ _ => roundF_len _ _ _)]; exact hl, by omega, hag⟩, fun hn => absurd (by omega) hn⟩
  · unfold perm_L1
    unfold permF at h
    generalize fori (fun s i => roundF s offsF (gi consF i)) s 24 = u at h ⊢
    exact ⟨fun hn => absurd hn (by omega), fun _ => h⟩
theorem rperm_ok (s : List Int) (Q : List Int → Prop) (hl : s.length = 25) (h : Q (permF s)) : rperm_vc s Q := by
  unfold rperm_vc
  refine lfp_for 24 (fori (fun s i => roundF s offsF (gi consF i)) s) (fun i hi again hag => ?_) (fun again => ?_)
  · unfold rperm_L1
    have hl2 : (fori (fun s i => roundF s offsF (gi consF i)) s i).length = 25 := by rw [fori_len (fun _ _ => roundF_len _ _ _)]; exact hl
    rw [fori_succ, round_eq _ _ hl2] at hag
    exact ⟨fun _ => ⟨by omega, hl2, by omega, hag⟩, fun hn => absurd (by omega) hn⟩
  · unfold rperm_L1
    unfold permF at h
    generalize fori (fun s i => roundF s offsF (gi consF i)) s 24 = u at h ⊢
    exact ⟨fun hn => absurd hn (by omega), fun _ => h⟩
end Go.Lic
