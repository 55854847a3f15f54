/-
  The conditions of functions of chapter 01 hold. No program in sight.
-/
import Derived.Test.YtkoomieafmjjfaaGreatDoorDv
import Derived.Test.YtkoomieafmjjfaaGreatDoorDm
set_option linter.all false
namespace Go.Lic

theorem rot_ok (x k : Int) (Q : Int → Prop) (h : Q (rotF x k)) : rot_vc x k Q := by
  unfold rot_vc
  exact ⟨wrap_nn rfl _, wrap_nn rfl _, h⟩
theorem offs_ok (Q : List Int → Prop) (h : Q offsF) : offs_vc Q := h
theorem cons_ok (Q : List Int → Prop) (h : Q consF) : cons_vc Q := h

theorem round_ok (s o : List Int) (c : Int) (Q : List Int → Prop) (hl : s.length = 25) (h : Q (roundF s o c)) : round_vc s o c Q := by
  unfold round_vc
  unfold roundF at h
  refine lfp_for 25 (fori (colF s) (List.replicate 5 0)) (fun i hi again hag => ?_) (fun again => ?_)
  · unfold round_L1
    have hc : (fori (colF s) (List.replicate 5 0) i).length = 5 := by rw [fori_len (fun _ _ => by simp)]; simp
    rw [fori_succ] at hag
    generalize fori (colF s) (List.replicate 5 0) i = u at hc hag ⊢
    unfold colF at hag
    exact ⟨fun _ => ⟨by omega, by omega, by omega, hc, by omega, hag⟩, fun hn => absurd (by omega) hn⟩
  · unfold round_L1
    generalize fori (colF s) (List.replicate 5 0) 25 = p at h ⊢
    refine ⟨fun hn => absurd hn (by omega), fun _ => ?_⟩
    refine lfp_for 25 (fori (movF s o p) (List.replicate 25 0)) (fun i hi again hag => ?_) (fun again => ?_)
    · unfold round_L2
      have hc : (fori (movF s o p) (List.replicate 25 0) i).length = 25 := by rw [fori_len (fun _ _ => by simp)]; simp
      rw [fori_succ] at hag
      generalize fori (movF s o p) (List.replicate 25 0) i = u at hc hag ⊢
      unfold movF at hag
      refine ⟨fun _ => ⟨by omega, by omega, by omega, by omega, by omega, by omega, by omega, by omega, by omega, by omega, by omega, by omega, by omega, by omega, by omega, by omega, by omega, hc, by omega, hag⟩, fun hn => absurd (by omega) hn⟩
    · unfold round_L2
      generalize fori (movF s o p) (List.replicate 25 0) 25 = t at h ⊢
      refine ⟨fun hn => absurd hn (by omega), fun _ => ?_⟩
      refine lfp_for 25 (fori (chiF t) s) (fun i hi again hag => ?_) (fun again => ?_)
      · unfold round_L3
        have hc : (fori (chiF t) s i).length = 25 := by rw [fori_len (fun _ _ => by simp)]; exact hl
        rw [fori_succ] at hag
        generalize fori (chiF t) s i = u at hc hag ⊢
        unfold chiF at hag
        refine ⟨fun _ => ⟨by omega, by omega, by omega, by omega, by omega, by omega, by omega, by omega, by omega, by omega, by omega, hc, by omega, hag⟩, fun hn => absurd (by omega) hn⟩
      · unfold round_L3
        have hc : (fori (chiF t) s 25).length = 25 := by rw [fori_len (fun _ _ => by simp)]; exact hl
        generalize fori (chiF t) s 25 = u at hc h ⊢
        unfold iotF at h
        refine ⟨fun hn => absurd hn (by omega), fun _ => ?_⟩
        exact ⟨by omega, hc, h⟩
theorem perm_ok (s : List Int) (Q : List Int → Prop) (hl : s.length = 25) (h : Q (permF s)) : perm_vc s Q := by
  unfold perm_vc
  refine lfp_for 24 (fori (fun s i => roundF s offsF (gi consF i)) s) (fun i hi again hag => ?_) (fun again => ?_)
  · unfold perm_L1
    rw [fori_succ] at hag
    exact ⟨fun _ => ⟨by omega, by rw [fori_len (fun _ _ => roundF_len _ _ _)]; exact hl, by omega, hag⟩, fun hn => absurd (by omega) hn⟩
  · unfold perm_L1
    unfold permF at h
    generalize fori (fun s i => roundF s offsF (gi consF i)) s 24 = u at h ⊢
    exact ⟨fun hn => absurd hn (by omega), fun _ => h⟩
end Go.Lic

set_option linter.all false
namespace Go.Lic

theorem new_ok (Q : DigestSponge → Prop) (h : Q newS) : new_vc Q := h
theorem cl_ok (s : DigestSponge) (Q : DigestSponge × DigestSponge → Prop) (hr : s.rest.length ≤ 136) (h : Q (clF s)) : cl_vc s Q := ⟨by omega, h⟩
theorem abs_ok (s : DigestSponge) (b : List Int) (Q : DigestSponge → Prop) (hb : b.length = 136) (hs : s.state.length = 25) (h : Q (absF s b)) : abs_vc s b Q := by
  unfold abs_vc
  refine lfp_for 136 (fori (xorF b) s.state) (fun i hi again hag => ?_) (fun again => ?_)
  · unfold abs_L1
    have hc : (fori (xorF b) s.state i).length = 25 := by rw [fori_len (fun _ _ => by simp)]; exact hs
    rw [fori_succ] at hag
    generalize fori (xorF b) s.state i = u at hc hag ⊢
    unfold xorF at hag
    exact ⟨fun _ => ⟨by omega, by omega, by omega, by omega, by omega, by omega, hc, by omega, hag⟩, fun hn => absurd (by omega) hn⟩
  · unfold abs_L1
    have hc : (fori (xorF b) s.state 136).length = 25 := by rw [fori_len (fun _ _ => by simp)]; exact hs
    unfold absF takeF at h
    generalize fori (xorF b) s.state 136 = u at hc h ⊢
    exact ⟨fun hn => absurd hn (by omega), fun _ => ⟨hc, h⟩⟩
theorem wr_ok (s : DigestSponge) (l : List ByteArray) (Q : Int × DigestSponge → Prop) (hs : s.state.length = 25) (hr : s.rest.length ≤ 135) (t0 : 0 ≤ s.taken) (t1 : s.taken ≤ 1000000) (hl : l.length ≤ 6) (hp : ∀ p ∈ l, p.size ≤ 1000000) (h : Q (wrF s l)) : wr_vc s l Q := by
  unfold wr_vc
  refine lfp_seq (S := List Int × Int × List Int × ByteArray × ByteArray × List Int × Int) l.length (fun i => let S := eatsS s (l.take i); (S.state, S.taken, S.seen, S.tail, S.sum, S.rest, (i : Int))) (fun i hi again hag => ?_) (fun again => ?_)
  · unfold wr_L1
    dsimp only
    have hS : (eatsS s (l.take i)).state.length = 25 := by rw [eatsS_st]; exact hs
    have hR := eatsS_rest hr (l.take i)
    have hT := eatsS_taken (s := s) (l.take i) (B := 1000000) fun p hq => hp p (List.mem_of_mem_take hq)
    have hT2 : (l.take i).length ≤ 6 := by rw [List.length_take]; omega
    generalize (l.take i).length = li at hT hT2
    have hz : (l[i]).size ≤ 1000000 := hp _ (List.getElem_mem _)
    simp only [eatsS_succ s l hi] at hag
    generalize eatsS s (l.take i) = S at hS hR hT hag ⊢
    have hg : gi l (i : Int) = l[i] := gi_nat hi
    generalize hpp : l[i] = p at hg hz hag
    refine ⟨fun _ => ⟨by omega, ?_⟩, fun hn => absurd (by simp; omega) hn⟩
    simp only [hg]
    have hb : (sbytes p).length = p.size := sbytesD_len p
    refine ⟨by omega, by omega, ?_⟩
    generalize hbb : S.rest ++ sbytes p = b
    have hlb : b.length = S.rest.length + p.size := by rw [← hbb, List.length_append, hb]
    refine lfp_seq (S := List Int × Int × List Int × ByteArray × ByteArray × List Int) (b.length / 136) (fun k => (eatF k S.state b, S.taken + p.size, S.seen, S.tail, S.sum, b.drop (136 * k))) (fun k hk again2 hag2 => ?_) (fun again2 => ?_)
    · unfold wr_L2
      dsimp only
      have hd : (b.drop (136 * k)).length = b.length - 136 * k := by simp
      refine ⟨fun _ => ⟨by simp only [hd]; omega, ?_, ?_, ?_, ?_, ?_⟩, fun hn => absurd (by simp only [hd]; omega) hn⟩
      · simp only [lsub_to, List.length_take, hd]; omega
      · simp [eatF_len, hS]
      · simp only [hd]; omega
      · have := List.length_drop (i := 136) (l := b.drop (136 * k))
        simp only [lsub_from]; rw [show (136 : Int).toNat = 136 from rfl]; omega
      · simp only [absF, lsub_from, lsub_to, List.drop_drop]
        rw [eatF_succ] at hag2
        exact hag2
    · unfold wr_L2
      dsimp only
      have hd : (b.drop (136 * (b.length / 136))).length = b.length - 136 * (b.length / 136) := by simp
      refine ⟨fun hn => absurd hn (by simp only [hd]; omega), fun _ => ⟨by omega, ?_⟩⟩
      unfold eatS at hag
      rw [hbb] at hag
      exact hag
  · unfold wr_L1
    dsimp only
    refine ⟨fun hn => absurd hn (by simp), fun _ => ?_⟩
    simp only [List.take_length]
    exact h
theorem ss_ok (s : DigestSponge) (Q : ByteArray × DigestSponge → Prop) (hs : s.state.length = 25) (hr : s.rest.length ≤ 135) (h : Q (ssF s)) : ss_vc s Q := by
  unfold ss_vc
  unfold ssF at h
  refine ⟨fun hc => ?_, fun hc => ?_⟩
  · rw [if_pos ⟨hc.1.1, hc.1.2, hc.2⟩] at h; exact h
  · rw [if_neg (by
      rintro ⟨h1, h2, h3⟩
      rcases hc with (hc | hc) | hc
      · exact h1 hc
      · rw [h2] at hc; cases hc
      · exact hc h3)] at h
    have hg : (gcopy (List.replicate (Int.toNat 136) 0) s.rest).length = 136 := by rw [gcopy_length]; rfl
    simp only [clF, show Int.toNat 136 = 136 from rfl] at hg ⊢
    refine ⟨by omega, by omega, by rw [hg]; omega, by rw [si_length, hg]; omega, by rw [si_length, si_length, hg], hs, by omega, ?_⟩
    refine lfp_for 32 (fori (outF (takeF s.state (lastF s.rest))) (List.replicate 32 0)) (fun i hi again hag => ?_) (fun again => ?_)
    · unfold ss_L1
      simp only [clF, absF, show Int.toNat 136 = 136 from rfl, show Int.toNat 32 = 32 from rfl]
      have hc : (fori (outF (takeF s.state (lastF s.rest))) (List.replicate 32 0) i).length = 32 := by rw [fori_len (fun _ _ => by simp)]; simp
      rw [fori_succ] at hag
      generalize fori (outF (takeF s.state (lastF s.rest))) (List.replicate 32 0) i = u at hc hag ⊢
      unfold outF lastF at hag
      exact ⟨fun _ => ⟨by omega, by omega, by omega, by omega, by omega, by simp only [hc]; omega, by omega, hag⟩, fun hn => absurd (by rw [List.length_replicate]; omega) hn⟩
    · unfold ss_L1
      simp only [clF, absF, show Int.toNat 136 = 136 from rfl, show Int.toNat 32 = 32 from rfl]
      unfold endF bytesF at h
      generalize fori (outF (takeF s.state (lastF s.rest))) (List.replicate 32 0) 32 = u at h ⊢
      exact ⟨fun hn => absurd hn (by rw [List.length_replicate]; omega), fun _ => h⟩
theorem sum_ok (d : ByteArray) (Q : ByteArray → Prop) (hd : d.size ≤ 1000000) (h : Q (sumF d)) : sum_vc d Q := by
  unfold sum_vc
  have hn := Holds.new
  have hw := hn.eats [d]
  have e : List.foldl (· ++ ·) (⟨#[]⟩ : ByteArray) [d] = d := by
    apply ByteArray.ext; simp [ByteArray.data_append]
  rw [e] at hw
  refine ⟨hn.st25, hn.r135, by decide, by decide, by simp, by simpa using hd, hw.st25, hw.r135, ?_⟩
  have := hw.sum1
  rw [← this] at h; exact h
end Go.Lic
