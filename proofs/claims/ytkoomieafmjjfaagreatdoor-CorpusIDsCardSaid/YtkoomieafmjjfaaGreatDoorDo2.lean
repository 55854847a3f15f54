/-
  The conditions of functions of chapter 01 hold: sponges and sums. No program in sight.
-/
import Derived.Test.YtkoomieafmjjfaaGreatDoorDo
import Derived.Test.YtkoomieafmjjfaaGreatDoorDm
set_option linter.all false
namespace Go.Lic

theorem new_ok (Q : DigestSponge → Prop) (h : Q newS) : new_vc Q := h
theorem cl_ok (s : DigestSponge) (Q : DigestSponge × DigestSponge → Prop) (hr : s.rest.length ≤ 136) (h : Q (clF s)) : cl_vc s Q := ⟨by omega, h⟩
theorem abs_ok (s : DigestSponge) (b : List Int) (Q : DigestSponge → Prop) (hb : b.length = 136) (hs : s.state.length = 25) (h : Q (absF s b)) : abs_vc s b Q := by
  unfold abs_vc
  refine lfp_for 136 (fori (xorF b) s.state) (fun i hi again hag => ?_) (fun again => ?_)
  · unfold abs_L1
    have hc : (fori (xorF b) s.state i).length = 25 := by rw [fori_len (fun _ _ => by simp)]; exact hs
    rw [fori_succ] at hag
    generalize fori (xorF b) s.state i = u at hc hag ⊢
    unfold xorF at hag
    exact ⟨fun _ => ⟨by omega, by omega, by omega, by omega, by omega, by omega, hc, by omega, hag⟩, fun hn => absurd (by omega) hn⟩
  · unfold abs_L1
    have hc : (fori (xorF b) s.state 136).length = 25 := by rw [fori_len (fun _ _ => by simp)]; exact hs
    unfold absF takeF at h
    generalize fori (xorF b) s.state 136 = u at hc h ⊢
    exact ⟨fun hn => absurd hn (by omega), fun _ => ⟨hc, h⟩⟩
theorem wr_ok (s : DigestSponge) (l : List ByteArray) (Q : Int × DigestSponge → Prop) (hs : s.state.length = 25) (hr : s.rest.length ≤ 135) (t0 : 0 ≤ s.taken) (t1 : s.taken ≤ 1000000) (hl : l.length ≤ 6) (hp : ∀ p ∈ l, p.size ≤ 1000000) (h : Q (wrF s l)) : wr_vc s l Q := by
  unfold wr_vc
  refine lfp_seq (S := List Int × Int × List Int × ByteArray × ByteArray × List Int × Int) l.length (fun i => let S := eatsS s (l.take i); (S.state, S.taken, S.seen, S.tail, S.sum, S.rest, (i : Int))) (fun i hi again hag => ?_) (fun again => ?_)
  · unfold wr_L1
    dsimp only
    have hS : (eatsS s (l.take i)).state.length = 25 := by rw [eatsS_st]; exact hs
    have hR := eatsS_rest hr (l.take i)
    have hT := eatsS_taken (s := s) (l.take i) (B := 1000000) fun p hq => hp p (List.mem_of_mem_take hq)
    have hT2 : (l.take i).length ≤ 6 := by rw [List.length_take]; omega
    generalize (l.take i).length = li at hT hT2
    have hz : (l[i]).size ≤ 1000000 := hp _ (List.getElem_mem _)
    simp only [eatsS_succ s l hi] at hag
    generalize eatsS s (l.take i) = S at hS hR hT hag ⊢
    have hg : gi l (i : Int) = l[i] := gi_nat hi
    generalize hpp : l[i] = p at hg hz hag
    refine ⟨fun _ => ⟨by omega, ?_⟩, fun hn => absurd (by simp; omega) hn⟩
    simp only [hg]
    have hb : (sbytes p).length = p.size := sbytesD_len p
    refine ⟨by omega, by omega, ?_⟩
    generalize hbb : S.rest ++ sbytes p = b
    have hlb : b.length = S.rest.length + p.size := by rw [← hbb, List.length_append, hb]
    refine lfp_seq (S := List Int × Int × List Int × ByteArray × ByteArray × List Int) (b.length / 136) (fun k => (eatF k S.state b, S.taken + p.size, S.seen, S.tail, S.sum, b.drop (136 * k))) (fun k hk again2 hag2 => ?_) (fun again2 => ?_)
    · unfold wr_L2
      dsimp only
      have hd : (b.drop (136 * k)).length = b.length - 136 * k := by simp
      refine ⟨fun _ => ⟨by simp only [hd]; omega, ?_, ?_, ?_, ?_, ?_⟩, fun hn => absurd (by simp only [hd]; omega) hn⟩
      · simp only [lsub_to, List.length_take, hd]; omega
      · simp [eatF_len, hS]
      · simp only [hd]; omega
      · have := List.length_drop (i := 136) (l := b.drop (136 * k))
        simp only [lsub_from]; rw [show (136 : Int).toNat = 136 from rfl]; omega
      · simp only [absF, lsub_from, lsub_to, List.drop_drop]
        rw [eatF_succ] at hag2
        exact hag2
    · unfold wr_L2
      dsimp only
      have hd : (b.drop (136 * (b.length / 136))).length = b.length - 136 * (b.length / 136) := by simp
      refine ⟨fun hn => absurd hn (by simp only [hd]; omega), fun _ => ⟨by omega, ?_⟩⟩
      unfold eatS at hag
      rw [hbb] at hag
      exact hag
  · unfold wr_L1
    dsimp only
    refine ⟨fun hn => absurd hn (by simp), fun _ => ?_⟩
    simp only [List.take_length]
    exact h
theorem ss_ok (s : DigestSponge) (Q : ByteArray × DigestSponge → Prop) (hs : s.state.length = 25) (hr : s.rest.length ≤ 135) (h : Q (ssF s)) : ss_vc s Q := by
  unfold ss_vc
  unfold ssF at h
  refine ⟨fun hc => ?_, fun hc => ?_⟩
  · rw [if_pos ⟨hc.1.1, hc.1.2, hc.2⟩] at h; exact h
  · rw [if_neg (by
      rintro ⟨h1, h2, h3⟩
      rcases hc with (hc | hc) | hc
      · exact h1 hc
      · rw [h2] at hc; cases hc
      · exact hc h3)] at h
    have hg : (gcopy (List.replicate (Int.toNat 136) 0) s.rest).length = 136 := by rw [gcopy_length]; rfl
    simp only [clF, show Int.toNat 136 = 136 from rfl] at hg ⊢
    refine ⟨by omega, by omega, by rw [hg]; omega, by rw [si_length, hg]; omega, by rw [si_length, si_length, hg], hs, by omega, ?_⟩
    refine lfp_for 32 (fori (outF (takeF s.state (lastF s.rest))) (List.replicate 32 0)) (fun i hi again hag => ?_) (fun again => ?_)
    · unfold ss_L1
      simp only [clF, absF, show Int.toNat 136 = 136 from rfl, show Int.toNat 32 = 32 from rfl]
      have hc : (fori (outF (takeF s.state (lastF s.rest))) (List.replicate 32 0) i).length = 32 := by rw [fori_len (fun _ _ => by simp)]; simp
      rw [fori_succ] at hag
      generalize fori (outF (takeF s.state (lastF s.rest))) (List.replicate 32 0) i = u at hc hag ⊢
      unfold outF lastF at hag
      exact ⟨fun _ => ⟨by omega, by omega, by omega, by omega, by omega, by simp only [hc]; omega, by omega, hag⟩, fun hn => absurd (by rw [List.length_replicate]; omega) hn⟩
    · unfold ss_L1
      simp only [clF, absF, show Int.toNat 136 = 136 from rfl, show Int.toNat 32 = 32 from rfl]
      unfold endF bytesF at h
      generalize fori (outF (takeF s.state (lastF s.rest))) (List.replicate 32 0) 32 = u at h ⊢
      exact ⟨fun hn => absurd hn (by rw [List.length_replicate]; omega), fun _ => h⟩
theorem sum_ok (d : ByteArray) (Q : ByteArray → Prop) (hd : d.size ≤ 1000000) (h : Q (sumF d)) : sum_vc d Q := by
  unfold sum_vc
  have hn := Holds.new
  have hw := hn.eats [d]
  have e : List.foldl (· ++ ·) (⟨#[]⟩ : ByteArray) [d] = d := by
    apply ByteArray.ext; simp [ByteArray.data_append]
  rw [e] at hw
  refine ⟨hn.st25, hn.r135, by decide, by decide, by simp, by simpa using hd, hw.st25, hw.r135, ?_⟩
  have := hw.sum1
  rw [← this] at h; exact h
theorem wrap8 : ∀ n : Fin 8, IntKind.u64.wrap (8 * (n.val : Int)) = 8 * (n.val : Int) := by decide +kernel
theorem gi_blk {l : List Int} {m i : Nat} (hi : i < 136) (h : m + i < l.length) : gi ((l.drop m).take 136) (i : Int) = gi l ((m : Int) + i) := by
  unfold gi
  rw [List.getD_eq_getElem?_getD, List.getD_eq_getElem?_getD, List.getElem?_take, Int.toNat_natCast, if_pos hi, List.getElem?_drop]
  congr 2
theorem xor_blk {P : List Int} {q : Nat} (u : List Int) {i : Nat} (hi : i < 136) (hl : 136 * q + i < P.length) : xorF ((P.drop (136 * q)).take 136) u i = si u ((i : Int) / 8) (gxor .u64 (gi u ((i : Int) / 8)) (gshl .u64 (IntKind.u64.wrap (gi P (136 * (q : Int) + i))) (8 * ((i : Int) % 8)))) := by
  unfold xorF
  rw [gi_blk hi (by omega)]
  congr 5
theorem rsum_ok (d : ByteArray) (Q : ByteArray → Prop) (hd : d.size ≤ 1000000) (h : Q (sumF d)) : rsum_vc d Q := by
  unfold rsum_vc
  rw [sumF_pad] at h
  have hb : (sbytes d).length = d.size := sbytesD_len d
  generalize sbytes d = b at h hb ⊢
  refine ⟨by simp; omega, ?_⟩
  refine lfp_seq (135 - b.length % 136) (fun k => b ++ (6 :: List.replicate k 0)) (fun k hk again hag => ?_) (fun again => ?_)
  · unfold rsum_L1
    refine ⟨by omega, fun _ => ⟨by simp; omega, ?_⟩, fun hn => absurd hn (by simp; omega)⟩
    rw [List.append_assoc, List.cons_append, ← List.replicate_succ']
    exact hag
  · unfold rsum_L1
    have hP : b ++ (6 :: List.replicate (135 - b.length % 136) 0) = padF b := rfl
    rw [hP]
    have hl := padF_len b
    refine ⟨by omega, fun hn => absurd (by rw [hl]; omega) hn, fun _ => ⟨by rw [hl]; omega, by rw [hl]; omega, ?_⟩⟩
    have hl2 := padR_len b
    refine lfp_seq (S := List Int × Int) (b.length / 136 + 1) (fun k => (eatF k zero25 (padR b), 136 * (k : Int))) (fun q hq again hag => ?_) (fun again => ?_)
    · unfold rsum_L2
      have hpr : si (padF b) (((padF b).length : Int) - 1) (gor .u8 (gi (padF b) (((padF b).length : Int) - 1)) 128) = padR b := rfl
      simp only [hpr]
      refine ⟨fun _ => ?_, fun hn => absurd (by rw [hl2]; omega) hn⟩
      rw [eatF_succ] at hag
      generalize hu0 : eatF q zero25 (padR b) = u0 at hag ⊢
      have hu : u0.length = 25 := by rw [← hu0, eatF_len]; simp
      refine lfp_for 136 (fori (xorF (((padR b).drop (136 * q)).take 136)) u0) (fun i hi again2 hag2 => ?_) (fun again2 => ?_)
      · unfold rsum_L3
        have hc : (fori (xorF (((padR b).drop (136 * q)).take 136)) u0 i).length = 25 := by rw [fori_len (fun _ _ => by simp)]; exact hu
        rw [fori_succ] at hag2
        generalize fori (xorF (((padR b).drop (136 * q)).take 136)) u0 i = u at hc hag2 ⊢
        rw [xor_blk _ hi (by omega)] at hag2
        simp only [hpr]
        have hw : IntKind.u64.wrap (8 * ((i : Int) % 8)) = 8 * ((i : Int) % 8) := wrap8 ⟨i % 8, by omega⟩
        rw [hw]
        exact ⟨fun _ => ⟨by omega, by omega, by omega, by omega, by omega, by omega, by omega, hc, by omega, hag2⟩, fun hn => absurd (by omega) hn⟩
      · unfold rsum_L3
        have hc : (fori (xorF (((padR b).drop (136 * q)).take 136)) u0 136).length = 25 := by rw [fori_len (fun _ _ => by simp)]; exact hu
        unfold takeF at hag
        generalize fori (xorF (((padR b).drop (136 * q)).take 136)) u0 136 = u at hc hag ⊢
        refine ⟨fun hn => absurd hn (by omega), fun _ => ⟨hc, by omega, ?_⟩⟩
        have e : (136 * ((q + 1 : Nat) : Int)) = 136 * (q : Int) + 136 := by omega
        rw [e] at hag; exact hag
    · unfold rsum_L2
      have hpr : si (padF b) (((padF b).length : Int) - 1) (gor .u8 (gi (padF b) (((padF b).length : Int) - 1)) 128) = padR b := rfl
      simp only [hpr]
      refine ⟨fun hn => absurd hn (by rw [hl2]; omega), fun _ => ⟨by omega, ?_⟩⟩
      generalize eatF (b.length / 136 + 1) zero25 (padR b) = t at h ⊢
      refine lfp_for 32 (fori (outF t) (List.replicate 32 0)) (fun i hi again hag => ?_) (fun again => ?_)
      · unfold rsum_L4
        have hc : (fori (outF t) (List.replicate 32 0) i).length = 32 := by rw [fori_len (fun _ _ => by simp)]; simp
        rw [fori_succ] at hag
        generalize fori (outF t) (List.replicate 32 0) i = u at hc hag ⊢
        unfold outF at hag
        have hw : IntKind.u64.wrap (8 * ((i : Int) % 8)) = 8 * ((i : Int) % 8) := wrap8 ⟨i % 8, by omega⟩
        rw [hw]
        exact ⟨fun _ => ⟨by omega, by omega, by omega, by omega, by omega, by simp only [hc]; omega, by omega, hag⟩, fun hn => absurd (by omega) hn⟩
      · unfold rsum_L4
        unfold bytesF at h
        generalize fori (outF t) (List.replicate 32 0) 32 = u at h ⊢
        exact ⟨fun hn => absurd hn (by omega), fun _ => h⟩
end Go.Lic
