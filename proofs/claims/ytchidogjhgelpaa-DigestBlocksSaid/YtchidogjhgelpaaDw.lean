/-
  The laws of chapter 01 hold over plain data.
-/
import Derived.Test.YtchidogjhgelpaaDe
import Derived.Test.YtchidogjhgelpaaDi
set_option linter.all false
namespace Go.Lic

theorem app_nil (d : ByteArray) : (⟨#[]⟩ : ByteArray) ++ d = d := by apply ByteArray.ext; simp [ByteArray.data_append]
theorem app_assoc (a b c : ByteArray) : a ++ b ++ c = a ++ (b ++ c) := by apply ByteArray.ext; simp [ByteArray.data_append]
theorem Holds.wr {s : DigestSponge} {d : ByteArray} (h : Holds s d) (l : List ByteArray) : Holds (wrF s l).2 (l.foldl (· ++ ·) d) ∧ (wrF s l).1 = ((l.foldl (· ++ ·) d).size : Int) :=
  ⟨h.eats l, (h.eats l).taken⟩

theorem awake_ok (Q : Bool → Prop) (h : Q true) : awake_vc Q := by
  unfold awake_vc
  have hw := Holds.new.wr [(⟨#[97]⟩ : ByteArray), (⟨#[]⟩ : ByteArray), (⟨#[98, 99]⟩ : ByteArray)]
  have e : List.foldl (· ++ ·) (⟨#[]⟩ : ByteArray) [(⟨#[97]⟩ : ByteArray), (⟨#[]⟩ : ByteArray), (⟨#[98, 99]⟩ : ByteArray)] = ⟨#[97, 98, 99]⟩ := by rfl
  rw [e] at hw
  have hs := hw.1.sum1
  have ht := hex_there (sumF ⟨#[97, 98, 99]⟩) (by rw [hex_abc])
  have hx := hex_empty
  have hy := hex_abc
  generalize wrF newF [(⟨#[97]⟩ : ByteArray), (⟨#[]⟩ : ByteArray), (⟨#[98, 99]⟩ : ByteArray)] = w at hw hs ⊢
  have h3 : w.1 = 3 := hw.2
  generalize hexF (sumF ⟨#[]⟩) = x at hx ⊢
  generalize hexF (sumF ⟨#[97, 98, 99]⟩) = y at hy ht ⊢
  rw [hs, h3, ht, hx, hy]
  refine ⟨by decide, by decide, fun hc => by simp at hc, fun _ => ⟨Holds.new.st25, Holds.new.r135, by decide, by decide, by simp, by intro p hp; simp at hp; rcases hp with rfl | rfl | rfl <;> decide, fun _ => ⟨fun _ => ⟨fun _ => ⟨hw.1.st25, hw.1.r135, fun _ => ⟨by decide, by simpa using h⟩, fun hn => absurd rfl hn⟩, fun hn => absurd rfl hn⟩, fun hn => absurd rfl hn⟩, fun hn => absurd rfl hn⟩⟩
theorem lawSums_ok (d : ByteArray) (Q : Bool → Prop) (h : Q true) : lawSums_vc d Q := by
  unfold lawSums_vc
  refine ⟨fun hc => by simp at hc, fun _ => ⟨fun hn => by omega, ?_⟩⟩
  simpa using h
theorem lawClones_ok (a b c : ByteArray) (Q : Bool → Prop) (h : Q true) : lawClones_vc a b c Q := by
  unfold lawClones_vc
  refine ⟨fun hc => by simp at hc, fun _ => ⟨fun _ => h, fun hn => ?_⟩⟩
  have ha := Holds.new.wr [a]
  have e : List.foldl (· ++ ·) (⟨#[]⟩ : ByteArray) [a] = a := app_nil a
  rw [e] at ha
  generalize wrF newF [a] = w at ha ⊢
  obtain ⟨hw, -⟩ := ha
  have ec : clF w.2 = (w.2, w.2) := rfl
  rw [ec]
  dsimp only
  have h2 := hw.sum2
  have h1 := hw.sum1
  generalize ssF w.2 = v at h1 h2 ⊢
  have hb := h2.wr [b]
  have hcb := h2.wr [c, b]
  simp only [List.foldl_cons, List.foldl_nil] at hb hcb
  generalize wrF v.2 [b] = x at hb ⊢
  generalize wrF v.2 [c, b] = y at hcb ⊢
  rw [hb.1.sum1, hcb.1.sum1, hb.2, hcb.2]
  have t2 := h2.taken
  have s1 : (a ++ b).size = a.size + b.size := ByteArray.size_append
  have s2 : (a ++ c ++ b).size = a.size + c.size + b.size := by rw [ByteArray.size_append, ByteArray.size_append]
  have s3 : (a ++ c).size = a.size + c.size := ByteArray.size_append
  refine ⟨Holds.new.st25, Holds.new.r135, by decide, by decide, by simp, by intro p hp; simp at hp; subst hp; omega, by have := hw.r135; omega, hw.st25, hw.r135, hw.st25, hw.r135, fun hx => absurd rfl hx, fun _ => ⟨h2.st25, h2.r135, by omega, by omega, by simp, by intro p hp; simp at hp; subst hp; omega, h2.st25, h2.r135, by omega, by omega, by simp, by intro p hp; simp at hp; rcases hp with rfl | rfl <;> omega, by omega, fun _ => ⟨by omega, by omega, fun _ => ⟨hb.1.st25, hb.1.r135, by omega, by omega, fun _ => ⟨hcb.1.st25, hcb.1.r135, by omega, by omega, by omega, by simpa using h⟩, fun hn => absurd rfl hn⟩, fun hn => absurd (by omega) hn⟩, fun hn => absurd (by omega) hn⟩⟩
theorem lawStream_ok (calls : List (List ByteArray)) (Q : Bool → Prop) (h : Q true) : lawStream_vc calls Q := by
  unfold lawStream_vc
  refine ⟨fun hc => by simp at hc, fun _ => ⟨fun _ => h, fun hn => ?_⟩⟩
  refine lfp_of (fun s : List Int × Int × List Int × ByteArray × ByteArray × List Int × ByteArray × Int => ∃ S : DigestSponge, ∃ i : Nat, ∃ d, s = (S.state, S.taken, S.seen, S.tail, S.sum, S.rest, d, (i : Int)) ∧ Holds S d ∧ i ≤ calls.length ∧ d.size ≤ i * 1200) (fun s => calls.length - s.2.2.2.2.2.2.2.toNat) ?_ ⟨newF, 0, ⟨#[]⟩, rfl, Holds.new, by omega, by decide⟩
  rintro _ ⟨S, i, d, rfl, hS, hi, hd⟩ again hag
  unfold lawStream_L1
  dsimp only
  refine ⟨fun hlt => ⟨by omega, fun _ => h, fun hl6 => ?_⟩, fun hge => ?_⟩
  · have hg : gi calls (i : Int) = calls[i] := gi_nat (by omega)
    rw [hg] at hl6
    generalize calls[i] = l at hg hl6
    refine lfp_of (fun s : ByteArray × Int => ∃ j : Nat, s = ((l.take j).foldl (· ++ ·) d, (j : Int)) ∧ j ≤ l.length ∧ ((l.take j).foldl (· ++ ·) d).size ≤ d.size + j * 200 ∧ ∀ p ∈ l.take j, p.size ≤ 200) (fun s => l.length - s.2.toNat) ?_ ⟨0, rfl, by omega, by simp, by simp⟩
    rintro _ ⟨j, rfl, hj, hz, hp⟩ again2 hag2
    unfold lawStream_L2
    rw [hg]
    dsimp only
    refine ⟨fun hjl => ⟨by omega, fun _ => h, fun h200 => ?_⟩, fun hjl => ?_⟩
    · have hgj : gi l (j : Int) = l[j] := gi_nat (by omega)
      rw [hgj] at h200 ⊢
      refine ⟨by omega, by omega, hag2 _ ⟨j + 1, ?_, by omega, ?_, ?_⟩ (by dsimp only; omega)⟩
      · rw [List.take_succ_eq_append_getElem (by omega), List.foldl_append]; rfl
      · rw [List.take_succ_eq_append_getElem (by omega), List.foldl_append]
        simp only [List.foldl_cons, List.foldl_nil, ByteArray.size_append]
        omega
      · rw [List.take_succ_eq_append_getElem (by omega)]
        intro p hp2
        rcases List.mem_append.1 hp2 with hp2 | hp2
        · exact hp p hp2
        · simp at hp2; subst hp2; omega
    · have hjl2 : j = l.length := by omega
      subst hjl2
      rw [List.take_length] at hz hp ⊢
      have hw := hS.wr l
      have tk := hS.taken
      generalize hw2 : wrF S l = w at hw ⊢
      generalize l.foldl (· ++ ·) d = d2 at hw hz ⊢
      obtain ⟨hw, hwt⟩ := hw
      have h2 := hw.sum2
      rw [hw.sum1, h2.sum1, hwt]
      refine ⟨hS.st25, hS.r135, by omega, by omega, by omega, fun p hpl => by have := hp p hpl; omega, fun hn => absurd rfl hn, fun _ => ⟨hw.st25, hw.r135, by omega, fun hn => absurd rfl hn, fun _ => ⟨h2.st25, h2.r135, by omega, fun hn => absurd rfl hn, fun _ => ⟨by omega, hag _ ⟨(ssF (ssF w.2).2).2, i + 1, d2, rfl, h2.sum2, by omega, by omega⟩ (by dsimp only; omega)⟩⟩⟩⟩
  · have e : (ssF (DigestSponge.mk S.state S.rest S.taken S.seen S.tail S.sum)).1 = sumF d := hS.sum1
    rw [e]
    exact ⟨hS.st25, hS.r135, by omega, by simpa using h⟩
theorem gshr_out {t u : List Int} {i : Nat} (hi : i < 32) (hu : u.length = 32) : True := trivial
theorem out_at (t : List Int) : ∀ n i : Nat, n ≤ 32 → i < n → gi (fori (outF t) (List.replicate 32 0) n) (i : Int) = IntKind.u8.wrap (gshr .u64 (gi t ((i : Int) / 8)) (8 * ((i : Int) % 8))) := by
  intro n
  induction n with
  | zero => intro i _ hi; omega
  | succ n ih =>
    intro i hn hi
    have hl : (fori (outF t) (List.replicate 32 0) n).length = 32 := by rw [fori_len (fun _ _ => by simp)]; simp
    rw [fori_succ]
    rw [outF]
    rw [gi_nat (by rw [si_length]; omega), si_getElem]
    by_cases h : i = n
    · subst h; rw [if_pos (by omega)]
    · rw [if_neg (by omega), ← gi_nat (by omega)]; exact ih i (by omega) (by omega)
theorem u8_in (x : Int) : 0 ≤ IntKind.u8.wrap x ∧ IntKind.u8.wrap x ≤ 255 := by
  simp only [IntKind.wrap, IntKind.bits, IntKind.signed]
  simp
  omega
theorem bytes_byte (t : List Int) : byteL (bytesF t) := by
  intro x hx
  obtain ⟨i, hi, rfl⟩ := List.getElem_of_mem hx
  have hl := bytesF_len t
  rw [← gi_nat hi]
  have := out_at t 32 i (by omega) (by omega)
  unfold bytesF
  rw [this]; exact u8_in _
theorem lawBlocks_ok (d : ByteArray) (Q : Bool → Prop) (h : Q true) : lawBlocks_vc d Q := by
  unfold lawBlocks_vc
  refine ⟨fun hc => by simp at hc, fun _ => ⟨fun _ => h, fun hn => ?_⟩⟩
  have hb : (sbytes d).length = d.size := sbytes_len d
  have hsum := sumF_pad d
  generalize sbytes d = b at hsum hb ⊢
  refine ⟨by simp; omega, ?_⟩
  refine lfp_seq (135 - b.length % 136) (fun k => b ++ (6 :: List.replicate k 0)) (fun k hk again hag => ?_) (fun again => ?_)
  · unfold lawBlocks_L1
    refine ⟨by omega, fun _ => ⟨by simp; omega, ?_⟩, fun hn => absurd hn (by simp; omega)⟩
    rw [List.append_assoc, List.cons_append, ← List.replicate_succ']
    exact hag
  · unfold lawBlocks_L1
    have hP : b ++ (6 :: List.replicate (135 - b.length % 136) 0) = padF b := rfl
    rw [hP]
    have hl := padF_len b
    refine ⟨by omega, fun hn => absurd (by rw [hl]; omega) hn, fun _ => ⟨by rw [hl]; omega, by rw [hl]; omega, ?_⟩⟩
    have hl2 := padR_len b
    refine lfp_for (136 * (b.length / 136 + 1)) (fun x => fori (xorF (((padR b).drop (136 * (x / 136))).take 136)) (eatF (x / 136) zero25 (padR b)) (x % 136)) (fun x hx again hag => ?_) (fun again => ?_)
    · unfold lawBlocks_L2
      have hpr : si (padF b) (((padF b).length : Int) - 1) (gor .u8 (gi (padF b) (((padF b).length : Int) - 1)) 128) = padR b := rfl
      simp only [hpr]
      have hc : (fori (xorF (((padR b).drop (136 * (x / 136))).take 136)) (eatF (x / 136) zero25 (padR b)) (x % 136)).length = 25 := by rw [fori_len (fun _ _ => by simp), eatF_len]; simp
      have hs := fori_succ (xorF (((padR b).drop (136 * (x / 136))).take 136)) (eatF (x / 136) zero25 (padR b)) (x % 136)
      have hx2 : (x : Int) % 136 = ((x % 136 : Nat) : Int) := by omega
      have ht : 136 * ((x / 136 : Nat) : Int) + ((x % 136 : Nat) : Int) = x := by omega
      have hag2 : ∀ u, u.length = 25 → xorF (((padR b).drop (136 * (x / 136))).take 136) u (x % 136) = si u (((x : Int) % 136) / 8) (gxor .u64 (gi u (((x : Int) % 136) / 8)) (gshl .u64 (IntKind.u64.wrap (gi (padR b) x)) (8 * (((x : Int) % 136) % 8)))) := by
        intro u hu
        rw [xor_blk u (by omega) (by omega), ht, hx2]
      rw [hag2 _ hc] at hs
      refine ⟨fun _ => ⟨by omega, by omega, by omega, by omega, by omega, by omega, by omega, hc, fun h135 => ⟨by rw [si_length]; exact hc, by omega, ?_⟩, fun h135 => ⟨by omega, ?_⟩⟩, fun hn => absurd (by rw [hl2]; omega) hn⟩
      · rw [← hs]
        have e1 : (x + 1) / 136 = x / 136 + 1 := by omega
        have e2 : (x + 1) % 136 = 0 := by omega
        have e3 : x % 136 + 1 = 136 := by omega
        rw [e1, e2, fori_zero, eatF_succ] at hag
        rw [e3]
        exact hag
      · rw [← hs]
        have e1 : (x + 1) / 136 = x / 136 := by omega
        have e2 : (x + 1) % 136 = x % 136 + 1 := by omega
        rw [e1, e2] at hag
        exact hag
    · unfold lawBlocks_L2
      have hpr : si (padF b) (((padF b).length : Int) - 1) (gor .u8 (gi (padF b) (((padF b).length : Int) - 1)) 128) = padR b := rfl
      simp only [hpr]
      have e1 : (136 * (b.length / 136 + 1)) / 136 = b.length / 136 + 1 := by omega
      have e2 : (136 * (b.length / 136 + 1)) % 136 = 0 := by omega
      rw [e1, e2, fori_zero]
      generalize eatF (b.length / 136 + 1) zero25 (padR b) = t at hsum ⊢
      have hz : (sumF d).size = 32 := by rw [hsum, bstr_size, bytesF_len]
      have hg : ∀ i : Nat, i < 32 → sgi (sumF d) (i : Int) = IntKind.u8.wrap (gshr .u64 (gi t ((i : Int) / 8)) (8 * ((i : Int) % 8))) := by
        intro i hi
        rw [hsum, ← gi_sbytes, sbytes_bstr (bytes_byte t)]
        exact out_at t 32 i (by omega) hi
      refine ⟨fun hn => absurd hn (by rw [hl2]; omega), fun _ => ⟨by omega, fun hne => absurd (by omega) hne, fun _ => ?_⟩⟩
      refine lfp_for1 32 (fun i hi again hag => ?_) (fun again => ?_)
      · unfold lawBlocks_L3
        exact ⟨fun _ => ⟨by omega, by omega, by omega, by omega, by omega, by omega, fun hne => absurd (hg i hi) hne, fun _ => ⟨by omega, hag⟩⟩, fun hn => absurd (by omega) hn⟩
      · unfold lawBlocks_L3
        exact ⟨fun hn => absurd hn (by omega), fun _ => h⟩
end Go.Lic
