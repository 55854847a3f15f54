/-
  Statements of chapter 30: texts made of runs of known ones; a known text. No program in sight.
-/
import Derived.Test.YtaofnefejkokdaaGreatDoorTw1
set_option linter.all false
namespace Go.Lic
open Go.Proofs Go.Sort Go.Shelf

theorem wrap8 {n : Int} (h : inL n 256) : IntKind.i64.wrap n = n := wrap_small (by omega)
/-! words -/
theorem words_mem : ∀ {l : List Lexeme} {least : Int}, wordsF least l = true → ∀ w ∈ l, ∃ m, wordF m w = true
  | [], _, _, w, hw => by cases hw
  | x :: l, least, h, w, hw => by
    rw [wordsF, Bool.and_eq_true] at h
    rcases List.mem_cons.1 hw with rfl | hw
    · exact ⟨_, h.1⟩
    · exact words_mem h.2 w hw
theorem word_new {m n : Int} {w : Lexeme} (h : wordF m w = true) (h1 : n < 1024) {k : Int} (hk : k ≤ n) : wordF k ⟨w.text, n⟩ = true := by
  unfold wordF at h ⊢
  simp only [Bool.and_eq_true, decide_eq_true_eq] at h ⊢
  exact ⟨⟨h.1.1, hk⟩, h1⟩
theorem words_snoc : ∀ {l : List Lexeme} {least n : Int} {w : Lexeme}, wordsF least l = true → (∀ x ∈ l, x.line ≤ n) → least ≤ n → (∀ k : Int, k ≤ n → wordF k ⟨w.text, n⟩ = true) → wordsF least (l ++ [⟨w.text, n⟩]) = true
  | [], least, n, w, _, _, h1, h2 => by
    show wordsF least [_] = true
    rw [wordsF, Bool.and_eq_true]
    exact ⟨h2 _ h1, rfl⟩
  | x :: l, least, n, w, h, hl, h1, h2 => by
    rw [wordsF, Bool.and_eq_true] at h
    rw [List.cons_append, wordsF, Bool.and_eq_true]
    exact ⟨h.1, words_snoc h.2 (fun y hy => hl y (by simp [hy])) (hl x (by simp)) h2⟩
theorem words_app {least n : Int} (h1 : least ≤ n) (hn : n < 1024) : ∀ (ys : List Lexeme) {l : List Lexeme}, wordsF least l = true → (∀ x ∈ l, x.line ≤ n) → (∀ w ∈ ys, ∃ m, wordF m w = true) → wordsF least (l ++ ys.map fun w => ⟨w.text, n⟩) = true
  | [], l, h, _, _ => by simpa using h
  | y :: ys, l, h, hl, hy => by
    obtain ⟨m, hm⟩ := hy y (by simp)
    have := words_app h1 hn ys (l := l ++ [⟨y.text, n⟩]) (words_snoc h hl h1 (fun k hk => word_new hm hn hk)) (fun x hx => by
      rcases List.mem_append.1 hx with hx | hx
      · exact hl x hx
      · rw [List.mem_singleton.1 hx]; exact Int.le_refl _) (fun w hw => hy w (by simp [hw]))
    rw [List.append_assoc] at this
    exact this
theorem few_mem {c : Corpus} (h : fewC c = true) {i : Int} (hi : inL i c.texts.length) : (gi c.texts i).words.length ≤ 40 ∧ ∀ w ∈ (gi c.texts i).words, w.text.size ≤ 40 := by
  unfold fewC fewTs fewW at h
  simp only [Bool.and_eq_true, decide_eq_true_eq, List.all_eq_true] at h
  exact (h.1.2 _ (gi_mem hi)).1

/-! a known text -/
theorem lawKnown_ok (c : Corpus) (which : Int) (Q : Bool → Prop) (hp0 : inL which 256) (h : Q (true)) : lawKnown_vc c which Q := by
  unfold lawKnown_vc
  rw [wrap8 hp0]
  refine ⟨nofun, fun _ => ⟨fun hf => fewC_ok hf, fun _ => h, fun hg => ?_⟩⟩
  obtain ⟨⟨hf, hc⟩, hn⟩ := hg
  have hC := fewC_ok hf
  have hk : inL (which % (c.texts.length : Int)) c.texts.length := ⟨Int.emod_nonneg _ (by omega), Int.emod_lt_of_pos _ (by omega)⟩
  generalize which % (c.texts.length : Int) = k at hk ⊢
  have hT : okT (gi c.texts k) := hC.1.2 _ (gi_mem hk)
  refine ⟨⟨hp0.1, by omega⟩, hk, fun _ => h, fun hw => ?_⟩
  obtain ⟨i, a, hi, hil, hp⟩ := known_one hk (by omega)
  have hval : validT (gi c.texts k) = true := ((checkF_iff c).1 hc).val _ (gi_mem hk)
  have hr : rightA c (gi c.texts k) 1 = 0 := by
    unfold rightA rightCT
    rw [hc, hval]; rfl
  have he : attrF c (gi c.texts k) 1 = (⟨(gi c.texts k).path, [⟨0, ((gi c.texts k).words.length : Int), (i : Int), (a : Int)⟩]⟩, 0) := by
    unfold attrF; rw [if_pos hr, show (1 : Int).toNat = 1 from rfl, hp]
  have hA : okA (attrF c (gi c.texts k) 1).1 := okA_attr hT
  have hck : checkA c (gi c.texts k) 1 ⟨(gi c.texts k).path, [⟨0, ((gi c.texts k).words.length : Int), (i : Int), (a : Int)⟩]⟩ = 0 := by
    have := check_found (c := c) (t := gi c.texts k) hr (by omega)
    rwa [show (1 : Int).toNat = 1 from rfl, hp] at this
  rw [he] at hA ⊢
  generalize ht : gi c.texts k = t at *
  have hi2 : inL (i : Int) c.texts.length := by omega
  have g0 : gi [(⟨0, (t.words.length : Int), (i : Int), (a : Int)⟩ : Piece)] 0 = ⟨0, (t.words.length : Int), (i : Int), (a : Int)⟩ := rfl
  have hu : unknownF t ⟨t.path, [⟨0, (t.words.length : Int), (i : Int), (a : Int)⟩]⟩ = ([], 0) := by
    have hrg : rangedF t ⟨0, (t.words.length : Int), (i : Int), (a : Int)⟩ = true := (rangedF_iff _ _).2 ⟨by simp, by simp only; omega, by simp⟩
    have hrl : restL t 0 [⟨0, (t.words.length : Int), (i : Int), (a : Int)⟩] = some [] := by
      unfold restL
      rw [hrg]
      simp [restL, linesW, lsub]
    unfold unknownF
    rw [if_pos hval, if_pos rfl, hrl]
    show ofF [] = ([], 0)
    decide +kernel
  have hm : mainF c t ⟨t.path, [⟨0, (t.words.length : Int), (i : Int), (a : Int)⟩]⟩ 100 = ((gi c.texts (i : Int)).path, true) := by
    have hrc : rightCT c t = true := by unfold rightCT; rw [hc, hval]; rfl
    have hs : shareF c t ⟨t.path, [⟨0, (t.words.length : Int), (i : Int), (a : Int)⟩]⟩ = (si (List.replicate c.texts.length 0) (i : Int) (t.words.length : Int), 0) := by
      unfold shareF
      rw [if_pos hrc, if_pos hck]
      show (si _ _ (gi (List.replicate c.texts.length (0 : Int)) (i : Int) + ((t.words.length : Int) - 0)), (0 : Int)) = _
      rw [gi_rep]; simp
    have hsl : (si (List.replicate c.texts.length (0 : Int)) (i : Int) (t.words.length : Int)).length = c.texts.length := by simp [si]
    have hgi : ∀ j : Int, 0 ≤ j → gi (si (List.replicate c.texts.length (0 : Int)) (i : Int) (t.words.length : Int)) j = if j = (i : Int) then (t.words.length : Int) else 0 := fun j hj => by
      rw [gi_siA (by rw [List.length_replicate]; exact hi2) _ hj, gi_rep]
    have hmx : maxF (si (List.replicate c.texts.length (0 : Int)) (i : Int) (t.words.length : Int)) = (t.words.length : Int) := by
      rw [maxF_at (b := (i : Int)) (by rw [hsl]; exact hi2) (fun j hj => ?_), hgi _ hi2.1, if_pos rfl]
      rw [hgi j hj.1, hgi _ hi2.1, if_pos rfl]
      split <;> omega
    have hfi := (find_first (l := si (List.replicate c.texts.length (0 : Int)) (i : Int) (t.words.length : Int)) (p := fun x => decide (x = (t.words.length : Int))) (b := (i : Int)) (by rw [hsl]; exact hi2) (by rw [hgi _ hi2.1, if_pos rfl]; simp) (fun j h0 hj => by rw [hgi j h0, if_neg (by omega)]; simp; omega)).1
    unfold mainF
    rw [hs, if_pos ⟨rfl, by rw [hsl]; omega, by omega, by omega⟩, hmx, if_neg (by omega), hfi]
  rw [hu, hm]
  refine ⟨hC, hT, fun _ => ⟨by omega, by simp⟩, fun _ => ⟨by omega, by simp⟩, fun _ => ⟨by omega, by simp⟩, fun _ => ⟨by omega, by simp⟩, fun hb => ?_, fun _ => ⟨hT, hA, hC, hT, hA, fun _ => ⟨⟨by omega, by simp⟩, hi2⟩, Q_true (by simp [g0]) h⟩⟩
  exfalso; simp [g0] at hb; omega

/-! a text made of runs -/
theorem lawAssembled_ok (c : Corpus) (runs : (List Piece)) (least : Int) (Q : Bool → Prop) (hp0 : inL least 256) (h : Q (true)) : lawAssembled_vc c runs least Q := by
  unfold lawAssembled_vc
  have hw8 := wrap8 hp0
  refine ⟨nofun, fun _ => ⟨⟨by omega, by omega⟩, by rw [hw8]; omega, fun hf => fewC_ok hf.1, fun _ => h, fun hg => ?_⟩⟩
  obtain ⟨⟨⟨hf, hr8⟩, hc⟩, hn⟩ := hg
  have hC := fewC_ok hf
  have hG := (checkF_iff c).1 hc
  have hL0 : 1 ≤ 1 + IntKind.i64.wrap least % 4 ∧ 1 + IntKind.i64.wrap least % 4 ≤ 8192 := by omega
  refine lfp3 (lawAssembled_L1 c runs least Q) (fun xs many x => 0 ≤ x ∧ x ≤ runs.length ∧ 0 ≤ many ∧ many ≤ x ∧ (xs.length : Int) ≤ 40 * x ∧ (∀ w ∈ xs, w.text.size ≤ 40 ∧ w.line ≤ many) ∧ wordsF 0 xs = true ∧ ∃ ps, Made c (1 + IntKind.i64.wrap least % 4) xs many ps) (fun _ _ x => (runs.length - x).toNat) (fun xs many x hst again hag => ?_)
    ⟨by omega, by omega, by omega, by omega, by simp, (fun w hw => by cases hw), rfl, [], ⟨rfl, rfl, rfl⟩⟩
  obtain ⟨x0, x1, m0, m1, xl, xw, xv, ps, hM⟩ := hst
  unfold lawAssembled_L1
  generalize hL : 1 + IntKind.i64.wrap least % 4 = L at hL0 hM hag ⊢
  refine ⟨fun hlt => ?_, fun hnl => ?_⟩
  · have hb1 : 0 ≤ gmax (gi runs x).text [0] := by rw [gmax1]; omega
    have hb2 : 0 ≤ gmax (gi runs x).from_ [0] := by rw [gmax1]; omega
    have hb3 : 0 ≤ gmax (gi runs x).to [0] := by rw [gmax1]; omega
    have hk : inL (gmax (gi runs x).text [0] % (c.texts.length : Int)) c.texts.length := ⟨Int.emod_nonneg _ (by omega), Int.emod_lt_of_pos _ (by omega)⟩
    generalize e1 : gmax (gi runs x).text [0] = g1 at hb1 hk ⊢
    generalize e2 : gmax (gi runs x).from_ [0] = g2 at hb2 ⊢
    generalize e3 : gmax (gi runs x).to [0] = g3 at hb3 ⊢
    generalize e4 : g1 % (c.texts.length : Int) = k at hk ⊢
    have hfw := few_mem hf hk
    have hval := hG.val _ (gi_mem hk)
    have hf0 : 0 ≤ g2 % (((gi c.texts k).words.length : Int) + 1) ∧ g2 % (((gi c.texts k).words.length : Int) + 1) ≤ (gi c.texts k).words.length := ⟨Int.emod_nonneg _ (by omega), by have := Int.emod_lt_of_pos g2 (show (0 : Int) < ((gi c.texts k).words.length : Int) + 1 by omega); omega⟩
    generalize e5 : g2 % (((gi c.texts k).words.length : Int) + 1) = f at hf0 ⊢
    have hm0 : f ≤ f + g3 % ((((gi c.texts k).words.length : Int) - f) + 1) ∧ f + g3 % ((((gi c.texts k).words.length : Int) - f) + 1) ≤ (gi c.texts k).words.length := ⟨by have := Int.emod_nonneg g3 (show (((gi c.texts k).words.length : Int) - f) + 1 ≠ 0 by omega); omega, by have := Int.emod_lt_of_pos g3 (show (0 : Int) < (((gi c.texts k).words.length : Int) - f) + 1 by omega); omega⟩
    generalize e6 : f + g3 % ((((gi c.texts k).words.length : Int) - f) + 1) = e at hm0 ⊢
    have hsl : (lsub (gi c.texts k).words f e).length = (e - f).toNat := lsub_length ⟨hf0.1, hm0.1, hm0.2⟩
    refine ⟨by omega, ⟨hb1, by omega⟩, hk, by omega, ⟨hb2, by omega⟩, by omega, by omega, ⟨hb3, by omega⟩, by omega, by omega, fun _ => ⟨by omega, hag _ _ _ ⟨by omega, by omega, m0, by omega, by omega, xw, xv, ps, hM⟩ (by omega)⟩, fun hge => ⟨by omega, ⟨hf0.1, hm0.1, hm0.2⟩, ?_⟩⟩
    have hsub : ∀ w ∈ lsub (gi c.texts k).words f e, w ∈ (gi c.texts k).words := fun w hw => List.mem_of_mem_take (List.mem_of_mem_drop hw)
    refine lfp2 (lawAssembled_L2 c runs many x again) (fun xs1 x1 => 0 ≤ x1 ∧ x1 ≤ (lsub (gi c.texts k).words f e).length ∧ (xs1.length : Int) = xs.length + x1 ∧ xs1 = xs ++ ((lsub (gi c.texts k).words f e).take x1.toNat).map fun w => ⟨w.text, many + 1⟩) (fun _ x1 => ((lsub (gi c.texts k).words f e).length - x1).toNat) (fun xs1 x1 hst again10 hag10 => ?_) ⟨by omega, by omega, by omega, by simp⟩
    obtain ⟨y0, y1, y2, y3⟩ := hst
    unfold lawAssembled_L2
    simp only [e1, e2, e3, e4, e5, e6]
    refine ⟨fun hl => ?_, fun hnl => ?_⟩
    · have hx1 : inL x1 (lsub (gi c.texts k).words f e).length := by omega
      refine ⟨hx1, ⟨by simp only [List.length_singleton]; omega, by simp only [List.length_singleton]; omega⟩, by omega, hag10 _ _ ⟨by omega, by omega, by simp only [List.length_append, List.length_singleton]; omega, ?_⟩ (by omega)⟩
      rw [y3, show (x1 + 1).toNat = x1.toNat + 1 by omega, List.take_succ_eq_append_getElem (by omega), List.map_append, gi_lt hx1, List.append_assoc]; rfl
    · rw [List.take_of_length_le (by omega)] at y3
      refine ⟨by omega, ?_⟩
      rw [y3]
      refine hag _ _ _ ⟨by omega, by omega, by omega, by omega, by simp only [List.length_append, List.length_map]; omega, fun w hw => ?_, words_app (by omega) (by omega) _ xv (fun w hw => by have := xw w hw; omega) (fun w hw => words_mem (valid_parts hval).2.2 w (hsub w hw)), _, hM.step hk hf0.1 hm0.1 hm0.2 (by omega) hL0.1 (by simp)⟩ (by omega)
      rcases List.mem_append.1 hw with hw | hw
      · have := xw w hw; omega
      · obtain ⟨v, hv, rfl⟩ := List.mem_map.1 hw
        have := hfw.2 v (hsub v hv)
        exact ⟨this, by simp only; omega⟩
  · have hT : okT ⟨⟨#[116]⟩, xs⟩ := ⟨(by decide : (⟨#[116]⟩ : ByteArray).size ≤ 1000000), by show xs.length ≤ 1000000; omega, fun w hw => by have := xw w hw; omega⟩
    have hv : validT ⟨⟨#[116]⟩, xs⟩ = true := by
      unfold validT
      rw [Bool.and_eq_true, Bool.and_eq_true, decide_eq_true_eq]
      exact ⟨⟨by show xs.length ≤ 8192; omega, (by decide +kernel : pathB (⟨#[116]⟩ : ByteArray) = true)⟩, xv⟩
    have hr : rightA c ⟨⟨#[116]⟩, xs⟩ L = 0 := by
      unfold rightA rightCT
      rw [hc, hv, if_pos (by rfl), if_pos hL0]
    have he : attrF c ⟨⟨#[116]⟩, xs⟩ L = (⟨⟨#[116]⟩, piecesF c ⟨⟨#[116]⟩, xs⟩ L.toNat⟩, 0) := by unfold attrF; rw [if_pos hr]
    obtain ⟨k1, k2⟩ := made_found hM hL0.1 ⟨#[116]⟩
    refine ⟨hC, hT, fun _ => okV_attr (by show xs.length ≤ 1000000; omega), Q_true ?_ h⟩
    rw [he]
    simp only [Bool.and_eq_true, decide_eq_true_eq, beq_iff_eq]
    exact ⟨⟨trivial, k1⟩, k2⟩
end Go.Lic
