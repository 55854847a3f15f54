/-
  The conditions of Potential and Bound hold.
-/
import Derived.Test.YtkifpidbpoghlaaGreatDoorPv
import Derived.Test.YtkifpidbpoghlaaGreatDoorPo6
set_option linter.all false
namespace Go.Lic
theorem pot_ok (a b : List Lexeme) (c : Costs) (Q : List (List Int) × Int → Prop) (h : Q (potF a b c)) : pot_vc a b c Q := by
 unfold pot_vc
 exact ⟨fun hk => by simpa [potF, hk] using h, fun hk => ⟨hk, by simpa [potF, hk] using h⟩⟩
theorem bound_ok (a b : List Lexeme) (c : Costs) (p : List (List Int)) (Q : Int × Int → Prop) (hp : p.length ≤ 42) (hr : ∀ r ∈ p, r.length ≤ 42) (h : Q (boundF a b c p)) : bound_vc a b c p Q := by
 unfold bound_vc
 refine ⟨fun hk => by rwa [boundF_err hk] at h, fun hk => ?_⟩
 obtain ⟨hc, ha, hb⟩ := checkF_ok hk
 have g1 := hc.change; have g2 := hc.drop; have g3 := hc.add
 refine ⟨by omega, fun hl => ?_, fun hl => ?_⟩
 · rwa [boundF_bad hk (fun hb => hl hb.len)] at h
 · refine lfp_of (fun i : Int => 0 ≤ i ∧ i ≤ p.length ∧ ∀ k : Int, 0 ≤ k → k < i → ((gi p k).length : Int) = b.length + 1) (fun i => ((p.length : Int) - i).toNat) ?_ ⟨by omega, by omega, by omega⟩
   rintro i ⟨h0, h1, h2⟩ again hag
   unfold bound_L1
   refine ⟨fun hi => ⟨by omega, by omega, fun hl2 => ?_, fun hl2 => ⟨by omega, hag _ ⟨by omega, by omega, fun k k0 k1 => ?_⟩ (by omega)⟩⟩, fun hi => ?_⟩
   · rwa [boundF_bad hk (fun hb => hl2 (hb.rows i h0 hi))] at h
   · by_cases hki : k < i
     · exact h2 k k0 hki
     · rw [show k = i by omega]; exact hl2
   have hrows : ∀ k : Int, 0 ≤ k → k < p.length → ((gi p k).length : Int) = b.length + 1 := fun k k0 k1 => h2 k k0 (by omega)
   refine lfp_of (fun i : Int => 0 ≤ i ∧ i ≤ p.length ∧ ∀ k j : Int, 0 ≤ k → k < i → 0 ≤ j → j ≤ b.length → CellOk a b c p k j) (fun i => ((p.length : Int) - i).toNat) ?_ ⟨by omega, by omega, by omega⟩
   rintro i ⟨q0, q1, q2⟩ again hag
   unfold bound_L2
   refine ⟨fun hi => ⟨by omega, ?_⟩, fun hi => ?_⟩
   · have hli := hrows i q0 hi
     refine lfp_of (fun j : Int => 0 ≤ j ∧ j ≤ (gi p i).length ∧ ∀ k : Int, 0 ≤ k → k < j → CellOk a b c p i k) (fun j => (((gi p i).length : Int) - j).toNat) ?_ ⟨by omega, by omega, by omega⟩
     rintro j ⟨r0, r1, r2⟩ again2 hag2
     unfold bound_L3
     refine ⟨fun hj => ⟨by omega, ?_⟩, fun hj => ⟨by omega, hag _ ⟨by omega, by omega, fun k m k0 k1 m0 m1 => ?_⟩ (by omega)⟩⟩
     · have hup : 0 < i → ((gi p (i - 1)).length : Int) = b.length + 1 := fun h => hrows (i - 1) (by omega) (by omega)
       -- what is known of the cells before
       have huc : 0 < i → CellOk a b c p (i - 1) j := fun h => q2 _ _ (by omega) (by omega) (by omega) (by omega)
       have hlc : 0 < j → CellOk a b c p i (j - 1) := fun h => r2 _ (by omega) (by omega)
       have hdc : 0 < i → 0 < j → CellOk a b c p (i - 1) (j - 1) := fun h h' => q2 _ _ (by omega) (by omega) (by omega) (by omega)
       have hpb := pairF_bd (x := gi a (i - 1)) (y := gi b (j - 1)) g1
       refine ⟨fun _ => by omega, fun _ h4 => ?_, fun _ h4 => ?_, fun _ h4 => ?_, fun hbad => ?_, fun hgood => ⟨by omega, hag2 _ ⟨by omega, by omega, fun k k0 k1 => ?_⟩ (by omega)⟩⟩
       · have := hup (by omega); have := (huc (by omega)).lo; have := (huc (by omega)).hi
         exact ⟨by omega, by omega, by omega, by omega⟩
       · have := (hlc (by omega)).lo; have := (hlc (by omega)).hi
         exact ⟨by omega, by omega, by omega⟩
       · have := hup (by omega); have := (hdc (by omega) (by omega)).lo; have := (hdc (by omega) (by omega)).hi
         exact ⟨by omega, by omega, by omega, by omega, by omega, by omega, by omega⟩
       · have hn : ¬ BoundOk a b c p := by
           intro hB
           have hC := hB.cell i j q0 (by omega) r0 (by omega)
           have c1 := hC.lo; have c2 := hC.hi; have c3 := hC.zero; have c4 := hC.up; have c5 := hC.left; have c6 := hC.diag
           omega
         rwa [boundF_bad hk hn] at h
       · by_cases hkj : k < j
         · exact r2 k k0 hkj
         · rw [show k = j by omega]
           exact ⟨by omega, by omega, by omega, by omega, by omega, by omega⟩
     · by_cases hki : k < i
       · exact q2 k m k0 hki m0 m1
       · rw [show k = i by omega]; exact r2 m m0 (by omega)
   · have hB : BoundOk a b c p := ⟨by omega, hrows, fun k j k0 k1 j0 j1 => q2 k j k0 (by omega) j0 j1⟩
     have := hrows a.length (by omega) (by omega)
     exact ⟨by omega, by omega, by rwa [boundF_ok hk hB] at h⟩
end Go.Lic
set_option linter.all false
namespace Go.Lic
open Go.Proofs Go.Sort
theorem fewWT {l : List Lexeme} (h : fewW l = true) : okW l := by
 unfold fewW at h
 rw [Bool.and_eq_true, decide_eq_true_eq, List.all_eq_true] at h
 exact ⟨by omega, fun w hw => by have := of_decide_eq_true (h.2 w hw); omega⟩
theorem fewTsT {l : List Text} (h : fewTs l = true) : okTs l := by
 unfold fewTs at h
 rw [Bool.and_eq_true, decide_eq_true_eq, List.all_eq_true] at h
 refine ⟨by omega, fun t ht => ?_⟩
 have := h.2 t ht
 rw [Bool.and_eq_true, decide_eq_true_eq] at this
 exact ⟨by omega, fewWT this.1⟩
def exA : Text := ⟨⟨#[97]⟩, [⟨⟨#[120]⟩, 0⟩, ⟨⟨#[61]⟩, 0⟩, ⟨⟨#[121]⟩, 0⟩, ⟨⟨#[43]⟩, 0⟩, ⟨⟨#[49]⟩, 0⟩]⟩
def exB : Text := ⟨⟨#[98]⟩, [⟨⟨#[122]⟩, 0⟩, ⟨⟨#[61]⟩, 0⟩, ⟨⟨#[121]⟩, 0⟩, ⟨⟨#[43]⟩, 0⟩, ⟨⟨#[50]⟩, 0⟩]⟩
theorem exA_norm : normF ⟨#[97]⟩ ⟨#[120, 32, 61, 32, 121, 32, 43, 32, 49]⟩ false false = (exA, 0) := by decide +kernel
theorem exB_norm : normF ⟨#[98]⟩ ⟨#[122, 32, 61, 32, 121, 32, 43, 32, 50]⟩ false false = (exB, 0) := by decide +kernel
theorem ex_find : findC [exA, exB] 2 2 = ([(Clone.mk 0 1 1 1 3)], 0) := by decide +kernel
theorem ex_ok : okTs [exA, exB] := fewTsT (by decide +kernel)
theorem cawake_ok (Q : Bool → Prop)  (h : Q (true)) : cawake_vc  Q := by
 unfold cawake_vc
 rw [exA_norm, exB_norm]
 simp only
 rw [ex_find]
 exact ⟨by decide, by decide, by decide, by decide, ex_ok, fun _ => by decide, h⟩
abbrev c211 : Costs := ⟨2, 1, 1⟩
theorem edit_lcs : ∀ (a b : List Lexeme), edit c211 a b = (a.length : Int) + b.length - 2 * ((lcs (a.map (·.text)) (b.map (·.text)) : Nat) : Int)
 | [], b => by rw [edit_nil, List.map_nil, lcs_nil]; simp
 | x :: a, [] => by rw [edit_nil2, List.map_nil, lcs_nil2]; simp
 | x :: a, y :: b => by
   have h1 := edit_lcs a b; have h2 := edit_lcs a (y :: b); have h3 := edit_lcs (x :: a) b
   have e := lcs_cons x.text y.text (a.map (·.text)) (b.map (·.text))
   simp only [List.map_cons] at h2 h3
   have l1 := lcs_left x.text (a.map (·.text)) (b.map (·.text))
   have l2 := lcs_right y.text (a.map (·.text)) (b.map (·.text))
   rw [edit_cons, List.map_cons, List.map_cons]
   simp only [List.length_cons] at *
   by_cases hxy : x.text = y.text
   · rw [if_pos hxy] at e
     rw [pair_eq hxy]
     rcases min3_cases (edit c211 a b + 0) (edit c211 a (y :: b) + 1) (edit c211 (x :: a) b + 1) with h | h | h <;> (simp only [c211] at *; omega)
   · rw [if_neg hxy] at e
     rw [pair_ne hxy]
     rcases min3_cases (edit c211 a b + 2) (edit c211 a (y :: b) + 1) (edit c211 (x :: a) b + 1) with h | h | h <;> (simp only [c211] at *; omega)
termination_by a b => a.length + b.length
theorem lexL_len (s : ByteArray) : (lexL s).length = (zaf s).1.length := by simp [lexL]
theorem lexL_text (s : ByteArray) : (lexL s).map (·.text) = (zaf s).1 := by
 refine list_ext_gi (by simp [lexL]) (fun j h0 h1 => ?_)
 rw [List.length_map, lexL_len] at h1
 have hj : inL j (zaf s).1.length := ⟨h0, h1⟩
 have e : (lexL s).map (·.text) = (List.range (zaf s).1.length).map fun (i : Nat) => gi (zaf s).1 (i : Int) := by unfold lexL; rw [List.map_map]; rfl
 rw [e, alGiRange hj, show ((j.toNat : Nat) : Int) = j by omega]
theorem linesT_few {s : ByteArray} (h1 : ¬ (s.size : Int) > 1000) (h2 : ¬ countF s (⟨#[10]⟩ : ByteArray) > 39) : zaf s = (splitF s nlS, 0) ∧ (zaf s).1.length ≤ 40 ∧ 1 ≤ (zaf s).1.length ∧ sizeS (zaf s).1 + (zaf s).1.length = s.size + 1 := by
 have e : zaf s = (splitF s nlS, 0) := by
   unfold zaf bigT
   rw [if_neg (by simp only [Bool.or_eq_true, decide_eq_true_eq, not_or]; exact ⟨by omega, by intro h; have : countF s nlS = countF s (⟨#[10]⟩ : ByteArray) := rfl; omega⟩)]
 have el : (splitF s nlS).length = s.data.toList.count 10 + 1 := by unfold splitF; rw [List.length_map, split_len]; rfl
 have ec : countF s (⟨#[10]⟩ : ByteArray) = ((s.data.toList.count 10 : Nat) : Int) := rfl
 have hs : sizeS (splitF s nlS) + (splitF s nlS).length = s.size + 1 := by
   have h := split_sum 10 s.data.toList
   have e2 : splitF s nlS = (splitL 10 s.data.toList).map ba := rfl
   have key : ∀ l : List (List UInt8), sizeS (l.map ba) = (((l.map (·.length)).sum : Nat) : Int) := by
     intro l
     induction l with
     | nil => rfl
     | cons p l ih => simp only [List.map_cons, sizeS, List.sum_cons, ih, ba_size]; omega
   have hz : s.data.toList.length = s.size := rfl
   rw [e2, key, List.length_map]
   omega
 rw [e]
 exact ⟨rfl, by simp only; omega, by simp only; omega, hs⟩
theorem hunkL_len : ∀ l : List Hunk, l.length ≤ (l.flatMap hunkL).length
 | [] => by simp
 | h :: l => by
   have ih := hunkL_len l
   rw [List.flatMap_cons, List.length_append, List.length_cons]
   have : 1 ≤ (hunkL h).length := by simp only [hunkL, List.length_cons]; omega
   omega
theorem patch_law {s t : ByteArray} (hs1 : ¬ (s.size : Int) > 1000) (hs2 : ¬ countF s (⟨#[10]⟩ : ByteArray) > 39) (ht1 : ¬ (t.size : Int) > 1000) (ht2 : ¬ countF t (⟨#[10]⟩ : ByteArray) > 39) :
   (makeP s t).2 = 0 ∧ okP4 (makeP s t).1 ∧ costP (makeP s t).1 = (((zaf s).1.length : Int) + (zaf t).1.length - 2 * ((lcs (zaf s).1 (zaf t).1 : Nat) : Int), 0) ∧ applyF (makeP s t).1 s = (t, 0) := by
 obtain ⟨es, s1, s2, s3⟩ := linesT_few hs1 hs2
 obtain ⟨et, t1, t2, t3⟩ := linesT_few ht1 ht2
 have es2 : (zaf s).2 = 0 := by rw [es]
 have et2 : (zaf t).2 = 0 := by rw [et]
 have tf : ∀ z ∈ (zaf t).1, nlB z = false := by rw [et]; exact split_nl t
 have tj : joinS (zaf t).1 nlS = t := by rw [et]; exact join_split_s t
 have tz : ∀ z ∈ (zaf t).1, z.size ≤ 65536 := (linesT_len t).2
 have em : makeP s t = patchB (buildL (zaf s).1 (zaf t).1 (lcs (zaf s).1 (zaf t).1) 0 0 ⟨[], 0, []⟩) (⟨#[]⟩ : ByteArray) := by
   unfold makeP; rw [if_pos es2, if_pos et2]
 have hB := build_hp (a := (zaf s).1) (b := (zaf t).1) (lcs (zaf s).1 (zaf t).1) 0 0 [] 0 .nil (.inl rfl) (by simp)
 have e00 : ((0 : Nat) : Int) = 0 := rfl
 rw [e00, Nat.zero_add] at hB
 unfold patchB at em
 generalize ea : (zaf s).1 = a at *
 generalize eb : (zaf t).1 = b at *
 generalize (zan (buildL a b (lcs a b) 0 0 ⟨[], 0, []⟩)).hunks = hs at hB em
 obtain ⟨_, _, _, _, hl⟩ := hB.le
 have hsz := hB.sizes
 have hk := hB.le.2.2.1; have hk2 := hB.le.2.2.2.1
 have hh := hB.hunks (by omega) (by omega) tf
 have htx := hB.text (by omega) (by omega)
 rw [List.take_length] at htx
 have hout := hB.out
 rw [List.take_length] at hout
 have hpos : 0 < hs.length := by
   rcases Nat.eq_zero_or_pos hs.length with e | e
   · have : hs = [] := List.eq_nil_of_length_eq_zero e
     subst this
     rw [List.foldl_nil] at hout
     have := congrArg (fun p : List ByteArray × Int => p.2) hout
     simp only at this
     omega
   · exact e
 have okh : ∀ h ∈ hs, OkH h := by
   intro h hm
   obtain ⟨_, _, n0, n1, n2, n3⟩ := hunk_n (mem_hunk hh hm)
   refine ⟨by omega, by omega, ?_, ?_⟩
   · by_cases e : h.kind = 3
     · have := (n2 e).1
       have hle : h.n ≤ (b.length : Int) := by
         have : ∀ {l : List Hunk} {i j k : Nat}, HP a b l i j k → ∀ h ∈ l, h.n ≤ (a.length : Int) + b.length ∧ (h.kind = 3 → h.n ≤ (b.length : Int)) := by
           intro l i j k hp
           induction hp with
           | nil => intro h hm; cases hm
           | drop hp g1 g2 g3 ih => intro h hm; rcases List.mem_append.1 hm with hm | hm; exact ih h hm; rw [List.mem_singleton.1 hm]; exact ⟨by simp only; omega, fun e => by simp at e⟩
           | add hp g1 g2 g3 ih => intro h hm; rcases List.mem_append.1 hm with hm | hm; exact ih h hm; rw [List.mem_singleton.1 hm]; exact ⟨by simp only; omega, fun _ => by simp only; omega⟩
           | keep hp g1 g2 g3 g4 g5 ih => intro h hm; rcases List.mem_append.1 hm with hm | hm; exact ih h hm; rw [List.mem_singleton.1 hm]; exact ⟨by simp only; omega, fun e => by simp at e⟩
         exact (this hB h hm).2 e
       omega
     · have := n3 e; omega
   · intro z hz
     have : ∀ {l : List Hunk} {i j k : Nat}, HP a b l i j k → ∀ h ∈ l, ∀ z ∈ h.lines, z ∈ b := by
       intro l i j k hp
       induction hp with
       | nil => intro h hm; cases hm
       | drop hp g1 g2 g3 ih => intro h hm; rcases List.mem_append.1 hm with hm | hm; exact ih h hm; rw [List.mem_singleton.1 hm]; intro z hz; cases hz
       | add hp g1 g2 g3 ih => intro h hm; rcases List.mem_append.1 hm with hm | hm; exact ih h hm; rw [List.mem_singleton.1 hm]; intro z hz; exact List.mem_of_mem_drop (List.mem_of_mem_take hz)
       | keep hp g1 g2 g3 g4 g5 ih => intro h hm; rcases List.mem_append.1 hm with hm | hm; exact ih h hm; rw [List.mem_singleton.1 hm]; intro z hz; cases hz
     have := tz z (this hB h hm z hz); omega
 have okp : okP4 ⟨⟨#[]⟩, hs⟩ := ⟨rfl, by simp only; omega, okh⟩
 have hc : checkP ⟨⟨#[]⟩, hs⟩ = (joinS (linesP ⟨⟨#[]⟩, hs⟩) nlS, true) := by
   have h1 : baseB ⟨⟨#[]⟩, hs⟩ = true := by unfold baseB; simp; omega
   have h2 : sizesB (sizesP ⟨⟨#[]⟩, hs⟩) = true := by
     unfold sizesP sizesB
     simp only
     rw [hsz]
     simp only [Bool.and_eq_true, decide_eq_true_eq]
     omega
   have h3 : joinT (linesP ⟨⟨#[]⟩, hs⟩) = (joinS (linesP ⟨⟨#[]⟩, hs⟩) nlS, 0) := by
     rw [linesP_eq okp]
     simp only
     have hlen := hunkL_len hs
     unfold joinT
     rw [if_neg, if_neg]
     · omega
     · rintro (k | k)
       · omega
       · obtain ⟨z, hz, hz2⟩ := List.any_eq_true.1 k
         obtain ⟨h, hm, hz⟩ := List.mem_flatMap.1 hz
         have hb := mem_hunk hh hm
         rcases List.mem_cons.1 hz with e | hz
         · rw [e, head_nl hb] at hz2; cases hz2
         · obtain ⟨_, _, _, _, n2, n3⟩ := hunk_n hb
           by_cases e : h.kind = 3
           · have := List.any_eq_false.1 (n2 e).2 z hz
             exact this hz2
           · have := n3 e
             rw [List.eq_nil_of_length_eq_zero this] at hz; cases hz
   unfold checkP
   rw [h1, hh, h2, h3]; rfl
 have em2 : makeP s t = (⟨⟨#[]⟩, hs⟩, 0) := by rw [em, hc]; rfl
 rw [em2]
 refine ⟨rfl, okp, ?_, ?_⟩
 · unfold costP sizesP
   simp only
   rw [hc, hsz]
   simp only [if_true]
   congr 1
   omega
 · have hj : joinT b = (joinS b nlS, 0) := by
     unfold joinT
     rw [if_neg, if_neg]
     · omega
     · rintro (k | k)
       · omega
       · obtain ⟨z, hz, hz2⟩ := List.any_eq_true.1 k
         rw [tf z hz] at hz2; cases hz2
   have ho : outP a hs = b := by unfold outP; rw [hout]
   unfold applyF applyP
   simp only
   rw [hc, ea, es2]
   simp only [if_true]
   rw [if_pos ⟨by unfold sizesP; simp only; rw [hsz]; simp only; omega, .inl trivial⟩, ho, hj]
   simp only [if_true]
   rw [tj]
theorem keptStep_len {st st' : Nat × Nat × List (Int × Int)} {s : Int} (h : keptStep st s = some st') : st'.2.2.length ≤ st.2.2.length + 1 := by
 unfold keptStep at h
 split at h
 · cases h; simp
 · split at h
   · cases h; simp
   · split at h
     · cases h; simp
     · split at h
       · cases h; simp
       · cases h
theorem keptR_len : ∀ (l : List Int) (st st' : Nat × Nat × List (Int × Int)), l.foldlM keptStep st = some st' → st'.2.2.length ≤ st.2.2.length + l.length
 | [], st, st', h => by cases h; simp
 | s :: l, st, st', h => by
   rw [List.foldlM_cons] at h
   cases hs : keptStep st s with
   | none => rw [hs] at h; cases h
   | some st1 =>
     rw [hs] at h
     have h1 := keptStep_len hs
     have h2 := keptR_len l st1 st' h
     simp only [List.length_cons]; omega
theorem keptF_len (x : Alignment) : (keptF x).length ≤ x.steps.length := by
 unfold keptF
 cases h : keptR x.steps with
 | none => simp
 | some st => have := keptR_len _ _ _ h; simpa using this
theorem lawAlign_ok (s_ : ByteArray) (t : ByteArray) (Q : Bool → Prop) (h : Q (true)) : lawAlign_vc s_ t Q := by
 refine ⟨fun e => (by cases e), fun _ => ⟨fun _ => rfl, fun _ => rfl, fun _ => h, fun hg => ?_⟩⟩
 obtain ⟨⟨⟨h1, h2⟩, h3⟩, h4⟩ := hg
 obtain ⟨es, s1, s2, s3⟩ := linesT_few h1 h3
 obtain ⟨et, t1, t2, t3⟩ := linesT_few h2 h4
 obtain ⟨m1, m2, m3, m4⟩ := patch_law h1 h3 h2 h4
 have la := lexL_len s_; have lb := lexL_len t
 have hck : alCheck (lexL s_) (lexL t) c211 = 0 := by
   unfold alCheck costB
   simp only [c211]
   rw [if_pos (by decide), if_neg (by omega)]
 have hc := (checkF_ok hck).1
 have hcost : edit c211 (lexL s_) (lexL t) = ((zaf s_).1.length : Int) + (zaf t).1.length - 2 * ((lcs (zaf s_).1 (zaf t).1 : Nat) : Int) := by
   rw [edit_lcs, lexL_text, lexL_text, la, lb]
 have e1 := alignR_ok hck
 have e2 : potF (lexL s_) (lexL t) c211 = (frontF (lexL s_) (lexL t) c211, 0) := by unfold potF; rw [if_pos hck]
 have e3 : boundF (lexL s_) (lexL t) c211 (frontF (lexL s_) (lexL t) c211) = (edit c211 (lexL s_) (lexL t), 0) := by
   rw [boundF_ok hck (front_ok hck), front_cell (by omega) (by omega), Int.toNat_natCast, Int.toNat_natCast, fkv_all hc]
 obtain ⟨_, _, k3, _⟩ := alignR_kept hck
 have kn := keptF_len (alignR (lexL s_) (lexL t) c211).1
 have sl := alignR_len (lexL s_) (lexL t) c211
 rw [e1] at k3 kn sl
 simp only at k3 kn sl
 have ll := lcs_le (zaf s_).1 (zaf t).1
 refine ⟨by omega, by omega, s1, t1, m2, by omega, by omega, ?_⟩
 have fl : (frontF (lexL s_) (lexL t) c211).length = (lexL s_).length + 1 := by simp [frontF]
 refine ⟨by rw [e2]; simp only; omega, fun r hr => ?_, m2, by omega, ?_, ?_⟩
 · rw [e2] at hr
   simp only [frontF] at hr
   obtain ⟨i, _, rfl⟩ := List.mem_map.1 hr
   rw [List.length_map, List.length_range]; omega
 · intro _
   rw [m3, e1]
   simp only
   refine ⟨by omega, by omega, by omega, by omega⟩
 · rw [m1, m3, m4, e2, e3, e1]
   simp only
   have q1 : (((lexL s_).length : Int) + ((lexL t).length : Int) - (((zaf s_).1.length : Int) + (zaf t).1.length - 2 * ((lcs (zaf s_).1 (zaf t).1 : Nat) : Int)) == 2 * ((keptF ⟨edit c211 (lexL s_) (lexL t), alignS c211 (lexL s_) (lexL t)⟩).length : Int)) = true := by
     rw [beq_iff_eq]
     rw [hcost] at k3 ⊢
     simp only [c211] at k3 ⊢
     omega
   rw [hcost] at q1 ⊢
   rw [q1]
   simpa using h
end Go.Lic
