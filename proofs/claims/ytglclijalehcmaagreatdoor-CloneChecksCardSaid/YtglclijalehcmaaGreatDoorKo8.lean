/-
  The conditions of functions that say which lines are in clones hold. No program in sight.
-/
import Derived.Test.YtglclijalehcmaaGreatDoorKl
import Derived.Test.YtglclijalehcmaaGreatDoorKo5
import Derived.Test.YtglclijalehcmaaGreatDoorKo6
set_option linter.all false
namespace Go.Lic
open Go.Proofs Go.Sort Go.Shelf
theorem lsub_snoc {α : Type} [Inhabited α] {l : List α} {lo i : Int} (h0 : 0 ≤ lo) (h1 : lo ≤ i) (h2 : i < l.length) : lsub l lo (i + 1) = lsub l lo i ++ [gi l i] := by
 unfold lsub
 rw [show (i + 1).toNat = i.toNat + 1 by omega, List.take_add_one, List.drop_append, List.length_take]
 rw [show lo.toNat - min i.toNat l.length = 0 by omega, List.drop_zero]
 congr 1
 rw [gi_lt (by omega), List.getElem?_eq_getElem (by omega)]; rfl
theorem lsub_same {α : Type} (l : List α) {lo : Int} : lsub l lo lo = [] := by
 unfold lsub; rw [List.drop_eq_nil_iff, List.length_take]; omega
theorem linesW_app (t : Text) (a b : List Lexeme) : linesW t (a ++ b) = linesW t a ++ linesW t b := by simp [linesW]
theorem linesW_len (t : Text) (a : List Lexeme) : (linesW t a).length = a.length := by simp [linesW]
theorem take_gi {α : Type} [Inhabited α] {l : List α} {i : Int} (h : inL i l.length) : l.take (i + 1).toNat = l.take i.toNat ++ [gi l i] := by
 rw [show (i + 1).toNat = i.toNat + 1 by omega, List.take_add_one, gi_lt h, List.getElem?_eq_getElem (by omega)]; rfl
def Own (t : Text) (L : List Line) : Prop := ∀ x ∈ L, ∃ w ∈ t.words, x = ⟨t.path, w.line⟩
theorem own_lines {t : Text} {l : List Lexeme} (h : ∀ w ∈ l, w ∈ t.words) : Own t (linesW t l) := by
 intro x hx
 unfold linesW at hx
 obtain ⟨w, hw, rfl⟩ := List.mem_map.1 hx
 exact ⟨w, h w hw, rfl⟩
theorem own_sub (t : Text) (a b : Int) : Own t (linesW t (lsub t.words a b)) := own_lines fun w hw => (List.take_subset _ _) (List.mem_of_mem_drop hw)
theorem own_app {t : Text} {A B : List Line} (ha : Own t A) (hb : Own t B) : Own t (A ++ B) := by
 intro x hx
 rcases List.mem_append.1 hx with h | h
 · exact ha x h
 · exact hb x h
theorem own_right {t : Text} (hv : validT t = true) {L : List Line} (h : Own t L) : ∀ x ∈ L, rightF x = true := by
 obtain ⟨v1, v2, v3⟩ := valid_parts hv
 intro x hx
 obtain ⟨w, hw, rfl⟩ := h x hx
 have := wordsA_line v3 w hw
 unfold rightF
 simp only [Bool.and_eq_true, decide_eq_true_eq]
 exact ⟨v2, by omega, by omega⟩
theorem right_unit {x : Line} (h : rightF x = true) : spanR (unit x) = true := by
 unfold rightF at h
 unfold spanR unit insideF
 simp only [Bool.and_eq_true, decide_eq_true_eq] at *
 exact ⟨h.1, by omega, by omega⟩
def outF (L : List Line) : List Span := mergeF (L.map unit)
theorem unit_ne' (L : List Line) : ∀ s ∈ L.map unit, NeS s := fun s hs => by
 obtain ⟨x, hx, rfl⟩ := List.mem_map.1 hs
 unfold NeS unit; simp only; omega
theorem outF_in (L : List Line) (p : ByteArray) (n : Int) : In (outF L) p n ↔ InL L p n := by
 unfold outF
 rw [merge_in (unit_ne' L), in_unit]
theorem outF_valid {t : Text} (hv : validT t = true) {L : List Line} (h : Own t L) : validF (outF L) = true := by
 refine merge_valid fun s hs => ?_
 obtain ⟨x, hx, rfl⟩ := List.mem_map.1 hs
 exact right_unit (own_right hv h x hx)
theorem nodup_sub : ∀ {a b : List Line}, a.Nodup → (∀ y ∈ a, y ∈ b) → a.length ≤ b.length
 | [], b, _, _ => by simp
 | x :: a, b, hn, h => by
   obtain ⟨h1, h2⟩ := List.nodup_cons.1 hn
   have hx : x ∈ b := h x (by simp)
   have := nodup_sub (a := a) (b := b.erase x) h2 (fun y hy => (List.mem_erase_of_ne (fun e => h1 (by rw [← e]; exact hy))).2 (h y (by simp [hy])))
   rw [List.length_erase_of_mem hx] at this
   have := List.length_pos_of_mem hx
   simp only [List.length_cons]; omega
theorem spans_le {a : List Span} (h : validF a = true) : a.length ≤ (listF a).length := by
 have hn := valid_ne h
 unfold listF
 rw [if_pos h]
 clear h
 induction a with
 | nil => simp
 | cons s a ih =>
   rw [List.flatMap_cons, List.length_append, List.length_cons]
   have := ih (fun t ht => hn t (List.mem_cons_of_mem _ ht))
   have h2 : s.from_ < s.to := hn s (by simp)
   have : (linesOf s).length = (s.to - s.from_).toNat := by simp [linesOf]
   omega
theorem outF_len {t : Text} (hv : validT t = true) {L : List Line} (h : Own t L) : (listF (outF L)).length ≤ t.words.length ∧ (outF L).length ≤ t.words.length := by
 have hf := outF_valid hv h
 have h1 := nodup_sub (list_nodup hf) (b := linesW t t.words) (fun y hy => by
   have := (list_mem hf y).1 hy
   rw [outF_in] at this
   obtain ⟨x, hx, e1, e2⟩ := this
   obtain ⟨w, hw, rfl⟩ := h x hx
   unfold linesW
   refine List.mem_map.2 ⟨w, hw, ?_⟩
   cases y; simp at e1 e2; subst e1; subst e2; rfl)
 rw [linesW_len] at h1
 exact ⟨h1, Nat.le_trans (spans_le hf) h1⟩
theorem outF_app {t : Text} (hv : validT t = true) {A B : List Line} (ha : Own t A) (hb : Own t B) : mergeF (outF A ++ outF B) = outF (A ++ B) := by
 refine valid_ext (union_valid (outF_valid hv ha) (outF_valid hv hb)) (outF_valid hv (own_app ha hb)) fun p n => ?_
 rw [union_in (outF_valid hv ha) (outF_valid hv hb), outF_in, outF_in, outF_in]
 unfold InL
 simp only [List.mem_append]
 constructor
 · rintro (⟨x, h1, h2⟩ | ⟨x, h1, h2⟩)
   · exact ⟨x, .inl h1, h2⟩
   · exact ⟨x, .inr h1, h2⟩
 · rintro ⟨x, h1 | h1, h2⟩
   · exact .inl ⟨x, h1, h2⟩
   · exact .inr ⟨x, h1, h2⟩
theorem outF_nil : outF [] = [] := by
 have h : ∀ L : List Span, L.length ≤ ([] : List Span).length → L = [] := fun L hL => List.length_eq_zero_iff.1 (by simpa using hL)
 exact h _ (by unfold outF; exact merge_len _)
theorem own_ofF {t : Text} (hv : validT t = true) {L : List Line} (h : Own t L) : ofF L = (outF L, 0) := by
 have hr := own_right hv h
 have hf : L.find? badLine = none := by
   rw [List.find?_eq_none]
   intro x hx
   rw [bad_line, hr x hx]; simp
 unfold ofF outF
 rw [hf]
 have : L.map unitW = L.map unit := List.map_congr_left fun x hx => unitW_unit (hr x hx)
 simp only [this]
theorem linesF_eq {t : Text} (hv : validT t = true) {a b : Int} (h : inS a b t.words.length) : linesF t a b = (outF (linesW t (lsub t.words a b)), 0) := by
 unfold linesF
 rw [if_pos hv, if_pos (by omega)]
 have hl : (lsub t.words a b).Sublist t.words := (List.drop_sublist _ _).trans (List.take_sublist _ _)
 rw [← ofF_lines hv hl, own_ofF hv (own_lines fun w hw => hl.subset hw)]
theorem n23lines_ok (t : Text) (from_ : Int) (to : Int) (Q : (List Span) × Int → Prop) (hp0 : okT t) (h : Q (linesF t from_ to)) : n23lines_vc t from_ to Q := by
 unfold linesF at h
 refine ⟨hp0, fun hb => by rw [if_neg (by rw [hb]; simp)] at h; exact h, fun hv => ?_⟩
 rw [if_pos hv] at h
 refine ⟨fun hb => by rw [if_neg (by omega)] at h; exact h, fun hg => ?_⟩
 rw [if_pos (by omega)] at h
 have hw := valid_len hv
 refine lfp2 (n23lines_L1 t to Q) (fun l i => from_ ≤ i ∧ i ≤ to ∧ l = linesW t (lsub t.words from_ i)) (fun _ i => (to - i).toNat) (fun l i hst again hag => ?_) ⟨by omega, by omega, by rw [lsub_same]; rfl⟩
 obtain ⟨h0, h1, h2⟩ := hst
 have hl : l.length ≤ 8192 := by
   rw [h2, linesW_len, lsub_length (by omega)]; omega
 refine ⟨fun hlt => ⟨by omega, ⟨?_, ?_⟩, by omega, hag _ _ ⟨by omega, by omega, ?_⟩ (by omega)⟩, fun hn => ?_⟩
 · simp only [List.length_cons, List.length_nil]; omega
 · simp only [List.length_cons, List.length_nil]; omega
 · rw [lsub_snoc (by omega) h0 (by omega), linesW_app, h2]; rfl
 · have e : i = to := by omega
   subst e
   refine ⟨by omega, fun x hx => ?_, by rw [h2]; exact h⟩
   rw [h2] at hx
   obtain ⟨w, hw', rfl⟩ := own_sub t from_ i x hx
   have := wordsA_line (valid_parts hv).2.2 w hw'
   simp only; omega
theorem kcov1_ok (from_ : Int) (n : Int) (t : Text) (lines : (List Line)) (Q : (List Line) → Prop) (hp0 : inI (from_ + n)) (hp1 : inS from_ (from_ + n) t.words.length) (hp2 : lines.length + t.words.length ≤ 1000000000) (h : Q ((lines ++ linesW t (lsub t.words from_ (from_ + n))))) : kcov1_vc from_ n t lines Q := by
 refine ⟨hp0, hp1, ?_⟩
 have hl := lsub_length hp1
 generalize hs : lsub t.words from_ (from_ + n) = s at h hl
 unfold kcov1_L1
 rw [hs]
 refine lfp2 (fun again1 (xs : List Line) (x : Int) => ((x < (s.length : Int) → (inL x s.length ∧ (((xs.length + ([(Line.mk t.path ((gi s x).line))] : List Line).length) * 24 ≤ 140737488355328 ∧ xs.length + ([(Line.mk t.path ((gi s x).line))] : List Line).length ≤ 9223372036854775807) ∧ (inI (x + 1) ∧ again1 ((xs ++ ([(Line.mk t.path ((gi s x).line))] : List Line)), (x + 1)))))) ∧ (¬ x < (s.length : Int) → Q xs))) (fun xs x => 0 ≤ x ∧ x ≤ s.length ∧ xs = lines ++ linesW t (s.take x.toNat)) (fun _ x => (s.length - x).toNat) (fun xs x hst again hag => ?_) ⟨by omega, by omega, by simp [linesW]⟩
 obtain ⟨h0, h1, h2⟩ := hst
 have hx : xs.length = lines.length + x.toNat := by rw [h2, List.length_append, linesW_len, List.length_take]; omega
 refine ⟨fun hlt => ⟨by omega, ⟨?_, ?_⟩, by omega, hag _ _ ⟨by omega, by omega, ?_⟩ (by omega)⟩, fun hn => ?_⟩
 · simp only [List.length_cons, List.length_nil]; omega
 · simp only [List.length_cons, List.length_nil]; omega
 · rw [take_gi (by omega), linesW_app, h2, List.append_assoc]; rfl
 · rw [List.take_of_length_le (by omega)] at h2
   rw [h2]; exact h
theorem check_room {l : List Text} {c : Clone} {n : Int} (h : checkC l c n = 0) : inL c.a l.length ∧ inL c.b l.length ∧ inS c.atA (c.atA + c.len) (gi l c.a).words.length ∧ inS c.atB (c.atB + c.len) (gi l c.b).words.length := by
 unfold checkC at h
 by_cases ho : orderedC l c = true
 · rw [if_pos ho] at h
   obtain ⟨o1, o2, o3, o4, o5, o6⟩ := (ordered_iff l c).1 ho
   split at h
   · next he =>
     obtain ⟨i, hi⟩ : ∃ i : Nat, c.atA = i := ⟨c.atA.toNat, by omega⟩
     obtain ⟨j, hj⟩ : ∃ j : Nat, c.atB = j := ⟨c.atB.toNat, by omega⟩
     rw [hi, hj] at he
     have hlen := lenC_pos (a := gi l c.a) (b := gi l c.b) (i := i) (j := j) (by omega)
     obtain ⟨r1, r2⟩ := toN_room (gi l c.a).words (gi l c.b).words i j
     rw [hi, hj]
     omega
   · cases h
 · rw [if_neg ho] at h; cases h
theorem own_cover (l : List Text) (i : Int) (c : Clone) : Own (gi l i) (coverL l i c) := by
 unfold coverL
 refine own_app ?_ ?_
 · split
   · exact own_sub _ _ _
   · intro x hx; cases hx
 · split
   · exact own_sub _ _ _
   · intro x hx; cases hx
theorem own_covers (l : List Text) (i : Int) (x : List Clone) : Own (gi l i) (x.flatMap (coverL l i)) := by
 intro y hy
 obtain ⟨c, hc, h⟩ := List.mem_flatMap.1 hy
 exact own_cover l i c y h
theorem lsub_le {α : Type} (l : List α) (a b : Int) : (lsub l a b).length ≤ l.length := by
 unfold lsub; rw [List.length_drop, List.length_take]; omega
theorem cover_len (l : List Text) (i : Int) (c : Clone) : (coverL l i c).length ≤ 2 * (gi l i).words.length := by
 unfold coverL
 rw [List.length_append]
 have h1 := lsub_le (gi l i).words c.atA (c.atA + c.len)
 have h2 := lsub_le (gi l i).words c.atB (c.atB + c.len)
 split <;> split <;> simp only [linesW_len, List.length_nil] <;> omega
theorem right_valid {l : List Text} (h : rightL l = true) {i : Int} (hi : inL i l.length) : validT (gi l i) = true := by
 have := ((rightL_iff l).1 h).2
 rw [checkT_none] at this
 exact this.1 _ (gi_mem hi)
theorem find_step {α : Type} [Inhabited α] {l : List α} {p : α → Bool} {i : Int} (hi : inL i l.length) (h : l.find? p = (l.drop i.toNat).find? p) : (p (gi l i) = true → l.find? p = some (gi l i)) ∧ (p (gi l i) = false → l.find? p = (l.drop (i + 1).toNat).find? p) := by
 rw [drop_gi hi, List.find?_cons] at h
 constructor
 · intro hp; rw [hp] at h; exact h
 · intro hp; rw [hp] at h; exact h
abbrev badK (l : List Text) (c : Clone) : Bool := decide (checkC l c 1 ≠ 0)
theorem covered_right {l : List Text} {x : List Clone} {i : Int} (hr : rightL l = true) (hi : 0 ≤ i ∧ i < (l.length : Int)) : coveredF l x i = match x.find? (badK l) with | some c => ([], checkC l c 1) | none => ofF (x.flatMap (coverL l i)) := by
 unfold coveredF
 rw [if_pos hr, if_pos hi]
 rfl
theorem kcovered_ok (l : (List Text)) (x : (List Clone)) (text : Int) (Q : (List Span) × Int → Prop) (hp0 : okTs l) (hp1 : x.length ≤ 1024) (hp2 : ∀ t_ ∈ l, t_.words.length ≤ 40) (h : Q (coveredF l x text)) : kcovered_vc l x text Q := by
 refine ⟨hp0, fun hb => ?_, fun hr => ⟨fun hb => ?_, fun hg => ?_⟩⟩
 · unfold coveredF at h; rw [if_neg (by rw [hb]; simp)] at h; exact h
 · unfold coveredF at h; rw [if_pos hr, if_neg (by omega)] at h; exact h
 rw [covered_right hr (by omega)] at h
 have ht : inL text l.length := by omega
 have hv := right_valid hr ht
 have h40 := hp2 _ (gi_mem ht)
 have hps := (hp0.2 _ (gi_mem ht)).1
 refine lfp_of (fun i : Int => 0 ≤ i ∧ i ≤ x.length ∧ x.find? (badK l) = (x.drop i.toNat).find? (badK l)) (fun i => (x.length - i).toNat) (fun i hst again hag => ?_) ⟨by omega, by omega, rfl⟩
 obtain ⟨h0, h1, h2⟩ := hst
 refine ⟨fun hlt => ⟨by omega, hp0, fun hb => ?_, fun hz => ⟨by omega, hag _ ⟨by omega, by omega, ?_⟩ (by omega)⟩⟩, fun hn => ⟨ht, ?_⟩⟩
 · rw [(find_step (by omega) h2).1 (by simpa using hb)] at h; exact h
 · exact (find_step (by omega) h2).2 (by simpa using hz)
 · rw [drop_end hn, List.find?_nil] at h2
   rw [h2] at h
   have hall : ∀ c ∈ x, checkC l c 1 = 0 := fun c hc => by
     have := List.find?_eq_none.1 h2 c hc
     simpa using this
   refine lfp2 (kcovered_L2 l x text Q) (fun xs i => 0 ≤ i ∧ i ≤ x.length ∧ (xs.length : Int) ≤ 80 * i ∧ xs = (x.take i.toNat).flatMap (coverL l text)) (fun _ i => (x.length - i).toNat) (fun xs i hst again2 hag2 => ?_) ⟨by omega, by omega, by simp, by simp⟩
   obtain ⟨k0, k1, k2, k3⟩ := hst
   refine ⟨fun hlt => ⟨by omega, ?_⟩, fun hn2 => ⟨by omega, fun y hy => ?_, ?_⟩⟩
   · have hi : inL i x.length := by omega
     have hc := hall _ (gi_mem hi)
     obtain ⟨r1, r2, r3, r4⟩ := check_room hc
     have hcl := cover_len l text (gi x i)
     have hnext : xs ++ coverL l text (gi x i) = (x.take (i + 1).toNat).flatMap (coverL l text) := by
       rw [take_gi hi, List.flatMap_append, k3]; simp
     have J : ∀ ys : List Line, ys.length ≤ xs.length + 40 → (ys = xs ++ (if (gi x i).a = text then linesW (gi l text) (lsub (gi l text).words (gi x i).atA ((gi x i).atA + (gi x i).len)) else [])) → kcovered_J1 l x text i again2 ys := fun ys hy hys => by
       refine ⟨fun hb => ?_, fun hb => ⟨by omega, hag2 _ _ ⟨by omega, by omega, ?_, ?_⟩ (by omega)⟩⟩
       · rw [hb] at r4
         refine ⟨by omega, r4, by omega, by omega, hag2 _ _ ⟨by omega, by omega, ?_, ?_⟩ (by omega)⟩
         · have := lsub_le (gi l text).words (gi x i).atB ((gi x i).atB + (gi x i).len)
           rw [List.length_append, linesW_len]; omega
         · rw [← hnext, hys]; unfold coverL; rw [if_pos hb, List.append_assoc]
       · omega
       · rw [← hnext, hys]; unfold coverL; rw [if_neg hb, List.append_nil]
     refine ⟨fun ha => ?_, fun ha => J xs (by omega) (by rw [if_neg ha, List.append_nil])⟩
     rw [ha] at r3
     refine ⟨by omega, r3, by omega, J _ ?_ (by rw [if_pos ha])⟩
     have := lsub_le (gi l text).words (gi x i).atA ((gi x i).atA + (gi x i).len)
     rw [List.length_append, linesW_len]; omega
   · rw [k3] at hy
     obtain ⟨w, _, rfl⟩ := own_covers l text _ y hy
     exact hps
   · rw [List.take_of_length_le (by omega)] at k3
     rw [k3]; exact h
theorem rcovered_ok (l : (List Text)) (x : (List Clone)) (text : Int) (Q : (List Span) × Int → Prop) (hp0 : okTs l) (hp1 : ∀ t_ ∈ l, t_.words.length ≤ 40) (hp2 : ∀ c_ ∈ x, inI c_.atA ∧ inI c_.atB) (hp3 : x.length ≤ 1000000) (h : Q (coveredF l x text)) : rcovered_vc l x text Q := by
 refine ⟨hp0, fun hb => ?_, fun hr => ⟨fun hb => ?_, fun hg => ?_⟩⟩
 · unfold coveredF at h; rw [if_neg (by rw [hb]; simp)] at h; exact h
 · unfold coveredF at h; rw [if_pos hr, if_neg (by omega)] at h; exact h
 rw [covered_right hr (by omega)] at h
 have ht : inL text l.length := by omega
 have hv := right_valid hr ht
 have h40 := hp1 _ (gi_mem ht)
 have hok := hp0.2 _ (gi_mem ht)
 have hF : ∀ c, checkF29 l c 1 = checkC l c 1 := fun c => by unfold checkF29; rw [if_pos hr]
 refine lfp2 (rcovered_L1 l x text Q) (fun out i => 0 ≤ i ∧ i ≤ x.length ∧ x.find? (badK l) = (x.drop i.toNat).find? (badK l) ∧ out = outF ((x.take i.toNat).flatMap (coverL l text))) (fun _ i => (x.length - i).toNat) (fun out i hst again hag => ?_) ⟨by omega, by omega, rfl, by simp [outF_nil]⟩
 obtain ⟨h0, h1, h2, h3⟩ := hst
 refine ⟨fun hlt => ?_, fun hn => ?_⟩
 · have hi : inL i x.length := by omega
   refine ⟨hi, hp0, (hp2 _ (gi_mem hi)).1, (hp2 _ (gi_mem hi)).2, fun hb => ?_, fun hz => ⟨hi, ?_⟩⟩
   · rw [hF] at hb ⊢
     rw [(find_step hi h2).1 (by simpa using hb)] at h; exact h
   · rw [hF] at hz
     have hfs := (find_step hi h2).2 (by simpa using hz)
     obtain ⟨r1, r2, r3, r4⟩ := check_room hz
     have oA := own_covers l text (x.take i.toNat)
     have hnext : outF ((x.take i.toNat).flatMap (coverL l text) ++ coverL l text (gi x i)) = outF ((x.take (i + 1).toNat).flatMap (coverL l text)) := by
       rw [take_gi hi, List.flatMap_append]; simp
     have J : ∀ A : List Line, Own (gi l text) A → (A = (x.take i.toNat).flatMap (coverL l text) ++ (if (gi x i).a = text then linesW (gi l text) (lsub (gi l text).words (gi x i).atA ((gi x i).atA + (gi x i).len)) else [])) → rcovered_J1 l x text i again (outF A) := fun A oA hA => by
       refine ⟨hi, fun hb => ?_, fun hb => ⟨by omega, hag _ _ ⟨by omega, by omega, hfs, ?_⟩ (by omega)⟩⟩
       · rw [hb] at r4
         have oB := own_sub (gi l text) (gi x i).atB ((gi x i).atB + (gi x i).len)
         have l1 := outF_len hv oA
         have l2 := outF_len hv oB
         rw [linesF_eq hv r4]
         refine ⟨ht, hi, by omega, hok, outF_valid hv oA, outF_valid hv oB, by omega, by simp only; omega, by omega, hag _ _ ⟨by omega, by omega, hfs, ?_⟩ (by omega)⟩
         rw [outF_app hv oA oB, ← hnext, hA]; unfold coverL; rw [if_pos hb, List.append_assoc]
       · rw [← hnext, hA]; unfold coverL; rw [if_neg hb, List.append_nil]
     refine ⟨fun ha => ?_, fun ha => ?_⟩
     · rw [ha] at r3
       have oB := own_sub (gi l text) (gi x i).atA ((gi x i).atA + (gi x i).len)
       have l1 := outF_len hv oA
       have l2 := outF_len hv oB
       rw [linesF_eq hv r3, h3]
       refine ⟨ht, hi, by omega, hok, outF_valid hv oA, outF_valid hv oB, by omega, by simp only; omega, ?_⟩
       rw [outF_app hv oA oB]
       exact J _ (own_app oA oB) (by rw [if_pos ha])
     · rw [h3]
       exact J _ oA (by rw [if_neg ha, List.append_nil])
 · rw [drop_end hn, List.find?_nil] at h2
   rw [List.take_of_length_le (by omega)] at h3
   rw [h2, own_ofF hv (own_covers l text x)] at h
   rw [h3]; exact h
end Go.Lic
