/-
  Sets of lines: conditions of the reference's functions hold (from the texts of chapter 16, written by mkkl.py).
-/
import Derived.Test.YtglclijalehcmaaGreatDoorKv
import Derived.Test.YtglclijalehcmaaGreatDoorTlo
import Derived.Test.YtglclijalehcmaaGreatDoorKm
import Derived.Test.YtglclijalehcmaaGreatDoorKo5
import Derived.Test.YtglclijalehcmaaGreatDoorKwZ
set_option linter.all false
namespace Go.Lic
open Go.Proofs Go.Sort Go.Shelf
theorem span_size {s : Span} (h : spanR s = true) : s.path.size ≤ 128 := by
 unfold spanR pathB at h
 simp only [Bool.and_eq_true, decide_eq_true_eq] at h
 exact h.1.1.1
theorem valid_chain (l : List Span) : validF l = true ↔ Chain l ∧ ∀ s ∈ l, spanR s = true := by
 constructor
 · intro h
   have hs := valid_span h
   refine ⟨⟨?_, fun s hm => (span_inside (hs s hm)).2.1⟩, hs⟩
   rw [List.pairwise_iff_getElem]
   have key : ∀ d i : Nat, ∀ (h1 : i < l.length) (h2 : i + d + 1 < l.length), Bh l[i] l[i + d + 1] := by
     intro d
     induction d with
     | zero =>
       intro i h1 h2
       have := ((valid_iff l).1 h ((i + 1 : Nat) : Int) (by omega) (by omega)).2 (by omega)
       rw [gi_nat (by omega), show (((i + 1 : Nat) : Int) - 1) = ((i : Nat) : Int) by omega, gi_nat h1] at this
       exact this
     | succ d ih =>
       intro i h1 h2
       have h3 := ih i h1 (by omega)
       have h4 := ((valid_iff l).1 h ((i + (d + 1) + 1 : Nat) : Int) (by omega) (by omega)).2 (by omega)
       rw [gi_nat (by omega), show (((i + (d + 1) + 1 : Nat) : Int) - 1) = ((i + d + 1 : Nat) : Int) by omega, gi_nat (by omega)] at h4
       exact bh_trans (span_inside (hs _ (List.getElem_mem _))).2.1 h3 h4
   intro i j hi hj hij
   have := key (j - i - 1) i hi (by omega)
   have e : i + (j - i - 1) + 1 = j := by omega
   simpa only [e] using this
 · rintro ⟨hc, hs⟩
   rw [valid_iff]
   intro x h0 h1
   refine ⟨hs _ (gi_mem (by omega)), fun hx => ?_⟩
   have := List.pairwise_iff_getElem.1 hc.bh (x - 1).toNat x.toNat (by omega) (by omega) (by omega)
   rw [gi_lt (by omega), gi_lt (by omega)]
   exact this
theorem linesOf_len (s : Span) : (linesOf s).length = (s.to - s.from_).toNat := by simp [linesOf]
theorem list_count (l : List Span) : ((listF l).length : Int) = countL l := by
 unfold listF countL
 split
 · next hv =>
   have hs := valid_span hv
   clear hv
   induction l with
   | nil => rfl
   | cons s l ih =>
     have h1 := span_inside (hs s (by simp))
     have h2 := ih (fun t ht => hs t (by simp [ht]))
     rw [List.flatMap_cons, List.length_append, linesOf_len, List.map_cons, List.sum_cons, ← h2]
     omega
 · rfl
theorem has1_iff (s : Span) (x : Line) : has1F s x = true ↔ inSpan s x.path x.n := by
 unfold has1F inSpan
 simp only [Bool.and_eq_true, decide_eq_true_eq, and_assoc]
theorem ok_merge (t s : Span) (h1 : spanR t = true) (h2 : spanR s = true) : spanR ⟨t.path, t.from_, max t.to s.to⟩ = true := by
 rw [span_path] at *
 refine ⟨h1.1, ?_⟩
 have a := h1.2; have b := h2.2
 unfold insideF at *
 simp only [Bool.and_eq_true, decide_eq_true_eq] at *
 omega
theorem valid_ne {a : List Span} (h : validF a = true) : ∀ s ∈ a, NeS s := ((valid_chain a).1 h).1.ne
theorem merge_valid {l : List Span} (h : ∀ s ∈ l, spanR s = true) : validF (mergeF l) = true := by
 have hn : ∀ s ∈ l, NeS s := fun s hs => (span_inside (h s hs)).2.1
 exact (valid_chain _).2 ⟨merge_chain hn, merge_all hn ok_merge h⟩
theorem valid_sizes {a : List Span} (h : validF a = true) : ∀ x ∈ a, x.path.size ≤ 1000000 := fun x hx => by
 have := span_size (valid_span h x hx); omega
theorem has_iff {l : List Span} (h : validF l = true) (x : Line) : hasF l x = true ↔ In l x.path x.n := by
 unfold hasF
 rw [h, Bool.and_true, List.any_eq_true]
 unfold In
 constructor
 · rintro ⟨s, hs, h1⟩; exact ⟨s, hs, (has1_iff _ _).1 h1⟩
 · rintro ⟨s, hs, h1⟩; exact ⟨s, hs, (has1_iff _ _).2 h1⟩
theorem linesOf_mem (s : Span) (y : Line) : y ∈ linesOf s ↔ inSpan s y.path y.n := by
 unfold linesOf inSpan
 rw [List.mem_map]
 constructor
 · rintro ⟨i, hi, rfl⟩
   have := List.mem_range.1 hi
   exact ⟨rfl, by simp only; omega, by simp only; omega⟩
 · rintro ⟨h1, h2, h3⟩
   refine ⟨(y.n - s.from_).toNat, List.mem_range.2 (by omega), ?_⟩
   obtain ⟨p, n⟩ := y
   simp only at h1 h2 h3 ⊢
   rw [h1]
   congr 1
   omega
theorem list_mem {l : List Span} (h : validF l = true) (y : Line) : y ∈ listF l ↔ In l y.path y.n := by
 unfold listF In
 rw [if_pos h, List.mem_flatMap]
 constructor
 · rintro ⟨s, hs, h1⟩; exact ⟨s, hs, (linesOf_mem s y).1 h1⟩
 · rintro ⟨s, hs, h1⟩; exact ⟨s, hs, (linesOf_mem s y).2 h1⟩
theorem linesOf_nodup (s : Span) : (linesOf s).Nodup := by
 unfold linesOf
 refine List.Pairwise.map _ (fun i j hij => ?_) List.nodup_range
 intro h
 simp only [Line.mk.injEq, true_and] at h
 exact hij (by omega)
theorem lines_nodup : ∀ {l : List Span}, Chain l → (l.flatMap linesOf).Nodup
 | [], _ => .nil
 | s :: l, hc => by
   obtain ⟨⟨hs, hsl⟩, hc'⟩ := chain_cons.1 hc
   rw [List.flatMap_cons]
   refine List.nodup_append.2 ⟨linesOf_nodup s, lines_nodup hc', fun y hy z hz e => ?_⟩
   subst e
   have h1 := (linesOf_mem s y).1 hy
   obtain ⟨t, ht, h2⟩ := List.mem_flatMap.1 hz
   have h3 := bh_pts (hsl t ht) h1 ((linesOf_mem t y).1 h2)
   rcases h3 with h3 | ⟨_, h3⟩
   · exact sl_irrefl _ h3
   · omega
theorem list_nodup {l : List Span} (h : validF l = true) : (listF l).Nodup := by
 unfold listF
 rw [if_pos h]
 exact lines_nodup ((valid_chain l).1 h).1
theorem nodup_len {a b : List Line} (ha : a.Nodup) (hb : b.Nodup) (h : ∀ y, y ∈ a ↔ y ∈ b) : a.length = b.length := ((List.perm_ext_iff_of_nodup ha hb).2 h).length_eq
theorem wordsA_line : ∀ {l : List Lexeme} {least : Int}, wordsF least l = true → ∀ w ∈ l, least ≤ w.line ∧ w.line < 1024
 | [], _, _, w, hw => by cases hw
 | x :: l, least, h, w, hw => by
   rw [wordsF, Bool.and_eq_true] at h
   obtain ⟨h1, h2⟩ := h
   unfold wordF at h1
   simp only [Bool.and_eq_true, decide_eq_true_eq] at h1
   rcases List.mem_cons.1 hw with rfl | hw
   · omega
   · have := wordsA_line h2 w hw
     omega
theorem valid_parts {t : Text} (h : validT t = true) : t.words.length ≤ 8192 ∧ pathB t.path = true ∧ wordsF 0 t.words = true := by
 unfold validT at h
 simp only [Bool.and_eq_true, decide_eq_true_eq] at h
 exact ⟨h.1.1, h.1.2, h.2⟩
theorem gi_lsubA {α : Type} [Inhabited α] {l : List α} {lo hi j : Int} (hs : inS lo hi l.length) (hj : inL j (hi - lo).toNat) : gi (lsub l lo hi) j = gi l (lo + j) := by
 have hl := lsub_length hs
 rw [gi_lt (by omega), gi_lt (by omega)]
 simp only [lsub, List.getElem_drop, List.getElem_take]
 congr 1; omega
theorem mem_sub {l : List Lexeme} {lo hi : Int} (h : inS lo hi l.length) (w : Lexeme) : w ∈ lsub l lo hi ↔ ∃ i : Int, lo ≤ i ∧ i < hi ∧ gi l i = w := by
 have hl := lsub_length h
 constructor
 · intro hw
   obtain ⟨n, hn, e⟩ := List.getElem_of_mem hw
   refine ⟨lo + n, by omega, by omega, ?_⟩
   rw [← gi_lsubA h (j := (n : Int)) (by omega), gi_nat hn, e]
 · rintro ⟨i, h1, h2, rfl⟩
   have := gi_lsubA h (j := i - lo) (by omega)
   rw [show lo + (i - lo) = i by omega] at this
   rw [← this]
   exact gi_mem (by omega)
end Go.Lic
set_option linter.all false
namespace Go.Lic
open Go.Proofs Go.Sort Go.Shelf
theorem linesW_app (t : Text) (a b : List Lexeme) : linesW t (a ++ b) = linesW t a ++ linesW t b := by simp [linesW]
theorem linesW_len (t : Text) (a : List Lexeme) : (linesW t a).length = a.length := by simp [linesW]
theorem take_gi {α : Type} [Inhabited α] {l : List α} {i : Int} (h : inL i l.length) : l.take (i + 1).toNat = l.take i.toNat ++ [gi l i] := by
 rw [show (i + 1).toNat = i.toNat + 1 by omega, List.take_add_one, gi_lt h, List.getElem?_eq_getElem (by omega)]; rfl
def Own (t : Text) (L : List Line) : Prop := ∀ x ∈ L, ∃ w ∈ t.words, x = ⟨t.path, w.line⟩
theorem own_lines {t : Text} {l : List Lexeme} (h : ∀ w ∈ l, w ∈ t.words) : Own t (linesW t l) := by
 intro x hx
 unfold linesW at hx
 obtain ⟨w, hw, rfl⟩ := List.mem_map.1 hx
 exact ⟨w, h w hw, rfl⟩
theorem own_sub (t : Text) (a b : Int) : Own t (linesW t (lsub t.words a b)) := own_lines fun w hw => (List.take_subset _ _) (List.mem_of_mem_drop hw)
theorem own_app {t : Text} {A B : List Line} (ha : Own t A) (hb : Own t B) : Own t (A ++ B) := by
 intro x hx
 rcases List.mem_append.1 hx with h | h
 · exact ha x h
 · exact hb x h
theorem own_right {t : Text} (hv : validT t = true) {L : List Line} (h : Own t L) : ∀ x ∈ L, rightF x = true := by
 obtain ⟨v1, v2, v3⟩ := valid_parts hv
 intro x hx
 obtain ⟨w, hw, rfl⟩ := h x hx
 have := wordsA_line v3 w hw
 unfold rightF
 simp only [Bool.and_eq_true, decide_eq_true_eq]
 exact ⟨v2, by omega, by omega⟩
theorem right_unit {x : Line} (h : rightF x = true) : spanR (unit x) = true := by
 unfold rightF at h
 unfold spanR unit insideF
 simp only [Bool.and_eq_true, decide_eq_true_eq] at *
 exact ⟨h.1, by omega, by omega⟩
def outF (L : List Line) : List Span := mergeF (L.map unit)
theorem unit_ne' (L : List Line) : ∀ s ∈ L.map unit, NeS s := fun s hs => by
 obtain ⟨x, hx, rfl⟩ := List.mem_map.1 hs
 unfold NeS unit; simp only; omega
theorem outF_in (L : List Line) (p : ByteArray) (n : Int) : In (outF L) p n ↔ InL L p n := by
 unfold outF
 rw [merge_in (unit_ne' L), in_unit]
theorem outF_valid {t : Text} (hv : validT t = true) {L : List Line} (h : Own t L) : validF (outF L) = true := by
 refine merge_valid fun s hs => ?_
 obtain ⟨x, hx, rfl⟩ := List.mem_map.1 hs
 exact right_unit (own_right hv h x hx)
theorem nodup_sub : ∀ {a b : List Line}, a.Nodup → (∀ y ∈ a, y ∈ b) → a.length ≤ b.length
 | [], b, _, _ => by simp
 | x :: a, b, hn, h => by
   obtain ⟨h1, h2⟩ := List.nodup_cons.1 hn
   have hx : x ∈ b := h x (by simp)
   have := nodup_sub (a := a) (b := b.erase x) h2 (fun y hy => (List.mem_erase_of_ne (fun e => h1 (by rw [← e]; exact hy))).2 (h y (by simp [hy])))
   rw [List.length_erase_of_mem hx] at this
   have := List.length_pos_of_mem hx
   simp only [List.length_cons]; omega
theorem spans_le {a : List Span} (h : validF a = true) : a.length ≤ (listF a).length := by
 have hn := valid_ne h
 unfold listF
 rw [if_pos h]
 clear h
 induction a with
 | nil => simp
 | cons s a ih =>
   rw [List.flatMap_cons, List.length_append, List.length_cons]
   have := ih (fun t ht => hn t (List.mem_cons_of_mem _ ht))
   have h2 : s.from_ < s.to := hn s (by simp)
   have : (linesOf s).length = (s.to - s.from_).toNat := by simp [linesOf]
   omega
theorem outF_len {t : Text} (hv : validT t = true) {L : List Line} (h : Own t L) : (listF (outF L)).length ≤ t.words.length ∧ (outF L).length ≤ t.words.length := by
 have hf := outF_valid hv h
 have h1 := nodup_sub (list_nodup hf) (b := linesW t t.words) (fun y hy => by
   have := (list_mem hf y).1 hy
   rw [outF_in] at this
   obtain ⟨x, hx, e1, e2⟩ := this
   obtain ⟨w, hw, rfl⟩ := h x hx
   unfold linesW
   refine List.mem_map.2 ⟨w, hw, ?_⟩
   cases y; simp at e1 e2; subst e1; subst e2; rfl)
 rw [linesW_len] at h1
 exact ⟨h1, Nat.le_trans (spans_le hf) h1⟩
theorem own_ofF {t : Text} (hv : validT t = true) {L : List Line} (h : Own t L) : ofF L = (outF L, 0) := by
 have hr := own_right hv h
 have hf : L.find? badLine = none := by
   rw [List.find?_eq_none]
   intro x hx
   rw [bad_line, hr x hx]; simp
 unfold ofF outF
 rw [hf]
 have : L.map unitW = L.map unit := List.map_congr_left fun x hx => unitW_unit (hr x hx)
 simp only [this]
theorem kcov1_ok (from_ : Int) (n : Int) (t : Text) (lines : (List Line)) (Q : (List Line) → Prop) (hp0 : inI (from_ + n)) (hp1 : inS from_ (from_ + n) t.words.length) (hp2 : lines.length + t.words.length ≤ 1000000000) (h : Q ((lines ++ linesW t (lsub t.words from_ (from_ + n))))) : kcov1_vc from_ n t lines Q := by
 refine ⟨hp0, hp1, ?_⟩
 have hl := lsub_length hp1
 generalize hs : lsub t.words from_ (from_ + n) = s at h hl
 unfold kcov1_L1
 rw [hs]
 refine lfp2 (fun again1 (xs : List Line) (x : Int) => ((x < (s.length : Int) → (inL x s.length ∧ (((xs.length + ([(Line.mk t.path ((gi s x).line))] : List Line).length) * 24 ≤ 140737488355328 ∧ xs.length + ([(Line.mk t.path ((gi s x).line))] : List Line).length ≤ 9223372036854775807) ∧ (inI (x + 1) ∧ again1 ((xs ++ ([(Line.mk t.path ((gi s x).line))] : List Line)), (x + 1)))))) ∧ (¬ x < (s.length : Int) → Q xs))) (fun xs x => 0 ≤ x ∧ x ≤ s.length ∧ xs = lines ++ linesW t (s.take x.toNat)) (fun _ x => (s.length - x).toNat) (fun xs x hst again hag => ?_) ⟨by omega, by omega, by simp [linesW]⟩
 obtain ⟨h0, h1, h2⟩ := hst
 have hx : xs.length = lines.length + x.toNat := by rw [h2, List.length_append, linesW_len, List.length_take]; omega
 refine ⟨fun hlt => ⟨by omega, ⟨?_, ?_⟩, by omega, hag _ _ ⟨by omega, by omega, ?_⟩ (by omega)⟩, fun hn => ?_⟩
 · simp only [List.length_cons, List.length_nil]; omega
 · simp only [List.length_cons, List.length_nil]; omega
 · rw [take_gi (by omega), linesW_app, h2, List.append_assoc]; rfl
 · rw [List.take_of_length_le (by omega)] at h2
   rw [h2]; exact h
theorem check_room {l : List Text} {c : Clone} {n : Int} (h : checkC l c n = 0) : inL c.a l.length ∧ inL c.b l.length ∧ inS c.atA (c.atA + c.len) (gi l c.a).words.length ∧ inS c.atB (c.atB + c.len) (gi l c.b).words.length := by
 unfold checkC at h
 by_cases ho : orderedC l c = true
 · rw [if_pos ho] at h
   obtain ⟨o1, o2, o3, o4, o5, o6⟩ := (ordered_iff l c).1 ho
   split at h
   · next he =>
     obtain ⟨i, hi⟩ : ∃ i : Nat, c.atA = i := ⟨c.atA.toNat, by omega⟩
     obtain ⟨j, hj⟩ : ∃ j : Nat, c.atB = j := ⟨c.atB.toNat, by omega⟩
     rw [hi, hj] at he
     have hlen := lenC_pos (a := gi l c.a) (b := gi l c.b) (i := i) (j := j) (by omega)
     obtain ⟨r1, r2⟩ := toN_room (gi l c.a).words (gi l c.b).words i j
     rw [hi, hj]
     omega
   · cases h
 · rw [if_neg ho] at h; cases h
theorem own_cover (l : List Text) (i : Int) (c : Clone) : Own (gi l i) (coverL l i c) := by
 unfold coverL
 refine own_app ?_ ?_
 · split
   · exact own_sub _ _ _
   · intro x hx; cases hx
 · split
   · exact own_sub _ _ _
   · intro x hx; cases hx
theorem own_covers (l : List Text) (i : Int) (x : List Clone) : Own (gi l i) (x.flatMap (coverL l i)) := by
 intro y hy
 obtain ⟨c, hc, h⟩ := List.mem_flatMap.1 hy
 exact own_cover l i c y h
theorem lsub_le {α : Type} (l : List α) (a b : Int) : (lsub l a b).length ≤ l.length := by
 unfold lsub; rw [List.length_drop, List.length_take]; omega
theorem cover_len (l : List Text) (i : Int) (c : Clone) : (coverL l i c).length ≤ 2 * (gi l i).words.length := by
 unfold coverL
 rw [List.length_append]
 have h1 := lsub_le (gi l i).words c.atA (c.atA + c.len)
 have h2 := lsub_le (gi l i).words c.atB (c.atB + c.len)
 split <;> split <;> simp only [linesW_len, List.length_nil] <;> omega
theorem right_valid {l : List Text} (h : rightL l = true) {i : Int} (hi : inL i l.length) : validT (gi l i) = true := by
 have := ((rightL_iff l).1 h).2
 rw [checkT_none] at this
 exact this.1 _ (gi_mem hi)
theorem find_step {α : Type} [Inhabited α] {l : List α} {p : α → Bool} {i : Int} (hi : inL i l.length) (h : l.find? p = (l.drop i.toNat).find? p) : (p (gi l i) = true → l.find? p = some (gi l i)) ∧ (p (gi l i) = false → l.find? p = (l.drop (i + 1).toNat).find? p) := by
 rw [drop_gi hi, List.find?_cons] at h
 constructor
 · intro hp; rw [hp] at h; exact h
 · intro hp; rw [hp] at h; exact h
abbrev badK (l : List Text) (c : Clone) : Bool := decide (checkC l c 1 ≠ 0)
theorem covered_right {l : List Text} {x : List Clone} {i : Int} (hr : rightL l = true) (hi : 0 ≤ i ∧ i < (l.length : Int)) : coveredF l x i = match x.find? (badK l) with | some c => ([], checkC l c 1) | none => ofF (x.flatMap (coverL l i)) := by
 unfold coveredF
 rw [if_pos hr, if_pos hi]
 rfl
theorem kcovered_ok (l : (List Text)) (x : (List Clone)) (text : Int) (Q : (List Span) × Int → Prop) (hp0 : okTs l) (hp1 : x.length ≤ 1024) (hp2 : ∀ t_ ∈ l, t_.words.length ≤ 40) (h : Q (coveredF l x text)) : kcovered_vc l x text Q := by
 refine ⟨hp0, fun hb => ?_, fun hr => ⟨fun hb => ?_, fun hg => ?_⟩⟩
 · unfold coveredF at h; rw [if_neg (by rw [hb]; simp)] at h; exact h
 · unfold coveredF at h; rw [if_pos hr, if_neg (by omega)] at h; exact h
 rw [covered_right hr (by omega)] at h
 have ht : inL text l.length := by omega
 have hv := right_valid hr ht
 have h40 := hp2 _ (gi_mem ht)
 have hps := (hp0.2 _ (gi_mem ht)).1
 refine lfp_of (fun i : Int => 0 ≤ i ∧ i ≤ x.length ∧ x.find? (badK l) = (x.drop i.toNat).find? (badK l)) (fun i => (x.length - i).toNat) (fun i hst again hag => ?_) ⟨by omega, by omega, rfl⟩
 obtain ⟨h0, h1, h2⟩ := hst
 refine ⟨fun hlt => ⟨by omega, hp0, fun hb => ?_, fun hz => ⟨by omega, hag _ ⟨by omega, by omega, ?_⟩ (by omega)⟩⟩, fun hn => ⟨ht, ?_⟩⟩
 · rw [(find_step (by omega) h2).1 (by simpa using hb)] at h; exact h
 · exact (find_step (by omega) h2).2 (by simpa using hz)
 · rw [drop_end hn, List.find?_nil] at h2
   rw [h2] at h
   have hall : ∀ c ∈ x, checkC l c 1 = 0 := fun c hc => by
     have := List.find?_eq_none.1 h2 c hc
     simpa using this
   refine lfp2 (kcovered_L2 l x text Q) (fun xs i => 0 ≤ i ∧ i ≤ x.length ∧ (xs.length : Int) ≤ 80 * i ∧ xs = (x.take i.toNat).flatMap (coverL l text)) (fun _ i => (x.length - i).toNat) (fun xs i hst again2 hag2 => ?_) ⟨by omega, by omega, by simp, by simp⟩
   obtain ⟨k0, k1, k2, k3⟩ := hst
   refine ⟨fun hlt => ⟨by omega, ?_⟩, fun hn2 => ⟨by omega, fun y hy => ?_, ?_⟩⟩
   · have hi : inL i x.length := by omega
     have hc := hall _ (gi_mem hi)
     obtain ⟨r1, r2, r3, r4⟩ := check_room hc
     have hcl := cover_len l text (gi x i)
     have hnext : xs ++ coverL l text (gi x i) = (x.take (i + 1).toNat).flatMap (coverL l text) := by
       rw [take_gi hi, List.flatMap_append, k3]; simp
     have J : ∀ ys : List Line, ys.length ≤ xs.length + 40 → (ys = xs ++ (if (gi x i).a = text then linesW (gi l text) (lsub (gi l text).words (gi x i).atA ((gi x i).atA + (gi x i).len)) else [])) → kcovered_J1 l x text i again2 ys := fun ys hy hys => by
       refine ⟨fun hb => ?_, fun hb => ⟨by omega, hag2 _ _ ⟨by omega, by omega, ?_, ?_⟩ (by omega)⟩⟩
       · rw [hb] at r4
         refine ⟨by omega, r4, by omega, by omega, hag2 _ _ ⟨by omega, by omega, ?_, ?_⟩ (by omega)⟩
         · have := lsub_le (gi l text).words (gi x i).atB ((gi x i).atB + (gi x i).len)
           rw [List.length_append, linesW_len]; omega
         · rw [← hnext, hys]; unfold coverL; rw [if_pos hb, List.append_assoc]
       · omega
       · rw [← hnext, hys]; unfold coverL; rw [if_neg hb, List.append_nil]
     refine ⟨fun ha => ?_, fun ha => J xs (by omega) (by rw [if_neg ha, List.append_nil])⟩
     rw [ha] at r3
     refine ⟨by omega, r3, by omega, J _ ?_ (by rw [if_pos ha])⟩
     have := lsub_le (gi l text).words (gi x i).atA ((gi x i).atA + (gi x i).len)
     rw [List.length_append, linesW_len]; omega
   · rw [k3] at hy
     obtain ⟨w, _, rfl⟩ := own_covers l text _ y hy
     exact hps
   · rw [List.take_of_length_le (by omega)] at k3
     rw [k3]; exact h
end Go.Lic
