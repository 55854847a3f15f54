/-
  Sets of lines: conditions of the reference's functions hold (from the texts of chapter 16, written by mkkl.py).
-/
import Derived.Test.YtglclijalehcmaaGreatDoorKv
import Derived.Test.YtglclijalehcmaaGreatDoorTlo
import Derived.Test.YtglclijalehcmaaGreatDoorKm
set_option linter.all false
namespace Go.Lic
open Go.Proofs Go.Sort Go.Shelf
theorem rspan_ok (x : Span) (Q : Bool → Prop) (hp0 : x.path.size ≤ 1000000) (h : Q (spanR x)) : rspan_vc x Q := by
 refine ⟨hp0, ?_⟩
 have : spanR x = ((((pathB x.path) && (decide (x.from_ ≥ 0))) && (decide (x.from_ < x.to))) && (decide (x.to ≤ 1024))) := by
   unfold spanR insideF; simp only [Bool.and_assoc, ge_iff_le]
 rwa [← this]
theorem rbehind_ok (a : Span) (b : Span) (Q : Bool → Prop) (h : Q (behindF a b)) : rbehind_vc a b Q := h
theorem rbefore_ok (a : Line) (b : Line) (Q : Bool → Prop) (h : Q (beforeF a b)) : rbefore_vc a b Q := h
theorem rvalid_ok (l : (List Span)) (Q : Bool → Prop) (hp0 : l.length ≤ 1000) (hp1 : ∀ x ∈ l, x.path.size ≤ 1000000) (h : Q (validF l)) : rvalid_vc l Q := by
 refine lfp_of (fun x : Int => 0 ≤ x ∧ x ≤ l.length ∧ ∀ j : Int, 0 ≤ j → j < x → spanR (gi l j) = true ∧ (j > 0 → behindF (gi l (j - 1)) (gi l j) = true)) (fun x => (l.length - x).toNat) (fun x hx again hag => ?_) ⟨by omega, by omega, fun j _ _ => by omega⟩
 obtain ⟨h0, h1, h2⟩ := hx
 refine ⟨fun hlt => ⟨by omega, hp1 _ (gi_mem (by omega)), fun _ hx => by omega, fun hb => ?_, fun hg => ⟨by omega, hag _ ⟨by omega, by omega, fun j hj hj2 => ?_⟩ (by omega)⟩⟩, fun hn => ?_⟩
 · have : validF l = false := valid_bad (x := x) (by omega) hb
   rwa [this] at h
 · by_cases e : j = x
   · subst e
     refine ⟨hg.1, fun hj0 => ?_⟩
     rcases hg.2 with h3 | h3
     · omega
     · exact h3
   · exact h2 j hj (by omega)
 · have : validF l = true := (valid_iff l).2 fun j h3 h4 => h2 j h3 (by omega)
   rwa [this] at h
theorem span_size {s : Span} (h : spanR s = true) : s.path.size ≤ 128 := by
 unfold spanR pathB at h
 simp only [Bool.and_eq_true, decide_eq_true_eq] at h
 exact h.1.1.1
theorem valid_chain (l : List Span) : validF l = true ↔ Chain l ∧ ∀ s ∈ l, spanR s = true := by
 constructor
 · intro h
   have hs := valid_span h
   refine ⟨⟨?_, fun s hm => (span_inside (hs s hm)).2.1⟩, hs⟩
   rw [List.pairwise_iff_getElem]
   have key : ∀ d i : Nat, ∀ (h1 : i < l.length) (h2 : i + d + 1 < l.length), Bh l[i] l[i + d + 1] := by
     intro d
     induction d with
     | zero =>
       intro i h1 h2
       have := ((valid_iff l).1 h ((i + 1 : Nat) : Int) (by omega) (by omega)).2 (by omega)
       rw [gi_nat (by omega), show (((i + 1 : Nat) : Int) - 1) = ((i : Nat) : Int) by omega, gi_nat h1] at this
       exact this
     | succ d ih =>
       intro i h1 h2
       have h3 := ih i h1 (by omega)
       have h4 := ((valid_iff l).1 h ((i + (d + 1) + 1 : Nat) : Int) (by omega) (by omega)).2 (by omega)
       rw [gi_nat (by omega), show (((i + (d + 1) + 1 : Nat) : Int) - 1) = ((i + d + 1 : Nat) : Int) by omega, gi_nat (by omega)] at h4
       exact bh_trans (span_inside (hs _ (List.getElem_mem _))).2.1 h3 h4
   intro i j hi hj hij
   have := key (j - i - 1) i hi (by omega)
   have e : i + (j - i - 1) + 1 = j := by omega
   simpa only [e] using this
 · rintro ⟨hc, hs⟩
   rw [valid_iff]
   intro x h0 h1
   refine ⟨hs _ (gi_mem (by omega)), fun hx => ?_⟩
   have := List.pairwise_iff_getElem.1 hc.bh (x - 1).toNat x.toNat (by omega) (by omega) (by omega)
   rw [gi_lt (by omega), gi_lt (by omega)]
   exact this
def linesFrom (s : Span) (n : Int) : List Line := (List.range (s.to - n).toNat).map fun i => ⟨s.path, n + (i : Nat)⟩
theorem linesOf_from (s : Span) : linesOf s = linesFrom s s.from_ := rfl
theorem linesFrom_end {s : Span} {n : Int} (h : ¬ n < s.to) : linesFrom s n = [] := by
 unfold linesFrom
 rw [show (s.to - n).toNat = 0 by omega]; rfl
theorem linesFrom_cons {s : Span} {n : Int} (h : n < s.to) : linesFrom s n = ⟨s.path, n⟩ :: linesFrom s (n + 1) := by
 unfold linesFrom
 rw [show (s.to - n).toNat = (s.to - (n + 1)).toNat + 1 by omega, List.range_succ_eq_map]
 simp only [List.map_cons, List.map_map, List.cons.injEq]
 refine ⟨by simp, ?_⟩
 apply List.map_congr_left
 intro i _
 simp only [Function.comp, Line.mk.injEq, true_and]
 omega
theorem list_gen {l : List Span} (hp0 : l.length ≤ 1000) (hv : validF l = true) (Q : List Line → Prop) (h : Q (l.flatMap linesOf)) (L2 : Int → ((List Line) × Int → Prop) → ((List Line) × Int → Prop) → List Line → Int → Prop)
   (hL2 : ∀ x again3 again6 out1 n, inL x l.length → ((n < (gi l x).to → (((out1.length + ([(Line.mk ((gi l x).path) n)] : List Line).length) * 24 ≤ 140737488355328 ∧ out1.length + ([(Line.mk ((gi l x).path) n)] : List Line).length ≤ 9223372036854775807) ∧ (inI (n + 1) ∧ again6 ((out1 ++ ([(Line.mk ((gi l x).path) n)] : List Line)), (n + 1))))) ∧ (¬ n < (gi l x).to → (inI (x + 1) ∧ again3 (out1, (x + 1))))) → L2 x again3 again6 out1 n) :
   lfp (S := List Line × Int) (fun again3 ss => ((ss.2 < (l.length : Int) → (inL ss.2 l.length ∧ lfp (S := (List Line) × Int) (fun again6 tt => L2 ss.2 again3 again6 tt.1 tt.2) (ss.1, (gi l ss.2).from_))) ∧ (¬ ss.2 < (l.length : Int) → Q ss.1))) ([], 0) := by
 refine lfp2 (fun again3 out x => ((x < (l.length : Int) → (inL x l.length ∧ lfp (S := (List Line) × Int) (fun again6 tt => L2 x again3 again6 tt.1 tt.2) (out, (gi l x).from_))) ∧ (¬ x < (l.length : Int) → Q out)))
   (fun out x => 0 ≤ x ∧ x ≤ l.length ∧ (out.length : Int) ≤ x * 1024 ∧ out ++ (l.drop x.toNat).flatMap linesOf = l.flatMap linesOf) (fun _ x => (l.length - x).toNat) (fun out x hst again hag => ?_) ⟨by simp, by simp, by simp, by simp⟩
 obtain ⟨h0, h1, h2, h3⟩ := hst
 refine ⟨fun hlt => ⟨by omega, ?_⟩, fun hn => ?_⟩
 · have hs := span_inside (valid_span hv _ (gi_mem (l := l) (i := x) (by omega)))
   rw [drop_gi (by omega), List.flatMap_cons, linesOf_from] at h3
   refine lfp2 (L2 x again) (fun out1 n => (gi l x).from_ ≤ n ∧ n ≤ (gi l x).to ∧ (out1.length : Int) ≤ x * 1024 + n ∧ out1 ++ (linesFrom (gi l x) n ++ (l.drop (x + 1).toNat).flatMap linesOf) = l.flatMap linesOf) (fun _ n => ((gi l x).to - n).toNat) (fun out1 n hst again6 hag6 => ?_) ⟨by omega, by omega, by omega, h3⟩
   obtain ⟨g0, g1, g2, g3⟩ := hst
   refine hL2 _ _ _ _ _ (by omega) ⟨fun hlt2 => ⟨⟨?_, ?_⟩, by omega, hag6 _ _ ⟨by omega, by omega, ?_, ?_⟩ (by omega)⟩, fun hn2 => ⟨by omega, hag _ _ ⟨by omega, by omega, by omega, ?_⟩ (by omega)⟩⟩
   · simp only [List.length_cons, List.length_nil]; omega
   · simp only [List.length_cons, List.length_nil]; omega
   · simp only [List.length_append, List.length_cons, List.length_nil]; omega
   · rw [linesFrom_cons hlt2] at g3
     simpa using g3
   · rw [linesFrom_end hn2] at g3
     simpa using g3
 · rw [drop_end hn, List.flatMap_nil, List.append_nil] at h3
   rw [← h3] at h
   exact h
theorem rlist_ok (l : (List Span)) (Q : (List Line) → Prop) (hp0 : l.length ≤ 1000) (hp1 : ∀ x ∈ l, x.path.size ≤ 1000000) (h : Q (listF l)) : rlist_vc l Q := by
 unfold listF at h
 refine ⟨by omega, hp1, fun hv => by rw [hv] at h; exact h, fun hv => ?_⟩
 rw [if_pos hv] at h
 exact list_gen hp0 hv Q h (rlist_L2 l) (fun _ _ _ _ _ hx h => ⟨hx, fun hn => ⟨hx, h.1 hn⟩, h.2⟩)
theorem linesOf_len (s : Span) : (linesOf s).length = (s.to - s.from_).toNat := by simp [linesOf]
theorem list_count (l : List Span) : ((listF l).length : Int) = countL l := by
 unfold listF countL
 split
 · next hv =>
   have hs := valid_span hv
   clear hv
   induction l with
   | nil => rfl
   | cons s l ih =>
     have h1 := span_inside (hs s (by simp))
     have h2 := ih (fun t ht => hs t (by simp [ht]))
     rw [List.flatMap_cons, List.length_append, linesOf_len, List.map_cons, List.sum_cons, ← h2]
     omega
 · rfl
theorem ok_merge (t s : Span) (h1 : spanR t = true) (h2 : spanR s = true) : spanR ⟨t.path, t.from_, max t.to s.to⟩ = true := by
 rw [span_path] at *
 refine ⟨h1.1, ?_⟩
 have a := h1.2; have b := h2.2
 unfold insideF at *
 simp only [Bool.and_eq_true, decide_eq_true_eq] at *
 omega
theorem valid_ne {a : List Span} (h : validF a = true) : ∀ s ∈ a, NeS s := ((valid_chain a).1 h).1.ne
theorem merge_valid {l : List Span} (h : ∀ s ∈ l, spanR s = true) : validF (mergeF l) = true := by
 have hn : ∀ s ∈ l, NeS s := fun s hs => (span_inside (h s hs)).2.1
 exact (valid_chain _).2 ⟨merge_chain hn, merge_all hn ok_merge h⟩
theorem union_valid {a b : List Span} (ha : validF a = true) (hb : validF b = true) : validF (mergeF (a ++ b)) = true := by
 refine merge_valid fun s hs => ?_
 rcases List.mem_append.1 hs with hs | hs
 · exact valid_span ha s hs
 · exact valid_span hb s hs
theorem union_in {a b : List Span} (ha : validF a = true) (hb : validF b = true) (p : ByteArray) (n : Int) : In (mergeF (a ++ b)) p n ↔ In a p n ∨ In b p n := by
 rw [merge_in, in_app]
 intro s hs
 rcases List.mem_append.1 hs with hs | hs
 · exact valid_ne ha s hs
 · exact valid_ne hb s hs
theorem valid_sizes {a : List Span} (h : validF a = true) : ∀ x ∈ a, x.path.size ≤ 1000000 := fun x hx => by
 have := span_size (valid_span h x hx); omega
theorem valid_ext {a b : List Span} (ha : validF a = true) (hb : validF b = true) (h : ∀ p n, In a p n ↔ In b p n) : a = b := chain_ext ((valid_chain a).1 ha).1 ((valid_chain b).1 hb).1 h
theorem list_len {l : List Span} (h : l.length ≤ 100) : ((listF l).length : Int) ≤ 200000 := by
 rw [list_count]
 unfold countL
 split
 · next hv =>
   have hs := valid_span hv
   have : ∀ l : List Span, (∀ s ∈ l, spanR s = true) → (l.map fun s => s.to - s.from_).sum ≤ 1024 * l.length := by
     intro l
     induction l with
     | nil => intro _; simp
     | cons s l ih =>
       intro hs
       have h1 := span_inside (hs s (by simp))
       have h2 := ih (fun t ht => hs t (by simp [ht]))
       rw [List.map_cons, List.sum_cons, List.length_cons]
       omega
   have := this l hs
   omega
 · omega
theorem linesOf_mem (s : Span) (y : Line) : y ∈ linesOf s ↔ inSpan s y.path y.n := by
 unfold linesOf inSpan
 rw [List.mem_map]
 constructor
 · rintro ⟨i, hi, rfl⟩
   have := List.mem_range.1 hi
   exact ⟨rfl, by simp only; omega, by simp only; omega⟩
 · rintro ⟨h1, h2, h3⟩
   refine ⟨(y.n - s.from_).toNat, List.mem_range.2 (by omega), ?_⟩
   obtain ⟨p, n⟩ := y
   simp only at h1 h2 h3 ⊢
   rw [h1]
   congr 1
   omega
theorem list_mem {l : List Span} (h : validF l = true) (y : Line) : y ∈ listF l ↔ In l y.path y.n := by
 unfold listF In
 rw [if_pos h, List.mem_flatMap]
 constructor
 · rintro ⟨s, hs, h1⟩; exact ⟨s, hs, (linesOf_mem s y).1 h1⟩
 · rintro ⟨s, hs, h1⟩; exact ⟨s, hs, (linesOf_mem s y).2 h1⟩
theorem linesOf_nodup (s : Span) : (linesOf s).Nodup := by
 unfold linesOf
 refine List.Pairwise.map _ (fun i j hij => ?_) List.nodup_range
 intro h
 simp only [Line.mk.injEq, true_and] at h
 exact hij (by omega)
theorem lines_nodup : ∀ {l : List Span}, Chain l → (l.flatMap linesOf).Nodup
 | [], _ => .nil
 | s :: l, hc => by
   obtain ⟨⟨hs, hsl⟩, hc'⟩ := chain_cons.1 hc
   rw [List.flatMap_cons]
   refine List.nodup_append.2 ⟨linesOf_nodup s, lines_nodup hc', fun y hy z hz e => ?_⟩
   subst e
   have h1 := (linesOf_mem s y).1 hy
   obtain ⟨t, ht, h2⟩ := List.mem_flatMap.1 hz
   have h3 := bh_pts (hsl t ht) h1 ((linesOf_mem t y).1 h2)
   rcases h3 with h3 | ⟨_, h3⟩
   · exact sl_irrefl _ h3
   · omega
theorem list_nodup {l : List Span} (h : validF l = true) : (listF l).Nodup := by
 unfold listF
 rw [if_pos h]
 exact lines_nodup ((valid_chain l).1 h).1
theorem mergeR_nil1 (b : List Line) : mergeR [] b = b := by rw [mergeR]
theorem mergeR_nil2 (a : List Line) : mergeR a [] = a := by cases a <;> rw [mergeR]
theorem mergeR_cons (x y : Line) (a b : List Line) : mergeR (x :: a) (y :: b) = if beforeF x y then x :: mergeR a (y :: b) else y :: mergeR (x :: a) b := by rw [mergeR]
theorem mergeR_perm : ∀ (a b : List Line), (mergeR a b).Perm (a ++ b)
 | [], b => by rw [mergeR_nil1]; exact .refl _
 | x :: a, [] => by rw [mergeR_nil2, List.append_nil]
 | x :: a, y :: b => by
   rw [mergeR_cons]
   split
   · exact (mergeR_perm a (y :: b)).cons x
   · exact ((mergeR_perm (x :: a) b).cons y).trans List.perm_middle.symm
termination_by a b => a.length + b.length
theorem mergeR_sorted : ∀ {a b : List Line}, LSorted a → LSorted b → LSorted (mergeR a b)
 | [], b, _, hb => by rw [mergeR_nil1]; exact hb
 | x :: a, [], ha, _ => by rw [mergeR_nil2]; exact ha
 | x :: a, y :: b, ha, hb => by
   have ha' := List.pairwise_cons.1 ha
   have hb' := List.pairwise_cons.1 hb
   rw [mergeR_cons]
   split
   · next h =>
     refine List.pairwise_cons.2 ⟨fun z hz => ?_, mergeR_sorted ha'.2 hb⟩
     rcases List.mem_append.1 ((mergeR_perm _ _).mem_iff.1 hz) with hz | hz
     · exact ha'.1 z hz
     · rcases List.mem_cons.1 hz with rfl | hz
       · exact before_asymm h
       · exact before_ntrans (hb'.1 z hz) (before_asymm h)
   · next h =>
     have h : beforeF x y = false := by simpa using h
     refine List.pairwise_cons.2 ⟨fun z hz => ?_, mergeR_sorted ha hb'.2⟩
     rcases List.mem_append.1 ((mergeR_perm _ _).mem_iff.1 hz) with hz | hz
     · rcases List.mem_cons.1 hz with rfl | hz
       · exact h
       · exact before_ntrans (ha'.1 z hz) h
     · exact hb'.1 z hz
termination_by a b => a.length + b.length
theorem mergeR_len (a b : List Line) : (mergeR a b).length = a.length + b.length := by rw [(mergeR_perm a b).length_eq]; simp
theorem linesOf_sorted (s : Span) : LSorted (linesOf s) := by
 show List.Pairwise _ _
 unfold linesOf
 rw [List.pairwise_map]
 refine List.Pairwise.imp ?_ List.pairwise_lt_range
 intro i j hij
 rw [before_false]
 rintro (h | ⟨_, h⟩)
 · exact sl_irrefl _ h
 · simp only at h; omega
theorem lines_sorted : ∀ {l : List Span}, Chain l → LSorted (l.flatMap linesOf)
 | [], _ => .nil
 | s :: l, hc => by
   obtain ⟨⟨hs, hsl⟩, hc'⟩ := chain_cons.1 hc
   show List.Pairwise _ _
   rw [List.flatMap_cons, List.pairwise_append]
   refine ⟨linesOf_sorted s, lines_sorted hc', fun y hy z hz => ?_⟩
   obtain ⟨t, ht, h2⟩ := List.mem_flatMap.1 hz
   have h3 := bh_pts (hsl t ht) ((linesOf_mem s y).1 hy) ((linesOf_mem t z).1 h2)
   refine before_asymm ((before_iff _ _).2 ?_)
   exact pl_trans (.inr ⟨rfl, by omega⟩) h3
theorem list_sorted {l : List Span} (h : validF l = true) : LSorted (listF l) := by
 unfold listF
 rw [if_pos h]
 exact lines_sorted ((valid_chain l).1 h).1
theorem list_lines {l : List Span} (h : validF l = true) : ∀ y ∈ listF l, spanR (unit y) = true ∧ inI (y.n + 1) := by
 intro y hy
 obtain ⟨s, hs, h1, h2, h3⟩ := (list_mem h y).1 hy
 have h4 := valid_span h s hs
 have h5 := span_inside h4
 refine ⟨span_path.2 ⟨?_, ?_⟩, by omega⟩
 · have := (span_path.1 h4).1
   rw [h1] at this; exact this
 · unfold insideF unit
   simp only [Bool.and_eq_true, decide_eq_true_eq]
   omega
theorem pack_valid {r : List Line} (hs : LSorted r) (h : ∀ y ∈ r, spanR (unit y) = true) : validF (packF r) = true ∧ ∀ p n, In (packF r) p n ↔ InL r p n := by
 have := pack_facts (fun s => spanR s = true) ok_merge hs h
 exact ⟨(valid_chain _).2 ⟨this.1, this.2.2⟩, this.2.1⟩
theorem rmerge_ok (a b : List Line) (Q : List Line → Prop) (hp0 : a.length ≤ 2000000) (hp1 : b.length ≤ 2000000) (h : Q (mergeR a b)) : rmerge_vc a b Q := by
 refine lfp3 (rmerge_L1 a b Q) (fun out i k => 0 ≤ i ∧ 0 ≤ k ∧ i ≤ a.length ∧ k ≤ b.length ∧ (out.length : Int) = i + k ∧ out ++ mergeR (a.drop i.toNat) (b.drop k.toNat) = mergeR a b) (fun _ i k => (a.length + b.length - i - k).toNat) (fun out i k hst again hag => ?_) ⟨by simp, by simp, by simp, by simp, by simp, by simp⟩
 obtain ⟨h0, h1, h2, h3, h4, h5⟩ := hst
 refine ⟨fun hc => ⟨fun _ hi => ⟨by omega, by omega⟩, fun hx => ⟨by omega, ⟨?_, ?_⟩, by omega, hag _ _ _ ⟨by omega, by omega, by omega, by omega, ?_, ?_⟩ (by omega)⟩, fun hy => ⟨by omega, ⟨?_, ?_⟩, by omega, hag _ _ _ ⟨by omega, by omega, by omega, by omega, ?_, ?_⟩ (by omega)⟩⟩, fun hn => ?_⟩
 · simp only [List.length_cons, List.length_nil]; omega
 · simp only [List.length_cons, List.length_nil]; omega
 · simp only [List.length_append, List.length_cons, List.length_nil]; omega
 · have e : mergeR (a.drop i.toNat) (b.drop k.toNat) = gi a i :: mergeR (a.drop (i + 1).toNat) (b.drop k.toNat) := by
     rcases hx with hx | hx
     · rw [drop_end (l := b) (x := k) (by omega), mergeR_nil2, mergeR_nil2, drop_gi (by omega)]
     · by_cases hk : k < b.length
       · rw [drop_gi (l := a) (x := i) (by omega), drop_gi (l := b) (x := k) (by omega), mergeR_cons, if_pos hx.2]
       · rw [drop_end (l := b) (x := k) (by omega), mergeR_nil2, mergeR_nil2, drop_gi (by omega)]
   rw [e] at h5
   simpa using h5
 · simp only [List.length_cons, List.length_nil]; omega
 · simp only [List.length_cons, List.length_nil]; omega
 · simp only [List.length_append, List.length_cons, List.length_nil]; omega
 · have e : mergeR (a.drop i.toNat) (b.drop k.toNat) = gi b k :: mergeR (a.drop i.toNat) (b.drop (k + 1).toNat) := by
     by_cases hi : i < a.length
     · rw [drop_gi (l := a) (x := i) (by omega), drop_gi (l := b) (x := k) (by omega), mergeR_cons, if_neg]
       rcases hy.2 with h6 | h6
       · omega
       · rw [h6]; simp
     · rw [drop_end (l := a) (x := i) hi, mergeR_nil1, mergeR_nil1, drop_gi (by omega)]
   rw [e] at h5
   simpa using h5
 · rw [drop_end (l := a) (x := i) (by omega), mergeR_nil1, drop_end (l := b) (x := k) (by omega), List.append_nil] at h5
   rw [← h5] at h
   exact h
theorem rjoin_ok (a b : List Span) (Q : List Span → Prop) (va : validF a = true) (vb : validF b = true) (la : a.length ≤ 100) (lb : b.length ≤ 100) (h : Q (mergeF (a ++ b))) : rjoin_vc a b Q := by
 have h1 := list_len la
 have h2 := list_len lb
 have hl := mergeR_len (listF a) (listF b)
 have hm : ∀ y ∈ mergeR (listF a) (listF b), spanR (unit y) = true ∧ inI (y.n + 1) := by
   intro y hy
   rcases List.mem_append.1 ((mergeR_perm _ _).mem_iff.1 hy) with hy | hy
   · exact list_lines va y hy
   · exact list_lines vb y hy
 have hp := pack_valid (mergeR_sorted (list_sorted va) (list_sorted vb)) (fun y hy => (hm y hy).1)
 have e : packF (mergeR (listF a) (listF b)) = mergeF (a ++ b) := valid_ext hp.1 (union_valid va vb) fun p n => by
   rw [hp.2, union_in va vb]
   unfold InL
   constructor
   · rintro ⟨y, hy, rfl, rfl⟩
     rcases List.mem_append.1 ((mergeR_perm _ _).mem_iff.1 hy) with hy | hy
     · exact .inl ((list_mem va y).1 hy)
     · exact .inr ((list_mem vb y).1 hy)
   · rintro (h | h)
     · exact ⟨⟨p, n⟩, (mergeR_perm _ _).mem_iff.2 (List.mem_append.2 (.inl ((list_mem va ⟨p, n⟩).2 h))), rfl, rfl⟩
     · exact ⟨⟨p, n⟩, (mergeR_perm _ _).mem_iff.2 (List.mem_append.2 (.inr ((list_mem vb ⟨p, n⟩).2 h))), rfl, rfl⟩
 exact ⟨by omega, valid_sizes va, by omega, valid_sizes vb, by omega, by omega, by omega, fun y hy => (hm y hy).2, by rw [e]; exact h⟩
theorem wordsA_line : ∀ {l : List Lexeme} {least : Int}, wordsF least l = true → ∀ w ∈ l, least ≤ w.line ∧ w.line < 1024
 | [], _, _, w, hw => by cases hw
 | x :: l, least, h, w, hw => by
   rw [wordsF, Bool.and_eq_true] at h
   obtain ⟨h1, h2⟩ := h
   unfold wordF at h1
   simp only [Bool.and_eq_true, decide_eq_true_eq] at h1
   rcases List.mem_cons.1 hw with rfl | hw
   · omega
   · have := wordsA_line h2 w hw
     omega
theorem wordsA_pair : ∀ {l : List Lexeme} {least : Int}, wordsF least l = true → l.Pairwise (fun a b => a.line ≤ b.line)
 | [], _, _ => .nil
 | x :: l, least, h => by
   rw [wordsF, Bool.and_eq_true] at h
   exact List.pairwise_cons.2 ⟨fun y hy => (wordsA_line h.2 y hy).1, wordsA_pair h.2⟩
theorem valid_parts {t : Text} (h : validT t = true) : t.words.length ≤ 8192 ∧ pathB t.path = true ∧ wordsF 0 t.words = true := by
 unfold validT at h
 simp only [Bool.and_eq_true, decide_eq_true_eq] at h
 exact ⟨h.1.1, h.1.2, h.2⟩
theorem pack_of_sorted {l : List Line} (hs : LSorted l) : packF l = mergeF (l.map unit) := by
 have h := pack_facts (fun _ => True) (fun _ _ _ _ => trivial) hs (fun _ _ => trivial)
 refine chain_ext h.1 (merge_chain unit_ne) fun p n => ?_
 rw [h.2.1, merge_in unit_ne, in_unit]
theorem ofF_lines {t : Text} (hv : validT t = true) {l : List Lexeme} (hl : l.Sublist t.words) : ofF (linesW t l) = (packF (linesW t l), 0) := by
 obtain ⟨v1, v2, v3⟩ := valid_parts hv
 have hr : ∀ x ∈ linesW t l, rightF x = true := fun x hx => by
   unfold linesW at hx
   obtain ⟨w, hw, rfl⟩ := List.mem_map.1 hx
   have := wordsA_line v3 w (hl.subset hw)
   unfold rightF
   simp only [Bool.and_eq_true, decide_eq_true_eq]
   exact ⟨v2, by omega, by omega⟩
 have hs : LSorted (linesW t l) := by
   unfold linesW LSorted
   rw [List.pairwise_map]
   refine ((wordsA_pair v3).sublist hl).imp fun {a b} hab => ?_
   rw [before_false]
   unfold PLt
   rintro (hh | hh)
   · simp only at hh; exact sl_irrefl _ hh
   · simp only at hh; omega
 have hf : (linesW t l).find? badLine = none := by
   rw [List.find?_eq_none]
   intro x hx; rw [bad_line, hr x hx]; simp
 unfold ofF
 rw [hf]
 simp only
 have e : (linesW t l).map unitW = (linesW t l).map unit := List.map_congr_left fun x hx => unitW_unit (hr x hx)
 rw [e, ← pack_of_sorted hs]
end Go.Lic
