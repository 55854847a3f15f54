/-
  The conditions of functions of chapter 16 that chapter 30 uses hold. No program in sight.
-/
import Derived.Test.YtglclijalehcmaaGreatDoorTl
import Derived.Test.YtglclijalehcmaaGreatDoorCo0
set_option linter.all false
namespace Go.Lic
open Go.Proofs Go.Sort Go.Shelf
theorem eqSpan_iff (a b : Span) : eqSpan a b = true ↔ a = b := by
 obtain ⟨a1, a2, a3⟩ := a; obtain ⟨b1, b2, b3⟩ := b
 simp [eqSpan]
theorem eqSpans_ok (s1 : (List Span)) (s2 : (List Span)) (Q : Bool → Prop) (hp0 : s1.length ≤ 9223372036854775807) (h : Q ((decide (s1 = s2)))) : eqSpans_vc s1 s2 Q := eq_gen eqSpan eqSpan_iff s1 s2 Q hp0 h
theorem sorti_ok (data : (List Span)) (a : Int) (b : Int) (p : Span → Span → Int) (pD : Span → Span → Prop) (Q : Unit → Prop) (hp0 : data = ([] : List Span)) (hp1 : a = (0 : Int)) (hp2 : b = (0 : Int)) (h : Q ()) : sorti_vc data a b p pD Q := by
 subst hp0 hp1 hp2
 refine ⟨by omega, fun I hI => hI _ ⟨fun h => by omega, fun _ => h⟩⟩
theorem sortp_ok (data : (List Span)) (a : Int) (b : Int) (limit : Int) (p : Span → Span → Int) (pD : Span → Span → Prop) (Q : Unit → Prop) (hp0 : data = ([] : List Span)) (hp1 : a = (0 : Int)) (hp2 : b = (0 : Int)) (h : Q ()) : sortp_vc data a b limit p pD Q := by
 subst hp0 hp1 hp2
 exact fun I hI => hI _ ⟨by omega, fun _ => ⟨rfl, rfl, rfl, h⟩, fun hn => absurd hn (by omega)⟩
theorem sort0_ok (x : (List Span)) (p : Span → Span → Int) (pD : Span → Span → Prop) (Q : Unit → Prop) (hp0 : x = ([] : List Span)) (h : Q (())) : sort0_vc x p pD Q := by
 subst hp0
 exact ⟨by decide, by decide, rfl, rfl, rfl, h⟩
theorem inside_ok (s_ : Span) (Q : Bool → Prop) (h : Q (insideF s_)) : inside_vc s_ Q := h
theorem behind_ok (a : Span) (b : Span) (Q : Bool → Prop) (h : Q (behindF a b)) : behind_vc a b Q := h
theorem merge1_ok (a : Span) (b : Span) (Q : Int → Prop) (h : Q (spanCmp a b)) : merge1_vc a b Q := ⟨by simp, h⟩
def merge_L1S (S : List Span) (Q : (List Span) → Prop) (again3 : (List Span) × Int → Prop) (out : (List Span)) (x : Int) : Prop :=
 ((x < (S.length : Int) → (inL x S.length ∧ (inI ((out.length : Int) - 1) ∧ ((((out.length : Int) - 1) ≥ 0 → inL ((out.length : Int) - 1) out.length) ∧ (((((out.length : Int) - 1) ≥ 0 ∧ (behindF (gi out ((out.length : Int) - 1)) (gi S x)) = false) → (inL ((out.length : Int) - 1) out.length ∧ (inI (x + 1) ∧ again3 ((si out ((out.length : Int) - 1) (Span.mk ((gi out ((out.length : Int) - 1)).path) ((gi out ((out.length : Int) - 1)).from_) (gmax ((gi out ((out.length : Int) - 1)).to) [(gi S x).to]))), (x + 1))))) ∧ ((¬ ((out.length : Int) - 1) ≥ 0 ∨ (behindF (gi out ((out.length : Int) - 1)) (gi S x)) = true) → (((out.length + ([(gi S x)] : List Span).length) * 32 ≤ 140737488355328 ∧ out.length + ([(gi S x)] : List Span).length ≤ 9223372036854775807) ∧ (inI (x + 1) ∧ again3 ((out ++ ([(gi S x)] : List Span)), (x + 1)))))))))) ∧ (¬ x < (S.length : Int) → Q out))
theorem merge_ok (l : (List Span)) (Q : (List Span) → Prop) (hp0 : l.length ≤ 1000000) (h : Q (mergeF l)) : merge_vc l Q := by
 refine ⟨⟨spanCmp_swo, by omega⟩, ?_⟩
 have hl := sortF_len spanCmp_swo l
 have hS : (sortF spanCmp l).foldl mergeStep [] = mergeF l := rfl
 show lfp (S := List Span × Int) (fun again ss => merge_L1 l Q again ss.1 ss.2) ([], 0)
 have hb : ∀ (again : List Span × Int → Prop) out x, merge_L1S (sortF spanCmp l) Q again out x → merge_L1 l Q again out x := fun _ _ _ h => h
 generalize sortF spanCmp l = S at hl hS hb
 refine lfp2 (merge_L1 l Q) (fun out x => 0 ≤ x ∧ x ≤ S.length ∧ (out.length : Int) ≤ x ∧ (S.drop x.toNat).foldl mergeStep out = mergeF l) (fun _ x => (S.length - x).toNat) (fun out x hst again hag => ?_) ⟨by simp, by simp, by simp, hS⟩
 obtain ⟨h0, h1, h2, h3⟩ := hst
 refine hb _ _ _ ?_
 refine ⟨fun hlt => ⟨by omega, by omega, fun hg => by omega, fun hc => ⟨by omega, by omega, hag _ _ ⟨by omega, by omega, by rw [si_length]; omega, ?_⟩ (by omega)⟩, fun hc => ⟨⟨?_, ?_⟩, by omega, hag _ _ ⟨by omega, by omega, ?_, ?_⟩ (by omega)⟩⟩, fun hn => ?_⟩
 · rw [drop_gi (by omega), List.foldl_cons] at h3
   have e : mergeStep out (gi S x) = si out ((out.length : Int) - 1) ⟨(lastD out).path, (lastD out).from_, gmax (lastD out).to [(gi S x).to]⟩ := by
     unfold mergeStep
     exact if_pos ⟨by omega, hc.2⟩
   rw [e] at h3
   exact h3
 · simp only [List.length_cons, List.length_nil]; omega
 · simp only [List.length_cons, List.length_nil]; omega
 · simp only [List.length_append, List.length_cons, List.length_nil]; omega
 · rw [drop_gi (by omega), List.foldl_cons] at h3
   have e : mergeStep out (gi S x) = out ++ [gi S x] := by
     unfold mergeStep
     refine if_neg ?_
     rintro ⟨h4, h5⟩
     rcases hc with hc | hc
     · omega
     · unfold lastD at h5; rw [hc] at h5; cases h5
   rw [e] at h3
   exact h3
 · rw [drop_end hn] at h3
   rw [← h3] at h
   exact h
theorem valid_iff (l : List Span) : validF l = true ↔ ∀ x : Int, 0 ≤ x → x < l.length → spanR (gi l x) = true ∧ (x > 0 → behindF (gi l (x - 1)) (gi l x) = true) := by
 unfold validF
 rw [List.all_eq_true]
 constructor
 · intro h x h0 h1
   have := h x.toNat (List.mem_range.2 (by omega))
   unfold chainB at this
   rw [show ((x.toNat : Nat) : Int) = x by omega] at this
   simp only [Bool.and_eq_true, Bool.or_eq_true, beq_iff_eq] at this
   refine ⟨this.1, fun hx => ?_⟩
   rcases this.2 with h2 | h2
   · omega
   · exact h2
 · intro h i hi
   have hi := List.mem_range.1 hi
   have := h (i : Int) (by omega) (by omega)
   unfold chainB
   simp only [Bool.and_eq_true, Bool.or_eq_true, beq_iff_eq]
   refine ⟨this.1, ?_⟩
   by_cases e : i = 0
   · exact .inl e
   · exact .inr (this.2 (by omega))
theorem valid_bad {l : List Span} {x : Int} (hx : inL x l.length) (h : spanR (gi l x) = false ∨ (x > 0 ∧ behindF (gi l (x - 1)) (gi l x) = false)) : validF l = false := by
 cases hv : validF l with
 | false => rfl
 | true =>
   have := (valid_iff l).1 hv x hx.1 hx.2
   rcases h with h | ⟨h1, h⟩
   · rw [this.1] at h; cases h
   · rw [this.2 h1] at h; cases h
theorem span_path {s : Span} : spanR s = true ↔ pathF s.path = 0 ∧ insideF s = true := by
 unfold spanR pathF
 cases pathB s.path <;> simp
theorem valid_ok (l : (List Span)) (Q : Bool → Prop) (hp0 : l.length ≤ 1000000) (hp1 : ∀ x ∈ l, x.path.size ≤ 1000000) (h : Q (validF l)) : valid_vc l Q := by
 refine lfp_of (fun x : Int => 0 ≤ x ∧ x ≤ l.length ∧ ∀ j : Int, 0 ≤ j → j < x → spanR (gi l j) = true ∧ (j > 0 → behindF (gi l (j - 1)) (gi l j) = true)) (fun x => (l.length - x).toNat) (fun x hx again hag => ?_) ⟨by omega, by omega, fun j _ _ => by omega⟩
 obtain ⟨h0, h1, h2⟩ := hx
 refine ⟨fun hlt => ⟨by omega, fun _ hx => by omega, fun _ => hp1 _ (gi_mem (by omega)), fun hb => ?_, fun hg => ⟨by omega, hag _ ⟨by omega, by omega, fun j hj hj2 => ?_⟩ (by omega)⟩⟩, fun hn => ?_⟩
 · have : validF l = false := by
     refine valid_bad (x := x) (by omega) ?_
     rcases hb with (hb | hb) | hb
     · left
       cases hs : spanR (gi l x) with
       | false => rfl
       | true => rw [(span_path.1 hs).2] at hb; cases hb
     · exact .inr hb
     · left
       cases hs : spanR (gi l x) with
       | false => rfl
       | true => exact absurd (span_path.1 hs).1 hb
   rwa [this] at h
 · by_cases e : j = x
   · subst e
     refine ⟨span_path.2 ⟨hg.2, hg.1.1⟩, fun hj0 => ?_⟩
     rcases hg.1.2 with h3 | h3
     · omega
     · exact h3
   · exact h2 j hj (by omega)
 · have : validF l = true := (valid_iff l).2 fun j h3 h4 => h2 j h3 (by omega)
   rwa [this] at h
theorem valid_span {l : List Span} (h : validF l = true) : ∀ s ∈ l, spanR s = true := by
 intro s hs
 obtain ⟨i, hi, rfl⟩ := List.getElem_of_mem hs
 have := ((valid_iff l).1 h (i : Int) (by omega) (by omega)).1
 rwa [gi_nat hi] at this
theorem span_inside {s : Span} (h : spanR s = true) : 0 ≤ s.from_ ∧ s.from_ < s.to ∧ s.to ≤ 1024 := by
 have := (span_path.1 h).2
 unfold insideF at this
 simp only [Bool.and_eq_true, decide_eq_true_eq] at this
 exact ⟨this.1.1, this.1.2, this.2⟩
theorem of_ok (l : (List Line)) (Q : (List Span) × Int → Prop) (hp0 : l.length ≤ 1000000) (hp1 : ∀ x ∈ l, x.path.size ≤ 1000000) (h : Q (ofF l)) : of_vc l Q := by
 refine ⟨⟨⟨by omega, by omega⟩, by omega, by omega⟩, ?_⟩
 refine lfp2 (of_L1 l Q) (fun out x => 0 ≤ x ∧ x ≤ l.length ∧ (out.length : Int) = x ∧ (ofF l = match (l.drop x.toNat).find? badLine with | some x => ([], if pathB x.path then 3 else 2) | none => (mergeF (out ++ (l.drop x.toNat).map unitW), 0))) (fun _ x => (l.length - x).toNat) (fun out x hst again hag => ?_) ⟨by simp, by simp, by simp, rfl⟩
 obtain ⟨h0, h1, h2, h3⟩ := hst
 have eu : (Span.mk ((gi l x).path) ((gi l x).n) (IntKind.i64.wrap (((gi l x).n) + 1))) = unitW (gi l x) := rfl
 unfold of_L1
 simp only [eu]
 refine ⟨fun hlt => ⟨by omega, hp1 _ (gi_mem (by omega)), fun hp => ?_, fun hp => ⟨fun hi => ?_, fun hi => ⟨⟨?_, ?_⟩, hag _ _ ⟨?_, ?_, ?_, ?_⟩ ?_⟩⟩⟩, fun hn => ?_⟩
 · have hb : pathB (gi l x).path = false := by
     cases hh : pathB (gi l x).path with
     | false => rfl
     | true => exact absurd (by unfold pathF; rw [hh]; rfl) hp
   have hbad : badLine (gi l x) = true := by unfold badLine; rw [hb]; rfl
   rw [h3, drop_gi (by omega), List.find?_cons, hbad] at h
   simp only [hb] at h
   exact h
 · have hb : pathB (gi l x).path = true := by
     cases hh : pathB (gi l x).path with
     | true => rfl
     | false => unfold pathF at hp; rw [hh] at hp; cases hp
   have hbad : badLine (gi l x) = true := by unfold badLine; rw [hi, hb]; rfl
   rw [h3, drop_gi (by omega), List.find?_cons, hbad] at h
   simp only [hb] at h
   exact h
 · simp only [List.length_cons, List.length_nil]; omega
 · simp only [List.length_cons, List.length_nil]; omega
 · rw [wrap_small (by omega)]; omega
 · rw [wrap_small (by omega)]; omega
 · simp only [List.length_append, List.length_cons, List.length_nil]; rw [wrap_small (by omega)]; omega
 · have hb : pathB (gi l x).path = true := by
     cases hh : pathB (gi l x).path with
     | true => rfl
     | false => unfold pathF at hp; rw [hh] at hp; cases hp
   have hbad : badLine (gi l x) = false := by unfold badLine; rw [hi, hb]; rfl
   rw [wrap_small (by omega), h3, drop_gi (by omega), List.find?_cons, hbad]
   simp only [List.map_cons, List.append_assoc, List.cons_append, List.nil_append]
 · rw [wrap_small (by omega)]; omega
 · rw [h3, drop_end hn] at h
   simp only [List.find?_nil, List.map_nil, List.append_nil] at h
   exact ⟨by omega, h⟩
theorem count_ok (l : (List Span)) (Q : Int → Prop) (hp0 : l.length ≤ 1000) (hp1 : ∀ x ∈ l, x.path.size ≤ 1000000) (h : Q (countL l)) : count_vc l Q := by
 unfold countL at h
 refine ⟨by omega, hp1, fun hv => by rw [hv] at h; exact h, fun hv => ?_⟩
 rw [if_pos hv] at h
 refine lfp2 (count_L1 l Q) (fun n x => 0 ≤ x ∧ x ≤ l.length ∧ 0 ≤ n ∧ n ≤ x * 1024 ∧ n + ((l.drop x.toNat).map fun s => s.to - s.from_).sum = (l.map fun s => s.to - s.from_).sum) (fun _ x => (l.length - x).toNat) (fun n x hst again hag => ?_) ⟨by simp, by simp, by simp, by simp, by simp⟩
 obtain ⟨h0, h1, h2, h3, h4⟩ := hst
 refine ⟨fun hlt => ?_, fun hn => ?_⟩
 · have hs := span_inside (valid_span hv _ (gi_mem (l := l) (i := x) (by omega)))
   rw [drop_gi (by omega), List.map_cons, List.sum_cons] at h4
   exact ⟨by omega, by omega, by omega, by omega, hag _ _ ⟨by omega, by omega, by omega, by omega, by omega⟩ (by omega)⟩
 · rw [drop_end hn, List.map_nil, List.sum_nil] at h4
   rw [show n = (l.map fun s => s.to - s.from_).sum by omega]
   exact h
theorem packStep_len (o : List Span) (x : Line) : (packStep o x).length ≤ o.length + 1 := by
 unfold packStep; split
 · omega
 · split <;> simp
theorem rpack_ok (l : (List Line)) (Q : (List Span) → Prop) (hp0 : l.length ≤ 1000000) (hp1 : ∀ x ∈ l, inI (x.n + 1)) (h : Q (packF l)) : rpack_vc l Q := by
 refine lfp2 (rpack_L1 l Q) (fun out i => 0 ≤ i ∧ i ≤ l.length ∧ (out.length : Int) ≤ i ∧ (l.drop i.toNat).foldl packStep out = packF l) (fun _ i => (l.length - i).toNat) (fun out i hst again hag => ?_) ⟨by simp, by simp, by simp, rfl⟩
 obtain ⟨h0, h1, h2, h3⟩ := hst
 refine ⟨fun hlt => ?_, fun hn => ?_⟩
 · have hx := hp1 _ (gi_mem (l := l) (i := i) (by omega))
   rw [drop_gi (by omega), List.foldl_cons] at h3
   have hl := packStep_len out (gi l i)
   refine ⟨by omega, fun _ => ⟨by omega, by omega⟩, fun _ => ⟨by omega, by omega⟩, fun hc => ⟨by omega, hag _ _ ⟨by omega, by omega, by omega, ?_⟩ (by omega)⟩, fun hc => ⟨fun _ => ⟨by omega, by omega⟩, fun _ => ⟨by omega, by omega⟩, fun hd => ⟨by omega, ?_, by omega, hag _ _ ⟨by omega, by omega, by rw [si_length]; omega, ?_⟩ (by omega)⟩, fun hd => ⟨by omega, hx, ⟨?_, ?_⟩, by omega, hag _ _ ⟨by omega, by omega, ?_, ?_⟩ (by omega)⟩⟩⟩
   · have e : packStep out (gi l i) = out := by
       unfold packStep lastD
       exact if_pos ⟨by omega, hc.1.2, hc.2⟩
     rw [e] at h3; exact h3
   · have := hd.2; omega
   · have e : packStep out (gi l i) = si out ((out.length : Int) - 1) ⟨(lastD out).path, (lastD out).from_, (lastD out).to + 1⟩ := by
       have hn : ¬ (0 < out.length ∧ (lastD out).path = (gi l i).path ∧ (gi l i).n < (lastD out).to) := by
         rintro ⟨_, _, h7⟩
         have h6 := hd.2
         unfold lastD at h7
         omega
       unfold packStep
       rw [if_neg hn]
       exact if_pos ⟨by omega, hd.1.2, hd.2⟩
     rw [e] at h3; exact h3
   · simp only [List.length_cons, List.length_nil]; omega
   · simp only [List.length_cons, List.length_nil]; omega
   · simp only [List.length_append, List.length_cons, List.length_nil]; omega
   · have e : packStep out (gi l i) = out ++ [⟨(gi l i).path, (gi l i).n, (gi l i).n + 1⟩] := by
       unfold packStep
       rw [if_neg, if_neg]
       · rintro ⟨h5, h6, h7⟩
         rcases hd with (h8 | h8) | h8
         · omega
         · exact h8 h6
         · exact h8 h7
       · rintro ⟨h5, h6, h7⟩
         rcases hc with (h8 | h8) | h8
         · omega
         · exact h8 h6
         · exact h8 h7
     rw [e] at h3; exact h3
 · rw [drop_end hn] at h3
   rw [← h3] at h
   exact h
theorem inside_unit (x : Line) : insideF (unitW x) = (decide (0 ≤ x.n) && decide (x.n < 1024)) := by
 unfold insideF unitW
 simp only
 by_cases h0 : 0 ≤ x.n
 · by_cases h1 : x.n < 1024
   · rw [wrap_small (by omega)]
     rw [decide_eq_true h0, decide_eq_true h1, decide_eq_true (by omega), decide_eq_true (by omega)]; rfl
   · rw [decide_eq_true h0, decide_eq_false h1]
     by_cases h2 : x.n < IntKind.i64.wrap (x.n + 1)
     · rw [decide_eq_true h2, decide_eq_false (by omega)]; rfl
     · rw [decide_eq_false h2]; rfl
 · rw [decide_eq_false h0]; rfl
theorem bad_line (x : Line) : badLine x = !rightF x := by
 unfold badLine rightF
 rw [inside_unit]
theorem unitW_unit {x : Line} (h : rightF x = true) : unitW x = unit x := by
 unfold rightF at h
 simp only [Bool.and_eq_true, decide_eq_true_eq] at h
 unfold unitW unit
 rw [wrap_small (by omega)]
end Go.Lic
