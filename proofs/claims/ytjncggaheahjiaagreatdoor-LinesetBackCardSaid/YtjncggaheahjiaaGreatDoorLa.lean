/-
  Sets of lines: spans in order, and the plain mathematics of them.
-/
import Derived.Test.YtjncggaheahjiaaGreatDoorLm
set_option linter.all false
namespace Go.Lic
open Go.Sort Go.Proofs Go.Shelf
theorem bl_irrefl : ∀ a : List UInt8, Op.bytesLess a a = false
 | [] => rfl
 | x :: a => by simp [Op.bytesLess, UInt8.lt_irrefl, bl_irrefl a]
theorem bl_trans : ∀ a b c : List UInt8, Op.bytesLess a b = true → Op.bytesLess b c = true → Op.bytesLess a c = true
 | [], [], _, h, _ => by cases h
 | [], _ :: _, [], _, h => by cases h
 | [], _ :: _, _ :: _, _, _ => rfl
 | _ :: _, [], _, h, _ => by cases h
 | _ :: _, _ :: _, [], _, h => by cases h
 | x :: a, y :: b, z :: c, h1, h2 => by
   simp only [Op.bytesLess, Bool.or_eq_true, Bool.and_eq_true, decide_eq_true_eq, beq_iff_eq] at h1 h2 ⊢
   rcases h1 with h1 | ⟨rfl, h1⟩
   · rcases h2 with h2 | ⟨rfl, h2⟩
     · exact .inl (UInt8.lt_trans h1 h2)
     · exact .inl h1
   · rcases h2 with h2 | ⟨rfl, h2⟩
     · exact .inl h2
     · exact .inr ⟨rfl, bl_trans a b c h1 h2⟩
theorem bl_tri : ∀ a b : List UInt8, Op.bytesLess a b = true ∨ a = b ∨ Op.bytesLess b a = true
 | [], [] => .inr (.inl rfl)
 | [], _ :: _ => .inl rfl
 | _ :: _, [] => .inr (.inr rfl)
 | x :: a, y :: b => by
   simp only [Op.bytesLess, Bool.or_eq_true, Bool.and_eq_true, decide_eq_true_eq, beq_iff_eq, List.cons.injEq]
   by_cases h : x = y
   · subst h
     rcases bl_tri a b with h1 | h1 | h1
     · exact .inl (.inr ⟨rfl, h1⟩)
     · exact .inr (.inl ⟨rfl, h1⟩)
     · exact .inr (.inr (.inr ⟨rfl, h1⟩))
   · rcases UInt8.lt_or_lt_of_ne h with h1 | h1
     · exact .inl (.inl h1)
     · exact .inr (.inr (.inl h1))
theorem cb_eq : ∀ a b : List UInt8, Lib.compareBytes a b = if Op.bytesLess a b = true then -1 else if a = b then 0 else 1
 | [], [] => rfl
 | [], _ :: _ => rfl
 | _ :: _, [] => by simp [Lib.compareBytes, Op.bytesLess]
 | x :: a, y :: b => by
   simp only [Lib.compareBytes, Op.bytesLess, Bool.or_eq_true, Bool.and_eq_true, decide_eq_true_eq, beq_iff_eq, List.cons.injEq]
   rw [cb_eq a b]
   by_cases h : x = y
   · subst h
     simp [UInt8.lt_irrefl]
   · rcases UInt8.lt_or_lt_of_ne h with h1 | h1
     · simp [h1]
     · have : ¬ x < y := UInt8.lt_asymm h1
       simp [h1, this, h]
theorem ba_eq {a b : ByteArray} (h : a.data.toList = b.data.toList) : a = b := by
 obtain ⟨⟨a⟩⟩ := a; obtain ⟨⟨b⟩⟩ := b
 cases h; rfl
abbrev SLt (a b : ByteArray) : Prop := sless a b = true
theorem sl_irrefl (a : ByteArray) : ¬ SLt a a := by simp [sless, bl_irrefl]
theorem sl_trans {a b c : ByteArray} (h1 : SLt a b) (h2 : SLt b c) : SLt a c := bl_trans _ _ _ h1 h2
theorem sl_tri (a b : ByteArray) : SLt a b ∨ a = b ∨ SLt b a := by
 rcases bl_tri a.data.toList b.data.toList with h | h | h
 · exact .inl h
 · exact .inr (.inl (ba_eq h))
 · exact .inr (.inr h)
theorem cmpB_eq (a b : ByteArray) : cmpB a b = if sless a b = true then -1 else if a = b then 0 else 1 := by
 unfold cmpB
 rw [cb_eq]
 by_cases h : a = b
 · subst h; simp [sless]
 · have : ¬ a.data.toList = b.data.toList := fun e => h (ba_eq e)
   simp [sless, h, this]
def PLt (p : ByteArray) (n : Int) (q : ByteArray) (m : Int) : Prop := SLt p q ∨ (p = q ∧ n < m)
theorem pl_irrefl (p : ByteArray) (n : Int) : ¬ PLt p n p n := by
 rintro (h | ⟨_, h⟩)
 · exact sl_irrefl _ h
 · omega
theorem pl_trans {p q r : ByteArray} {n m k : Int} (h1 : PLt p n q m) (h2 : PLt q m r k) : PLt p n r k := by
 rcases h1 with h1 | ⟨rfl, h1⟩
 · rcases h2 with h2 | ⟨rfl, h2⟩
   · exact .inl (sl_trans h1 h2)
   · exact .inl h1
 · rcases h2 with h2 | ⟨rfl, h2⟩
   · exact .inl h2
   · exact .inr ⟨rfl, by omega⟩
theorem pl_tri (p : ByteArray) (n : Int) (q : ByteArray) (m : Int) : PLt p n q m ∨ (p = q ∧ n = m) ∨ PLt q m p n := by
 rcases sl_tri p q with h | rfl | h
 · exact .inl (.inl h)
 · rcases Int.lt_trichotomy n m with h | h | h
   · exact .inl (.inr ⟨rfl, h⟩)
   · exact .inr (.inl ⟨rfl, h⟩)
   · exact .inr (.inr (.inr ⟨rfl, h⟩))
 · exact .inr (.inr (.inl h))
abbrev SpLt (a b : Span) : Prop := PLt a.path a.from_ b.path b.from_
theorem spanCmp_neg (a b : Span) : spanCmp a b < 0 ↔ SpLt a b := by
 have e : spanCmp a b = if cmpB a.path b.path ≠ 0 then cmpB a.path b.path else if cmpI a.from_ b.from_ ≠ 0 then cmpI a.from_ b.from_ else 0 := by
   unfold spanCmp orF
   by_cases h1 : cmpB a.path b.path = 0
   · by_cases h2 : cmpI a.from_ b.from_ = 0
     · simp [h1, h2]
     · simp [h1, h2]
   · simp [h1]
 rw [e, cmpB_eq]
 unfold SpLt PLt cmpI SLt
 by_cases h : sless a.path b.path = true
 · simp [h]
 · by_cases h2 : a.path = b.path
   · rw [h2]
     have : ¬ (sless b.path b.path = true) := sl_irrefl _
     simp only [this, if_false, if_true, ne_eq, not_true, false_or, true_and]
     by_cases h3 : a.from_ < b.from_
     · simp [h3]
     · by_cases h4 : b.from_ < a.from_
       · simp [h3, h4]
       · simp [h3, h4]
   · simp [h, h2]
theorem ltOf_iff (a b : Span) : ltOf spanCmp a b = true ↔ SpLt a b := by
 unfold ltOf
 rw [decide_eq_true_eq]
 exact spanCmp_neg a b
theorem ltOf_false (a b : Span) : ltOf spanCmp a b = false ↔ ¬ SpLt a b := by
 rw [← ltOf_iff]; simp
theorem pl_ntrans {p q r : ByteArray} {n m k : Int} (h1 : ¬ PLt p n q m) (h2 : ¬ PLt q m r k) : ¬ PLt p n r k := by
 intro h3
 rcases pl_tri p n q m with h | ⟨rfl, rfl⟩ | h
 · exact h1 h
 · exact h2 h3
 · exact h2 (pl_trans h h3)
theorem spanCmp_swo : SWO (ltOf spanCmp) where
 irrefl a := (ltOf_false _ _).2 (pl_irrefl _ _)
 trans a b c h1 h2 := (ltOf_iff _ _).2 (pl_trans ((ltOf_iff _ _).1 h1) ((ltOf_iff _ _).1 h2))
 ntrans a b c h1 h2 := (ltOf_false _ _).2 (pl_ntrans ((ltOf_false _ _).1 h1) ((ltOf_false _ _).1 h2))
abbrev Sorted (l : List Span) : Prop := l.Pairwise fun a b => ¬ SpLt b a
theorem sortF_pairwise (l : List Span) : Sorted (sortF spanCmp l) := by
 show List.Pairwise _ _
 rw [List.pairwise_iff_getElem]
 intro i j hi hj hij
 have := sortF_sorted spanCmp_swo l i j hij (by rw [sortF_len spanCmp_swo] at hj; exact hj)
 rw [getElem!_pos (sortF spanCmp l) i hi, getElem!_pos (sortF spanCmp l) j hj] at this
 rwa [spanCmp_neg] at this
abbrev Bh (a b : Span) : Prop := behindF a b = true
theorem bh_iff (a b : Span) : Bh a b ↔ PLt a.path a.to b.path b.from_ := by
 unfold Bh behindF PLt
 simp
theorem bh_false (a b : Span) : behindF a b = false ↔ ¬ PLt a.path a.to b.path b.from_ := by
 rw [← bh_iff]; simp [Bh]
abbrev NeS (s : Span) : Prop := s.from_ < s.to
structure Chain (l : List Span) : Prop where
 bh : l.Pairwise Bh
 ne : ∀ s ∈ l, NeS s
def inSpan (s : Span) (p : ByteArray) (n : Int) : Prop := s.path = p ∧ s.from_ ≤ n ∧ n < s.to
def In (l : List Span) (p : ByteArray) (n : Int) : Prop := ∃ s ∈ l, inSpan s p n
theorem in_nil (p : ByteArray) (n : Int) : ¬ In [] p n := by rintro ⟨s, h, _⟩; cases h
theorem in_cons (s : Span) (l : List Span) (p : ByteArray) (n : Int) : In (s :: l) p n ↔ inSpan s p n ∨ In l p n := by
 simp [In]
theorem in_app (a b : List Span) (p : ByteArray) (n : Int) : In (a ++ b) p n ↔ In a p n ∨ In b p n := by
 simp only [In, List.mem_append]
 constructor
 · rintro ⟨s, h | h, h2⟩
   · exact .inl ⟨s, h, h2⟩
   · exact .inr ⟨s, h, h2⟩
 · rintro (⟨s, h, h2⟩ | ⟨s, h, h2⟩)
   · exact ⟨s, .inl h, h2⟩
   · exact ⟨s, .inr h, h2⟩
theorem in_one (s : Span) (p : ByteArray) (n : Int) : In [s] p n ↔ inSpan s p n := by simp [In]
theorem in_perm {a b : List Span} (h : a.Perm b) (p : ByteArray) (n : Int) : In a p n ↔ In b p n := by
 unfold In
 constructor
 · rintro ⟨s, h1, h2⟩; exact ⟨s, h.mem_iff.1 h1, h2⟩
 · rintro ⟨s, h1, h2⟩; exact ⟨s, h.mem_iff.2 h1, h2⟩
theorem bh_trans {a b c : Span} (hb : NeS b) (h1 : Bh a b) (h2 : Bh b c) : Bh a c := by
 rw [bh_iff] at *
 exact pl_trans h1 (pl_trans (.inr ⟨rfl, hb⟩) h2)
theorem bh_pts {a b : Span} (h : Bh a b) {p q : ByteArray} {n m : Int} (h1 : inSpan a p n) (h2 : inSpan b q m) : PLt p (n + 1) q m := by
 rw [bh_iff] at h
 obtain ⟨rfl, h3, h4⟩ := h1
 obtain ⟨rfl, h5, h6⟩ := h2
 rcases h with h | ⟨h, h7⟩
 · exact .inl h
 · exact .inr ⟨h, by omega⟩
theorem chain_cons {s : Span} {l : List Span} : Chain (s :: l) ↔ (NeS s ∧ (∀ t ∈ l, Bh s t)) ∧ Chain l := by
 constructor
 · rintro ⟨h1, h2⟩
   rw [List.pairwise_cons] at h1
   exact ⟨⟨h2 s (by simp), h1.1⟩, h1.2, fun t ht => h2 t (by simp [ht])⟩
 · rintro ⟨⟨h1, h2⟩, h3, h4⟩
   refine ⟨List.pairwise_cons.2 ⟨h2, h3⟩, fun t ht => ?_⟩
   rcases List.mem_cons.1 ht with rfl | ht
   · exact h1
   · exact h4 t ht
theorem chain_nil : Chain [] := ⟨.nil, fun s h => by cases h⟩
theorem chain_append {a b : List Span} : Chain (a ++ b) ↔ Chain a ∧ Chain b ∧ ∀ s ∈ a, ∀ t ∈ b, Bh s t := by
 constructor
 · rintro ⟨h1, h2⟩
   rw [List.pairwise_append] at h1
   exact ⟨⟨h1.1, fun s hs => h2 s (by simp [hs])⟩, ⟨h1.2.1, fun s hs => h2 s (by simp [hs])⟩, h1.2.2⟩
 · rintro ⟨⟨h1, h2⟩, ⟨h3, h4⟩, h5⟩
   refine ⟨List.pairwise_append.2 ⟨h1, h3, h5⟩, fun s hs => ?_⟩
   rcases List.mem_append.1 hs with hs | hs
   · exact h2 s hs
   · exact h4 s hs
theorem in_after {s : Span} {l : List Span} (h : ∀ t ∈ l, Bh s t) (hne : NeS s) {p : ByteArray} {n : Int} (hi : In l p n) : PLt s.path s.to p n := by
 obtain ⟨t, ht, h1⟩ := hi
 have := bh_pts (h t ht) (p := s.path) (n := s.to - 1) ⟨rfl, by unfold NeS at hne; omega, by omega⟩ h1
 rwa [show s.to - 1 + 1 = s.to by omega] at this
theorem chain_ext : ∀ {a b : List Span}, Chain a → Chain b → (∀ p n, In a p n ↔ In b p n) → a = b
 | [], [], _, _, _ => rfl
 | [], t :: b, _, hb, h => by
   have h1 := (chain_cons.1 hb).1.1
   exact absurd ((h t.path t.from_).2 ⟨t, by simp, rfl, by omega, h1⟩) (in_nil _ _)
 | s :: a, [], ha, _, h => by
   have h1 := (chain_cons.1 ha).1.1
   exact absurd ((h s.path s.from_).1 ⟨s, by simp, rfl, by omega, h1⟩) (in_nil _ _)
 | s :: a, t :: b, ha, hb, h => by
   obtain ⟨⟨hs, hsa⟩, ha'⟩ := chain_cons.1 ha
   obtain ⟨⟨ht, htb⟩, hb'⟩ := chain_cons.1 hb
   have h_a {p n} (hi : In a p n) : PLt s.path s.to p n := in_after hsa hs hi
   have h_b {p n} (hi : In b p n) : PLt t.path t.to p n := in_after htb ht hi
   have hss : PLt s.path s.from_ s.path s.to := .inr ⟨rfl, hs⟩
   have htt : PLt t.path t.from_ t.path t.to := .inr ⟨rfl, ht⟩
   have e1 : s.path = t.path ∧ s.from_ = t.from_ := by
     have h1 := (h s.path s.from_).1 ⟨s, by simp, rfl, by omega, hs⟩
     have h2 := (h t.path t.from_).2 ⟨t, by simp, rfl, by omega, ht⟩
     rw [in_cons] at h1 h2
     rcases h1 with ⟨h3, h4, h5⟩ | h1
     · rcases h2 with ⟨h6, h7, h8⟩ | h2
       · exact ⟨h6, by omega⟩
       · have h9 := h_a h2
         rw [h3] at h9
         rcases h9 with h9 | ⟨_, h9⟩
         · exact absurd h9 (sl_irrefl _)
         · unfold NeS at hs; omega
     · rcases h2 with ⟨h6, h7, h8⟩ | h2
       · have h9 := h_b h1
         rw [h6] at h9
         rcases h9 with h9 | ⟨_, h9⟩
         · exact absurd h9 (sl_irrefl _)
         · unfold NeS at ht; omega
       · exact absurd (pl_trans (pl_trans hss (h_a h2)) (pl_trans htt (h_b h1))) (pl_irrefl _ _)
   have e2 : s.to = t.to := by
     rcases Int.lt_trichotomy s.to t.to with hlt | heq | hlt
     · have h1 := (h s.path s.to).2 ⟨t, by simp, e1.1.symm, by unfold NeS at hs; omega, hlt⟩
       rw [in_cons] at h1
       rcases h1 with ⟨_, _, h2⟩ | h1
       · omega
       · exact absurd (h_a h1) (pl_irrefl _ _)
     · exact heq
     · have h1 := (h t.path t.to).1 ⟨s, by simp, e1.1, by unfold NeS at ht; omega, hlt⟩
       rw [in_cons] at h1
       rcases h1 with ⟨_, _, h2⟩ | h1
       · omega
       · exact absurd (h_b h1) (pl_irrefl _ _)
   have e : s = t := by
     obtain ⟨p, f, o⟩ := s; obtain ⟨p2, f2, o2⟩ := t
     simp only at e1 e2
     obtain ⟨rfl, rfl⟩ := e1
     rw [e2]
   subst e
   congr 1
   refine chain_ext ha' hb' fun p n => ?_
   have h1 := h p n
   rw [in_cons, in_cons] at h1
   have no : inSpan s p n → PLt s.path s.to p n → False := by
     rintro ⟨rfl, h3, h4⟩ (h5 | ⟨_, h5⟩)
     · exact sl_irrefl _ h5
     · omega
   constructor
   · intro hi
     rcases h1.1 (.inr hi) with h2 | h2
     · exact absurd (h_a hi) (no h2)
     · exact h2
   · intro hi
     rcases h1.2 (.inr hi) with h2 | h2
     · exact absurd (h_b hi) (no h2)
     · exact h2
theorem gi_last {α : Type} [Inhabited α] (o : List α) (t : α) : gi (o ++ [t]) (((o ++ [t]).length : Int) - 1) = t := by
 have : (((o ++ [t]).length : Int) - 1) = ((o.length : Nat) : Int) := by simp
 rw [this, gi_nat (by simp)]
 simp
theorem si_last {α : Type} (o : List α) (t v : α) : si (o ++ [t]) (((o ++ [t]).length : Int) - 1) v = o ++ [v] := by
 have : (((o ++ [t]).length : Int) - 1).toNat = o.length := by simp
 unfold si
 rw [this]
 simp
theorem gmax1 (a b : Int) : gmax a [b] = max a b := by simp only [gmax, List.foldl]; omega
theorem gmin1 (a b : Int) : gmin a [b] = min a b := by simp only [gmin, List.foldl]; omega
theorem mergeStep_nil (s : Span) : mergeStep [] s = [s] := by simp [mergeStep]
theorem mergeStep_app (o : List Span) (t s : Span) : mergeStep (o ++ [t]) s = if behindF t s = true then o ++ [t] ++ [s] else o ++ [⟨t.path, t.from_, max t.to s.to⟩] := by
 unfold mergeStep
 have e : lastD (o ++ [t]) = t := gi_last o t
 rw [e, si_last, gmax1]
 cases h : behindF t s <;> simp
theorem list_last {α : Type} (l : List α) : l = [] ∨ ∃ o t, l = o ++ [t] := by
 rcases List.eq_nil_or_concat l with h | ⟨o, t, h⟩
 · exact .inl h
 · exact .inr ⟨o, t, by simpa using h⟩
theorem merge_inv (P : Span → Prop) (hP : ∀ t s : Span, P t → P s → P ⟨t.path, t.from_, max t.to s.to⟩) : ∀ (r out : List Span), Chain out → Sorted r → (∀ s ∈ r, NeS s) → (∀ s ∈ r, ∀ t ∈ out, ¬ SpLt s t) → (∀ s ∈ out, P s) → (∀ s ∈ r, P s) →
   Chain (r.foldl mergeStep out) ∧ (∀ p n, In (r.foldl mergeStep out) p n ↔ In out p n ∨ In r p n) ∧ (∀ s ∈ r.foldl mergeStep out, P s)
 | [], out, hc, _, _, _, hp, _ => ⟨hc, fun p n => by simp [in_nil], hp⟩
 | s :: r, out, hc, hs, hn, ho, hp, hr => by
   have hs := List.pairwise_cons.1 hs
   have hns := hn s (by simp)
   have next : ∀ out', mergeStep out s = out' → Chain out' → (∀ p n, In out' p n ↔ In out p n ∨ inSpan s p n) → (∀ u ∈ r, ∀ t ∈ out', ¬ SpLt u t) → (∀ u ∈ out', P u) →
       Chain ((s :: r).foldl mergeStep out) ∧ (∀ p n, In ((s :: r).foldl mergeStep out) p n ↔ In out p n ∨ In (s :: r) p n) ∧ (∀ u ∈ (s :: r).foldl mergeStep out, P u) := by
     intro out' he h1 h2 h3 h4
     rw [List.foldl_cons, he]
     have := merge_inv P hP r out' h1 hs.2 (fun u hu => hn u (by simp [hu])) h3 h4 (fun u hu => hr u (by simp [hu]))
     refine ⟨this.1, fun p n => ?_, this.2.2⟩
     rw [this.2.1, h2, in_cons]
     simp only [or_assoc]
   rcases list_last out with rfl | ⟨o, t, rfl⟩
   · refine next _ (mergeStep_nil s) ?_ ?_ ?_ ?_
     · exact chain_cons.2 ⟨⟨hns, fun t ht => by cases ht⟩, chain_nil⟩
     · intro p n; simp [in_cons, in_nil]
     · intro u hu t ht
       simp only [List.mem_singleton] at ht
       subst ht
       exact hs.1 u hu
     · intro u hu
       simp only [List.mem_singleton] at hu
       subst hu
       exact hr _ (by simp)
   · have hc' := chain_append.1 hc
     have ht := hc.ne t (by simp)
     cases hb : behindF t s with
     | true =>
       refine next _ (by rw [mergeStep_app, if_pos hb]) ?_ ?_ ?_ ?_
       · refine chain_append.2 ⟨hc, chain_cons.2 ⟨⟨hns, fun t ht => by cases ht⟩, chain_nil⟩, fun u hu v hv => ?_⟩
         simp only [List.mem_singleton] at hv
         subst hv
         rcases List.mem_append.1 hu with hu | hu
         · exact bh_trans ht (hc'.2.2 u hu t (by simp)) hb
         · simp only [List.mem_singleton] at hu
           subst hu
           exact hb
       · intro p n; rw [in_app (o ++ [t]), in_one]
       · intro u hu v hv
         rcases List.mem_append.1 hv with hv | hv
         · exact ho u (by simp [hu]) v hv
         · simp only [List.mem_singleton] at hv
           subst hv
           exact hs.1 u hu
       · intro u hu
         rcases List.mem_append.1 hu with hu | hu
         · exact hp u hu
         · simp only [List.mem_singleton] at hu
           subst hu
           exact hr _ (by simp)
     | false =>
       have hst := ho s (by simp) t (by simp)
       rw [bh_false] at hb
       have hpath : t.path = s.path := by
         rcases sl_tri t.path s.path with h | h | h
         · exact absurd (.inl h) hb
         · exact h
         · exact absurd (.inl h) hst
       have hf1 : t.from_ ≤ s.from_ := by
         rcases Int.lt_or_le s.from_ t.from_ with h | h
         · exact absurd (.inr ⟨hpath.symm, h⟩) hst
         · exact h
       have hf2 : s.from_ ≤ t.to := by
         rcases Int.lt_or_le t.to s.from_ with h | h
         · exact absurd (.inr ⟨hpath, h⟩) hb
         · exact h
       unfold NeS at hns ht
       refine next _ (by rw [mergeStep_app, if_neg (by rw [← bh_false] at hb; simp [hb])]) ?_ ?_ ?_ ?_
       · refine chain_append.2 ⟨hc'.1, chain_cons.2 ⟨⟨?_, fun t ht => by cases ht⟩, chain_nil⟩, fun u hu v hv => ?_⟩
         · show t.from_ < max t.to s.to; omega
         · simp only [List.mem_singleton] at hv
           subst hv
           have := hc'.2.2 u hu t (by simp)
           rw [bh_iff] at this ⊢
           exact this
       · intro p n
         rw [in_app, in_app, in_one, in_one]
         have : inSpan ⟨t.path, t.from_, max t.to s.to⟩ p n ↔ inSpan t p n ∨ inSpan s p n := by
           unfold inSpan
           rw [← hpath]
           by_cases hpp : t.path = p
           · simp only [hpp, true_and]; omega
           · simp [hpp]
         rw [this, or_assoc]
       · intro u hu v hv
         rcases List.mem_append.1 hv with hv | hv
         · exact ho u (by simp [hu]) v (by simp [hv])
         · simp only [List.mem_singleton] at hv
           subst hv
           exact ho u (by simp [hu]) t (by simp)
       · intro u hu
         rcases List.mem_append.1 hu with hu | hu
         · exact hp u (by simp [hu])
         · simp only [List.mem_singleton] at hu
           subst hu
           exact hP t s (hp t (by simp)) (hr s (by simp))
theorem merge_chain {l : List Span} (h : ∀ s ∈ l, NeS s) : Chain (mergeF l) := by
 have hp := sortF_perm spanCmp_swo l
 exact (merge_inv (fun _ => True) (fun _ _ _ _ => trivial) _ [] chain_nil (sortF_pairwise l) (fun s hs => h s (hp.mem_iff.1 hs)) (fun _ _ _ h => by cases h) (fun _ _ => trivial) (fun _ _ => trivial)).1
theorem merge_in {l : List Span} (h : ∀ s ∈ l, NeS s) (p : ByteArray) (n : Int) : In (mergeF l) p n ↔ In l p n := by
 have hp := sortF_perm spanCmp_swo l
 have := (merge_inv (fun _ => True) (fun _ _ _ _ => trivial) _ [] chain_nil (sortF_pairwise l) (fun s hs => h s (hp.mem_iff.1 hs)) (fun _ _ _ h => by cases h) (fun _ _ => trivial) (fun _ _ => trivial)).2.1 p n
 unfold mergeF
 rw [this, in_perm hp]
 simp [in_nil]
theorem merge_all {l : List Span} {P : Span → Prop} (h : ∀ s ∈ l, NeS s) (hP : ∀ t s : Span, P t → P s → P ⟨t.path, t.from_, max t.to s.to⟩) (hl : ∀ s ∈ l, P s) : ∀ s ∈ mergeF l, P s := by
 have hp := sortF_perm spanCmp_swo l
 exact (merge_inv P hP _ [] chain_nil (sortF_pairwise l) (fun s hs => h s (hp.mem_iff.1 hs)) (fun _ _ _ h => by cases h) (fun _ h => by cases h) (fun s hs => hl s (hp.mem_iff.1 hs))).2.2
end Go.Lic
set_option linter.all false
namespace Go.Lic
open Go.Sort Go.Proofs Go.Shelf
def unit (x : Line) : Span := ⟨x.path, x.n, x.n + 1⟩
def InL (l : List Line) (p : ByteArray) (n : Int) : Prop := ∃ x ∈ l, x.path = p ∧ x.n = n
theorem in_unit (r : List Line) (p : ByteArray) (n : Int) : In (r.map unit) p n ↔ InL r p n := by
 unfold In InL inSpan unit
 constructor
 · rintro ⟨s, hs, h⟩
   obtain ⟨x, hx, rfl⟩ := List.mem_map.1 hs
   simp only at h
   exact ⟨x, hx, h.1, by omega⟩
 · rintro ⟨x, hx, rfl, rfl⟩
   exact ⟨⟨x.path, x.n, x.n + 1⟩, List.mem_map.2 ⟨x, hx, rfl⟩, rfl, by simp only; omega, by simp only; omega⟩
end Go.Lic
set_option linter.all false
namespace Go.Lic
open Go.Sort Go.Proofs Go.Shelf
theorem common_nil1 (b : List Span) : commonF [] b = [] := by rw [commonF]
theorem common_nil2 (a : List Span) : commonF a [] = [] := by cases a <;> rw [commonF]
theorem common_cons (x y : Span) (a b : List Span) : commonF (x :: a) (y :: b) = cutP x y ++ if fstEnds x y then commonF a (y :: b) else commonF (x :: a) b := by rw [commonF]
theorem fst_iff (x y : Span) : fstEnds x y = true ↔ SLt x.path y.path ∨ (x.path = y.path ∧ x.to ≤ y.to) := by unfold fstEnds; simp
theorem common_len : ∀ (a b : List Span), (commonF a b).length ≤ a.length + b.length
 | [], b => by rw [common_nil1]; simp
 | _ :: _, [] => by rw [common_nil2]; simp
 | x :: a, y :: b => by
   rw [common_cons]
   have h0 : (cutP x y).length ≤ 1 := by unfold cutP; split <;> simp
   simp only [List.length_append, List.length_cons]
   split
   · have := common_len a (y :: b); simp only [List.length_cons] at this; omega
   · have := common_len (x :: a) b; simp only [List.length_cons] at this; omega
termination_by a b => a.length + b.length
theorem cutF_nil (s : Span) : cutF s [] = ([], s, []) := rfl
theorem cutF_no (s t : Span) (both : List Span) (h : ¬ (t.path = s.path ∧ t.to ≤ s.to)) : cutF s (t :: both) = ([], s, t :: both) := by rw [cutF]; rw [if_neg h]
theorem cutF_yes (s t : Span) (both : List Span) (h : t.path = s.path ∧ t.to ≤ s.to) : cutF s (t :: both) = ((if s.from_ < t.from_ then [⟨s.path, s.from_, t.from_⟩] else []) ++ (cutF ⟨s.path, t.to, s.to⟩ both).1, (cutF ⟨s.path, t.to, s.to⟩ both).2) := by rw [cutF]; rw [if_pos h]
def leftOf (s : Span) : List Span := if s.from_ < s.to then [s] else []
theorem minusL_nil (both : List Span) : minusL [] both = [] := by unfold minusL; rfl
theorem minusL_cons (s : Span) (a both : List Span) : minusL (s :: a) both = ((cutF s both).1 ++ leftOf (cutF s both).2.1) ++ minusL a (cutF s both).2.2 := by
 conv => lhs; unfold minusL
 rfl
end Go.Lic
