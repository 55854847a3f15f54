/-
  Texts of sets of lines: what is parsed is printed, what is printed is parsed. No program in sight.
-/
import Derived.Test.YtjncggaheahjiaaGreatDoorNo3
set_option linter.all false
namespace Go.Lic
open Go.Proofs Go.Sort Go.Shelf
def joinU (c : UInt8) : List (List UInt8) → List UInt8
 | [] => []
 | [p] => p
 | p :: q :: r => p ++ c :: joinU c (q :: r)
theorem joinU_cons (c b : UInt8) : ∀ (p : List UInt8) (r : List (List UInt8)), joinU c ((b :: p) :: r) = b :: joinU c (p :: r)
 | p, [] => rfl
 | p, q :: r => rfl
theorem join_split (c : UInt8) : ∀ l : List UInt8, joinU c (splitL c l) = l
 | [] => rfl
 | b :: l => by
   have ih := join_split c l
   rw [splitL]
   split
   · next e =>
     cases hs : splitL c l with
     | nil => exact absurd hs (split_ne l)
     | cons p r => rw [hs] at ih; rw [joinU, ih, e]; rfl
   · cases hs : splitL c l with
     | nil => exact absurd hs (split_ne l)
     | cons p r => rw [hs] at ih; rw [joinU_cons, ih]
theorem mem_split {c : UInt8} : ∀ (l : List UInt8), ∀ x ∈ l, x = c ∨ ∃ p ∈ splitL c l, x ∈ p
 | b :: l, x, hx => by
   rw [splitL]
   split
   · next e =>
     rcases List.mem_cons.1 hx with rfl | hx
     · exact .inl e
     · rcases mem_split l x hx with h | ⟨p, hp, h⟩
       · exact .inl h
       · exact .inr ⟨p, by simp [hp], h⟩
   · cases hs : splitL c l with
     | nil => exact absurd hs (split_ne l)
     | cons q r =>
       rcases List.mem_cons.1 hx with rfl | hx
       · exact .inr ⟨_, List.mem_cons_self, by simp⟩
       · rcases mem_split l x hx with h | ⟨p, hp, h⟩
         · exact .inl h
         · rw [hs] at hp
           rcases List.mem_cons.1 hp with rfl | hp
           · exact .inr ⟨_, List.mem_cons_self, by simp [h]⟩
           · exact .inr ⟨p, by simp [hp], h⟩
theorem part_bytes {s : ByteArray} (h : partF s = true) : ∀ x ∈ s.data.toList, nameB (x.toNat : Int) = true := by
 unfold partF at h
 simp only [Bool.and_eq_true] at h
 intro x hx
 exact List.all_eq_true.1 h.2 _ (List.mem_map.2 ⟨x, hx, rfl⟩)
theorem path_bytes {s : ByteArray} (h : pathB s = true) : ∀ x ∈ s.data.toList, x ≠ 32 ∧ x ≠ 10 := by
 intro x hx
 rcases mem_split (c := 47) s.data.toList x hx with rfl | ⟨p, hp, hxp⟩
 · exact ⟨by decide, by decide⟩
 · unfold pathB at h
   simp only [Bool.and_eq_true] at h
   have hpart := List.all_eq_true.1 h.2 (ba p) (List.mem_map.2 ⟨p, hp, rfl⟩)
   have := part_bytes hpart x hxp
   constructor
   · rintro rfl; revert this; decide
   · rintro rfl; revert this; decide
theorem itoa_bytes : ∀ n : Fin 1025, (Lib.itoa (n.val : Int)).all (fun x => x != 32 && x != 10) = true := by decide +kernel
theorem itoa_free {n : Int} (h0 : 0 ≤ n) (h1 : n ≤ 1024) : ∀ x ∈ (itoaF n).data.toList, x ≠ 32 ∧ x ≠ 10 := by
 intro x hx
 have := itoa_bytes ⟨n.toNat, by omega⟩
 simp only at this
 rw [show ((n.toNat : Nat) : Int) = n by omega, List.all_eq_true] at this
 simpa using this x hx
def lineU (s : Span) : List UInt8 := s.path.data.toList ++ 32 :: ((itoaF s.from_).data.toList ++ 32 :: (itoaF s.to).data.toList)
theorem spanT_line (s : Span) : (spanT s).data.toList = lineU s ++ [10] := by
 unfold spanT lineU
 simp only [app_listN, List.append_assoc, List.cons_append, List.nil_append]
theorem line_split {s : Span} (h : spanR s = true) : splitF (ba (lineU s)) ⟨#[32]⟩ = [s.path, itoaF s.from_, itoaF s.to] ∧ ∀ x ∈ lineU s, x ≠ 10 := by
 have hin := span_inside h
 have hp : pathB s.path = true := by unfold spanR at h; simp only [Bool.and_eq_true] at h; exact h.1
 have p1 := path_bytes hp
 have p2 := itoa_free (n := s.from_) (by omega) (by omega)
 have p3 := itoa_free (n := s.to) (by omega) (by omega)
 unfold lineU
 constructor
 · rw [splits_at (fun x hx => (p1 x hx).1), splits_at (fun x hx => (p2 x hx).1), splits_none (fun x hx => (p3 x hx).1)]
   rfl
 · intro x hx
   rcases List.mem_append.1 hx with hx | hx
   · exact (p1 x hx).2
   · rcases List.mem_cons.1 hx with rfl | hx
     · decide
     · rcases List.mem_append.1 hx with hx | hx
       · exact (p2 x hx).2
       · rcases List.mem_cons.1 hx with rfl | hx
         · decide
         · exact (p3 x hx).2
theorem numF_small {n : Int} (h0 : 0 ≤ n) (h1 : n ≤ 1024) : numF (itoaF n) = n := by
 have := numF_itoa (n := n.toNat) (by omega)
 rwa [show ((n.toNat : Nat) : Int) = n by omega] at this
theorem line_span {s : Span} (h : spanR s = true) {out : List Span} (hb : 0 < out.length → behindF (lastD out) s = true) : spanF (ba (lineU s)) out = (s, 0) := by
 have hin := span_inside h
 have hp : pathB s.path = true := by unfold spanR at h; simp only [Bool.and_eq_true] at h; exact h.1
 have hi : insideF s = true := by unfold spanR at h; simp only [Bool.and_eq_true] at h; exact h.2
 unfold spanF
 rw [(line_split h).1, if_pos (by rfl)]
 have e : spanN [s.path, itoaF s.from_, itoaF s.to] = s := by
   show (⟨s.path, numF (itoaF s.from_), numF (itoaF s.to)⟩ : Span) = s
   rw [numF_small (by omega) (by omega), numF_small (by omega) (by omega)]
 rw [e]
 congr 1
 unfold codeS
 rw [if_neg (by omega), if_neg (by unfold pathF; rw [hp]; simp), if_neg (by rw [hi]; simp), if_neg]
 rintro ⟨k1, k2⟩
 rw [hb k1] at k2; cases k2
theorem valid_snoc {a b : List Span} {s : Span} (h : validF (a ++ s :: b) = true) : spanR s = true ∧ (0 < a.length → behindF (lastD a) s = true) := by
 refine ⟨valid_span h s (by simp), fun h0 => ?_⟩
 have hv := (valid_iff _).1 h (a.length : Int) (by omega) (by simp; omega)
 have e1 : gi (a ++ s :: b) (a.length : Int) = s := by
   rw [gi_lt (by simp; omega)]; simp
 have e2 : gi (a ++ s :: b) ((a.length : Int) - 1) = lastD a := by
   unfold lastD
   rw [gi_lt (by simp; omega), gi_lt (by omega), List.getElem_append_left (by omega)]
 have := hv.2 (by omega)
 rw [e1, e2] at this; exact this
theorem parse_lines : ∀ (b a : List Span) (i : Int), validF (a ++ b) = true → parseL i a (splitF (ba (b.flatMap fun s => (spanT s).data.toList)) ⟨#[10]⟩) = (a ++ b, -1, 0)
 | [], a, i, h => by
   have : splitF (ba (([] : List Span).flatMap fun s => (spanT s).data.toList)) ⟨#[10]⟩ = [⟨#[]⟩] := rfl
   rw [this, parse_last, if_pos (show (⟨#[]⟩ : ByteArray).size = 0 from rfl), List.append_nil]
 | s :: b, a, i, h => by
   obtain ⟨h1, h2⟩ := valid_snoc h
   rw [List.flatMap_cons, spanT_line, List.append_assoc, List.singleton_append, splits_at (line_split h1).2, parse_more (splits_ne _ _), line_span h1 h2, if_pos rfl]
   rw [parse_lines b (a ++ [s]) (i + 1) (by rw [List.append_assoc]; exact h), List.append_assoc]; rfl
theorem print_parse {l : List Span} (h : validF l = true) : parseF (printF l).1 = (l, -1, 0) := by
 have e : (printF l).1 = ba (l.flatMap fun s => (spanT s).data.toList) := by unfold printF; rw [if_pos h]; rfl
 unfold parseF
 rw [e, parse_lines l [] 0 h]; rfl
theorem three {w : List ByteArray} (h : w.length = 3) : ∃ a b c, w = [a, b, c] := by
 match w, h with
 | [a, b, c], _ => exact ⟨a, b, c, rfl⟩
theorem span_line {l : ByteArray} {out : List Span} (h : (spanF l out).2 = 0) : lineU (spanF l out).1 = l.data.toList ∧ spanR (spanF l out).1 = true ∧ (0 < out.length → behindF (lastD out) (spanF l out).1 = true) := by
 unfold spanF at h ⊢
 split at h
 · next h3 =>
   rw [if_pos h3]
   obtain ⟨a, b, c, hw⟩ := three h3
   rw [hw] at h ⊢
   simp only at h ⊢
   unfold codeS at h
   have hN : spanN [a, b, c] = ⟨a, numF b, numF c⟩ := rfl
   rw [hN] at h ⊢
   simp only at h
   split at h
   · cases h
   · next k1 =>
     split at h
     · cases h
     · next k2 =>
       split at h
       · cases h
       · next k3 =>
         split at h
         · cases h
         · next k4 =>
           obtain ⟨n, hn, hb, hbn⟩ := numF_canon (s := b) (by omega)
           obtain ⟨m, hm, hc, hcm⟩ := numF_canon (s := c) (by omega)
           refine ⟨?_, ?_, fun h0 => ?_⟩
           · unfold lineU
             simp only
             rw [hbn, hcm, ← hb, ← hc]
             have hj := join_split 32 l.data.toList
             have hs : splitL 32 l.data.toList = [a.data.toList, b.data.toList, c.data.toList] := by
               have hw' : (splitL 32 l.data.toList).map ba = [a, b, c] := hw
               match hq : splitL 32 l.data.toList, hw' with
               | [x, y, z], hw' =>
                 simp only [List.map_cons, List.map_nil, List.cons.injEq, and_true] at hw'
                 rw [← hw'.1, ← hw'.2.1, ← hw'.2.2]; rfl
             rw [hs] at hj
             rw [← hj]; rfl
           · unfold spanR
             rw [Bool.and_eq_true]
             refine ⟨?_, by simpa using k3⟩
             have : pathF a = 0 := by simpa using k2
             unfold pathF at this
             simpa using this
           · rcases hx : behindF (lastD out) ⟨a, numF b, numF c⟩ with _ | _
             · exact absurd ⟨h0, hx⟩ k4
             · rfl
 · cases h
theorem valid_add {a : List Span} {s : Span} (h : validF a = true) (hs : spanR s = true) (hb : 0 < a.length → behindF (lastD a) s = true) : validF (a ++ [s]) = true := by
 rw [valid_iff]
 intro x h0 h1
 simp only [List.length_append, List.length_singleton] at h1
 by_cases hx : x < a.length
 · have e : ∀ j : Int, 0 ≤ j → j < a.length → gi (a ++ [s]) j = gi a j := fun j k0 k1 => by
     rw [gi_lt (by simp; omega), gi_lt (by omega), List.getElem_append_left (by omega)]
   have := (valid_iff a).1 h x h0 hx
   rw [e x h0 hx]
   exact ⟨this.1, fun hp => by rw [e (x - 1) (by omega) (by omega)]; exact this.2 hp⟩
 · obtain rfl : x = a.length := by omega
   have e1 : gi (a ++ [s]) (a.length : Int) = s := by
     rw [gi_lt (by simp; omega)]; simp
   refine ⟨by rw [e1]; exact hs, fun hp => ?_⟩
   have e2 : gi (a ++ [s]) ((a.length : Int) - 1) = lastD a := by
     unfold lastD
     rw [gi_lt (by simp; omega), gi_lt (by omega), List.getElem_append_left (by omega)]
   rw [e1, e2]; exact hb (by omega)
theorem parse_print : ∀ (w : List (List UInt8)) (i : Int) (out : List Span), w ≠ [] → validF out = true → 0 ≤ i → ((parseL i out (w.map ba)).2.2 = 0 → (parseL i out (w.map ba)).2.1 = -1 ∧ validF (parseL i out (w.map ba)).1 = true ∧ ((parseL i out (w.map ba)).1.flatMap fun s => (spanT s).data.toList) = (out.flatMap fun s => (spanT s).data.toList) ++ joinU 10 w) ∧ ((parseL i out (w.map ba)).2.2 ≠ 0 → (parseL i out (w.map ba)).1 = [] ∧ 0 ≤ (parseL i out (w.map ba)).2.1)
 | [], _, _, h, _, _ => absurd rfl h
 | [p], i, out, _, hv, h0 => by
   rw [show [p].map ba = [ba p] from rfl, parse_last]
   split
   · next hz =>
     have hp : p = [] := by rw [ba_size] at hz; exact List.length_eq_zero_iff.1 hz
     subst hp
     exact ⟨fun _ => ⟨rfl, hv, by simp [joinU]⟩, fun hn => absurd rfl hn⟩
   · exact ⟨nofun, fun _ => ⟨rfl, h0⟩⟩
 | p :: q :: r, i, out, _, hv, h0 => by
   have e : (p :: q :: r).map ba = ba p :: (q :: r).map ba := rfl
   rw [e, parse_more (by simp)]
   split
   · next hz =>
     obtain ⟨s1, s2, s3⟩ := span_line hz
     have ih := parse_print (q :: r) (i + 1) (out ++ [(spanF (ba p) out).1]) (by simp) (valid_add hv s2 s3) (by omega)
     refine ⟨fun hk => ?_, ih.2⟩
     obtain ⟨k1, k2, k3⟩ := ih.1 hk
     refine ⟨k1, k2, ?_⟩
     rw [k3, List.flatMap_append]
     simp only [List.flatMap_cons, List.flatMap_nil, List.append_nil]
     rw [spanT_line, s1, ba_list]
     simp [joinU]
   · next hz => exact ⟨fun hk => absurd hk hz, fun _ => ⟨rfl, h0⟩⟩
theorem parse_back (s : ByteArray) : ((parseF s).2.2 = 0 → (parseF s).2.1 = -1 ∧ validF (parseF s).1 = true ∧ (printF (parseF s).1).1 = s ∧ (printF (parseF s).1).2 = 0) ∧ ((parseF s).2.2 ≠ 0 → (parseF s).1 = [] ∧ 0 ≤ (parseF s).2.1) := by
 have h := parse_print (splitL 10 s.data.toList) 0 [] (split_ne _) rfl (by omega)
 have e : (splitL 10 s.data.toList).map ba = splitF s ⟨#[10]⟩ := rfl
 rw [e] at h
 refine ⟨fun hz => ?_, h.2⟩
 obtain ⟨h1, h2, h3⟩ := h.1 hz
 have h2' : validF (parseF s).1 = true := h2
 refine ⟨h1, h2', ?_, ?_⟩
 · unfold printF
   rw [if_pos h2']
   show ba ((parseF s).1.flatMap fun s => (spanT s).data.toList) = s
   have h3' : ((parseF s).1.flatMap fun s => (spanT s).data.toList) = _ := h3
   rw [h3', join_split]
   simp [ba_of]
 · unfold printF; rw [if_pos h2']
theorem print_size {l : List Span} (h : validF l = true) (hl : l.length ≤ 12) : (printF l).1.size ≤ 1000000 := by
 have key : ∀ m : List Span, (∀ s ∈ m, spanR s = true) → (m.flatMap fun s => (spanT s).data.toList).length ≤ m.length * 200 := by
   intro m
   induction m with
   | nil => simp
   | cons s m ih =>
     intro hm
     have := ih (fun t ht => hm t (List.mem_cons_of_mem _ ht))
     have hs := hm s (by simp)
     have hin := span_inside hs
     have z0 := span_size hs
     have z1 := itoa_sz (n := s.from_) (by omega) (by omega)
     have z2 := itoa_sz (n := s.to) (by omega) (by omega)
     have e1 : (⟨#[32]⟩ : ByteArray).size = 1 := rfl
     have e2 : (⟨#[10]⟩ : ByteArray).size = 1 := rfl
     have zT : (spanT s).size ≤ 200 := by
       unfold spanT; simp only [app_size, e1, e2]; omega
     rw [size_list] at zT
     rw [List.flatMap_cons, List.length_append, List.length_cons]
     omega
 have e : (printF l).1 = ba (l.flatMap fun s => (spanT s).data.toList) := by unfold printF; rw [if_pos h]; rfl
 have := key l (valid_span h)
 rw [e, ba_size]; omega
theorem lines_right {l : List Span} (h : validF l = true) : ∀ y ∈ listF l, rightF y = true := by
 intro y hy
 obtain ⟨s, hs, h1, h2, h3⟩ := (list_mem h y).1 hy
 have h4 := valid_span h s hs
 have hin := span_inside h4
 have hp : pathB s.path = true := by unfold spanR at h4; simp only [Bool.and_eq_true] at h4; exact h4.1
 unfold rightF
 rw [← h1, hp]
 simp only [Bool.true_and, Bool.and_eq_true, decide_eq_true_eq]
 omega
theorem of_lines {l : List Span} (h : validF l = true) {L : List Line} (hL : ∀ y, y ∈ L ↔ y ∈ listF l) : ofF L = (l, 0) := by
 have hr : ∀ x ∈ L, rightF x = true := fun x hx => lines_right h x ((hL x).1 hx)
 have hf : L.find? badLine = none := by
   rw [List.find?_eq_none]
   intro x hx
   rw [bad_line, hr x hx]; simp
 have hu : L.map unitW = L.map unit := List.map_congr_left fun x hx => unitW_unit (hr x hx)
 unfold ofF
 rw [hf]
 simp only [hu, Prod.mk.injEq, and_true]
 have hne : ∀ s ∈ L.map unit, NeS s := fun s hs => by
   obtain ⟨x, hx, rfl⟩ := List.mem_map.1 hs
   unfold NeS unit; simp only; omega
 have hv : validF (mergeF (L.map unit)) = true := by
   refine merge_valid fun s hs => ?_
   obtain ⟨x, hx, rfl⟩ := List.mem_map.1 hs
   have := hr x hx
   unfold rightF at this
   unfold spanR unit insideF
   simp only [Bool.and_eq_true, decide_eq_true_eq] at *
   exact ⟨this.1, by omega, by omega⟩
 refine valid_ext hv h fun p n => ?_
 rw [merge_in hne, in_unit]
 unfold InL
 constructor
 · rintro ⟨x, hx, rfl, rfl⟩; exact (list_mem h x).1 ((hL x).1 hx)
 · intro hi; exact ⟨⟨p, n⟩, (hL _).2 ((list_mem h ⟨p, n⟩).2 hi), rfl, rfl⟩
theorem lawBack_ok (l : (List Span)) (s_ : ByteArray) (Q : Bool → Prop) (h : Q (true)) : lawBack_vc l s_ Q := by
 refine ⟨nofun, fun _ => ⟨fun _ => h, fun hg => ?_⟩⟩
 obtain ⟨hf, hs⟩ := hg
 obtain ⟨f1, f2⟩ := few_len hf
 obtain ⟨b1, b2⟩ := parse_back s_
 have hl := splitF_len s_ 10
 have J : lawBack_J1 l Q := by
   refine ⟨by omega, f2, fun _ => by omega, fun _ => h, fun hv => ?_⟩
   have hv := hv.1
   have hll := list_len (l := l) (by omega)
   have hpp := print_parse hv
   have hof := of_lines hv (L := List.reverse (listF l) ++ listF l) (fun y => by simp)
   have hpz := print_size hv f1
   have hsz : ∀ z_ ∈ (List.reverse (listF l) ++ listF l), z_.path.size ≤ 1000000 := fun z hz => by
     have hz' : z ∈ listF l := by simpa using hz
     obtain ⟨s, hs, h1, _⟩ := (list_mem hv z).1 hz'
     rw [← h1]; exact f2 s hs
   have hp2 : (printF l).2 = 0 := by unfold printF; rw [if_pos hv]
   rw [hpp, hof]
   refine ⟨by omega, f2, by omega, by omega, f2, ⟨?_, ?_⟩, ?_, hsz, by omega, f2, hpz, fun _ => by simp only; omega, fun _ => by simp only; omega, Q_trueN ?_ h⟩
   · rw [List.length_reverse]; omega
   · rw [List.length_reverse]; omega
   · rw [List.length_append, List.length_reverse]; omega
   · rw [hp2]; simp
 refine ⟨by omega, fun hz => ?_, fun hn => ?_⟩
 · obtain ⟨k1, k2, k3, k4⟩ := b1 hz
   have hp := parse_len (splitF s_ ⟨#[10]⟩) 0 []
   -- the last part is no span
   have hlen : (parseF s_).1.length ≤ 1000 := by
     have key : ∀ (w : List ByteArray) (i : Int) (out : List Span), w ≠ [] → (parseL i out w).1.length + 1 ≤ out.length + w.length := by
       intro w
       induction w with
       | nil => intro _ _ hne; exact absurd rfl hne
       | cons p r ih =>
         intro i out _
         cases r with
         | nil =>
           rw [parse_last]; split
           · simp only [List.length_cons, List.length_nil]; omega
           · simp
         | cons q r =>
           rw [parse_more (by simp)]
           split
           · have := ih (i + 1) (out ++ [(spanF p out).1]) (by simp)
             simp only [List.length_append, List.length_cons, List.length_nil] at this ⊢
             omega
           · simp only [List.length_nil, List.length_cons]; omega
     have := key (splitF s_ ⟨#[10]⟩) 0 [] (splits_ne _ _)
     unfold parseF
     simp only [List.length_nil] at this
     omega
   refine ⟨hlen, valid_sizes k2, fun hb => ?_, fun _ => J⟩
   exfalso
   rcases hb with (hb | hb) | hb
   · exact hb k4
   · exact hb k3
   · exact hb k1
 · obtain ⟨k1, k2⟩ := b2 hn
   refine ⟨fun hb => ?_, fun _ => J⟩
   exfalso
   rcases hb with hb | hb
   · rw [k1] at hb; exact hb rfl
   · omega
end Go.Lic
