/-
  Statements of chapter 29: checks, covered lines and families. No program in sight.
-/
import Derived.Test.YtglclijalehcmaaGreatDoorKwZ
import Derived.Test.YtglclijalehcmaaGreatDoorKo8
set_option linter.all false
namespace Go.Lic
open Go.Proofs Go.Sort Go.Shelf
theorem ixII_ok (s_ : (List (List Int))) (p : (List Int) → Bool) (pD : (List Int) → Prop) (Q : Int → Prop) (hp0 : s_.length ≤ 9223372036854775807) (hp1 : ∀ z_ ∈ s_, pD z_) (h : Q ((idxOf p s_))) : ixII_vc s_ p pD Q := ix_gen s_ p pD Q hp0 hp1 h
theorem cfII_ok (s_ : (List (List Int))) (p : (List Int) → Bool) (pD : (List Int) → Prop) (Q : Bool → Prop) (hp0 : s_.length ≤ 9223372036854775807) (hp1 : ∀ z_ ∈ s_, pD z_) (h : Q ((s_.any p))) : cfII_vc s_ p pD Q := ⟨hp0, hp1, by rw [idx_nn]; exact h⟩
theorem covers1_ok (m : (List Int)) (i : Int) (Q : Bool → Prop) (hp0 : m.length ≤ 9223372036854775807) (h : Q ((m.any (fun z_ => decide (z_ = i))))) : covers1_vc m i Q := ⟨hp0, h⟩
theorem covers21_ok (m : (List Int)) (c : Clone) (Q : Bool → Prop) (hp0 : m.length ≤ 9223372036854775807) (h : Q (((m.any (fun z_ => decide (z_ = c.a))) && (m.any (fun z_ => decide (z_ = c.b)))))) : covers21_vc m c Q := ⟨hp0, h⟩
theorem covers2_ok (c : Clone) (f : (List (List Int))) (Q : Bool → Prop) (hp0 : f.length ≤ 9223372036854775807) (hp1 : ∀ m_ ∈ f, m_.length ≤ 9223372036854775807) (h : Q ((decide (c.a ≠ c.b) && !(f.any fun m_ => (m_.any fun z_ => decide (z_ = c.a)) && (m_.any fun z_ => decide (z_ = c.b)))))) : covers2_vc c f Q := by
 refine ⟨fun _ => ⟨hp0, hp1⟩, ?_⟩
 have : (c.a != c.b) = decide (c.a ≠ c.b) := by by_cases e : c.a = c.b <;> simp [e]
 rw [this]; exact h
theorem lab_length (n : Int) (x : List Clone) : (labF n x).length = (idL n).length := by
 unfold labF
 have : ∀ (x : List Clone) (g : List Int), (x.foldl relabel g).length = g.length := by
   intro x
   induction x with
   | nil => intro g; rfl
   | cons c x ih => intro g; rw [List.foldl_cons, ih, relabel_len]
 exact this x _
theorem fam_small (n : Int) (x : List Clone) : (famF n x).1.length ≤ 64 ∧ ∀ m ∈ (famF n x).1, m.length ≤ 64 := by
 unfold famF
 split
 · simp
 · next h0 =>
   split
   · simp
   · simp only
     rw [famL_eq]
     have h1 := famN_len (labF n x) n.toNat
     refine ⟨by omega, fun m hm => ?_⟩
     unfold famN at hm
     obtain ⟨hm, _⟩ := List.mem_filter.1 hm
     obtain ⟨i, _, rfl⟩ := List.mem_map.1 hm
     rw [members_eq]
     have h2 := memN_len (labF n x) (i : Nat) (labF n x).length
     have h3 := lab_length n x
     have h4 := idL_len (n := n) (by omega)
     omega
theorem mem_members {g : List Int} {v z : Int} : z ∈ membersF g v ↔ 0 ≤ z ∧ z < g.length ∧ gi g z = v := by
 unfold membersF
 simp only [List.mem_map, List.mem_filter, List.mem_range, decide_eq_true_eq]
 constructor
 · rintro ⟨k, ⟨h1, h2⟩, rfl⟩; exact ⟨by omega, by omega, h2⟩
 · rintro ⟨h1, h2, h3⟩; exact ⟨z.toNat, ⟨by omega, by rw [show ((z.toNat : Nat) : Int) = z by omega]; exact h3⟩, by omega⟩
theorem members_nodup (g : List Int) (v : Int) : (membersF g v).Nodup := by
 unfold membersF
 refine List.Pairwise.map (R := fun a b => a ≠ b) _ (fun a b h e => h (by omega)) ?_
 exact List.Pairwise.filter _ List.nodup_range
theorem two_long : ∀ {l : List Int} {a b : Int}, a ∈ l → b ∈ l → a ≠ b → 1 < l.length
 | [], _, _, h, _, _ => by cases h
 | [z], a, b, h1, h2, h => by
   rw [List.mem_singleton] at h1 h2
   exact absurd (h1.trans h2.symm) h
 | z :: w :: l, _, _, _, _, _ => by simp
theorem long_two {l : List Int} (hn : l.Nodup) (h : 1 < l.length) (a : Int) : ∃ b ∈ l, b ≠ a := by
 match l, hn, h with
 | z :: w :: l, hn, _ =>
   have hzw : z ≠ w := by
     have := (List.nodup_cons.1 hn).1
     intro e; exact this (by rw [e]; simp)
   by_cases e : z = a
   · exact ⟨w, by simp, fun e2 => hzw (e.trans e2.symm)⟩
   · exact ⟨z, by simp, e⟩
theorem mem_famN {g : List Int} {n : Nat} {m : List Int} : m ∈ famN g n ↔ ∃ v : Nat, v < n ∧ m = membersF g (v : Nat) ∧ 1 < m.length := by
 unfold famN
 rw [List.mem_filter, List.mem_map]
 simp only [List.mem_range, decide_eq_true_eq]
 constructor
 · rintro ⟨⟨v, h1, rfl⟩, h2⟩; exact ⟨v, h1, rfl, h2⟩
 · rintro ⟨v, h1, rfl, h2⟩; exact ⟨⟨v, h1, rfl⟩, h2⟩
theorem conn_touch {x : List Clone} {i j : Int} (h : Conn x i j) : i = j ∨ ((∃ c ∈ x, c.a ≠ c.b ∧ (c.a = i ∨ c.b = i)) ∧ (∃ c ∈ x, c.a ≠ c.b ∧ (c.a = j ∨ c.b = j))) := by
 induction h with
 | refl => exact .inl rfl
 | @edge c hc =>
   by_cases e : c.a = c.b
   · exact .inl e
   · exact .inr ⟨⟨c, hc, e, .inl rfl⟩, ⟨c, hc, e, .inr rfl⟩⟩
 | symm _ ih =>
   rcases ih with h | ⟨h1, h2⟩
   · exact .inl h.symm
   · exact .inr ⟨h2, h1⟩
 | trans _ _ h1 h2 =>
   rcases h1 with rfl | ⟨a1, a2⟩
   · exact h2
   · rcases h2 with rfl | ⟨b1, b2⟩
     · exact .inr ⟨a1, a2⟩
     · exact .inr ⟨a1, b2⟩
abbrev inFam (f : List (List Int)) (i : Int) : Bool := f.any fun (m : List Int) => m.any fun z_ => decide (z_ = i)
theorem inFam_iff {g : List Int} {n : Nat} {i : Int} (hg : g.length = n) (hle : ∀ j : Int, 0 ≤ j → j < n → 0 ≤ gi g j ∧ gi g j ≤ j) (hi : 0 ≤ i ∧ i < n) : inFam (famN g n) i = true ↔ ∃ j : Int, 0 ≤ j ∧ j < n ∧ j ≠ i ∧ gi g j = gi g i := by
 unfold inFam
 simp only [List.any_eq_true, decide_eq_true_eq]
 constructor
 · rintro ⟨m, hm, z, hz, rfl⟩
   obtain ⟨v, hv, rfl, hl⟩ := mem_famN.1 hm
   obtain ⟨b, hb, hne⟩ := long_two (members_nodup g (v : Nat)) hl z
   have h1 := mem_members.1 hz; have h2 := mem_members.1 hb
   exact ⟨b, h2.1, by omega, hne, by rw [h2.2.2, h1.2.2]⟩
 · rintro ⟨j, h0, h1, h2, h3⟩
   have hv := hle i hi.1 hi.2
   have mi : i ∈ membersF g (gi g i) := mem_members.2 ⟨hi.1, by omega, rfl⟩
   have mj : j ∈ membersF g (gi g i) := mem_members.2 ⟨h0, by omega, h3⟩
   refine ⟨membersF g (gi g i), mem_famN.2 ⟨(gi g i).toNat, by omega, ?_, two_long mj mi h2⟩, i, mi, rfl⟩
   rw [show (((gi g i).toNat : Nat) : Int) = gi g i by omega]
theorem check_badC {l : List Text} {c : Clone} {n : Int} (h : checkC l c n = 0) : badC (l.length : Int) c = false := by
 obtain ⟨h1, h2, _⟩ := check_room h
 rw [← Bool.not_eq_true, badC_iff]; omega
theorem fam_good {l : List Text} {x : List Clone} (hx : ∀ c ∈ x, checkC l c 1 = 0) (h64 : l.length ≤ 64) : famF (l.length : Int) x = (famN (labF (l.length : Int) x) l.length, 0) := by
 unfold famF
 rw [if_neg (by omega), if_neg]
 · rw [famL_eq]; rfl
 · rw [List.any_eq_true]
   rintro ⟨c, hc, hb⟩
   rw [check_badC (hx c hc)] at hb; cases hb
abbrev links (i : Int) (c : Clone) : Bool := (c.a != c.b) && ((c.a == i) || (c.b == i))
theorem links_iff (i : Int) (c : Clone) : links i c = true ↔ c.a ≠ c.b ∧ (c.a = i ∨ c.b = i) := by simp [links]
theorem fam_linked {l : List Text} {x : List Clone} (hx : ∀ c ∈ x, checkC l c 1 = 0) {i : Int} (hi : inL i l.length) : inFam (famN (labF (l.length : Int) x) l.length) i = x.any (links i) := by
 obtain ⟨L, hc⟩ := labF_lab (n := (l.length : Int)) (by omega) (x := x) (fun c hc => check_badC (hx c hc))
 have hl := L.len
 have key : inFam (famN (labF (l.length : Int) x) l.length) i = true ↔ x.any (links i) = true := by
   rw [inFam_iff (by omega) L.le hi, List.any_eq_true]
   constructor
   · rintro ⟨j, h0, h1, h2, h3⟩
     have c1 := L.conn i hi.1 hi.2
     have c2 := L.conn j h0 h1
     rw [h3] at c2
     rcases conn_touch (c1.trans c2.symm) with e | ⟨⟨c, hcm, e1, e2⟩, _⟩
     · exact absurd e.symm h2
     · exact ⟨c, hcm, (links_iff i c).2 ⟨e1, e2⟩⟩
   · rintro ⟨c, hcm, hlk⟩
     obtain ⟨e1, e2⟩ := (links_iff i c).1 hlk
     obtain ⟨r1, r2, _⟩ := check_room (hx c hcm)
     have := hc c hcm
     rcases e2 with rfl | rfl
     · exact ⟨c.b, r2.1, r2.2, fun e => e1 e.symm, this.symm⟩
     · exact ⟨c.a, r1.1, r1.2, e1, this⟩
 cases h1 : inFam (famN (labF (l.length : Int) x) l.length) i <;> cases h2 : x.any (links i) <;> simp_all
theorem fam_both {l : List Text} {x : List Clone} (hx : ∀ c ∈ x, checkC l c 1 = 0) {c : Clone} (hc : c ∈ x) (hne : c.a ≠ c.b) : ((famN (labF (l.length : Int) x) l.length).any fun m_ => (m_.any fun z_ => decide (z_ = c.a)) && (m_.any fun z_ => decide (z_ = c.b))) = true := by
 obtain ⟨L, hcc⟩ := labF_lab (n := (l.length : Int)) (by omega) (x := x) (fun c hc => check_badC (hx c hc))
 have hl := L.len
 obtain ⟨r1, r2, _⟩ := check_room (hx c hc)
 have hv := L.le c.a r1.1 r1.2
 have ma : c.a ∈ membersF (labF (l.length : Int) x) (gi (labF (l.length : Int) x) c.a) := mem_members.2 ⟨r1.1, by omega, rfl⟩
 have mb : c.b ∈ membersF (labF (l.length : Int) x) (gi (labF (l.length : Int) x) c.a) := mem_members.2 ⟨r2.1, by omega, (hcc c hc).symm⟩
 rw [List.any_eq_true]
 refine ⟨membersF (labF (l.length : Int) x) (gi (labF (l.length : Int) x) c.a), mem_famN.2 ⟨(gi (labF (l.length : Int) x) c.a).toNat, by omega, ?_, two_long ma mb hne⟩, ?_⟩
 · rw [show (((gi (labF (l.length : Int) x) c.a).toNat : Nat) : Int) = gi (labF (l.length : Int) x) c.a by omega]
 · rw [Bool.and_eq_true, List.any_eq_true, List.any_eq_true]
   exact ⟨⟨_, ma, by simp⟩, ⟨_, mb, by simp⟩⟩
theorem covered_good {l : List Text} {x : List Clone} (hr : rightL l = true) {i : Int} (hi : inL i l.length) (hx : ∀ c ∈ x, checkC l c 1 = 0) : coveredF l x i = (outF (x.flatMap (coverL l i)), 0) := by
 rw [covered_right hr hi]
 have : x.find? (badK l) = none := by
   rw [List.find?_eq_none]
   intro c hc
   simp [badK, hx c hc]
 rw [this]
 exact own_ofF (right_valid hr hi) (own_covers l i x)
theorem set_keys_mem {m : List (Int × Bool)} {k : Int} {q : Int} : q ∈ (mset m k true).map (·.1) ↔ q ∈ m.map (·.1) ∨ q = k := by
 rw [mset_keys]
 split
 · next hin => exact ⟨.inl, fun hh => hh.elim id fun e => e ▸ hin⟩
 · simp
theorem cover_keys {l : List Text} {i : Int} {c : Clone} (hc : checkC l c 1 = 0) (q : Int) : (∃ y ∈ coverL l i c, y.n = q) ↔ ∃ j : Int, 0 ≤ j ∧ j < c.len ∧ ((c.a = i ∧ q = (gi (gi l i).words (c.atA + j)).line) ∨ (c.b = i ∧ q = (gi (gi l i).words (c.atB + j)).line)) := by
 obtain ⟨r1, r2, r3, r4⟩ := check_room hc
 unfold coverL
 constructor
 · rintro ⟨y, hy, rfl⟩
   rcases List.mem_append.1 hy with hy | hy
   · split at hy
     · next ha =>
       subst ha
       obtain ⟨w, hw, rfl⟩ := List.mem_map.1 hy
       obtain ⟨k, k1, k2, rfl⟩ := (mem_sub r3 w).1 hw
       exact ⟨k - c.atA, by omega, by omega, .inl ⟨rfl, by rw [show c.atA + (k - c.atA) = k by omega]⟩⟩
     · cases hy
   · split at hy
     · next hb =>
       subst hb
       obtain ⟨w, hw, rfl⟩ := List.mem_map.1 hy
       obtain ⟨k, k1, k2, rfl⟩ := (mem_sub r4 w).1 hw
       exact ⟨k - c.atB, by omega, by omega, .inr ⟨rfl, by rw [show c.atB + (k - c.atB) = k by omega]⟩⟩
     · cases hy
 · rintro ⟨j, j0, j1, ⟨ha, rfl⟩ | ⟨hb, rfl⟩⟩
   · refine ⟨⟨(gi l i).path, (gi (gi l i).words (c.atA + j)).line⟩, List.mem_append_left _ ?_, rfl⟩
     rw [if_pos ha]; subst ha
     exact List.mem_map.2 ⟨_, (mem_sub r3 _).2 ⟨_, by omega, by omega, rfl⟩, rfl⟩
   · refine ⟨⟨(gi l i).path, (gi (gi l i).words (c.atB + j)).line⟩, List.mem_append_right _ ?_, rfl⟩
     rw [if_pos hb]; subst hb
     exact List.mem_map.2 ⟨_, (mem_sub r4 _).2 ⟨_, by omega, by omega, rfl⟩, rfl⟩
theorem nodup_boundK : ∀ (n : Nat) (l : List Nat), l.Nodup → (∀ k ∈ l, k < n) → l.length ≤ n
 | 0, l, _, h => by
   cases l with
   | nil => simp
   | cons a l => have := h a (by simp); omega
 | n + 1, l, hn, h => by
   by_cases hm : n ∈ l
   · have h1 := nodup_boundK n (l.erase n) (hn.erase n) (fun k hk => by
       have h2 := (hn.mem_erase_iff).1 hk
       have := h k h2.2
       have := h2.1
       omega)
     rw [List.length_erase_of_mem hm] at h1
     omega
   · have := nodup_boundK n l hn (fun k hk => by
       have h1 := h k hk
       have h2 : k ≠ n := fun e => hm (e ▸ hk)
       omega)
     omega
theorem lawCovers_ok (l : (List Text)) (grams : Int) (Q : Bool → Prop) (hp0 : inL grams 256) (h : Q (true)) : lawCovers_vc l grams Q := by
 have hw : IntKind.i64.wrap grams = grams := wrap_small (by omega)
 refine ⟨nofun, fun _ => ⟨fun _ => h, fun hs => ?_⟩⟩
 have h1 := fewTs_ok hs
 have h2 := fewTs_words hs
 have h5 := fewTs_len hs
 have hm6 : 0 ≤ grams % 6 ∧ grams % 6 < 6 := by omega
 refine ⟨by rw [hw]; omega, by rw [hw]; omega, h1, fun hb => ?_, fun hz => ?_⟩
 · refine Q_true ?_ h
   rw [hw] at *
   unfold findC clonesF at *
   split at hb
   · next r1 =>
     rw [if_pos r1]
     split at hb
     · next r2 =>
       rw [if_pos r2]
       split at hb
       · next r3 => rw [if_pos r3]; rfl
       · exact absurd rfl hb
     · next r2 => rw [if_neg r2]; rfl
   · next r1 => rw [if_neg r1]; rfl
 obtain ⟨x, hF⟩ : ∃ x, findC l (1 + ((IntKind.i64.wrap grams) % 6)) 1 = (x, 0) := ⟨_, Prod.ext rfl hz⟩
 obtain ⟨f1, f2, f3⟩ := find_parts l (1 + ((IntKind.i64.wrap grams) % 6)) 1
 have hr : x = [] ∨ rightL l = true := by
   rw [hF] at f1
   match x, f1 with
   | [], _ => exact .inl rfl
   | c :: x, f1 => exact .inr (f1 c (by simp)).1
 have hr : rightL l = true := by
   by_cases hrr : rightL l = true
   · exact hrr
   · rw [findC, if_neg hrr] at hF; cases hF
 rw [hF] at f1 f2 f3
 simp only at f1 f2 f3
 have hx : ∀ c ∈ x, checkC l c 1 = 0 := fun c hc => by
   have := ref_check (by rw [hw]; omega) (f1 c hc).2.2.2
   unfold checkC at this ⊢
   split at this
   · next g1 =>
     rw [if_pos g1]
     split at this
     · next g2 =>
       rw [if_pos g2, if_neg]
       have := ((ordered_iff l c).1 g1).2.2.2.2.1
       omega
     · cases this
   · cases this
 have hfam := fam_good hx (by omega)
 obtain ⟨g1, g2⟩ := fam_small (l.length : Int) x
 rw [hF, hfam]
 rw [hfam] at g1 g2
 simp only at g1 g2 ⊢
 have hfl : ∀ m ∈ famN (labF (l.length : Int) x) l.length, m.length ≤ 9223372036854775807 := fun m hm => by have := g2 m hm; omega
 refine ⟨by omega, fun hb => by simp at hb, fun _ => ?_⟩
 refine lfp_of (fun i : Int => 0 ≤ i ∧ i ≤ l.length) (fun i => (l.length - i).toNat) (fun i hst again6 hag6 => ?_) ⟨by omega, by omega⟩
 obtain ⟨i0, i1⟩ := hst
 unfold lawCovers_L1
 rw [hF, hfam]
 simp only
 refine ⟨fun hlt => ?_, fun hn => ⟨by omega, fun _ _ => ⟨by omega, hfl⟩, Q_true ?_ h⟩⟩
 rotate_left
 · rw [Bool.not_eq_true', ← Bool.not_eq_true, List.any_eq_true]
   rintro ⟨c, hc, hb⟩
   rw [Bool.and_eq_true, decide_eq_true_eq] at hb
   rw [fam_both hx hc hb.1] at hb
   exact absurd hb.2 (by simp)
 have hi : inL i l.length := by omega
 have hcov := covered_good hr hi hx
 have hv := right_valid hr hi
 have hown := own_covers l i x
 have hS := outF_valid hv hown
 have hSl := outF_len hv hown
 have h40 := h2 _ (gi_mem hi)
 have hSs := valid_sizes hS
 rw [hcov]
 refine ⟨hi, h1, f3, h2, fun hb => by simp at hb, fun _ => ?_⟩
 refine lfp3 (lawCovers_L2 l grams i Q again6) (fun m linked j => 0 ≤ j ∧ j ≤ x.length ∧ (m.map (·.1)).Nodup ∧ (∀ q, q ∈ m.map (·.1) ↔ ∃ y ∈ (x.take j.toNat).flatMap (coverL l i), y.n = q) ∧ linked = (x.take j.toNat).any (links i)) (fun _ _ j => (x.length - j).toNat) (fun m linked j hst again12 hag12 => ?_) ⟨by omega, by omega, .nil, by simp, by simp⟩
 obtain ⟨j0, j1, j2, j3, j4⟩ := hst
 unfold lawCovers_L2
 rw [hF, hcov]
 simp only
 refine ⟨fun hjl => ?_, fun hjn => ?_⟩
 · have hj : inL j x.length := by omega
   have hc := hx _ (gi_mem hj)
   obtain ⟨r1, r2, r3, r4⟩ := check_room hc
   have hwa : ∀ a : Int, inL a l.length → (gi l a).words.length ≤ 40 := fun a ha => h2 _ (gi_mem ha)
   have wa := hwa _ r1
   have wb := hwa _ r2
   refine ⟨hj, ?_⟩
   refine lfp2 (lawCovers_L3 l grams i linked j again12) (fun m1 k => 0 ≤ k ∧ k ≤ (gi x j).len ∧ (m1.map (·.1)).Nodup ∧ (∀ q, q ∈ m1.map (·.1) ↔ q ∈ m.map (·.1) ∨ ∃ s : Int, 0 ≤ s ∧ s < k ∧ (((gi x j).a = i ∧ q = (gi (gi l i).words ((gi x j).atA + s)).line) ∨ ((gi x j).b = i ∧ q = (gi (gi l i).words ((gi x j).atB + s)).line)))) (fun _ k => ((gi x j).len - k).toNat) (fun m1 k hst again15 hag15 => ?_) ⟨by omega, by omega, j2, fun q => ⟨.inl, fun hh => hh.elim id fun ⟨s, s0, s1, _⟩ => by omega⟩⟩
   obtain ⟨k0, k1, k2, k3⟩ := hst
   unfold lawCovers_L3
   rw [hF]
   simp only
   refine ⟨fun hkl => ⟨fun _ => by omega, fun ha => ?_, fun ha => ?_⟩, fun hkn => ?_⟩
   · obtain ⟨ha, _⟩ := ha
     have r3' := r3; rw [ha] at r3'
     refine ⟨by omega, by omega, ?_⟩
     unfold lawCovers_J1
     rw [hF]
     simp only
     refine ⟨fun _ => by omega, fun hb => ?_, fun hb => ?_⟩
     · obtain ⟨hb, _⟩ := hb
       have r4' := r4; rw [hb] at r4'
       refine ⟨by omega, by omega, by omega, hag15 _ _ ⟨by omega, by omega, mset_nd (mset_nd k2), fun q => ?_⟩ (by omega)⟩
       rw [set_keys_mem, set_keys_mem, k3]
       constructor
       · rintro (((hq | ⟨s, s0, s1, s2⟩) | e) | e)
         · exact .inl hq
         · exact .inr ⟨s, s0, by omega, s2⟩
         · exact .inr ⟨k, k0, by omega, .inl ⟨ha, e⟩⟩
         · exact .inr ⟨k, k0, by omega, .inr ⟨hb, e⟩⟩
       · rintro (hq | ⟨s, s0, s1, s2⟩)
         · exact .inl (.inl (.inl hq))
         · by_cases e : s = k
           · subst e
             rcases s2 with ⟨_, e⟩ | ⟨_, e⟩
             · exact .inl (.inr e)
             · exact .inr e
           · exact .inl (.inl (.inr ⟨s, s0, by omega, s2⟩))
     · have hb' : ¬ (gi x j).b = i := by
         rcases hb with hb | hb
         · exact hb
         · intro e
           rw [e] at r4; omega
       refine ⟨by omega, hag15 _ _ ⟨by omega, by omega, mset_nd k2, fun q => ?_⟩ (by omega)⟩
       rw [set_keys_mem, k3]
       constructor
       · rintro ((hq | ⟨s, s0, s1, s2⟩) | e)
         · exact .inl hq
         · exact .inr ⟨s, s0, by omega, s2⟩
         · exact .inr ⟨k, k0, by omega, .inl ⟨ha, e⟩⟩
       · rintro (hq | ⟨s, s0, s1, s2⟩)
         · exact .inl (.inl hq)
         · by_cases e : s = k
           · subst e
             rcases s2 with ⟨_, e⟩ | ⟨e2, e⟩
             · exact .inr e
             · exact absurd e2 hb'
           · exact .inl (.inr ⟨s, s0, by omega, s2⟩)
   · have ha' : ¬ (gi x j).a = i := by
       rcases ha with ha | ha
       · exact ha
       · intro e
         rw [e] at r3; omega
     unfold lawCovers_J1
     rw [hF]
     simp only
     refine ⟨fun _ => by omega, fun hb => ?_, fun hb => ?_⟩
     · obtain ⟨hb, _⟩ := hb
       have r4' := r4; rw [hb] at r4'
       refine ⟨by omega, by omega, by omega, hag15 _ _ ⟨by omega, by omega, mset_nd k2, fun q => ?_⟩ (by omega)⟩
       rw [set_keys_mem, k3]
       constructor
       · rintro ((hq | ⟨s, s0, s1, s2⟩) | e)
         · exact .inl hq
         · exact .inr ⟨s, s0, by omega, s2⟩
         · exact .inr ⟨k, k0, by omega, .inr ⟨hb, e⟩⟩
       · rintro (hq | ⟨s, s0, s1, s2⟩)
         · exact .inl (.inl hq)
         · by_cases e : s = k
           · subst e
             rcases s2 with ⟨e2, e⟩ | ⟨_, e⟩
             · exact absurd e2 ha'
             · exact .inr e
           · exact .inl (.inr ⟨s, s0, by omega, s2⟩)
     · have hb' : ¬ (gi x j).b = i := by
         rcases hb with hb | hb
         · exact hb
         · intro e
           rw [e] at r4; omega
       refine ⟨by omega, hag15 _ _ ⟨by omega, by omega, k2, fun q => ?_⟩ (by omega)⟩
       rw [k3]
       constructor
       · rintro (hq | ⟨s, s0, s1, s2⟩)
         · exact .inl hq
         · exact .inr ⟨s, s0, by omega, s2⟩
       · rintro (hq | ⟨s, s0, s1, s2⟩)
         · exact .inl hq
         · rcases s2 with ⟨e2, _⟩ | ⟨e2, _⟩
           · exact absurd e2 ha'
           · exact absurd e2 hb'
   · obtain rfl : k = (gi x j).len := by omega
     refine ⟨by omega, hag12 _ _ _ ⟨by omega, by omega, k2, fun q => ?_, ?_⟩ (by omega)⟩
     · rw [k3, j3, take_gi hj, List.flatMap_append, ← cover_keys hc q]
       simp only [List.flatMap_cons, List.flatMap_nil, List.append_nil, List.mem_append]
       constructor
       · rintro (⟨y, hy, e⟩ | ⟨y, hy, e⟩)
         · exact ⟨y, .inl hy, e⟩
         · exact ⟨y, .inr hy, e⟩
       · rintro ⟨y, hy | hy, e⟩
         · exact .inl ⟨y, hy, e⟩
         · exact .inr ⟨y, hy, e⟩
     · rw [take_gi hj, List.any_append, j4]; simp [links]
 rw [List.take_of_length_le (by omega)] at j3 j4
 have hkey : ∀ q, q ∈ m.map (·.1) ↔ hasF (outF (x.flatMap (coverL l i))) ⟨(gi l i).path, q⟩ = true := fun q => by
   rw [j3, has_iff hS, outF_in]
   unfold InL
   constructor
   · rintro ⟨y, hy, rfl⟩
     obtain ⟨w, _, rfl⟩ := hown y hy
     exact ⟨_, hy, rfl, rfl⟩
   · rintro ⟨y, hy, e1, e2⟩; exact ⟨y, hy, e2⟩
 have hcount : countL (outF (x.flatMap (coverL l i))) = (m.length : Int) := by
   rw [← list_count]
   have hnd : ((m.map (·.1)).map fun q => (⟨(gi l i).path, q⟩ : Line)).Nodup := by
     refine List.Pairwise.map (R := fun x y => x ≠ y) _ (fun x y hxy e => hxy (by simpa using e)) ?_
     exact j2
   have := nodup_len (list_nodup hS) hnd (fun y => by
     rw [list_mem hS, ← has_iff hS, List.mem_map]
     constructor
     · intro hy
       have hy2 := hy
       rw [has_iff hS, outF_in] at hy
       obtain ⟨z, hz, e1, e2⟩ := hy
       obtain ⟨w, _, rfl⟩ := hown z hz
       refine ⟨y.n, (hkey _).2 ?_, ?_⟩
       · have : y = ⟨(gi l i).path, y.n⟩ := by cases y; simp at e1 e2 ⊢; exact e1.symm
         rw [← this]; exact hy2
       · cases y; simp at e1 e2 ⊢; exact e1
     · rintro ⟨q, hq, rfl⟩; exact (hkey q).1 hq)
   rw [this]; simp
 refine ⟨by omega, hSs, fun hb => absurd hcount hb, fun _ => ?_⟩
 refine lfp_of (fun seen : List Nat => seen.Nodup ∧ ∀ k ∈ seen, k < m.length) (fun seen => m.length - seen.length) (fun seen hseen again hag => ?_) ⟨.nil, fun k hk => by cases hk⟩
 unfold lawCovers_L4
 rw [hF, hfam, hcov]
 simp only
 have hlk := fam_linked hx hi
 unfold inFam at hlk
 rw [← j4] at hlk
 refine ⟨fun _ => ⟨by omega, hfl, fun hb => ?_, fun _ => ⟨by omega, hag6 _ ⟨by omega, by omega⟩ (by omega)⟩⟩, fun k hk hkn => ⟨by omega, hSs, fun hb => ?_, fun _ => hag _ ⟨?_, ?_⟩ ?_⟩⟩
 · rw [hlk] at hb; simp at hb
 · have hm : (gi m (k : Int)).1 ∈ m.map (·.1) := List.mem_map.2 ⟨_, gi_mem (by omega), rfl⟩
   rw [(hkey _).1 hm] at hb; cases hb
 · exact List.nodup_append.2 ⟨hseen.1, by simp, fun u hu v hv e => hkn (by rw [List.mem_singleton.1 hv] at e; exact e ▸ hu)⟩
 · intro j hj
   rcases List.mem_append.1 hj with hj | hj
   · exact hseen.2 j hj
   · rw [List.mem_singleton.1 hj]; exact hk
 · have := nodup_boundK m.length (seen ++ [k]) (List.nodup_append.2 ⟨hseen.1, by simp, fun u hu v hv e => hkn (by rw [List.mem_singleton.1 hv] at e; exact e ▸ hu)⟩) (fun j hj => by
     rcases List.mem_append.1 hj with hj | hj
     · exact hseen.2 j hj
     · rw [List.mem_singleton.1 hj]; exact hk)
   simp only [List.length_append, List.length_singleton] at this ⊢
   omega
end Go.Lic
