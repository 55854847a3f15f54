/-
  Clones: what the search keeps, and what it has found at its end. No program in sight.
-/
import Derived.Test.YtkifpidbpoghlaaGreatDoorKv
set_option linter.all false
namespace Go.Lic
open Go.Proofs Go.Sort Go.Shelf
section
variable {texts : List Text} {least only : Int} {p q : CPr}
theorem run_of (h : OkP texts p) (ht : 0 < toP texts p) : ∃ a x b y : Nat, p = (⟨a, x⟩, ⟨b, y⟩) ∧ a < texts.length ∧ b < texts.length ∧ x < (gi texts (a : Nat)).words.length ∧ y < (gi texts (b : Nat)).words.length ∧ backP texts p ≤ x ∧ backP texts p ≤ y ∧
   ¬ preN (gi texts (a : Nat)).words (gi texts (b : Nat)).words (x - backP texts p) (y - backP texts p) ∧ toN (gi texts (a : Nat)).words (gi texts (b : Nat)).words (x - backP texts p) (y - backP texts p) = backP texts p + toP texts p ∧ cloneP texts p = ⟨a, (x - backP texts p : Nat), b, (y - backP texts p : Nat), (backP texts p + toP texts p : Nat)⟩ := by
 obtain ⟨⟨pa, px⟩, pb, py⟩ := p
 obtain ⟨h1, h2, h3, h4, h5, h6⟩ := h
 simp only at h1 h2 h3 h4 h5 h6
 obtain ⟨a, rfl⟩ := Int.eq_ofNat_of_zero_le h1.1
 obtain ⟨b, rfl⟩ := Int.eq_ofNat_of_zero_le h2.1
 obtain ⟨x, rfl⟩ := Int.eq_ofNat_of_zero_le h3
 obtain ⟨y, rfl⟩ := Int.eq_ofNat_of_zero_le h5
 have ht' : 0 < toN (gi texts (a : Nat)).words (gi texts (b : Nat)).words x y := by simpa [toP] using ht
 have eb : backP texts (⟨(a : Nat), (x : Nat)⟩, ⟨(b : Nat), (y : Nat)⟩) = backN (gi texts (a : Nat)).words (gi texts (b : Nat)).words x y := by simp [backP]
 have et : toP texts (⟨(a : Nat), (x : Nat)⟩, ⟨(b : Nat), (y : Nat)⟩) = toN (gi texts (a : Nat)).words (gi texts (b : Nat)).words x y := by simp [toP]
 obtain ⟨r1, r2, r3, r4, r5, r6⟩ := run_start ht'
 refine ⟨a, x, b, y, rfl, by have := h1.2; omega, by have := h2.2; omega, r1, r2, ?_⟩
 unfold cloneP
 rw [eb, et]
 refine ⟨r3, r4, r5, r6, ?_⟩
 have e1 : ((x - backN (gi texts (a : Nat)).words (gi texts (b : Nat)).words x y : Nat) : Int) = (x : Int) - (backN (gi texts (a : Nat)).words (gi texts (b : Nat)).words x y : Nat) := by omega
 have e2 : ((y - backN (gi texts (a : Nat)).words (gi texts (b : Nat)).words x y : Nat) : Int) = (y : Int) - (backN (gi texts (a : Nat)).words (gi texts (b : Nat)).words x y : Nat) := by omega
 rw [e1, e2]
 rfl
theorem clone_mem (h : OkP texts p) (hsk : skipF only p.1 p.2 = false) (ht : 0 < toP texts p) (hn : least ≤ (backP texts p : Int) + toP texts p) : cloneP texts p ∈ refL texts least only := by
 obtain ⟨a, x, b, y, rfl, h1, h2, h3, h4, h5, h6, h7, h8, h9⟩ := run_of h ht
 rw [h9, mem_ref]
 simp only [skipF, Bool.or_eq_false_iff, Bool.and_eq_false_iff, decide_eq_false_iff_not, ClonePlace.mk.injEq] at hsk
 obtain ⟨⟨⟨s1, s2⟩, s3⟩, s4⟩ := hsk
 have hl := lenC_of h7
 rw [h8] at hl
 generalize hf : backP texts (⟨(a : Int), (x : Int)⟩, ⟨(b : Int), (y : Int)⟩) = f at *
 refine ⟨a, x - f, b, y - f, h1, by omega, h2, ?_, by omega, ?_, ?_, ?_⟩
 · simp only [okB, Bool.and_eq_true, Bool.or_eq_true, decide_eq_true_eq]
   omega
 · by_cases e : a = b
   · subst e; right; omega
   · exact .inl e
 · rw [hl]; push_cast; omega
 · rw [hl]
theorem clone_at {a i b j d : Nat} (h1 : a < texts.length) (h2 : b < texts.length) (hp : ¬ preN (gi texts (a : Nat)).words (gi texts (b : Nat)).words i j) (hd : d < toN (gi texts (a : Nat)).words (gi texts (b : Nat)).words i j) :
   cloneP texts (⟨a, ((i + d : Nat) : Int)⟩, ⟨b, ((j + d : Nat) : Int)⟩) = ⟨a, i, b, j, (toN (gi texts (a : Nat)).words (gi texts (b : Nat)).words i j : Nat)⟩ ∧ 0 < toP texts (⟨a, ((i + d : Nat) : Int)⟩, ⟨b, ((j + d : Nat) : Int)⟩) ∧
     backP texts (⟨a, ((i + d : Nat) : Int)⟩, ⟨b, ((j + d : Nat) : Int)⟩) + toP texts (⟨a, ((i + d : Nat) : Int)⟩, ⟨b, ((j + d : Nat) : Int)⟩) = toN (gi texts (a : Nat)).words (gi texts (b : Nat)).words i j := by
 obtain ⟨e1, e2⟩ := run_at hp hd
 have eb : backP texts (⟨(a : Nat), ((i + d : Nat) : Int)⟩, ⟨(b : Nat), ((j + d : Nat) : Int)⟩) = d := by simp only [backP, Int.toNat_natCast]; exact e2
 have et : toP texts (⟨(a : Nat), ((i + d : Nat) : Int)⟩, ⟨(b : Nat), ((j + d : Nat) : Int)⟩) = toN (gi texts (a : Nat)).words (gi texts (b : Nat)).words i j - d := by simp only [toP, Int.toNat_natCast]; exact e1
 unfold cloneP
 rw [eb, et]
 refine ⟨?_, by omega, by omega⟩
 have e1 : ((i + d : Nat) : Int) - (d : Nat) = i := by omega
 have e2 : ((j + d : Nat) : Int) - (d : Nat) = j := by omega
 have e3 : ((d : Nat) : Int) + (toN (gi texts (a : Nat)).words (gi texts (b : Nat)).words i j - d : Nat) = (toN (gi texts (a : Nat)).words (gi texts (b : Nat)).words i j : Nat) := by omega
 simp only [e1, e2, e3]
theorem same_run (hp : OkP texts p) (hq : OkP texts q) (hd : diagP q = diagP p) (ht : 0 < toP texts q) (h1 : q.1.at_ ≤ p.1.at_) (h2 : p.1.at_ < q.1.at_ + toP texts q) : cloneP texts p = cloneP texts q ∧ backP texts p + toP texts p = backP texts q + toP texts q := by
 obtain ⟨a, x, b, y, eq, g1, g2, g3, g4, g5, g6, g7, g8, g9⟩ := run_of hq ht
 obtain ⟨⟨pa, px⟩, pb, py⟩ := p
 subst eq
 simp only [diagP, CloneDiagonal.mk.injEq] at hd h1 h2
 obtain ⟨d1, d2, d3⟩ := hd
 subst d1; subst d2
 obtain ⟨e, rfl⟩ : ∃ e : Nat, px = (x : Int) + e := ⟨(px - x).toNat, by omega⟩
 have hy : py = (y : Int) + e := by omega
 subst hy
 generalize hf : backP texts (⟨(a : Int), (x : Int)⟩, ⟨(b : Int), (y : Int)⟩) = f at *
 have := clone_at (texts := texts) (d := f + e) g1 g2 g7 (by rw [g8]; omega)
 rw [show x - f + (f + e) = x + e by omega, show y - f + (f + e) = y + e by omega] at this
 push_cast at this
 obtain ⟨c1, c2, c3⟩ := this
 refine ⟨?_, by rw [c3, g8]⟩
 rw [c1, g9, g8]
structure JJ (texts : List Text) (least only : Int) (done : List CPr) (s : CSt) : Prop where
 mem : ∀ c ∈ s.2.map (·.1), c ∈ refL texts least only
 nd : (s.2.map (·.1)).Nodup
 cov : ∀ p ∈ done, skipF only p.1 p.2 = false → 0 < toP texts p → least ≤ (backP texts p : Int) + toP texts p → cloneP texts p ∈ s.2.map (·.1)
 seen : ∀ d, kget 0 s.1 d ≠ 0 → ∃ p ∈ done, diagP p = d ∧ skipF only p.1 p.2 = false ∧ kget 0 s.1 d = p.1.at_ + ((max (toP texts p) 1 : Nat) : Int)
theorem JJ.start : JJ texts least only [] ([], []) := ⟨by simp, by simp, by simp, fun d h => absurd rfl h⟩
theorem JJ.skip {done : List CPr} {s : CSt} (J : JJ texts least only done s) (hsk : skipF only p.1 p.2 = true) : JJ texts least only (done ++ [p]) s := by
 refine ⟨J.mem, J.nd, fun q hq hs => ?_, fun d hd => ?_⟩
 · rcases List.mem_append.1 hq with hq | hq
   · exact J.cov q hq hs
   · simp at hq; subst hq; rw [hsk] at hs; cases hs
 · obtain ⟨q, h1, h2⟩ := J.seen d hd
   exact ⟨q, List.mem_append_left _ h1, h2⟩
theorem JJ.step {done : List CPr} {s : CSt} (J : JJ texts least only done s) (hok : OkP texts p) (hokd : ∀ q ∈ done, OkP texts q) (hord : ∀ q ∈ done, diagP q = diagP p → q.1.at_ ≤ p.1.at_) (hsk : skipF only p.1 p.2 = false) : JJ texts least only (done ++ [p]) (lookF texts least s.1 s.2 p.1 p.2) := by
 unfold lookF
 split
 · next hgt =>
   have hx0 := hok.x0
   obtain ⟨q, q1, q2, q3, q4⟩ := J.seen (diagP p) (by
     have : kget 0 s.1 (diagP (p.1, p.2)) > p.1.at_ := hgt
     have e : diagP (p.1, p.2) = diagP p := rfl
     rw [e] at this; omega)
   have hgt' : kget 0 s.1 (diagP p) > p.1.at_ := hgt
   have hle := hord q q1 q2
   refine ⟨J.mem, J.nd, fun r hr hs ht hn => ?_, fun d hd => ?_⟩
   · rcases List.mem_append.1 hr with hr | hr
     · exact J.cov r hr hs ht hn
     · simp at hr; subst hr
       rcases Nat.eq_zero_or_pos (toP texts q) with hz | hz
       · exfalso
         rw [hz] at q4
         have e : r.1.at_ = q.1.at_ := by simp at q4; omega
         have : r = q := by
           simp only [diagP, CloneDiagonal.mk.injEq] at q2
           obtain ⟨⟨ra, rx⟩, rb, ry⟩ := r
           obtain ⟨⟨qa, qx⟩, qb, qy⟩ := q
           simp only at q2 e
           obtain ⟨e1, e2, e3⟩ := q2
           subst e1; subst e2; subst e
           have : ry = qy := by omega
           subst this; rfl
         rw [this, hz] at ht; omega
       · obtain ⟨r1, r2⟩ := same_run hok (hokd q q1) q2 hz hle (by rw [Nat.max_eq_left hz] at q4; omega)
         rw [r1]
         exact J.cov q q1 q3 hz (by omega)
   · obtain ⟨q, h1, h2⟩ := J.seen d hd
     exact ⟨q, List.mem_append_left _ h1, h2⟩
 · next hgt =>
   have old : ∀ c, c ∈ s.2.map (·.1) → c ∈ (if least ≤ (backP texts (p.1, p.2) : Int) + toP texts (p.1, p.2) ∧ 0 < toP texts (p.1, p.2) then kset s.2 (cloneP texts (p.1, p.2)) () else s.2).map (·.1) := fun c hc => by
     split
     · exact kset_mem.2 (.inl hc)
     · exact hc
   refine ⟨fun c hc => ?_, ?_, fun r hr hs ht hn => ?_, fun d hd => ?_⟩
   · simp only at hc
     split at hc
     · next hcnd =>
       rcases kset_mem.1 hc with hc | hc
       · exact J.mem c hc
       · rw [hc]; exact clone_mem hok hsk hcnd.2 hcnd.1
     · exact J.mem c hc
   · simp only
     split
     · exact kset_nd J.nd
     · exact J.nd
   · rcases List.mem_append.1 hr with hr | hr
     · exact old _ (J.cov r hr hs ht hn)
     · simp at hr; subst hr
       simp only
       rw [if_pos ⟨hn, ht⟩]
       exact kset_mem.2 (.inr rfl)
   · simp only [kget_set] at hd ⊢
     split at hd
     · next e => exact ⟨p, by simp, e, hsk, by rw [if_pos e]⟩
     · next e =>
       obtain ⟨q, h1, h2, h3, h4⟩ := J.seen d hd
       exact ⟨q, List.mem_append_left _ h1, h2, h3, by rw [if_neg e]; exact h4⟩
theorem JJ.len {done : List CPr} {s : CSt} (J : JJ texts least only done s) : s.2.length ≤ (refL texts least only).length := by
 have := nodup_leK J.nd J.mem
 simpa using this
theorem scan_JJ : ∀ (rest done : List CPr) (s : CSt), JJ texts least only done s → (∀ p ∈ done ++ rest, OkP texts p) → (done ++ rest).Pairwise (fun q p => diagP q = diagP p → q.1.at_ ≤ p.1.at_) → s.2.length ≤ 1024 →
   (scanF texts least only rest s = none ∧ 1024 < (refL texts least only).length) ∨ (∃ s', scanF texts least only rest s = some s' ∧ JJ texts least only (done ++ rest) s' ∧ s'.2.length ≤ 1024)
 | [], done, s, J, _, _, hl => .inr ⟨s, rfl, by simpa using J, hl⟩
 | p :: rest, done, s, J, hok, hord, hl => by
   have e : done ++ p :: rest = (done ++ [p]) ++ rest := by simp
   simp only [scanF, stepF]
   by_cases hsk : skipF only p.1 p.2 = true
   · rw [if_pos hsk]
     have := scan_JJ rest (done ++ [p]) s (J.skip hsk) (by rw [← e]; exact hok) (by rw [← e]; exact hord) hl
     rw [← e] at this
     simpa using this
   · rw [if_neg hsk]
     have hskf : skipF only p.1 p.2 = false := by simpa using hsk
     have hord' := hord
     rw [List.pairwise_append] at hord'
     have J' := J.step (hok p (by simp)) (fun q hq => hok q (by simp [hq])) (fun q hq => hord'.2.2 q hq p (by simp)) hskf
     by_cases hlen : 1024 < (lookF texts least s.1 s.2 p.1 p.2).2.length
     · rw [if_pos hlen]
       exact .inl ⟨rfl, Nat.lt_of_lt_of_le hlen J'.len⟩
     · rw [if_neg hlen]
       have := scan_JJ rest (done ++ [p]) _ J' (by rw [← e]; exact hok) (by rw [← e]; exact hord) (by omega)
       rw [← e] at this
       simpa using this
end
theorem gi_consK {α : Type} [Inhabited α] (t : α) (l : List α) (j : Nat) : gi (t :: l) ((j + 1 : Nat) : Int) = gi l (j : Int) := by
 unfold gi
 rw [show (((j + 1 : Nat) : Int)).toNat = j + 1 by omega, show ((j : Int)).toNat = j by omega]
 simp
theorem flatP_memK {p : Pst} {k w : Int} : ∀ (l : List Text) (i : Nat), p ∈ flatP i l k w ↔ ∃ j : Nat, j < l.length ∧ ∃ x ∈ (printsF (gi l (j : Int)) k w).1, p = ⟨x.hash, ((i + j : Nat) : Int), x.at_⟩
 | [], i => by simp [flatP]
 | t :: l, i => by
   rw [flatP, List.mem_append, flatP_memK l (i + 1)]
   constructor
   · rintro (h | ⟨j, hj, x, hx, e⟩)
     · obtain ⟨x, hx, e⟩ := List.mem_map.1 h
       exact ⟨0, by simp, x, hx, by rw [← e]; simp⟩
     · exact ⟨j + 1, by simpa using hj, x, by rw [gi_consK]; exact hx, by rw [e]; congr 1; omega⟩
   · rintro ⟨j, hj, x, hx, e⟩
     cases j with
     | zero =>
       left
       exact List.mem_map.2 ⟨x, hx, by rw [e]; simp⟩
     | succ j =>
       right
       rw [gi_consK] at hx
       exact ⟨j, by simpa using hj, x, hx, by rw [e]; congr 1; omega⟩
theorem printsF_validK {t : Text} {k w : Int} (hv : validT t = true) (hk : sizeF k = true) (hw : sizeF w = true) : printsF t k w = (printsL t.words k.toNat w.toNat, 0) := by
 unfold printsF
 rw [if_pos hv, if_pos (by rw [hk, hw]; rfl)]
theorem sizeF_pos {k : Int} (h : sizeF k = true) : 1 ≤ k ∧ k ≤ 1024 := by simpa [sizeF] using h
section
variable {texts : List Text} {k w : Int} (hv : ∀ t ∈ texts, validT t = true) (hk : sizeF k = true) (hw : sizeF w = true)
include hv hk hw
theorem all_mem {p : Pst} : p ∈ flatP 0 texts k w ↔ ∃ j : Nat, j < texts.length ∧ ∃ x ∈ printsL (gi texts (j : Nat)).words k.toNat w.toNat, p = ⟨x.hash, (j : Int), x.at_⟩ := by
 rw [flatP_memK]
 constructor
 · rintro ⟨j, hj, x, hx, e⟩
   rw [printsF_validK (hv _ (gi_mem ⟨by omega, by omega⟩)) hk hw] at hx
   exact ⟨j, hj, x, hx, by rw [e]; simp⟩
 · rintro ⟨j, hj, x, hx, e⟩
   exact ⟨j, hj, x, by rw [printsF_validK (hv _ (gi_mem ⟨by omega, by omega⟩)) hk hw]; exact hx, by rw [e]; simp⟩
theorem all_bd {p : Pst} (h : p ∈ flatP 0 texts k w) : inL p.text texts.length ∧ 0 ≤ p.at_ ∧ p.at_ < (gi texts p.text).words.length := by
 obtain ⟨j, hj, x, hx, rfl⟩ := (all_mem hv hk hw).1 h
 have hw1 := sizeF_pos hw; have hk1 := sizeF_pos hk
 unfold printsL at hx
 obtain ⟨a, ha, rfl⟩ := List.mem_map.1 hx
 have := selL_bd (by omega) ha
 rw [grams_len] at this
 refine ⟨⟨by simp, by simp; omega⟩, this.1, ?_⟩
 have h2 := this.2
 simp only
 omega
theorem pairs_ok : ∀ p ∈ pairsF (flatP 0 texts k w), OkP texts p := by
 intro p hp
 simp only [pairsF, List.mem_flatMap, pairsX, places_get, List.mem_map, List.mem_filter] at hp
 obtain ⟨x, hx, y', ⟨y, ⟨hy, _⟩, rfl⟩, rfl⟩ := hp
 obtain ⟨a1, a2, a3⟩ := all_bd hv hk hw hx
 obtain ⟨b1, b2, b3⟩ := all_bd hv hk hw hy
 exact ⟨a1, b1, a2, by simp only [plOf]; omega, b2, by simp only [plOf]; omega⟩
theorem all_order : ∀ (l : List Text) (i : Nat), (∀ t ∈ l, validT t = true) → (flatP i l k w).Pairwise (fun x y => x.text < y.text ∨ (x.text = y.text ∧ x.at_ ≤ y.at_)) ∧ ∀ x ∈ flatP i l k w, (i : Int) ≤ x.text
 | [], i, _ => ⟨.nil, by simp [flatP]⟩
 | t :: l, i, h => by
   obtain ⟨h1, h2⟩ := all_order l (i + 1) (fun t ht => h t (List.mem_cons_of_mem _ ht))
   have hw1 := sizeF_pos hw
   have hp : (postsOf i (printsF t k w).1).Pairwise (fun x y => x.text < y.text ∨ (x.text = y.text ∧ x.at_ ≤ y.at_)) := by
     rw [printsF_validK (h t (by simp)) hk hw]
     unfold postsOf printsL
     rw [List.pairwise_map, List.pairwise_map]
     exact (selL_sorted _ (by omega)).imp fun {x y} hxy => .inr ⟨rfl, by simp; omega⟩
   have ht : ∀ x ∈ postsOf i (printsF t k w).1, x.text = (i : Int) := fun x hx => by
     obtain ⟨y, _, rfl⟩ := List.mem_map.1 hx; rfl
   rw [flatP]
   refine ⟨List.pairwise_append.2 ⟨hp, h1, fun x hx y hy => ?_⟩, fun x hx => ?_⟩
   · left; rw [ht x hx]; have := h2 y hy; omega
   · rcases List.mem_append.1 hx with hx | hx
     · rw [ht x hx]; omega
     · have := h2 x hx; omega
theorem pairs_order : (pairsF (flatP 0 texts k w)).Pairwise (fun q p => diagP q = diagP p → q.1.at_ ≤ p.1.at_) := by
 unfold pairsF
 rw [List.pairwise_flatMap]
 refine ⟨fun x _ => ?_, (all_order hv hk hw texts 0 hv).1.imp fun {x y} hxy u hu v hv' hd => ?_⟩
 · unfold pairsX
   rw [List.pairwise_map, List.pairwise_iff_forall_sublist]
   intro a b _ _
   exact Int.le_refl _
 · simp only [pairsX, List.mem_map] at hu hv'
   obtain ⟨u', _, rfl⟩ := hu; obtain ⟨v', _, rfl⟩ := hv'
   simp only [diagP, plOf, CloneDiagonal.mk.injEq] at hd ⊢
   omega
theorem pairs_cover {only : Int} {c : Clone} (h : c ∈ refL texts (k + w - 1) only) : ∃ p ∈ pairsF (flatP 0 texts k w), skipF only p.1 p.2 = false ∧ 0 < toP texts p ∧ k + w - 1 ≤ (backP texts p : Int) + toP texts p ∧ cloneP texts p = c := by
 obtain ⟨a, i, b, j, h1, h2, h3, h4, h5, h6, h7, rfl⟩ := mem_ref.1 h
 have hw1 := sizeF_pos hw; have hk1 := sizeF_pos hk
 obtain ⟨n1, n2⟩ := lenC_pos (a := gi texts (a : Nat)) (b := gi texts (b : Nat)) (i := i) (j := j) (by omega)
 rw [n2] at h7
 obtain ⟨d, g, d1, d2, d3⟩ := guarantee (a := (gi texts (a : Nat)).words) (b := (gi texts (b : Nat)).words) (k := k.toNat) (w := w.toNat) (i := i) (j := j) (by omega) (by omega) (by omega) (by omega) (by
   show k.toNat + w.toNat - 1 ≤ toN _ _ i j
   omega)
 obtain ⟨c1, c2, c3⟩ := clone_at (texts := texts) (d := d) h1 h3 n1 (by omega)
 have m1 : (⟨g, (a : Int), (i : Int) + d⟩ : Pst) ∈ flatP 0 texts k w := (all_mem hv hk hw).2 ⟨a, h1, _, d2, rfl⟩
 have m2 : (⟨g, (b : Int), (j : Int) + d⟩ : Pst) ∈ flatP 0 texts k w := (all_mem hv hk hw).2 ⟨b, h3, _, d3, rfl⟩
 push_cast at c1 c2 c3
 refine ⟨(⟨a, (i : Int) + d⟩, ⟨b, (j : Int) + d⟩), ?_, ?_, c2, by omega, ?_⟩
 · simp only [pairsF, List.mem_flatMap, pairsX, places_get, List.mem_map, List.mem_filter]
   exact ⟨_, m1, ⟨b, (j : Int) + d⟩, ⟨_, ⟨m2, decide_eq_true rfl⟩, rfl⟩, rfl⟩
 · simp only [okB, Bool.and_eq_true, Bool.or_eq_true, decide_eq_true_eq] at h4
   simp only [skipF, Bool.or_eq_false_iff, Bool.and_eq_false_iff, decide_eq_false_iff_not, ClonePlace.mk.injEq]
   omega
 · rw [c1, n2]
theorem scan_all (only : Int) : (scanF texts (k + w - 1) only (pairsF (flatP 0 texts k w)) ([], []) = none ∧ 1024 < (refL texts (k + w - 1) only).length) ∨
   (∃ s, scanF texts (k + w - 1) only (pairsF (flatP 0 texts k w)) ([], []) = some s ∧ ¬ 1024 < (refL texts (k + w - 1) only).length ∧ ∀ m : List Clone, m.Perm (s.2.map (·.1)) → sortF cloneCmp m = refL texts (k + w - 1) only) := by
 rcases scan_JJ (texts := texts) (least := k + w - 1) (only := only) (pairsF (flatP 0 texts k w)) [] ([], []) JJ.start (by simpa using pairs_ok hv hk hw) (by simpa using pairs_order hv hk hw) (by simp) with h | ⟨s, h1, J, h2⟩
 · exact .inl h
 · right
   have hmem : ∀ c, c ∈ s.2.map (·.1) ↔ c ∈ refL texts (k + w - 1) only := fun c => ⟨J.mem c, fun hc => by
     obtain ⟨p, p1, p2, p3, p4, rfl⟩ := pairs_cover hv hk hw hc
     exact J.cov p (by simpa using p1) p2 p3 p4⟩
   refine ⟨s, h1, ?_, fun m hm => found_sorted (hm.nodup_iff.2 J.nd) (fun c => hm.mem_iff.trans (hmem c))⟩
   have := nodup_leK (ref_nodup texts (k + w - 1) only) (fun c hc => (hmem c).2 hc)
   simp at this; omega
end
end Go.Lic
