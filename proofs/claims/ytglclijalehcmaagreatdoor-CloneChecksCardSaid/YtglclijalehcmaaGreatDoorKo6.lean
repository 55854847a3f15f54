/-
  The conditions of 'Families' hold. No program in sight.
-/
import Derived.Test.YtglclijalehcmaaGreatDoorKo5
set_option linter.all false
namespace Go.Lic
open Go.Proofs Go.Sort Go.Shelf
theorem gmax_more (a b : Int) : gmax a [b] = moreZ a b := rfl
theorem gmin_less (a b : Int) : gmin a [b] = lessZ a b := rfl
theorem less_facts (a b : Int) : (lessZ a b = b ∧ b ≤ a) ∨ (lessZ a b = a ∧ a ≤ b) := by unfold lessZ; split <;> omega
theorem more_facts (a b : Int) : (moreZ a b = a ∧ b ≤ a) ∨ (moreZ a b = b ∧ a ≤ b) := by unfold moreZ; split <;> omega
theorem badC_iff (n : Int) (c : Clone) : badC n c = true ↔ c.a < 0 ∨ n ≤ c.a ∨ c.b < 0 ∨ n ≤ c.b := by
 simp only [badC, Bool.or_eq_true, decide_eq_true_eq, or_assoc]
theorem relabel_len (g : List Int) (c : Clone) : (relabel g c).length = g.length := by simp [relabel]
theorem gi_relabel {g : List Int} {c : Clone} {i : Int} (h : inL i g.length) : gi (relabel g c) i = if gi g i = moreZ (gi g c.a) (gi g c.b) then lessZ (gi g c.a) (gi g c.b) else gi g i := by
 unfold relabel; rw [gi_mapK h]
theorem fill_id {n x : Int} {f : List Int} (hl : (f.length : Int) = n) (h0 : 0 ≤ x) (h1 : x < n) (h : ∀ j, 0 ≤ j → j < x → gi f j = j) : ((si f x x).length : Int) = n ∧ ∀ j, 0 ≤ j → j < x + 1 → gi (si f x x) j = j := by
 refine ⟨by rw [si_length]; exact hl, fun j j0 j1 => ?_⟩
 rw [gi_siK (by omega) _ j0]
 split
 · next e => exact e.symm
 · exact h j j0 (by omega)
theorem is_id {n : Int} {f : List Int} (hl : (f.length : Int) = n) (h : ∀ j, 0 ≤ j → j < n → gi f j = j) : f = idL n := by
 have hn : 0 ≤ n := by omega
 refine list_ext_gi (by have := idL_len hn; omega) fun j j0 j1 => ?_
 rw [h j j0 (by omega), gi_idL j0 (by omega)]
def memN (g : List Int) (i : Int) (n : Nat) : List Int := ((List.range n).filter fun k => decide (gi g (k : Nat) = i)).map fun (k : Nat) => (k : Int)
theorem memN_succ (g : List Int) (i : Int) (n : Nat) : memN g i (n + 1) = if gi g (n : Nat) = i then memN g i n ++ [(n : Int)] else memN g i n := by
 unfold memN
 rw [List.range_succ, List.filter_append, List.map_append]
 by_cases h : gi g (n : Nat) = i
 · rw [if_pos h, List.filter_cons, if_pos (by simpa using h)]; rfl
 · rw [if_neg h, List.filter_cons, if_neg (by simpa using h)]; simp
theorem memN_len (g : List Int) (i : Int) (n : Nat) : (memN g i n).length ≤ n := by
 unfold memN; rw [List.length_map]; exact Nat.le_trans (List.length_filter_le _ _) (by simp)
theorem members_eq (g : List Int) (i : Int) : membersF g i = memN g i g.length := rfl
def famN (g : List Int) (n : Nat) : List (List Int) := ((List.range n).map fun (i : Nat) => membersF g i).filter fun l => decide (1 < l.length)
theorem famN_succ (g : List Int) (n : Nat) : famN g (n + 1) = if 1 < (membersF g (n : Nat)).length then famN g n ++ [membersF g (n : Nat)] else famN g n := by
 unfold famN
 rw [List.range_succ, List.map_append, List.filter_append]
 by_cases h : 1 < (membersF g (n : Nat)).length
 · rw [if_pos h, List.map_cons, List.filter_cons, if_pos (by simpa using h)]; rfl
 · rw [if_neg h, List.map_cons, List.filter_cons, if_neg (by simpa using h)]; simp
theorem famN_len (g : List Int) (n : Nat) : (famN g n).length ≤ n := by
 unfold famN; exact Nat.le_trans (List.length_filter_le _ _) (by simp)
theorem famL_eq (n : Int) (g : List Int) : famL n g = famN g n.toNat := rfl
theorem any_take {n : Int} {x : List Clone} {i : Int} (hi : inL i x.length) (hb : badC n (gi x i) = true) : x.any (badC n) = true := List.any_eq_true.2 ⟨_, gi_mem hi, hb⟩
theorem rsamel_ok (a : (List (List Int))) (b : (List (List Int))) (Q : Bool → Prop) (hp0 : a.length ≤ 1000) (hp1 : ∀ z_ ∈ a, z_.length ≤ 1000) (h : Q ((decide (a = b)))) : rsamel_vc a b Q := by
 refine ⟨fun hn => by rwa [decide_eq_false (fun e => hn (by rw [e]))] at h, fun hl => ?_⟩
 refine lfp_of (fun i : Int => 0 ≤ i ∧ i ≤ a.length ∧ ∀ j : Int, 0 ≤ j → j < i → gi a j = gi b j) (fun i => (a.length - i).toNat) (fun i hi again hag => ?_) ⟨by omega, by omega, fun j _ _ => by omega⟩
 obtain ⟨h0, h1, h2⟩ := hi
 refine ⟨fun hlt => ⟨⟨h0, hlt⟩, by omega, fun hn => ?_, fun hll => ?_⟩, fun hn => ?_⟩
 · rwa [decide_eq_false (fun e => hn (by rw [e]))] at h
 · have hm := hp1 _ (gi_mem (l := a) (i := i) ⟨h0, hlt⟩)
   refine lfp_of (fun k : Int => 0 ≤ k ∧ k ≤ (gi a i).length ∧ ∀ j : Int, 0 ≤ j → j < k → gi (gi a i) j = gi (gi b i) j) (fun k => ((gi a i).length - k).toNat) (fun k hk again5 hag5 => ?_) ⟨by omega, by omega, fun j _ _ => by omega⟩
   obtain ⟨k0, k1, k2⟩ := hk
   refine ⟨⟨h0, hlt⟩, fun hlt2 => ⟨⟨h0, hlt⟩, ⟨k0, hlt2⟩, by omega, by omega, fun hn => ?_, fun he => ⟨by omega, hag5 _ ⟨by omega, by omega, fun j j0 j1 => ?_⟩ (by omega)⟩⟩, fun hn2 => ⟨by omega, hag _ ⟨by omega, by omega, fun j j0 j1 => ?_⟩ (by omega)⟩⟩
   · rwa [decide_eq_false (fun e => hn (by rw [e]))] at h
   · by_cases e : j = k
     · rw [e]; exact he
     · exact k2 j j0 (by omega)
   · by_cases e : j = i
     · rw [e]; exact list_ext_gi (by omega) fun q q0 q1 => k2 q q0 (by omega)
     · exact h2 j j0 (by omega)
 · rwa [decide_eq_true (list_ext_gi (by omega) fun q q0 q1 => h2 q q0 (by omega))] at h
theorem kfam_ok (n : Int) (x : (List Clone)) (Q : (List (List Int)) × Int → Prop) (hp0 : x.length ≤ 1000000) (h : Q (famF n x)) : kfam_vc n x Q := by
 unfold famF at h
 refine ⟨fun hb => by rw [if_pos (by omega)] at h; exact h, fun hg => ⟨by omega, ?_⟩⟩
 rw [if_neg (by omega)] at h
 have hn : 0 ≤ n ∧ n ≤ 64 := by omega
 have hrl : (((List.replicate n.toNat (0 : Int)).length : Nat) : Int) = n := by simp; omega
 refine lfp2 (kfam_L1 n x Q) (fun f x1 => 0 ≤ x1 ∧ x1 ≤ n ∧ (f.length : Int) = n ∧ ∀ j, 0 ≤ j → j < x1 → gi f j = j) (fun _ x1 => (n - x1).toNat) (fun f x1 hst again hag => ?_) ⟨by omega, by omega, hrl, fun j _ _ => by omega⟩
 obtain ⟨h0, h1, h2, h3⟩ := hst
 refine ⟨fun hlt => ?_, fun hnn => ?_⟩
 · rw [hrl] at hlt
   obtain ⟨e1, e2⟩ := fill_id h2 h0 hlt h3
   exact ⟨by omega, by omega, hag _ _ ⟨by omega, by omega, e1, e2⟩ (by omega)⟩
 · rw [hrl] at hnn
   have hid := is_id h2 (fun j j0 j1 => h3 j j0 (by omega))
   subst hid
   refine lfp2 (kfam_L2 n x Q) (fun g x2 => 0 ≤ x2 ∧ x2 ≤ x.length ∧ (g.length : Int) = n ∧ (x.drop x2.toNat).foldl relabel g = labF n x ∧ ∀ j : Int, 0 ≤ j → j < x2 → badC n (gi x j) = false) (fun _ x2 => (x.length - x2).toNat) (fun g x2 hst again5 hag5 => ?_) ⟨by omega, by omega, h2, rfl, fun j _ _ => by omega⟩
   obtain ⟨g0, g1, g2, g3, g4⟩ := hst
   refine ⟨fun hlt => ⟨⟨g0, hlt⟩, fun hb => ?_, fun hgd => ?_⟩, fun hnn2 => ?_⟩
   · rw [gmin_less, gmax_more] at hb
     have := less_facts (gi x x2).a (gi x x2).b; have := more_facts (gi x x2).a (gi x x2).b
     rw [if_pos (any_take ⟨g0, hlt⟩ ((badC_iff _ _).2 (by omega)))] at h
     exact h
   · rw [gmin_less, gmax_more] at hgd
     have := less_facts (gi x x2).a (gi x x2).b; have := more_facts (gi x x2).a (gi x x2).b
     have hbc : badC n (gi x x2) = false := by
       rw [Bool.eq_false_iff]; intro hh; have := (badC_iff _ _).1 hh; omega
     rw [drop_gi ⟨g0, hlt⟩, List.foldl_cons] at g3
     refine ⟨by omega, by omega, ?_⟩
     refine lfp2 (kfam_L3 x g x2 again5) (fun f x3 => 0 ≤ x3 ∧ x3 ≤ n ∧ (f.length : Int) = n ∧ ∀ j, 0 ≤ j → j < n → gi f j = if j < x3 then gi (relabel g (gi x x2)) j else gi g j) (fun _ x3 => (n - x3).toNat) (fun f x3 hst again9 hag9 => ?_) ⟨by omega, by omega, g2, fun j j0 j1 => by rw [if_neg (by omega)]⟩
     obtain ⟨k0, k1, k2, k3⟩ := hst
     unfold kfam_L3
     rw [gmin_less, gmax_more]
     refine ⟨fun hlt3 => ?_, fun hn3 => ⟨by omega, hag5 _ _ ⟨by omega, by omega, k2, ?_, fun j j0 j1 => ?_⟩ (by omega)⟩⟩
     · have hx3 := k3 x3 k0 (by omega)
       rw [if_neg (by omega)] at hx3
       have hr := gi_relabel (g := g) (c := gi x x2) (i := x3) (by omega)
       rw [hx3]
       refine ⟨by omega, fun he => ⟨by omega, by omega, hag9 _ _ ⟨by omega, by omega, by rw [si_length]; exact k2, fun j j0 j1 => ?_⟩ (by omega)⟩, fun hne => ⟨by omega, hag9 _ _ ⟨by omega, by omega, k2, fun j j0 j1 => ?_⟩ (by omega)⟩⟩
       · rw [gi_siK (by omega) _ j0]
         by_cases e : j = x3
         · subst e; rw [if_pos rfl, if_pos (by omega), hr, if_pos he]
         · rw [if_neg e, k3 j j0 j1]
           by_cases e2 : j < x3
           · rw [if_pos e2, if_pos (by omega)]
           · rw [if_neg e2, if_neg (by omega)]
       · rw [k3 j j0 j1]
         by_cases e : j = x3
         · subst e; rw [if_neg (by omega), if_pos (by omega), hr, if_neg hne]
         · by_cases e2 : j < x3
           · rw [if_pos e2, if_pos (by omega)]
           · rw [if_neg e2, if_neg (by omega)]
     · have : f = relabel g (gi x x2) := list_ext_gi (by rw [relabel_len]; omega) fun j j0 j1 => by rw [k3 j j0 (by omega), if_pos (by omega)]
       rw [this]; exact g3
     · by_cases e : j = x2
       · rw [e]; exact hbc
       · exact g4 j j0 (by omega)
   · rw [drop_end hnn2, List.foldl_nil] at g3
     subst g3
     rw [if_neg (by
       intro hh
       obtain ⟨c, hc, hb⟩ := List.any_eq_true.1 hh
       obtain ⟨q, hq, e⟩ := List.getElem_of_mem hc
       have := g4 (q : Int) (by omega) (by omega)
       rw [gi_nat hq, e, hb] at this; cases this)] at h
     generalize labF n x = g at *
     refine lfp2 (kfam_L4 n g Q) (fun m x4 => 0 ≤ x4 ∧ x4 ≤ n ∧ mnd m ∧ ∀ i, mget [] m i = memN g i x4.toNat) (fun _ x4 => (n - x4).toNat) (fun m x4 hst again14 hag14 => ?_) ⟨by omega, by omega, by simp [mnd], fun i => rfl⟩
     obtain ⟨k0, k1, k2, k3⟩ := hst
     refine ⟨fun hlt => ⟨by omega, ⟨?_, ?_⟩, k2, by omega, hag14 _ _ ⟨by omega, by omega, mset_nd k2, fun i => ?_⟩ (by omega)⟩, fun hn4 => ?_⟩
     · rw [k3]; have := memN_len g (gi g x4) x4.toNat; simp; omega
     · rw [k3]; have := memN_len g (gi g x4) x4.toNat; simp; omega
     · rw [mget_set, show (x4 + 1).toNat = x4.toNat + 1 by omega, memN_succ, show ((x4.toNat : Nat) : Int) = x4 by omega, k3, k3]
       by_cases e : gi g x4 = i
       · rw [if_pos e, if_pos e, e]
       · rw [if_neg e, if_neg e]
     · have hm : ∀ i, mget [] m i = membersF g i := fun i => by rw [k3, members_eq]; congr 1; omega
       refine lfp2 (kfam_L5 n m Q) (fun out x5 => 0 ≤ x5 ∧ x5 ≤ n ∧ out = famN g x5.toNat) (fun _ x5 => (n - x5).toNat) (fun out x5 hst again22 hag22 => ?_) ⟨by omega, by omega, rfl⟩
       obtain ⟨q0, q1, rfl⟩ := hst
       unfold kfam_L5
       rw [hm]
       have hfl := famN_len g x5.toNat
       have hs := famN_succ g x5.toNat
       rw [show ((x5.toNat : Nat) : Int) = x5 by omega] at hs
       refine ⟨fun hlt => ⟨fun hb => ⟨⟨by simp; omega, by simp; omega⟩, by omega, hag22 _ _ ⟨by omega, by omega, ?_⟩ (by omega)⟩, fun hb => ⟨by omega, hag22 _ _ ⟨by omega, by omega, ?_⟩ (by omega)⟩⟩, fun hn5 => ?_⟩
       · rw [show (x5 + 1).toNat = x5.toNat + 1 by omega, hs, if_pos (by omega)]
       · rw [show (x5 + 1).toNat = x5.toNat + 1 by omega, hs, if_neg (by omega)]
       · rw [famL_eq] at h
         rw [show x5.toNat = n.toNat by omega]; exact h
theorem rfam_ok (n : Int) (x : (List Clone)) (Q : (List (List Int)) × Int → Prop) (hp0 : x.length ≤ 1000000) (h : Q (famF n x)) : rfam_vc n x Q := by
 unfold famF at h
 refine ⟨fun hb => by rw [if_pos (by omega)] at h; exact h, fun hg => ?_⟩
 rw [if_neg (by omega)] at h
 have hn : 0 ≤ n ∧ n ≤ 64 := by omega
 refine lfp_of (fun i : Int => 0 ≤ i ∧ i ≤ x.length ∧ ∀ j : Int, 0 ≤ j → j < i → badC n (gi x j) = false) (fun i => (x.length - i).toNat) (fun i hst again hag => ?_) ⟨by omega, by omega, fun j _ _ => by omega⟩
 obtain ⟨a0, a1, a2⟩ := hst
 refine ⟨fun hlt => ⟨⟨a0, hlt⟩, fun hb => ?_, fun hgd => ⟨by omega, hag _ ⟨by omega, by omega, fun j j0 j1 => ?_⟩ (by omega)⟩⟩, fun hnn => ⟨by omega, ?_⟩⟩
 · rw [if_pos (any_take ⟨a0, hlt⟩ ((badC_iff _ _).2 (by omega)))] at h
   exact h
 · by_cases e : j = i
   · rw [e, Bool.eq_false_iff]; intro hh; have := (badC_iff _ _).1 hh; omega
   · exact a2 j j0 (by omega)
 have hbad : ∀ c ∈ x, badC n c = false := fun c hc => by
   obtain ⟨q, hq, e⟩ := List.getElem_of_mem hc
   have := a2 (q : Int) (by omega) (by omega)
   rwa [gi_nat hq, e] at this
 have hrange : ∀ j : Int, 0 ≤ j → j < x.length → 0 ≤ (gi x j).a ∧ (gi x j).a < n ∧ 0 ≤ (gi x j).b ∧ (gi x j).b < n := fun j j0 j1 => by
   have := hbad _ (gi_mem (l := x) (i := j) ⟨j0, j1⟩)
   simp only [badC, Bool.or_eq_false_iff, decide_eq_false_iff_not] at this
   omega
 rw [if_neg (by
   intro hh
   obtain ⟨c, hc, hb⟩ := List.any_eq_true.1 hh
   rw [hbad c hc] at hb; cases hb)] at h
 refine lfp2 (rfam_L2 n x Q) (fun f x1 => 0 ≤ x1 ∧ x1 ≤ n ∧ (f.length : Int) = n ∧ ∀ j, 0 ≤ j → j < x1 → gi f j = j) (fun _ x1 => (n - x1).toNat) (fun f x1 hst again9 hag9 => ?_) ⟨by omega, by omega, by simp; omega, fun j _ _ => by omega⟩
 obtain ⟨h0, h1, h2, h3⟩ := hst
 refine ⟨fun hlt => ?_, fun hnn => ?_⟩
 · obtain ⟨e1, e2⟩ := fill_id h2 h0 hlt h3
   exact ⟨by omega, by omega, hag9 _ _ ⟨by omega, by omega, e1, e2⟩ (by omega)⟩
 have hid := is_id h2 (fun j j0 j1 => h3 j j0 (by omega))
 subst hid
 refine lfp2 (rfam_L3 n x Q) (fun g b => Lab n x g ∧ (b = false → ∀ c ∈ x, gi g c.a = gi g c.b)) (fun g b => if b = true then sumN g + 1 else 0) (fun g b hst again11 hag11 => ?_) ⟨lab_id hn.1 x, fun hb => by cases hb⟩
 obtain ⟨hg1, hg2⟩ := hst
 refine ⟨fun hb => ?_, fun hb => ?_⟩
 · subst hb
   refine lfp3 (rfam_L4 x again11) (fun f b i2 => 0 ≤ i2 ∧ i2 ≤ x.length ∧ Lab n x f ∧ (b = true → sumN f < sumN g) ∧ (b = false → f = g ∧ ∀ j : Int, 0 ≤ j → j < i2 → gi g (gi x j).a = gi g (gi x j).b)) (fun _ _ i2 => (x.length - i2).toNat) (fun f b i2 hst again13 hag13 => ?_) ⟨by omega, by omega, hg1, (fun hb => nomatch hb), fun _ => ⟨rfl, fun j _ _ => by omega⟩⟩
   obtain ⟨q0, q1, q2, q3, q4⟩ := hst
   have hfl := q2.len
   refine ⟨fun hlt => ?_, fun hn2 => hag11 _ _ ⟨q2, fun hb => ?_⟩ ?_⟩
   · obtain ⟨r1, r2, r3, r4⟩ := hrange i2 q0 hlt
     have l1 := q2.le _ r1 r2; have l2 := q2.le _ r3 r4
     have c1 := q2.conn _ r1 r2; have c2 := q2.conn _ r3 r4
     have ce := Conn.edge (gi_mem (l := x) (i := i2) ⟨q0, hlt⟩)
     have hsum : sumN f ≤ sumN g := by
       cases b with
       | true => exact Nat.le_of_lt (q3 rfl)
       | false => rw [(q4 rfl).1]; exact Nat.le_refl _
     refine ⟨⟨q0, hlt⟩, by omega, by omega, fun hab => ⟨⟨q0, hlt⟩, by omega, ?_⟩, fun hnab => ?_⟩
     · refine ⟨fun hba => by omega, fun _ => ⟨by omega, hag13 _ _ _ ⟨by omega, by omega, lab_si q2 r3 r4 (by omega) hab (ce.symm.trans c1), fun _ => ?_, fun hb => by cases hb⟩ (by omega)⟩⟩
       exact Nat.lt_of_lt_of_le (sumN_si (by omega) (by omega) hab) hsum
     · refine ⟨fun hba => ⟨⟨q0, hlt⟩, by omega, by omega, hag13 _ _ _ ⟨by omega, by omega, lab_si q2 r1 r2 (by omega) hba (ce.trans c2), fun _ => ?_, fun hb => by cases hb⟩ (by omega)⟩, fun hnba => ⟨by omega, hag13 _ _ _ ⟨by omega, by omega, q2, q3, fun hb => ⟨(q4 hb).1, fun j j0 j1 => ?_⟩⟩ (by omega)⟩⟩
       · exact Nat.lt_of_lt_of_le (sumN_si (by omega) (by omega) hba) hsum
       · by_cases e : j = i2
         · subst e; have := (q4 hb).1; rw [this] at hnab hnba; omega
         · exact (q4 hb).2 j j0 (by omega)
   · obtain ⟨e1, e2⟩ := q4 hb
     intro c hc
     obtain ⟨q, hq, e⟩ := List.getElem_of_mem hc
     have := e2 (q : Int) (by omega) (by omega)
     rw [gi_nat hq, e] at this
     rw [e1]; exact this
   · cases b with
     | true => have := q3 rfl; simp; omega
     | false => simp
 · have hL := labF_lab hn.1 hbad
   have e := lab_uniq hg1 (hg2 hb) hL.1 hL.2
   subst e
   have hgl := hg1.len
   generalize labF n x = g at *
   refine lfp2 (rfam_L5 n g Q) (fun out x5 => 0 ≤ x5 ∧ x5 ≤ n ∧ out = famN g x5.toNat) (fun _ x5 => (n - x5).toNat) (fun out x5 hst again18 hag18 => ?_) ⟨by omega, by omega, rfl⟩
   obtain ⟨q0, q1, rfl⟩ := hst
   refine ⟨fun hlt => ?_, fun hn5 => ?_⟩
   · refine lfp2 (rfam_L6 n g (famN g x5.toNat) x5 again18) (fun f k => 0 ≤ k ∧ k ≤ n ∧ f = memN g x5 k.toNat) (fun _ k => (n - k).toNat) (fun f k hst again21 hag21 => ?_) ⟨by omega, by omega, rfl⟩
     obtain ⟨k0, k1, rfl⟩ := hst
     have hml := memN_len g x5 k.toNat
     have hms := memN_succ g x5 k.toNat
     rw [show ((k.toNat : Nat) : Int) = k by omega] at hms
     have hfl := famN_len g x5.toNat
     have hs := famN_succ g x5.toNat
     rw [show ((x5.toNat : Nat) : Int) = x5 by omega] at hs
     refine ⟨fun hlt2 => ⟨by omega, fun he => ⟨⟨by simp; omega, by simp; omega⟩, by omega, hag21 _ _ ⟨by omega, by omega, ?_⟩ (by omega)⟩, fun hne => ⟨by omega, hag21 _ _ ⟨by omega, by omega, ?_⟩ (by omega)⟩⟩, fun hn2 => ?_⟩
     · rw [show (k + 1).toNat = k.toNat + 1 by omega, hms, if_pos he]
     · rw [show (k + 1).toNat = k.toNat + 1 by omega, hms, if_neg hne]
     · have hm : memN g x5 k.toNat = membersF g x5 := by rw [members_eq]; congr 1; omega
       rw [hm]
       refine ⟨fun hb => ⟨⟨by simp; omega, by simp; omega⟩, by omega, hag18 _ _ ⟨by omega, by omega, ?_⟩ (by omega)⟩, fun hb => ⟨by omega, hag18 _ _ ⟨by omega, by omega, ?_⟩ (by omega)⟩⟩
       · rw [show (x5 + 1).toNat = x5.toNat + 1 by omega, hs, if_pos (by omega)]
       · rw [show (x5 + 1).toNat = x5.toNat + 1 by omega, hs, if_neg (by omega)]
   · rw [famL_eq] at h
     rw [show x5.toNat = n.toNat by omega]; exact h
end Go.Lic
