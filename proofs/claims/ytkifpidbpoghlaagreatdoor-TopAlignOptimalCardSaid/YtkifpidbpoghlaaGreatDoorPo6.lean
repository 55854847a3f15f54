/-
  The shortest patch: its hunks, what it costs, what it makes. No program in sight.
-/
import Derived.Test.YtkifpidbpoghlaaGreatDoorPo5
set_option linter.all false
namespace Go.Lic
open Go.Proofs Go.Sort
def lastK (l : List Hunk) : Int := match l.getLast? with | some h => h.kind | none => 0
@[simp] theorem lastK_snoc (l : List Hunk) (h : Hunk) : lastK (l ++ [h]) = h.kind := by simp [lastK]
inductive HP (a b : List ByteArray) : List Hunk → Nat → Nat → Nat → Prop
 | nil : HP a b [] 0 0 0
 | drop {hs : List Hunk} {i j k n : Nat} (h : HP a b hs i j k) (hn : 1 ≤ n) (hi : i + n ≤ a.length) (hl : lastK hs = 0 ∨ lastK hs = 1) : HP a b (hs ++ [⟨2, n, []⟩]) (i + n) j k
 | add {hs : List Hunk} {i j k n : Nat} (h : HP a b hs i j k) (hn : 1 ≤ n) (hj : j + n ≤ b.length) (hl : lastK hs ≠ 3) : HP a b (hs ++ [⟨3, n, (b.drop j).take n⟩]) i (j + n) k
 | keep {hs : List Hunk} {i j k n : Nat} (h : HP a b hs i j k) (hn : 1 ≤ n) (hi : i + n ≤ a.length) (hj : j + n ≤ b.length) (he : (a.drop i).take n = (b.drop j).take n) (hl : lastK hs ≠ 1) : HP a b (hs ++ [⟨1, n, []⟩]) (i + n) (j + n) (k + n)
variable {a b : List ByteArray}
theorem HP.le {hs : List Hunk} {i j k : Nat} (h : HP a b hs i j k) : i ≤ a.length ∧ j ≤ b.length ∧ k ≤ i ∧ k ≤ j ∧ hs.length ≤ i + j := by
 induction h with
 | nil => simp
 | drop h hn hi hl ih => simp; omega
 | add h hn hj hl ih => simp; omega
 | keep h hn hi hj he hl ih => simp; omega
theorem HP.sizes {hs : List Hunk} {i j k : Nat} (h : HP a b hs i j k) : hs.foldl sizeStep (0, 0, 0) = ((k : Int), (i : Int) - k, (j : Int) - k) := by
 induction h with
 | nil => rfl
 | @drop hs i j k n h hn hi hl ih =>
   rw [List.foldl_append, ih]
   simp only [List.foldl_cons, List.foldl_nil, sizeStep]
   rw [if_neg (by decide), if_pos trivial]
   simp; omega
 | @add hs i j k n h hn hj hl ih =>
   rw [List.foldl_append, ih]
   simp only [List.foldl_cons, List.foldl_nil, sizeStep]
   rw [if_neg (by decide), if_neg (by decide)]
   simp; omega
 | @keep hs i j k n h hn hi hj he hl ih =>
   rw [List.foldl_append, ih]
   simp only [List.foldl_cons, List.foldl_nil, sizeStep]
   rw [if_pos trivial]
   simp; omega
theorem take_more {α : Type} (l : List α) (j n : Nat) : l.take (j + n) = l.take j ++ (l.drop j).take n := List.take_add
theorem HP.out {hs : List Hunk} {i j k : Nat} (h : HP a b hs i j k) : hs.foldl (applyStep a) ([], 0) = (b.take j, (i : Int)) := by
 induction h with
 | nil => rfl
 | @drop hs i j k n h hn hi hl ih =>
   rw [List.foldl_append, ih]
   simp only [List.foldl_cons, List.foldl_nil, applyStep]
   rw [if_neg (by decide), if_pos trivial]
   simp
 | @add hs i j k n h hn hj hl ih =>
   rw [List.foldl_append, ih]
   simp only [List.foldl_cons, List.foldl_nil, applyStep]
   rw [if_neg (by decide), if_neg (by decide), take_more]
 | @keep hs i j k n h hn hi hj he hl ih =>
   rw [List.foldl_append, ih]
   simp only [List.foldl_cons, List.foldl_nil, applyStep]
   rw [if_pos trivial]
   have e : lsub a (i : Int) ((i : Int) + (n : Int)) = (b.drop j).take n := by
     rw [← he]
     unfold lsub
     rw [show ((i : Int) + (n : Int)).toNat = i + n by omega, Int.toNat_natCast, take_more, List.drop_append, List.length_take]
     have hle := h.le
     rw [List.drop_eq_nil_of_le (by rw [List.length_take]; omega), show i - min i a.length = 0 by omega]; rfl
   simp only [e]
   rw [take_more]
   simp
theorem gi_snoc {α : Type} [Inhabited α] {l : List α} {x : α} {k : Int} (h : inL k l.length) : gi (l ++ [x]) k = gi l k := by
 unfold gi; rw [List.getD_eq_getElem?_getD, List.getD_eq_getElem?_getD, List.getElem?_append_left (by omega)]
theorem gi_end {α : Type} [Inhabited α] (l : List α) (x : α) : gi (l ++ [x]) (l.length : Int) = x := by
 unfold gi; rw [List.getD_eq_getElem?_getD, Int.toNat_natCast]; simp
theorem lastK_gi {l : List Hunk} (h : 0 < l.length) : lastK l = (gi l ((l.length : Int) - 1)).kind := by
 rcases List.eq_nil_or_concat l with e | ⟨l', x, e⟩
 · rw [e] at h; simp at h
 · rw [List.concat_eq_append] at e
   subst e
   rw [lastK_snoc, show ((l' ++ [x]).length : Int) - 1 = (l'.length : Int) by simp, gi_end]
theorem lastK_nil {l : List Hunk} (h : ¬ 0 < l.length) : lastK l = 0 := by
 have : l = [] := List.eq_nil_of_length_eq_zero (by omega)
 subst this; rfl
theorem hunksB_snoc {l : List Hunk} {x : Hunk} (h : hunksB l = true) (hx : hunkB x = true) (ha : l.length = 0 ∨ (¬ lastK l = x.kind ∧ ¬ (lastK l = 3 ∧ x.kind = 2))) : hunksB (l ++ [x]) = true := by
 rw [hunksB_iff] at h ⊢
 intro k hk
 rw [List.length_append, List.length_singleton] at hk
 rcases Nat.lt_or_ge k l.length with hlt | hge
 · have := (okAt_eq l k).1 (h k hlt)
   rw [okAt_eq, gi_snoc ⟨by omega, by omega⟩]
   refine ⟨this.1, ?_⟩
   rcases Nat.eq_zero_or_pos k with e | e
   · exact .inl e
   · rw [gi_snoc ⟨by omega, by omega⟩]; exact this.2
 · have e : k = l.length := by omega
   subst e
   rw [okAt_eq, gi_end]
   refine ⟨hx, ?_⟩
   rcases Nat.eq_zero_or_pos l.length with e | e
   · exact .inl e
   · right
     rw [gi_snoc ⟨by omega, by omega⟩, ← lastK_gi e]
     exact ha.resolve_left (by omega)
theorem HP.hunks {hs : List Hunk} {i j k : Nat} (h : HP a b hs i j k) (ha : a.length ≤ 1024) (hb : b.length ≤ 1024) (hn : ∀ z ∈ b, nlB z = false) : hunksB hs = true := by
 induction h with
 | nil => rfl
 | @drop hs i j k n h h1 hi hl ih =>
   refine hunksB_snoc ih ?_ ?_
   · simp [hunkB]; omega
   · right; simp only; omega
 | @add hs i j k n h h1 hj hl ih =>
   refine hunksB_snoc ih ?_ ?_
   · have e : ((b.drop j).take n).length = n := by rw [List.length_take, List.length_drop]; omega
     have e2 : ((b.drop j).take n).any nlB = false := by
       rw [List.any_eq_false]
       intro z hz
       rw [hn z (List.mem_of_mem_drop (List.mem_of_mem_take hz))]; decide
     unfold hunkB
     simp only [e, e2]
     simp; omega
   · right; simp only; exact ⟨hl, by omega⟩
 | @keep hs i j k n h h1 hi hj he hl ih =>
   refine hunksB_snoc ih ?_ ?_
   · simp [hunkB]; omega
   · right; simp only; exact ⟨hl, by omega⟩
theorem idx_none10 {l : List UInt8} (h : ∀ x ∈ l, x ≠ 10) : nlB (ba l) = false := by
 have key : ∀ l : List UInt8, (∀ x ∈ l, x ≠ 10) → Lib.indexByte l 10 = -1 := by
   intro l
   induction l with
   | nil => intro _; rfl
   | cons x l ih =>
     intro h
     have hx : (x == 10) = false := by simpa using h x (by simp)
     unfold Lib.indexByte
     rw [ih (fun y hy => h y (List.mem_cons_of_mem _ hy)), hx]; rfl
 have : indexF (ba l) nlS = -1 := key l h
 unfold nlB
 rw [this]; decide
theorem split_free {c : UInt8} : ∀ (l : List UInt8), ∀ p ∈ splitL c l, ∀ x ∈ p, x ≠ c
 | [], p, hp, x, hx => by
   rw [splitL, List.mem_singleton] at hp
   subst hp; cases hx
 | b :: l, p, hp, x, hx => by
   have ih := split_free (c := c) l
   unfold splitL at hp
   by_cases hb : b = c
   · rw [if_pos hb] at hp
     rcases List.mem_cons.1 hp with e | hp
     · subst e; cases hx
     · exact ih p hp x hx
   · rw [if_neg hb] at hp
     cases hs : splitL c l with
     | nil => exact absurd hs (split_ne l)
     | cons q r =>
       rw [hs] at hp ih
       simp only at hp
       rcases List.mem_cons.1 hp with e | hp
       · subst e
         rcases List.mem_cons.1 hx with e | hx
         · rw [e]; exact hb
         · exact ih q (by simp) x hx
       · exact ih p (List.mem_cons_of_mem _ hp) x hx
theorem split_nl (s : ByteArray) : ∀ z ∈ splitF s nlS, nlB z = false := by
 intro z hz
 have e : splitF s nlS = (splitL 10 s.data.toList).map ba := rfl
 rw [e] at hz
 obtain ⟨p, hp, rfl⟩ := List.mem_map.1 hz
 exact idx_none10 (split_free _ p hp)
theorem join_splitL (c : UInt8) : ∀ l : List UInt8, Lib.join (splitL c l) [c] = l
 | [] => rfl
 | b :: l => by
   have ih := join_splitL c l
   unfold splitL
   by_cases hb : b = c
   · rw [if_pos hb]
     cases hs : splitL c l with
     | nil => exact absurd hs (split_ne l)
     | cons q r =>
       rw [hs, Lib.join_cons] at ih
       rw [Lib.join_cons, hb]
       simp only [Lib.joinTail, List.map_cons, List.flatten_cons, List.nil_append] at ih ⊢
       rw [List.append_assoc, ih]; rfl
   · rw [if_neg hb]
     cases hs : splitL c l with
     | nil => exact absurd hs (split_ne l)
     | cons q r =>
       rw [hs, Lib.join_cons] at ih
       simp only
       rw [Lib.join_cons, List.cons_append, ih]
theorem join_split_s (s : ByteArray) : joinS (splitF s nlS) nlS = s := by
 have e : splitF s nlS = (splitL 10 s.data.toList).map ba := rfl
 have e2 : ((splitL 10 s.data.toList).map ba).map (·.data.toList) = splitL 10 s.data.toList := by
   rw [List.map_map]
   have : (fun x : ByteArray => x.data.toList) ∘ ba = id := by funext l; rfl
   rw [this, List.map_id]
 have e3 : nlS.data.toList = [10] := rfl
 unfold joinS
 rw [e, e2, e3, join_splitL]
theorem itoa_free : ∀ n : Fin 1025, (Lib.itoa (n.val : Int)).all (fun x => x != 10) = true := by decide +kernel
theorem head_nl {h : Hunk} (hb : hunkB h = true) : nlB (headH h) = false := by
 obtain ⟨_, _, n0, n1, _⟩ := hunk_n hb
 have hi : ∀ x ∈ (itoaF h.n).data.toList, x ≠ 10 := by
   intro x hx
   have e : (itoaF h.n).data.toList = Lib.itoa h.n := rfl
   rw [e] at hx
   have := itoa_free ⟨h.n.toNat, by omega⟩
   rw [show (((⟨h.n.toNat, by omega⟩ : Fin 1025).val : Nat) : Int) = h.n by simp only; omega] at this
   have := List.all_eq_true.1 this x hx
   simpa using this
 have key : ∀ w : ByteArray, (∀ x ∈ w.data.toList, x ≠ 10) → nlB (w ++ itoaF h.n) = false := by
   intro w hw
   have e : w ++ itoaF h.n = ba (w.data.toList ++ (itoaF h.n).data.toList) := by
     apply ByteArray.ext; apply Array.ext'; simp [ba]
   rw [e]
   refine idx_none10 (fun x hx => ?_)
   rcases List.mem_append.1 hx with hx | hx
   · exact hw x hx
   · exact hi x hx
 unfold headH
 split
 · exact key _ (by decide)
 · split
   · exact key _ (by decide)
   · exact key _ (by decide)
theorem sizeS_app : ∀ l m : List ByteArray, sizeS (l ++ m) = sizeS l + sizeS m
 | [], m => by simp [sizeS]
 | s :: l, m => by have := sizeS_app l m; simp only [List.cons_append, sizeS]; omega
theorem HP.text {hs : List Hunk} {i j k : Nat} (h : HP a b hs i j k) (ha : a.length ≤ 1024) (hb : b.length ≤ 1024) : sizeS (hs.flatMap hunkL) ≤ 26 * hs.length + sizeS (b.take j) ∧ ((hs.flatMap hunkL).length : Int) ≤ hs.length + j := by
 have hd : ∀ (kd : Int) (n : Nat) (ls : List ByteArray), n ≤ 1024 → (headH ⟨kd, n, ls⟩).size ≤ 26 := by
   intro kd n ls hn
   have hi := itoa_le (n := (n : Int)) (by omega) (by omega)
   unfold headH
   rw [app_size]
   split
   · have : (⟨#[100, 114, 111, 112, 32]⟩ : ByteArray).size = 5 := rfl
     simp only; omega
   · split
     · have : (⟨#[97, 100, 100, 32]⟩ : ByteArray).size = 4 := rfl
       simp only; omega
     · have : (⟨#[107, 101, 101, 112, 32]⟩ : ByteArray).size = 5 := rfl
       simp only; omega
 induction h with
 | nil => simp [sizeS]
 | @drop hs i j k n h h1 hi hl ih =>
   have := hd 2 n [] (by omega)
   simp only [List.flatMap_append, List.flatMap_cons, List.flatMap_nil, sizeS_app, hunkL, sizeS, List.length_append, List.length_cons, List.length_nil]
   omega
 | @add hs i j k n h h1 hj hl ih =>
   have := hd 3 n ((b.drop j).take n) (by omega)
   rw [take_more, sizeS_app]
   simp only [List.flatMap_append, List.flatMap_cons, List.flatMap_nil, sizeS_app, hunkL, sizeS, List.length_append, List.length_cons, List.length_nil, List.append_nil, List.length_take, List.length_drop]
   omega
 | @keep hs i j k n h h1 hi hj he hl ih =>
   have := hd 1 n [] (by omega)
   have hnn := sizeS_nn ((b.drop j).take n)
   rw [take_more, sizeS_app]
   simp only [List.flatMap_append, List.flatMap_cons, List.flatMap_nil, sizeS_app, hunkL, sizeS, List.length_append, List.length_cons, List.length_nil]
   omega
theorem exists_min (p : Nat → Prop) : (∃ n, p n) → ∃ n, p n ∧ ∀ m, m < n → ¬ p m := by
 rintro ⟨n, hn⟩
 induction n using Nat.strongRecOn with
 | _ n ih =>
   by_cases h : ∃ m, m < n ∧ p m
   · obtain ⟨m, h1, h2⟩ := h; exact ih m h1 h2
   · exact ⟨n, hn, fun m hm hp => h ⟨m, hm, hp⟩⟩
theorem next_ex {i j left : Int} (h0 : 0 ≤ i) (h1 : 0 ≤ j) (h : ∃ x y, i ≤ x ∧ x < a.length ∧ j ≤ y ∧ y < b.length ∧ hitP a b left x y) : ∃ p, NextP a b i j left p := by
 obtain ⟨x0, y0, c1, c2, c3, c4, c5⟩ := h
 obtain ⟨x, ⟨y', hx1, hx2, hy1, hy2, hx3⟩, hxm⟩ := exists_min (fun x : Nat => ∃ y : Int, i ≤ (x : Int) ∧ (x : Int) < a.length ∧ j ≤ y ∧ y < b.length ∧ hitP a b left x y) ⟨x0.toNat, y0, by omega, by omega, c3, c4, by rw [show ((x0.toNat : Nat) : Int) = x0 by omega]; exact c5⟩
 obtain ⟨y, ⟨q1, q2, q3⟩, hym⟩ := exists_min (fun y : Nat => j ≤ (y : Int) ∧ (y : Int) < b.length ∧ hitP a b left x y) ⟨y'.toNat, by omega, by omega, by rw [show ((y'.toNat : Nat) : Int) = y' by omega]; exact hx3⟩
 refine ⟨((x : Int), (y : Int)), hx1, hx2, q1, q2, q3, fun x' y' g1 g2 g3 g4 g5 => ?_⟩
 rcases Int.lt_trichotomy x' x with hlt | he | hgt
 · exact absurd ⟨y', by omega, by omega, g3, g4, by rw [show ((x'.toNat : Nat) : Int) = x' by omega]; exact g5⟩ (hxm x'.toNat (by omega))
 · right
   refine ⟨he.symm, ?_⟩
   rcases Int.lt_or_le y' y with hlt | hle
   · exact absurd ⟨by omega, by omega, by rw [show ((y'.toNat : Nat) : Int) = y' by omega, ← he]; exact g5⟩ (hym y'.toNat (by omega))
   · exact hle
 · left; exact hgt
theorem flush_hp {hs : List Hunk} {i j k d : Nat} (h : HP a b hs i j k) (hl : lastK hs = 0 ∨ lastK hs = 1) {y : Nat} (hd : i + d ≤ a.length) (hy : j ≤ y) (hy2 : y ≤ b.length) : HP a b (zan ⟨hs, d, lsub b j y⟩).hunks (i + d) y k ∧ (zan ⟨hs, d, lsub b j y⟩).drop = 0 ∧ (zan ⟨hs, d, lsub b j y⟩).add = [] := by
 have e : lsub b (j : Int) (y : Int) = (b.drop j).take (y - j) := by
   unfold lsub
   rw [Int.toNat_natCast, Int.toNat_natCast, List.drop_take]
 have el : ((b.drop j).take (y - j)).length = y - j := by rw [List.length_take, List.length_drop]; omega
 refine ⟨?_, rfl, rfl⟩
 have h1 : HP a b (if (d : Int) > 0 then hs ++ [⟨2, d, []⟩] else hs) (i + d) j k ∧ lastK (if (d : Int) > 0 then hs ++ [⟨2, d, []⟩] else hs) ≠ 3 := by
   by_cases hd0 : (d : Int) > 0
   · rw [if_pos hd0]
     exact ⟨.drop h (by omega) hd hl, by rw [lastK_snoc]; exact (by decide : (2 : Int) ≠ 3)⟩
   · rw [if_neg hd0]
     have : d = 0 := by omega
     subst this
     exact ⟨h, by omega⟩
 unfold zan
 simp only
 rw [e]
 by_cases hy0 : 0 < ((b.drop j).take (y - j)).length
 · rw [if_pos hy0]
   have := HP.add (n := y - j) h1.1 (by omega) (by omega) h1.2
   rw [show j + (y - j) = y by omega] at this
   rw [show ((((b.drop j).take (y - j)).length : Nat) : Int) = ((y - j : Nat) : Int) by rw [el]]
   exact this
 · rw [if_neg hy0, List.append_nil]
   have : j = y := by omega
   subst this; exact h1.1
theorem HP.lastKeep {hs : List Hunk} {i j k : Nat} (h : HP a b hs i j k) (hl : lastK hs = 1) : ∃ hs0 i0 j0 k0 n, hs = hs0 ++ [⟨1, (n : Nat), []⟩] ∧ HP a b hs0 i0 j0 k0 ∧ 1 ≤ n ∧ i = i0 + n ∧ j = j0 + n ∧ k = k0 + n ∧ (a.drop i0).take n = (b.drop j0).take n ∧ lastK hs0 ≠ 1 := by
 cases h with
 | nil => cases hl
 | drop h hn hi hl2 => rw [lastK_snoc] at hl; cases hl
 | add h hn hj hl2 => rw [lastK_snoc] at hl; cases hl
 | @keep hs i j k n h hn hi hj he hl2 => exact ⟨hs, i, j, k, n, rfl, h, hn, rfl, rfl, rfl, he, hl2⟩
theorem keep_hp {hs : List Hunk} {i j k d : Nat} (h : HP a b hs i j k) (hl : lastK hs = 0 ∨ lastK hs = 1) {y : Nat} (hd : i + d < a.length) (hy : j ≤ y) (hy2 : y < b.length) (he : gi a ((i + d : Nat) : Int) = gi b (y : Int)) :
   ∃ hs', keepB ⟨hs, d, lsub b j y⟩ 1 = ⟨hs', 0, []⟩ ∧ HP a b hs' (i + d + 1) (y + 1) (k + 1) ∧ lastK hs' = 1 := by
 obtain ⟨f1, f2, f3⟩ := flush_hp h hl (d := d) (y := y) (by omega) hy (by omega)
 have heq : (a.drop (i + d)).take 1 = (b.drop y).take 1 := by
   rw [List.drop_eq_getElem_cons hd, List.drop_eq_getElem_cons hy2]
   rw [gi_nat hd, gi_nat hy2] at he
   simp only [List.take_succ_cons, List.take_zero, he]
 unfold keepB
 rw [if_neg (by decide), f2, f3]
 generalize (zan ⟨hs, d, lsub b j y⟩).hunks = l at f1
 by_cases hc : 0 < l.length ∧ (gi l ((l.length : Int) - 1)).kind = 1
 · rw [if_pos hc]
   have hk : lastK l = 1 := by rw [lastK_gi hc.1]; exact hc.2
   obtain ⟨l0, i0, j0, k0, n, e0, g1, g2, g3, g4, g5, g6, g7⟩ := f1.lastKeep hk
   subst e0
   have el : ((l0 ++ [(⟨1, (n : Int), []⟩ : Hunk)]).length : Int) - 1 = (l0.length : Int) := by simp
   rw [el, gi_end]
   have es : si (l0 ++ [(⟨1, (n : Int), []⟩ : Hunk)]) (l0.length : Int) ⟨1, (n : Int) + 1, []⟩ = l0 ++ [⟨1, ((n + 1 : Nat) : Int), []⟩] := by
     unfold si; rw [Int.toNat_natCast]; simp
   refine ⟨_, rfl, ?_, ?_⟩
   · simp only
     rw [es, g3, g4, g5]
     have := HP.keep (n := n + 1) g1 (by omega) (by omega) (by omega) ?_ g7
     · exact this
     · rw [take_more, take_more, List.drop_drop, List.drop_drop, g6, ← g3, ← g4, heq]
   · simp only
     rw [es, lastK_snoc]
 · rw [if_neg hc]
   refine ⟨_, rfl, ?_, by rw [lastK_snoc]⟩
   refine HP.keep (n := 1) f1 (by omega) (by omega) (by omega) heq ?_
   intro hk
   rcases Nat.eq_zero_or_pos l.length with e | e
   · rw [lastK_nil (by omega)] at hk; cases hk
   · exact hc ⟨e, by rw [← lastK_gi e]; exact hk⟩
theorem build_hp : ∀ (n i j : Nat) (hs : List Hunk) (k : Nat), HP a b hs i j k → (lastK hs = 0 ∨ lastK hs = 1) → lcs (a.drop i) (b.drop j) = n →
   HP a b (zan (buildL a b n i j ⟨hs, 0, []⟩)).hunks a.length b.length (k + n)
 | 0, i, j, hs, k, h, hl, hn => by
   obtain ⟨hi, hj, _⟩ := h.le
   rw [buildL]
   simp only [Int.zero_add, List.nil_append]
   rw [show (a.length : Int) - (i : Int) = ((a.length - i : Nat) : Int) by omega]
   have := (flush_hp h hl (d := a.length - i) (y := b.length) (by omega) hj (Nat.le_refl _)).1
   rw [show i + (a.length - i) = a.length by omega] at this
   exact this
 | n + 1, i, j, hs, k, h, hl, hn => by
   obtain ⟨hi, hj, _⟩ := h.le
   have hv : vLcs a b (i : Int) (j : Int) = ((n + 1 : Nat) : Int) := by unfold vLcs; rw [Int.toNat_natCast, Int.toNat_natCast, hn]
   have hex := hit_ex (a := a) (b := b) (i := (i : Int)) (j := (j : Int)) (by omega) (by omega) (by omega) (by omega) (by omega)
   rw [hv] at hex
   obtain ⟨p, hp⟩ := next_ex (by omega) (by omega) hex
   rw [buildL, nextP_eq hp]
   obtain ⟨x, y⟩ := p
   have x0 := hp.x0; have x1 := hp.x1; have y0 := hp.y0; have y1 := hp.y1
   simp only at x0 x1 y0 y1
   obtain ⟨x, rfl⟩ : ∃ m : Nat, x = m := ⟨x.toNat, by omega⟩
   obtain ⟨y, rfl⟩ : ∃ m : Nat, y = m := ⟨y.toNat, by omega⟩
   obtain ⟨g1, g2⟩ := (hit_iff (a := a) (b := b) ⟨by omega, by omega⟩ ⟨by omega, by omega⟩).1 hp.hit
   simp only [Int.zero_add, List.nil_append]
   obtain ⟨hs', e1, e2, e3⟩ := keep_hp h hl (d := x - i) (y := y) (by omega) (by omega) (by omega) (by rw [show i + (x - i) = x by omega]; exact g1)
   rw [show (x : Int) - (i : Int) = ((x - i : Nat) : Int) by omega, e1]
   rw [show i + (x - i) = x by omega] at e2
   have := build_hp n (x + 1) (y + 1) hs' (k + 1) e2 (.inr e3) (by
     unfold vLcs at g2
     rw [show ((x : Int) + 1).toNat = x + 1 by omega, show ((y : Int) + 1).toNat = y + 1 by omega] at g2
     omega)
   rw [show k + (n + 1) = k + 1 + n by omega]
   exact this
end Go.Lic
