/-
  Ranges over maps of our own: the iterator is a block of its own; which entry comes next is not known.
-/
import Derived.Test.YtaofnefejkokdaaGreatDoorMap
import Derived.Maps.RangeRun
import Derived.Test.YtaofnefejkokdaaGreatDoorTw
set_option linter.all false
namespace Go.Lic

/-- An iterator over the map in block c / 2, which had n entries when the loop began; the places that have come. -/
def itO (c n : Nat) (seen : List Nat) : Obj := .mapIter (some (c / 2)) n seen.toArray n

theorem ents_mem {T : Type} {vf : T → Value} : ∀ {l : List (Int × T)} {n : Nat} {e : MapEntry}, e ∈ mapEnts vf n l → ∃ k, ∃ h : k < l.length, e = { key := .int .i64 (l[k]).1, val := vf (l[k]).2, born := n + k }
  | [], _, _, h => by cases h
  | p :: l, n, e, h => by
    rcases List.mem_cons.1 h with rfl | h
    · exact ⟨0, by simp, by simp⟩
    · obtain ⟨k, hk, rfl⟩ := ents_mem h
      exact ⟨k + 1, by simpa using hk, by simp; omega⟩
theorem ents_at {T : Type} (vf : T → Value) : ∀ {l : List (Int × T)} (n : Nat) {k : Nat} (h : k < l.length), { key := .int .i64 (l[k]).1, val := vf (l[k]).2, born := n + k } ∈ mapEnts vf n l
  | p :: l, n, 0, _ => by simp [mapEnts]
  | p :: l, n, k + 1, h => by
    have := ents_at vf (l := l) (n + 1) (k := k) (by simpa using h)
    simp only [mapEnts, List.mem_cons, List.getElem_cons_succ]
    right
    rw [show n + (k + 1) = n + 1 + k by omega]; exact this

section
variable {P : Program} {o : Oper} {fr : Nat → D} {h : Heap} {K : D → Heap → Prop} {T : Type} {vf : T → Value}
theorem OpA.rangeMap {t kt et : TypeId} {x : Operand} {cm : Nat} {l : List (Int × T)} (ho : o.op = .range t x) (ht : P.underlying t = some (.map kt et)) (hx : ev fr x = .map cm) (hm : Has cm (.raw (mapO vf l)) h)
    (hk : ∀ c, K (.ptr c 1 0 0) ((c, .raw (itO cm l.length [])) :: h)) : OpA P o fr h K :=
  .of_run fun A M w0 ac w hr hv => by
    have h1 := hv x (by simp [ho, Op.operands])
    rw [hx] at h1
    generalize hu : ac.eval x = u at h1
    cases h1 with
    | map hc =>
      obtain ⟨_, hb⟩ := hr.blk _ _ hm.mem
      have hb' : w.heap[cm / 2]? = some (.map (mapEnts vf 0 l).toArray l.length) := hb
      obtain ⟨_, h5, h6⟩ := hr.allocRaw (itO cm l.length [])
      refine ⟨.pointer (some ⟨w.heap.size, 0, none⟩), _, _, _, ?_, hk (2 * w.heap.size), h5, h6, ?_⟩
      · simp only [execOp, ho, hu, Sem.run_bind, run_range_map w t kt et (cm / 2) _ _ ht hb', Result.andThen_ok, Sem.run_pure]
        rfl
      · have := V.ptr (w := w.alloc (itO cm l.length [])) (X := XX A ((2 * w.heap.size, .raw (itO cm l.length [])) :: h)) (c := 2 * w.heap.size) (sz := 1) (i := 0) (k := 0) (by omega)
        rwa [show 2 * w.heap.size / 2 = w.heap.size from by omega] at this
theorem OpA.nextMap [Inhabited T] {x : Operand} {c cm : Nat} {l : List (Int × T)} {seen : List Nat} {h' : Nat → Heap} (ho : o.op = .next x false) (hx : ev fr x = .ptr c 1 0 0) (hm : Has cm (.raw (mapO vf l)) h)
    (hrepl : ∀ k, Repl c (.raw (itO cm l.length seen)) c (.raw (itO cm l.length (seen ++ [k]))) h (h' k)) (hover : (∀ k : Nat, k < l.length → k ∈ seen) → K (.tup [.b false]) h)
    (hnext : ∀ k : Nat, k < l.length → k ∉ seen → K (.tup [.b true, .i (gi l (k : Int)).1, .v (vf (gi l (k : Int)).2)]) (h' k)) : OpA P o fr h K :=
  .of_run fun A M w0 ac w hr hv => by
    have h1 := hv x (by simp [ho, Op.operands])
    rw [hx] at h1
    generalize hu : ac.eval x = u at h1
    cases h1 with
    | ptr hc =>
      obtain ⟨hcm, hb⟩ := hr.blk _ _ hm.mem
      have hb' : w.heap[cm / 2]? = some (.map (mapEnts vf 0 l).toArray l.length) := hb
      obtain ⟨_, hi⟩ := hr.blk _ _ (hrepl 0).has.mem
      have hi' : w.heap[c / 2]? = some (.mapIter (some (cm / 2)) l.length seen.toArray l.length) := hi
      have e0 : 0 * 1 + 0 = 0 := rfl
      have hlt : c / 2 < w.heap.size := (Array.getElem?_eq_some_iff.1 hi').1
      rcases run_next_at (P := P) w o.type (c / 2) (cm / 2) l.length l.length seen.toArray _ _ hi' hb' (fun e he => by
        obtain ⟨k, hk, rfl⟩ := ents_mem (by simpa using he)
        simpa using hk) (Nat.le_refl _) with ⟨g1, g2⟩ | ⟨e, g1, w1, g2, g3⟩
      · refine ⟨.tuple #[.bool false], w, _, _, ?_, hover (fun k hk => ?_), hr, Mono.refl _ _, .tup (.cons (.v _) .nil)⟩
        · simp only [execOp, ho, hu, e0, Sem.run_bind, g2, Result.andThen_ok, Sem.run_pure]
        · have := ents_at vf (l := l) 0 hk
          have hz : Go.leftOf (mapEnts vf 0 l).toArray seen.toArray = #[] := Array.eq_empty_of_size_eq_zero g1
          unfold Go.leftOf at hz
          rw [Array.filter_eq_empty_iff] at hz
          have := hz _ (by simpa using this)
          simpa using this
      · unfold Go.leftOf at g1
        have g1' : e ∈ mapEnts vf 0 l ∧ e.born ∉ seen := by
          have := g1
          simp only [Array.toList_filter, List.mem_filter, Bool.not_eq_true', List.contains_toArray] at this
          simpa using this
        obtain ⟨k, hk, rfl⟩ := ents_mem g1'.1
        have hkn : k ∉ seen := by simpa using g1'.2
        obtain ⟨q1, m1⟩ : HRel A M w0 h w1 ∧ Mono w (XX A h) w1 (XX A h) := by
          rcases g2 with rfl | rfl
          · exact ⟨hr, Mono.refl _ _⟩
          · exact hr.quiet (w' := w.drew) rfl rfl rfl rfl (Nat.le_succ _)
        have hi1 : w1.heap[c / 2]? = some (.mapIter (some (cm / 2)) l.length seen.toArray l.length) := by rcases g2 with rfl | rfl <;> exact hi'
        have hlt1 : c / 2 < w1.heap.size := (Array.getElem?_eq_some_iff.1 hi1).1
        obtain ⟨h5, h6⟩ := q1.setRaw (hrepl k) hc (w' := { w1 with heap := w1.heap.setIfInBounds (c / 2) (itO cm l.length (seen ++ [k])) }) (by simp [hlt1]) (by simp) (fun b hb => by simp [Array.getElem?_setIfInBounds, Ne.symm hb]) (by
          have e1 : w1.shape? (c / 2) = none := by unfold World.shape?; rw [hi1]
          rw [e1]; unfold World.shape?; simp [hlt1, itO]) rfl rfl ⟨rfl, rfl⟩
        have hn2 := hnext k hk hkn
        rw [gi_nat hk] at hn2
        refine ⟨.tuple #[.bool true, .int .i64 (l[k]).1, vf (l[k]).2], _, _, _, ?_, hn2, h5, m1.trans h6, .tup (.cons (.v _) (.cons (.v _) (.cons (.v _) .nil)))⟩
        simp only [execOp, ho, hu, e0, Sem.run_bind, g3, Result.andThen_ok, Sem.run_pure]
        simp [ChangeMaps.setBlock, itO]
theorem ents_born (vf : T → Value) : ∀ (l : List (Int × T)) (n : Nat), ((mapEnts vf n l).map (·.born)).Nodup ∧ ∀ b ∈ (mapEnts vf n l).map (·.born), n ≤ b
  | [], _ => ⟨.nil, fun _ h => by cases h⟩
  | p :: l, n => by
    obtain ⟨h1, h2⟩ := ents_born vf l (n + 1)
    simp only [mapEnts, List.map_cons]
    refine ⟨List.nodup_cons.2 ⟨fun hx => by have := h2 _ hx; omega, h1⟩, fun b hb => ?_⟩
    rcases List.mem_cons.1 hb with rfl | hb
    · omega
    · have := h2 b hb; omega
theorem OpA.entry [Inhabited T] {x : Operand} {c cm : Nat} {l : List (Int × T)} {seen : List Nat} {k : Nat} (ho : o.op = .entry x) (hx : ev fr x = .ptr c 1 0 0) (hm : Has cm (.raw (mapO vf l)) h) (hi : Has c (.raw (itO cm l.length (seen ++ [k]))) h) (hk0 : k < l.length)
    (hk : K (.tup [.i (gi l (k : Int)).1, .v (vf (gi l (k : Int)).2)]) h) : OpA P o fr h K :=
  .of_run fun A M w0 ac w hr hv => by
    have h1 := hv x (by simp [ho, Op.operands])
    rw [hx] at h1
    generalize hu : ac.eval x = u at h1
    cases h1 with
    | ptr hc =>
      obtain ⟨hcm, hb⟩ := hr.blk _ _ hm.mem
      have hb' : w.heap[cm / 2]? = some (.map (mapEnts vf 0 l).toArray l.length) := hb
      obtain ⟨_, hi1⟩ := hr.blk _ _ hi.mem
      have hi' : w.heap[c / 2]? = some (.mapIter (some (cm / 2)) l.length (seen.toArray.push k) l.length) := by rw [hi1]; simp [itO]
      have e0 : 0 * 1 + 0 = 0 := rfl
      rw [gi_nat hk0] at hk
      have he := ents_at vf (l := l) 0 hk0
      rw [Nat.zero_add] at he
      have hrun := run_entry_at (P := P) w (c / 2) (cm / 2) l.length seen.toArray (mapEnts vf 0 l).toArray l.length { key := .int .i64 (l[k]).1, val := vf (l[k]).2, born := k } hi' hb' (by simpa using he) (by simpa using (ents_born vf l 0).1)
      refine ⟨.tuple #[.int .i64 (l[k]).1, vf (l[k]).2], w, _, _, ?_, hk, hr, Mono.refl _ _, .tup (.cons (.v _) (.cons (.v _) .nil))⟩
      simp only [execOp, ho, hu, e0, Sem.run_bind, hrun, Result.andThen_ok, Sem.run_pure]
theorem OpA.mlen {t kt et : TypeId} {c : Call} {x : Operand} {cm : Nat} {l : List (Int × T)} (ho : o.op = .call c) (hc : c.callee = .builtin .len) (ha : c.args = #[x]) (hty : c.argTypes = #[t]) (ht : P.underlying t = some (.map kt et))
    (hx : ev fr x = .map cm) (hm : Has cm (.raw (mapO vf l)) h) (hk : K (.i l.length) h) : OpA P o fr h K :=
  .of_run fun A M w0 ac w hr hv => by
    have h1 := hv x (by simp [ho, Op.operands, Call.operands, hc, ha])
    rw [hx] at h1
    generalize hu : ac.eval x = u at h1
    cases h1 with
    | map hc2 =>
      obtain ⟨_, hb⟩ := hr.blk _ _ hm.mem
      have hb' : w.heap[cm / 2]? = some (.map (mapEnts vf 0 l).toArray l.length) := hb
      refine ⟨.int .i64 l.length, w, _, _, ?_, hk, hr, Mono.refl _ _, .v _⟩
      simp [execOp, ho, hc, resolve, invoke, builtin, Builtin.len_, hty, ha, hu, run_underlying ht, goInt, getObj, Sem.run, hb', ents_length, Result.andThen]
end
end Go.Lic

set_option linter.all false
namespace Go.Lic
open Go.Proofs Go.Sort Go.Shelf

/-! which words are in pieces -/
def cov (l : List Piece) (i : Int) : Bool := l.any fun p => decide (p.from_ ≤ i) && decide (i < p.to)
theorem cov_cons (p : Piece) (l : List Piece) (i : Int) : cov (p :: l) i = ((decide (p.from_ ≤ i) && decide (i < p.to)) || cov l i) := rfl
theorem cov_app (a b : List Piece) (i : Int) : cov (a ++ b) i = (cov a i || cov b i) := by unfold cov; rw [List.any_append]
theorem cov_early {c : Corpus} {t : Text} {least : Int} : ∀ {l : List Piece} {e i : Int}, checkPs c t least e l = 0 → i < e → cov l i = false
  | [], _, _, _, _ => rfl
  | p :: l, e, i, h, hi => by
    obtain ⟨h1, h2, h3⟩ := checkPs_cons.1 h
    have hr := ((pieceOk_iff _ _ _ _).1 h1).1
    rw [cov_cons, cov_early h3 (by omega), Bool.or_false]
    have : ¬ p.from_ ≤ i := by omega
    simp [this]
theorem mem_sub {l : List Lexeme} {lo hi : Int} (h : inS lo hi l.length) (w : Lexeme) : w ∈ lsub l lo hi ↔ ∃ i : Int, lo ≤ i ∧ i < hi ∧ gi l i = w := by
  have hl := lsub_length h
  constructor
  · intro hw
    obtain ⟨n, hn, e⟩ := List.getElem_of_mem hw
    refine ⟨lo + n, by omega, by omega, ?_⟩
    rw [← gi_lsubA h (j := (n : Int)) (by omega), gi_nat hn, e]
  · rintro ⟨i, h1, h2, rfl⟩
    have := gi_lsubA h (j := i - lo) (by omega)
    rw [show lo + (i - lo) = i by omega] at this
    rw [← this]
    exact gi_mem (by omega)
theorem rest_mem {c : Corpus} {t : Text} {least : Int} : ∀ {l : List Piece} {e : Int}, 0 ≤ e → e ≤ t.words.length → checkPs c t least e l = 0 → ∃ x, restL t e l = some x ∧ ∀ y : Line, y ∈ x ↔ ∃ i : Int, e ≤ i ∧ i < t.words.length ∧ cov l i = false ∧ y = ⟨t.path, (gi t.words i).line⟩
  | [], e, h0, h1, _ => by
    refine ⟨_, rfl, fun y => ?_⟩
    have hd : t.words.drop e.toNat = lsub t.words e t.words.length := by
      unfold lsub; rw [List.take_of_length_le (by omega)]
    rw [hd]
    unfold linesW
    rw [List.mem_map]
    constructor
    · rintro ⟨w, hw, rfl⟩
      obtain ⟨i, k1, k2, rfl⟩ := (mem_sub (by omega) w).1 hw
      exact ⟨i, k1, k2, rfl, rfl⟩
    · rintro ⟨i, k1, k2, _, rfl⟩
      exact ⟨_, (mem_sub (by omega) _).2 ⟨i, k1, k2, rfl⟩, rfl⟩
  | p :: l, e, h0, h1, h => by
    obtain ⟨g1, g2, g3⟩ := checkPs_cons.1 h
    obtain ⟨⟨r0, r1, r2⟩, _⟩ := (pieceOk_iff _ _ _ _).1 g1
    obtain ⟨x, hx, hm⟩ := rest_mem (l := l) (e := p.to) (by omega) r2 g3
    refine ⟨linesW t (lsub t.words e p.from_) ++ x, ?_, fun y => ?_⟩
    · rw [restL, if_pos (by rw [Bool.and_eq_true, decide_eq_true_eq]; exact ⟨(rangedF_iff _ _).2 ⟨r0, r1, r2⟩, g2⟩), hx]; rfl
    · rw [List.mem_append, hm]
      unfold linesW
      rw [List.mem_map]
      constructor
      · rintro (⟨w, hw, rfl⟩ | ⟨i, k1, k2, k3, rfl⟩)
        · obtain ⟨i, k1, k2, rfl⟩ := (mem_sub (by omega) w).1 hw
          refine ⟨i, k1, by omega, ?_, rfl⟩
          have : ¬ p.from_ ≤ i := by omega
          rw [cov_cons, cov_early g3 (by omega)]; simp [this]
        · refine ⟨i, by omega, k2, ?_, rfl⟩
          have : ¬ i < p.to := by omega
          rw [cov_cons, k3]; simp [this]
      · rintro ⟨i, k1, k2, k3, rfl⟩
        rw [cov_cons, Bool.or_eq_false_iff, Bool.and_eq_false_iff, decide_eq_false_iff_not, decide_eq_false_iff_not] at k3
        rcases k3.1 with k | k
        · exact .inl ⟨_, (mem_sub (by omega) _).2 ⟨i, k1, by omega, rfl⟩, rfl⟩
        · exact .inr ⟨i, by omega, k2, k3.2, rfl⟩

/-! sets of lines -/
theorem of_set {l : List Line} (h : ∀ y ∈ l, rightF y = true) : ∃ s, ofF l = (s, 0) ∧ validF s = true ∧ ∀ y : Line, hasF s y = true ↔ y ∈ l := by
  have e : l.map unitW = l.map unit := List.map_congr_left fun y hy => unitW_unit (h y hy)
  have hv : validF (mergeF (l.map unitW)) = true := by
    refine merge_valid fun s hs => ?_
    obtain ⟨y, hy, rfl⟩ := List.mem_map.1 hs
    have := bad_line y
    rw [h y hy] at this
    unfold badLine at this
    unfold spanR
    simpa [unitW] using this
  refine ⟨_, ?_, hv, fun y => ?_⟩
  · unfold ofF
    rw [List.find?_eq_none.2 (fun y hy => by rw [bad_line, h y hy]; simp)]
  · rw [has_iff hv, e, merge_in unit_ne, in_unit]
    unfold InL
    constructor
    · rintro ⟨z, hz, h1, h2⟩
      obtain ⟨p, n⟩ := z
      obtain ⟨q, m⟩ := y
      simp only at h1 h2
      rw [← h1, ← h2]; exact hz
    · intro hy; exact ⟨y, hy, rfl, rfl⟩
theorem unknown_set {c : Corpus} {t : Text} {a : Attribution} (h : checkA c t 1 a = 0) (hv : validT t = true) : ∃ s, unknownF t a = (s, 0) ∧ validF s = true ∧ ∀ y : Line, hasF s y = true ↔ ∃ i : Int, 0 ≤ i ∧ i < t.words.length ∧ cov a.pieces i = false ∧ y = ⟨t.path, (gi t.words i).line⟩ := by
  obtain ⟨_, hp, hc⟩ := check_zero h
  obtain ⟨_, v1, v2⟩ := valid_parts hv
  obtain ⟨x, hx, hm⟩ := rest_mem (l := a.pieces) (e := 0) (by omega) (by omega) hc
  obtain ⟨s, h1, h2, h3⟩ := of_set (l := x) (fun y hy => by
    obtain ⟨i, k0, k1, _, rfl⟩ := (hm y).1 hy
    have := wordsA_line v2 _ (gi_mem (l := t.words) (i := i) (by omega))
    unfold rightF
    simp only [Bool.and_eq_true, decide_eq_true_eq]
    exact ⟨v1, by simpa using this⟩)
  refine ⟨s, ?_, h2, fun y => (h3 y).trans (hm y)⟩
  unfold unknownF
  rw [if_pos hv, if_pos hp, hx]; exact h1

/-! maps -/
theorem mset_keys {T : Type} (k : Int) (v : T) : ∀ l : List (Int × T), (mset l k v).map (·.1) = if k ∈ l.map (·.1) then l.map (·.1) else l.map (·.1) ++ [k]
  | [] => by simp [mset]
  | p :: l => by
    by_cases h : p.1 = k
    · simp [mset, h]
    · have h2 : ¬ k = p.1 := fun e => h e.symm
      simp only [mset, if_neg h, List.map_cons, mset_keys k v l, List.mem_cons, h2, false_or]
      split <;> simp
theorem nodup_bound : ∀ (n : Nat) (l : List Nat), l.Nodup → (∀ k ∈ l, k < n) → l.length ≤ n
  | 0, l, _, h => by
    cases l with
    | nil => simp
    | cons a l => have := h a (by simp); omega
  | n + 1, l, hn, h => by
    by_cases hm : n ∈ l
    · have h1 := nodup_bound n (l.erase n) (hn.erase n) (fun k hk => by
        have h2 := (hn.mem_erase_iff).1 hk
        have := h k h2.2
        have := h2.1
        omega)
      rw [List.length_erase_of_mem hm] at h1
      omega
    · have := nodup_bound n l hn (fun k hk => by
        have h1 := h k hk
        have h2 : k ≠ n := fun e => hm (e ▸ hk)
        omega)
      omega
theorem main_mono {c : Corpus} {t : Text} {a : Attribution} {p : Int} (h0 : 0 ≤ p) (h1 : p + 1 ≤ 100) (h : (mainF c t a (p + 1)).2 = true) : (mainF c t a p).2 = true := by
  unfold mainF at h ⊢
  split at h
  · next g =>
    rw [if_pos ⟨g.1, g.2.1, h0, by omega⟩]
    split at h
    · cases h
    · next g2 =>
      have hmul : (p + 1) * (t.words.length : Int) = p * (t.words.length : Int) + (t.words.length : Int) := by rw [Int.add_mul, Int.one_mul]
      rw [hmul] at g2
      rw [if_neg (by omega)]
  · cases h

/-! the statement -/
theorem lawAdds_ok (c : Corpus) (t : Text) (a : Attribution) (percent : Int) (Q : Bool → Prop) (hp0 : inL percent 256) (h : Q (true)) : lawAdds_vc c t a percent Q := by
  have hw8 := wrap8 hp0
  refine ⟨nofun, fun _ => ⟨fun hs => by obtain ⟨h1, h2, h3, _⟩ := small_parts hs; exact ⟨h1, h2, h3⟩, fun _ => h, fun hg => ?_⟩⟩
  obtain ⟨hs, hck⟩ := hg
  obtain ⟨h1, h2, h3, h4, h5, h6⟩ := small_parts hs
  obtain ⟨hr0, _, hc⟩ := check_zero hck
  have hrc : rightCT c t = true := by
    rcases rightA_split (c := c) (t := t) (least := 1) with ⟨_, e⟩ | ⟨k, _⟩ | ⟨k, _⟩
    · omega
    · exact k
    · exact k
  have hv : validT t = true := by unfold rightCT at hrc; rw [Bool.and_eq_true] at hrc; exact hrc.2
  have hS : shareF c t a = (shareL c.texts.length a.pieces, 0) := by unfold shareF; rw [if_pos hrc, if_pos hck]
  obtain ⟨s1, s2⟩ := share_facts hck
  obtain ⟨S, hU, hVS, hSm⟩ := unknown_set hck hv
  have hpt : ∀ p ∈ a.pieces, inL p.text c.texts.length := fun p hp => ((pieceOk_iff _ _ _ _).1 (checkPs_mem _ _ hc p hp)).2.2.1
  have hpr : ∀ p ∈ a.pieces, 0 ≤ p.from_ ∧ p.from_ < p.to ∧ p.to ≤ t.words.length := fun p hp => ((pieceOk_iff _ _ _ _).1 (checkPs_mem _ _ hc p hp)).1
  have hsum := shareL_sum hpt
  have hU1 := unknown_fin t a
  have hSs := valid_sizes hVS
  refine ⟨h1, h2, h3, h2, h3, fun hb => ?_, fun _ => ?_⟩
  · rw [hS, hU] at hb
    exfalso
    rcases hb with (hb | hb) | hb
    · exact hb rfl
    · exact hb rfl
    · exact hb (by simp only; rw [s1])
  rw [hU] at hU1
  have hU2 : S.length ≤ 40 := Nat.le_trans hU1 h4
  refine lfp2 (lawAdds_L1 c t a percent Q) (fun sum x => 0 ≤ x ∧ x ≤ (shareL c.texts.length a.pieces).length ∧ sum = ((shareL c.texts.length a.pieces).take x.toNat).sum ∧ 0 ≤ sum ∧ sum ≤ 40 * x) (fun _ x => ((shareL c.texts.length a.pieces).length - x).toNat) (fun sum x hst again hag => ?_) ⟨by omega, by omega, by simp, by omega, by omega⟩
  obtain ⟨x0, x1, x2, x3, x4⟩ := hst
  unfold lawAdds_L1
  rw [hS]
  simp only
  refine ⟨fun hlt => ?_, fun hnl => ?_⟩
  · have hx : inL x (shareL c.texts.length a.pieces).length := by omega
    have hb := s2 x (by omega)
    refine ⟨hx, by omega, by omega, hag _ _ ⟨by omega, by omega, ?_, by omega, by omega⟩ (by omega)⟩
    rw [x2, show (x + 1).toNat = x.toNat + 1 by omega, List.take_succ_eq_append_getElem (by omega), List.sum_append, gi_lt hx]; simp
  rw [List.take_of_length_le (by omega), hsum] at x2
  refine ⟨okV_right (by omega) (by omega) hc a.path, fun hb => absurd x2 hb, fun _ => ⟨⟨by omega, by omega, by omega⟩, ?_⟩⟩
  -- which words are in pieces
  refine lfp2 (lawAdds_L2 c t a percent Q) (fun known x => 0 ≤ x ∧ x ≤ a.pieces.length ∧ known.length = t.words.length ∧ ∀ j : Int, inL j t.words.length → gi known j = cov (a.pieces.take x.toNat) j) (fun _ x => (a.pieces.length - x).toNat) (fun known y hst again hag => ?_) ⟨by omega, by omega, by simp, fun j hj => by
    rw [gi_lt (by simpa using hj)]; simp [cov]⟩
  obtain ⟨y0, y1, y2, y3⟩ := hst
  unfold lawAdds_L2
  refine ⟨fun hlt => ?_, fun hnl => ?_⟩
  · have hy : inL y a.pieces.length := by omega
    have hp := hpr _ (gi_mem hy)
    refine ⟨hy, fun hb => by exfalso; omega, fun _ => ?_⟩
    have hcv : ∀ j : Int, cov (a.pieces.take (y + 1).toNat) j = (cov (a.pieces.take y.toNat) j || (decide ((gi a.pieces y).from_ ≤ j) && decide (j < (gi a.pieces y).to))) := fun j => by
      rw [show (y + 1).toNat = y.toNat + 1 by omega, List.take_succ_eq_append_getElem (by omega), cov_app, ← gi_lt hy]; simp [cov]
    refine lfp2 (lawAdds_L3 a y again) (fun known1 i => (gi a.pieces y).from_ ≤ i ∧ i ≤ (gi a.pieces y).to ∧ known1.length = t.words.length ∧ ∀ j : Int, inL j t.words.length → gi known1 j = (cov (a.pieces.take y.toNat) j || (decide ((gi a.pieces y).from_ ≤ j) && decide (j < i)))) (fun _ i => ((gi a.pieces y).to - i).toNat) (fun known1 i hst again15 hag15 => ?_) ⟨by omega, by omega, y2, fun j hj => by
      have : ¬ ((gi a.pieces y).from_ ≤ j ∧ j < (gi a.pieces y).from_) := by omega
      rw [y3 j hj, ← Bool.decide_and, decide_eq_false this, Bool.or_false]⟩
    obtain ⟨z0, z1, z2, z3⟩ := hst
    unfold lawAdds_L3
    refine ⟨fun hl => ⟨by omega, by omega, hag15 _ _ ⟨by omega, by omega, by rw [si_length]; exact z2, fun j hj => ?_⟩ (by omega)⟩, fun hn => ⟨by omega, hag _ _ ⟨by omega, by omega, z2, fun j hj => ?_⟩ (by omega)⟩⟩
    · rw [gi_siA (by omega) _ hj.1, z3 j hj, ← Bool.decide_and, ← Bool.decide_and]
      by_cases e : j = i
      · rw [if_pos e, decide_eq_true (show (gi a.pieces y).from_ ≤ j ∧ j < i + 1 by omega), Bool.or_true]
      · rw [if_neg e]
        congr 1
        exact decide_eq_decide.2 (by omega)
    · rw [z3 j hj, hcv, show i = (gi a.pieces y).to by omega]
  rw [List.take_of_length_le (by omega)] at y3
  -- which lines are unknown
  refine lfp2 (lawAdds_L4 c t a percent known Q) (fun m x => 0 ≤ x ∧ x ≤ t.words.length ∧ (m.map (·.1)).Nodup ∧ ∀ q, q ∈ m.map (·.1) ↔ ∃ i : Int, 0 ≤ i ∧ i < x ∧ cov a.pieces i = false ∧ q = (gi t.words i).line) (fun _ x => (t.words.length - x).toNat) (fun m x hst again20 hag20 => ?_) ⟨by omega, by omega, .nil, fun q => ⟨(fun hq => by cases hq), (fun ⟨i, k0, k1, _⟩ => by omega)⟩⟩
  obtain ⟨w0, w1, w2, w3⟩ := hst
  unfold lawAdds_L4
  refine ⟨fun hl => ?_, fun hnl2 => ?_⟩
  · have hx : inL x t.words.length := by omega
    refine ⟨hx, by omega, fun hk => ⟨by omega, hag20 _ _ ⟨by omega, by omega, ?_, fun q => ?_⟩ (by omega)⟩, fun hk => ⟨by omega, hag20 _ _ ⟨by omega, by omega, w2, fun q => ?_⟩ (by omega)⟩⟩
    · rw [mset_keys]
      split
      · exact w2
      · next hn => exact List.nodup_append.2 ⟨w2, by simp, fun u hu v hv e => hn (by rw [List.mem_singleton.1 hv] at e; exact e ▸ hu)⟩
    · rw [y3 x hx] at hk
      have hmem : q ∈ (mset m ((gi t.words x).line) true).map (·.1) ↔ q ∈ m.map (·.1) ∨ q = (gi t.words x).line := by
        rw [mset_keys]
        split
        · next hin => exact ⟨.inl, fun hh => hh.elim id fun e => e ▸ hin⟩
        · simp
      rw [hmem, w3]
      constructor
      · rintro (⟨i, k0, k1, k2, k3⟩ | e)
        · exact ⟨i, k0, by omega, k2, k3⟩
        · exact ⟨x, w0, by omega, hk, e⟩
      · rintro ⟨i, k0, k1, k2, k3⟩
        by_cases e : i = x
        · exact .inr (e ▸ k3)
        · exact .inl ⟨i, k0, by omega, k2, k3⟩
    · rw [y3 x hx] at hk
      rw [w3]
      constructor
      · rintro ⟨i, k0, k1, k2, k3⟩; exact ⟨i, k0, by omega, k2, k3⟩
      · rintro ⟨i, k0, k1, k2, k3⟩
        refine ⟨i, k0, ?_, k2, k3⟩
        have : i ≠ x := fun e => by rw [e, hk] at k2; cases k2
        omega
  obtain rfl : x = t.words.length := by omega
  have hkey : ∀ q, q ∈ m.map (·.1) ↔ hasF S ⟨t.path, q⟩ = true := fun q => by
    rw [w3, hSm]
    constructor
    · rintro ⟨i, k0, k1, k2, k3⟩; exact ⟨i, k0, k1, k2, by rw [k3]⟩
    · rintro ⟨i, k0, k1, k2, k3⟩; exact ⟨i, k0, k1, k2, by simpa using k3⟩
  have hcount : countL S = (m.length : Int) := by
    rw [← list_count]
    have hnd : ((m.map (·.1)).map fun q => (⟨t.path, q⟩ : Line)).Nodup := by
      refine List.Pairwise.map (R := fun x y => x ≠ y) _ (fun x y hxy e => hxy (by simpa using e)) ?_
      exact w2
    have := nodup_len (list_nodup hVS) hnd (fun y => by
      rw [list_mem hVS, ← has_iff hVS, List.mem_map]
      constructor
      · intro hy
        have hy2 := hy
        obtain ⟨i, _, _, _, rfl⟩ := (hSm y).1 hy
        exact ⟨_, (hkey _).2 hy2, rfl⟩
      · rintro ⟨q, hq, rfl⟩; exact (hkey q).1 hq)
    rw [this]; simp
  refine lfp_of (fun seen : List Nat => seen.Nodup ∧ ∀ k ∈ seen, k < m.length) (fun seen => m.length - seen.length) (fun seen hseen again hag => ?_) ⟨.nil, fun k hk => by cases hk⟩
  unfold lawAdds_L5
  rw [hU, hw8]
  simp only
  refine ⟨fun _ => ⟨⟨by omega, by omega⟩, h1, h2, h3, by omega, h1, h2, h3, by omega, hSs, Q_true ?_ h⟩, fun k hk hkn => ⟨by omega, hSs, fun hb => ?_, fun _ => hag _ ⟨?_, ?_⟩ ?_⟩⟩
  · rw [Bool.and_eq_true, beq_iff_eq]
    refine ⟨hcount, ?_⟩
    cases hm : (mainF c t a (percent % 100 + 1)).2 with
    | false => simp
    | true => rw [main_mono (by omega) (by omega) hm]; rfl
  · have hm : (gi m (k : Int)).1 ∈ m.map (·.1) := List.mem_map.2 ⟨_, gi_mem (by omega), rfl⟩
    rw [(hkey _).1 hm] at hb; cases hb
  · exact List.nodup_append.2 ⟨hseen.1, by simp, fun u hu v hv e => hkn (by rw [List.mem_singleton.1 hv] at e; exact e ▸ hu)⟩
  · intro j hj
    rcases List.mem_append.1 hj with hj | hj
    · exact hseen.2 j hj
    · rw [List.mem_singleton.1 hj]; exact hk
  · have := nodup_bound m.length (seen ++ [k]) (List.nodup_append.2 ⟨hseen.1, by simp, fun u hu v hv e => hkn (by rw [List.mem_singleton.1 hv] at e; exact e ▸ hu)⟩) (fun j hj => by
      rcases List.mem_append.1 hj with hj | hj
      · exact hseen.2 j hj
      · rw [List.mem_singleton.1 hj]; exact hk)
    simp only [List.length_append, List.length_singleton] at this ⊢
    omega
end Go.Lic
