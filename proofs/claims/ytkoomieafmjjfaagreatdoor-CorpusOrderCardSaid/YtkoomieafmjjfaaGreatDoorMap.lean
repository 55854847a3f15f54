/-
  Maps of our own from whole numbers to plain values: the object as it lies in memory.
-/
import Derived.Test.YtkoomieafmjjfaaGreatDoorIter
set_option linter.all false
namespace Go.Lic

/-- The entries of a map, in the order in which they came. -/
def mapEnts {T : Type} (vf : T → Value) : Nat → List (Int × T) → List MapEntry
  | _, [] => []
  | n, p :: l => { key := .int .i64 p.1, val := vf p.2, born := n } :: mapEnts vf (n + 1) l
def mapO {T : Type} (vf : T → Value) (l : List (Int × T)) : Obj := .map (mapEnts vf 0 l).toArray l.length
abbrev vI (n : Int) : Value := .int .i64 n
abbrev vB (b : Bool) : Value := .bool b
def mget {T : Type} (d : T) : List (Int × T) → Int → T
  | [], _ => d
  | p :: l, k => if p.1 = k then p.2 else mget d l k
def mset {T : Type} : List (Int × T) → Int → T → List (Int × T)
  | [], k, v => [(k, v)]
  | p :: l, k, v => if p.1 = k then (k, v) :: l else p :: mset l k v
def mfind {T : Type} : List (Int × T) → Int → Nat → Option (Nat × T)
  | [], _, _ => none
  | p :: l, k, i => if p.1 = k then some (i, p.2) else mfind l k (i + 1)
section
variable {T : Type} {vf : T → Value}
theorem findNow_ents (k : Int) : ∀ (l : List (Int × T)) (n i : Nat), Instr.findNow (.int .i64) (.int .i64 k) (mapEnts vf n l) i = some ((mfind l k i).map fun q => (q.1, vf q.2))
  | [], _, _ => rfl
  | p :: l, n, i => by
    simp only [mapEnts, Instr.findNow, Instr.sameNow, if_true, mfind]
    by_cases h : p.1 = k
    · simp [h]
    · have h2 : (k == p.1) = false := by simpa using fun e => h e.symm
      rw [h2]
      simp only [if_neg h]
      exact findNow_ents k l (n + 1) (i + 1)
theorem mfind_get (d : T) (k : Int) : ∀ (l : List (Int × T)) (i : Nat), mget d l k = ((mfind l k i).map (·.2)).getD d
  | [], _ => rfl
  | p :: l, i => by
    simp only [mget, mfind]
    split
    · rfl
    · exact mfind_get d k l (i + 1)
theorem mset_none {k : Int} {v : T} : ∀ {l : List (Int × T)} {i : Nat}, mfind l k i = none → ∀ n, mapEnts vf n (mset l k v) = mapEnts vf n l ++ [{ key := .int .i64 k, val := vf v, born := n + l.length }] ∧ (mset l k v).length = l.length + 1
  | [], _, _, n => by simp [mset, mapEnts]
  | p :: l, i, h, n => by
    simp only [mfind] at h
    split at h
    · cases h
    · next hp =>
      obtain ⟨h1, h2⟩ := mset_none (v := v) h (n + 1)
      simp only [mset, if_neg hp, mapEnts, h1, List.cons_append, List.length_cons, h2]
      refine ⟨?_, trivial⟩
      congr 3
      simp; omega
theorem mset_some {k : Int} {v : T} : ∀ {l : List (Int × T)} {i j : Nat} {u : T}, mfind l k i = some (j, u) → ∀ n, i ≤ j ∧ mapEnts vf n (mset l k v) = (mapEnts vf n l).modify (j - i) (fun e => { e with key := .int .i64 k, val := vf v }) ∧ (mset l k v).length = l.length ∧ ((mapEnts vf n l)[j - i]?).map (·.key) = some (.int .i64 k)
  | [], _, _, _, h, _ => by cases h
  | p :: l, i, j, u, h, n => by
    simp only [mfind] at h
    split at h
    · next hp =>
      cases h
      simp [mset, hp, mapEnts]
    · next hp =>
      obtain ⟨h0, h1, h2, h3⟩ := mset_some (v := v) h (n + 1)
      have e : j - i = (j - (i + 1)) + 1 := by omega
      refine ⟨by omega, ?_, ?_, ?_⟩
      · simp only [mset, if_neg hp, mapEnts, h1, e, List.modify_succ_cons]
      · simp only [mset, if_neg hp, List.length_cons, h2]
      · rw [e]; simpa [mapEnts] using h3
end
section
variable {P : Program} {o : Oper} {fr : Nat → D} {h : Heap} {K : D → Heap → Prop} {T : Type} {vf : T → Value}
theorem OpA.makeMap {t : TypeId} (vf : T → Value) (ho : o.op = .makeMap t none) (hk : ∀ c, K (.map c) ((c, .raw (mapO vf [])) :: h)) : OpA P o fr h K :=
  .of_run fun A M w0 ac w hr hv => by
    obtain ⟨_, h5, h6⟩ := hr.allocRaw (mapO vf [])
    refine ⟨.map (some w.heap.size), _, _, _, ?_, hk (2 * w.heap.size), h5, h6, ?_⟩
    · simp only [execOp, ho, Option.map_none, Instr.makeMap, Sem.run_bind, Sem.run_pure, Result.andThen_ok, run_newObj]
      rfl
    · have := V.map (w := w.alloc (mapO vf [])) (X := XX A ((2 * w.heap.size, .raw (mapO vf [])) :: h)) (c := 2 * w.heap.size) (by omega)
      rwa [show 2 * w.heap.size / 2 = w.heap.size from by omega] at this
theorem run_findKey {w : World} {kt : TypeId} (hkt : P.underlying kt = some (.int .i64)) (k : Int) (l : List (Int × T)) : (Instr.findKey kt (.int .i64 k) (mapEnts vf 0 l)).run P w = .ok ((mfind l k 0).map fun q => (q.1, vf q.2)) w := by
  simp only [Instr.findKey, Sem.run_bind, run_underlying hkt, Result.andThen_ok, findNow_ents, Sem.run_pure]
theorem run_checkKey {w : World} {kt : TypeId} (hkt : P.underlying kt = some (.int .i64)) (b : Bool) (k : Int) : (Instr.checkKey b 10000 kt (.int .i64 k)).run P w = .ok () w := by
  rw [Instr.checkKey]
  simp only [Sem.run_bind, run_underlying hkt, Result.andThen_ok, Sem.run_pure]
theorem OpA.mapGet {mt kt et : TypeId} {x y : Operand} {c : Nat} {k : Int} {l : List (Int × T)} (d : T) (ho : o.op = .lookup mt x y false) (ht : P.underlying mt = some (.map kt et)) (hkt : P.underlying kt = some (.int .i64)) (hzi : (P.info? et).bind (·.zero) = some (vf d))
    (hx : ev fr x = .map c) (hy : ev fr y = .i k) (hh : Has c (.raw (mapO vf l)) h) (hk : K (.v (vf (mget d l k))) h) : OpA P o fr h K :=
  .of_run fun A M w0 ac w hr hv => by
    obtain ⟨i0, hi0, hi1⟩ := Option.bind_eq_some_iff.1 hzi
    have hz : ∀ w, (zeroValue et).run P w = .ok (vf d) w := fun w => by simp [zeroValue, typeInfo, hi0, hi1]
    have h1 := hv x (by simp [ho, Op.operands])
    have h2 := hv y (by simp [ho, Op.operands])
    rw [hx] at h1; rw [hy] at h2
    generalize hu : ac.eval x = u at h1
    generalize hu2 : ac.eval y = u2 at h2
    cases h2
    cases h1 with
    | map hc =>
      obtain ⟨_, hb⟩ := hr.blk _ _ hh.mem
      refine ⟨vf (mget d l k), w, _, _, ?_, hk, hr, Mono.refl _ _, .v _⟩
      have hb' : w.heap[c / 2]? = some (.map (mapEnts vf 0 l).toArray l.length) := hb
      simp only [execOp, ho, hu, hu2, Instr.lookup, Sem.run_bind, run_underlying ht, Result.andThen_ok, getObj, Sem.run, hb', run_checkKey hkt, run_findKey hkt, Sem.run_pure, Result.andThen]
      rw [mfind_get d k l 0]
      cases mfind l k 0 with
      | none => simp only [Option.map_none, Option.getD_none, Sem.run_bind, hz, Result.andThen_ok, Sem.run_pure]; rfl
      | some q => simp only [Option.map_some, Option.getD_some, Sem.run_pure, Result.andThen_ok]; rfl
theorem OpA.mapSet {mt kt et : TypeId} {x y z : Operand} {c : Nat} {k : Int} {l : List (Int × T)} {v : T} {h' : Heap} (ho : o.op = .mapUpdate mt x y z) (ht : P.underlying mt = some (.map kt et)) (hkt : P.underlying kt = some (.int .i64))
    (hx : ev fr x = .map c) (hy : ev fr y = .i k) (hz : ev fr z = .v (vf v)) (hh : Repl c (.raw (mapO vf l)) c (.raw (mapO vf (mset l k v))) h h') (hk : K (.v undef) h') : OpA P o fr h K :=
  .of_skip fun A M w0 ac w hr hv => by
    have h1 := hv x (by simp [ho, Op.operands])
    have h2 := hv y (by simp [ho, Op.operands])
    have h3 := hv z (by simp [ho, Op.operands])
    rw [hx] at h1; rw [hy] at h2; rw [hz] at h3
    generalize hu : ac.eval x = u at h1
    generalize hu2 : ac.eval y = u2 at h2
    generalize hu3 : ac.eval z = u3 at h3
    cases h2; cases h3
    cases h1 with
    | map hc =>
      obtain ⟨_, hb⟩ := hr.blk _ _ hh.has.mem
      have hlt : c / 2 < w.heap.size := (Array.getElem?_eq_some_iff.1 hb).1
      have hb' : w.heap[c / 2]? = some (.map (mapEnts vf 0 l).toArray l.length) := hb
      obtain ⟨h5, h6⟩ := hr.setRaw hh hc (w' := { w with heap := w.heap.setIfInBounds (c / 2) (mapO vf (mset l k v)) }) (by simp [hlt]) (by simp) (fun b hb => by simp [Array.getElem?_setIfInBounds, Ne.symm hb]) (by
        have e1 : w.shape? (c / 2) = none := by unfold World.shape?; rw [hb']
        rw [e1]; unfold World.shape?; simp [hlt, mapO]) rfl rfl ⟨rfl, rfl⟩
      have eg : (getObj (c / 2)).run P w = .ok (.map (mapEnts vf 0 l).toArray l.length) w := by simp [getObj, Sem.run, hb']
      have es : ∀ o, (setObj (c / 2) o).run P w = .ok () { w with heap := w.heap.setIfInBounds (c / 2) o } := fun o => by simp [setObj, Sem.run, hb']
      refine ⟨_, _, ?_, hk, h5, h6⟩
      simp only [execOp, ho, hu, hu2, hu3, Instr.mapUpdate, Sem.run_bind, run_underlying ht, Result.andThen_ok, eg, run_checkKey hkt, run_findKey hkt]
      cases hf : mfind l k 0 with
      | none =>
        obtain ⟨e1, e2⟩ := mset_none (vf := vf) (v := v) hf 0
        simp only [Option.map_none, es, Result.andThen_ok]
        simp [mapO, e1, e2]
      | some q =>
        obtain ⟨j, u⟩ := q
        obtain ⟨_, e1, e2, e3⟩ := mset_some (vf := vf) (v := v) hf 0
        simp only [Nat.sub_zero] at e1 e3
        have e4 : ((mapEnts vf 0 l).toArray[j]?).map (·.key) = some (.int .i64 k) := by simpa using e3
        simp only [Option.map_some, e4, Option.getD_some, Instr.keyThatStays, Instr.sameBits, Sem.run_bind, es]
        simp [mapO, e1, e2, es]
theorem V.nilL {w : World} {X : Nat → Prop} {sz : Nat} : V w X (.list sz []) (.slice none 0 0) := .list (sz := sz) (ds := []) (cs := []) (b := 0) (o := 0) (by simp) .nil (by simp) (.inl rfl) (by simp)
/-- Own memory that an operation looks at as data from now on: d in slot s becomes d'; the block is forgotten. -/
theorem OpA.frz {s : Nat} {d d' : D} {h0 : Heap} {x : Nat × Blk} (hp : h.Perm (x :: h0)) (hd : fr s = d) (hsn : Snap false [x] [d] [d']) (hh : OpA P o (upd fr s d') h0 K) : OpA P o fr h K := fun A M w0 a w hr hv next Q hn => by
  obtain ⟨r1, m1⟩ := hr.perm hp
  obtain ⟨r2, m2⟩ := r1.tail
  refine hh A M w0 a w r2 (fun y hy => ?_) next Q (fun v w' d h' hk hr' hm hv' => hn v w' d h' hk hr' ((m1.trans m2).trans hm) hv')
  have h1 := hv y hy
  by_cases hi : y = .tmp s
  · subst hi
    show V w (XX A h0) (upd fr s d' s) _
    rw [upd_same]
    have hv2 := h1.mono m1
    have e : ev fr (.tmp s) = d := hd
    rw [e] at hv2
    have hk : x.1 ∉ keys h0 := (List.nodup_cons.1 (by simpa using r1.nodup)).1
    have := hsn.sound (X' := XX A h0) r1 (fun c b hh => by cases hh with | head => exact .head | tail t => cases t) (fun _ b hb => by
        rcases hb with hb | hb
        · exact .inl hb
        · exact .inr (by simp [hb])) (fun c hc hev hx => by
        simp at hc; subst hc
        rcases hx with hx | hx
        · rw [show 2 * (x.1 / 2) = x.1 from by omega] at hx
          exact r1.free x.1 (by simp) hx
        · rw [show 2 * (x.1 / 2) = x.1 from by omega] at hx
          exact hk hx) [_] (.cons hv2 .nil)
    cases this with
    | cons h1 _ => exact h1
  · have e : ev (upd fr s d') y = ev fr y := by
      cases y with
      | tmp t => exact upd_ne _ _ (fun e => hi (by rw [e]))
      | _ => rfl
    rw [e]; exact (h1.mono m1).mono m2
theorem OpA.permK (hh : OpA P o fr h (fun d h' => ∃ h'', h'.Perm h'' ∧ K d h'')) : OpA P o fr h K := fun A M w0 ac w hr hv next Q hn =>
  hh A M w0 ac w hr hv next Q (fun v w' d h' ⟨h'', hp, hk⟩ hr' hm' hv' => by
    obtain ⟨q1, q2⟩ := hr'.perm hp
    exact hn v w' d h'' hk q1 (hm'.trans q2) (hv'.mono q2))
/-- A call of a function that looks at memory of ours and leaves it as it is. -/
theorem OpA.callFH {cl : Call} {g : Operand} {f : Nat} {fs cs : List D} {h1 h2 : Heap} {r : D} (ho : o.op = .call cl) (hc : cl.callee = .value g) (hg : ev fr g = .fn (.func f) fs cs) (he : entersB P f = true)
    (hp : h.Perm (h1 ++ h2)) (hf : CallH P f (fs ++ cl.args.toList.map (ev fr) ++ cs) h1 (fun d h' => d = r ∧ h' = h1)) (hk : K r h) : OpA P o fr h K :=
  .permK (.callH ho hc hg he hp hf (fun d h' ⟨e1, e2⟩ => ⟨h, by subst e2; exact hp.symm, by subst e1; exact hk⟩))
/-- A call that is handed all memory of ours. -/
theorem OpA.callH0 {cl : Call} {g : Operand} {f : Nat} {fs cs : List D} {h1 : Heap} {K' : D → Heap → Prop} (ho : o.op = .call cl) (hc : cl.callee = .value g) (hg : ev fr g = .fn (.func f) fs cs) (he : entersB P f = true)
    (hp : h.Perm h1) (hf : CallH P f (fs ++ cl.args.toList.map (ev fr) ++ cs) h1 K') (hk : ∀ d h', K' d h' → K d h') : OpA P o fr h K :=
  .callH ho hc hg he (h1 := h1) (h2 := []) (by rw [List.append_nil]; exact hp) hf (fun d h' hd => by rw [List.append_nil]; exact hk d h' hd)
theorem perm_last {α : Type} (x : α) (l : List α) : (x :: l).Perm (l ++ [x]) := List.perm_append_comm (l₁ := [x]) (l₂ := l)
end

end Go.Lic
