/-
  Maps of our own from whole numbers to plain values: the object as it lies in memory.
-/
import Derived.Test.YtglclijalehcmaaGreatDoorCv0
import Derived.Maps.RangeRun
set_option linter.all false
namespace Go.Lic
def mapEnts {T : Type} (vf : T → Value) : Nat → List (Int × T) → List MapEntry
 | _, [] => []
 | n, p :: l => { key := .int .i64 p.1, val := vf p.2, born := n } :: mapEnts vf (n + 1) l
def mapO {T : Type} (vf : T → Value) (l : List (Int × T)) : Obj := .map (mapEnts vf 0 l).toArray l.length
abbrev vI (n : Int) : Value := .int .i64 n
abbrev vB (b : Bool) : Value := .bool b
def mget {T : Type} (d : T) : List (Int × T) → Int → T
 | [], _ => d
 | p :: l, k => if p.1 = k then p.2 else mget d l k
def mset {T : Type} : List (Int × T) → Int → T → List (Int × T)
 | [], k, v => [(k, v)]
 | p :: l, k, v => if p.1 = k then (k, v) :: l else p :: mset l k v
def mfind {T : Type} : List (Int × T) → Int → Nat → Option (Nat × T)
 | [], _, _ => none
 | p :: l, k, i => if p.1 = k then some (i, p.2) else mfind l k (i + 1)
section
variable {T : Type} {vf : T → Value}
theorem findNow_ents (k : Int) : ∀ (l : List (Int × T)) (n i : Nat), Instr.findNow (.int .i64) (.int .i64 k) (mapEnts vf n l) i = some ((mfind l k i).map fun q => (q.1, vf q.2))
 | [], _, _ => rfl
 | p :: l, n, i => by
   simp only [mapEnts, Instr.findNow, Instr.sameNow, if_true, mfind]
   by_cases h : p.1 = k
   · simp [h]
   · have h2 : (k == p.1) = false := by simpa using fun e => h e.symm
     rw [h2]
     simp only [if_neg h]
     exact findNow_ents k l (n + 1) (i + 1)
theorem ents_length : ∀ (l : List (Int × T)) (n : Nat), (mapEnts vf n l).length = l.length
 | [], _ => rfl
 | p :: l, n => by simp [mapEnts, ents_length l (n + 1)]
theorem mset_none {k : Int} {v : T} : ∀ {l : List (Int × T)} {i : Nat}, mfind l k i = none → ∀ n, mapEnts vf n (mset l k v) = mapEnts vf n l ++ [{ key := .int .i64 k, val := vf v, born := n + l.length }] ∧ (mset l k v).length = l.length + 1
 | [], _, _, n => by simp [mset, mapEnts]
 | p :: l, i, h, n => by
   simp only [mfind] at h
   split at h
   · cases h
   · next hp =>
     obtain ⟨h1, h2⟩ := mset_none (v := v) h (n + 1)
     simp only [mset, if_neg hp, mapEnts, h1, List.cons_append, List.length_cons, h2]
     refine ⟨?_, trivial⟩
     congr 3
     simp; omega
theorem mset_some {k : Int} {v : T} : ∀ {l : List (Int × T)} {i j : Nat} {u : T}, mfind l k i = some (j, u) → ∀ n, i ≤ j ∧ mapEnts vf n (mset l k v) = (mapEnts vf n l).modify (j - i) (fun e => { e with key := .int .i64 k, val := vf v }) ∧ (mset l k v).length = l.length ∧ ((mapEnts vf n l)[j - i]?).map (·.key) = some (.int .i64 k)
 | [], _, _, _, h, _ => by cases h
 | p :: l, i, j, u, h, n => by
   simp only [mfind] at h
   split at h
   · next hp =>
     cases h
     simp [mset, hp, mapEnts]
   · next hp =>
     obtain ⟨h0, h1, h2, h3⟩ := mset_some (v := v) h (n + 1)
     have e : j - i = (j - (i + 1)) + 1 := by omega
     refine ⟨by omega, ?_, ?_, ?_⟩
     · simp only [mset, if_neg hp, mapEnts, h1, e, List.modify_succ_cons]
     · simp only [mset, if_neg hp, List.length_cons, h2]
     · rw [e]; simpa [mapEnts] using h3
end
section
variable {P : Program} {o : Oper} {fr : Nat → D} {h : Heap} {K : D → Heap → Prop} {T : Type} {vf : T → Value}
theorem OpA.makeMap {t : TypeId} (vf : T → Value) (ho : o.op = .makeMap t none) (hk : ∀ c, K (.map c) ((c, .raw (mapO vf [])) :: h)) : OpA P o fr h K :=
 .of_run fun A M w0 ac w hr hv => by
   obtain ⟨_, h5, h6⟩ := hr.allocRaw (mapO vf [])
   refine ⟨.map (some w.heap.size), _, _, _, ?_, hk (2 * w.heap.size), h5, h6, ?_⟩
   · simp only [execOp, ho, Option.map_none, Instr.makeMap, Sem.run_bind, Sem.run_pure, Result.andThen_ok, run_newObj]
     rfl
   · have := V.map (w := w.alloc (mapO vf [])) (X := XX A ((2 * w.heap.size, .raw (mapO vf [])) :: h)) (c := 2 * w.heap.size) (by omega)
     rwa [show 2 * w.heap.size / 2 = w.heap.size from by omega] at this
theorem run_findKey {w : World} {kt : TypeId} (hkt : P.underlying kt = some (.int .i64)) (k : Int) (l : List (Int × T)) : (Instr.findKey kt (.int .i64 k) (mapEnts vf 0 l)).run P w = .ok ((mfind l k 0).map fun q => (q.1, vf q.2)) w := by
 simp only [Instr.findKey, Sem.run_bind, run_underlying hkt, Result.andThen_ok, findNow_ents, Sem.run_pure]
theorem run_checkKey {w : World} {kt : TypeId} (hkt : P.underlying kt = some (.int .i64)) (b : Bool) (k : Int) : (Instr.checkKey b 10000 kt (.int .i64 k)).run P w = .ok () w := by
 rw [Instr.checkKey]
 simp only [Sem.run_bind, run_underlying hkt, Result.andThen_ok, Sem.run_pure]
theorem OpA.mapSet {mt kt et : TypeId} {x y z : Operand} {c : Nat} {k : Int} {l : List (Int × T)} {v : T} {h' : Heap} (ho : o.op = .mapUpdate mt x y z) (ht : P.underlying mt = some (.map kt et)) (hkt : P.underlying kt = some (.int .i64))
   (hx : ev fr x = .map c) (hy : ev fr y = .i k) (hz : ev fr z = .v (vf v)) (hh : Repl c (.raw (mapO vf l)) c (.raw (mapO vf (mset l k v))) h h') (hk : K (.v undef) h') : OpA P o fr h K :=
 .of_skip fun A M w0 ac w hr hv => by
   have h1 := hv x (by simp [ho, Op.operands])
   have h2 := hv y (by simp [ho, Op.operands])
   have h3 := hv z (by simp [ho, Op.operands])
   rw [hx] at h1; rw [hy] at h2; rw [hz] at h3
   generalize hu : ac.eval x = u at h1
   generalize hu2 : ac.eval y = u2 at h2
   generalize hu3 : ac.eval z = u3 at h3
   cases h2; cases h3
   cases h1 with
   | map hc =>
     obtain ⟨_, hb⟩ := hr.blk _ _ hh.has.mem
     have hlt : c / 2 < w.heap.size := (Array.getElem?_eq_some_iff.1 hb).1
     have hb' : w.heap[c / 2]? = some (.map (mapEnts vf 0 l).toArray l.length) := hb
     obtain ⟨h5, h6⟩ := hr.setRaw hh hc (w' := { w with heap := w.heap.setIfInBounds (c / 2) (mapO vf (mset l k v)) }) (by simp [hlt]) (by simp) (fun b hb => by simp [Array.getElem?_setIfInBounds, Ne.symm hb]) (by
       have e1 : w.shape? (c / 2) = none := by unfold World.shape?; rw [hb']
       rw [e1]; unfold World.shape?; simp [hlt, mapO]) rfl rfl ⟨rfl, rfl⟩
     have eg : (getObj (c / 2)).run P w = .ok (.map (mapEnts vf 0 l).toArray l.length) w := by simp [getObj, Sem.run, hb']
     have es : ∀ o, (setObj (c / 2) o).run P w = .ok () { w with heap := w.heap.setIfInBounds (c / 2) o } := fun o => by simp [setObj, Sem.run, hb']
     refine ⟨_, _, ?_, hk, h5, h6⟩
     simp only [execOp, ho, hu, hu2, hu3, Instr.mapUpdate, Sem.run_bind, run_underlying ht, Result.andThen_ok, eg, run_checkKey hkt, run_findKey hkt]
     cases hf : mfind l k 0 with
     | none =>
       obtain ⟨e1, e2⟩ := mset_none (vf := vf) (v := v) hf 0
       simp only [Option.map_none, es, Result.andThen_ok]
       simp [mapO, e1, e2]
     | some q =>
       obtain ⟨j, u⟩ := q
       obtain ⟨_, e1, e2, e3⟩ := mset_some (vf := vf) (v := v) hf 0
       simp only [Nat.sub_zero] at e1 e3
       have e4 : ((mapEnts vf 0 l).toArray[j]?).map (·.key) = some (.int .i64 k) := by simpa using e3
       simp only [Option.map_some, e4, Option.getD_some, Instr.keyThatStays, Instr.sameBits, Sem.run_bind, es]
       simp [mapO, e1, e2, es]
theorem V.nilL {w : World} {X : Nat → Prop} {sz : Nat} : V w X (.list sz []) (.slice none 0 0) := .list (sz := sz) (ds := []) (cs := []) (b := 0) (o := 0) (by simp) .nil (by simp) (.inl rfl) (by simp)
theorem OpA.frz {s : Nat} {d d' : D} {h0 : Heap} {x : Nat × Blk} (hp : h.Perm (x :: h0)) (hd : fr s = d) (hsn : Snap false [x] [d] [d']) (hh : OpA P o (upd fr s d') h0 K) : OpA P o fr h K := fun A M w0 a w hr hv next Q hn => by
 obtain ⟨r1, m1⟩ := hr.perm hp
 obtain ⟨r2, m2⟩ := r1.tail
 refine hh A M w0 a w r2 (fun y hy => ?_) next Q (fun v w' d h' hk hr' hm hv' => hn v w' d h' hk hr' ((m1.trans m2).trans hm) hv')
 have h1 := hv y hy
 by_cases hi : y = .tmp s
 · subst hi
   show V w (XX A h0) (upd fr s d' s) _
   rw [upd_same]
   have hv2 := h1.mono m1
   have e : ev fr (.tmp s) = d := hd
   rw [e] at hv2
   have hk : x.1 ∉ keys h0 := (List.nodup_cons.1 (by simpa using r1.nodup)).1
   have := hsn.sound (X' := XX A h0) r1 (fun c b hh => by cases hh with | head => exact .head | tail t => cases t) (fun _ b hb => by
       rcases hb with hb | hb
       · exact .inl hb
       · exact .inr (by simp [hb])) (fun c hc hev hx => by
       simp at hc; subst hc
       rcases hx with hx | hx
       · rw [show 2 * (x.1 / 2) = x.1 from by omega] at hx
         exact r1.free x.1 (by simp) hx
       · rw [show 2 * (x.1 / 2) = x.1 from by omega] at hx
         exact hk hx) [_] (.cons hv2 .nil)
   cases this with
   | cons h1 _ => exact h1
 · have e : ev (upd fr s d') y = ev fr y := by
     cases y with
     | tmp t => exact upd_ne _ _ (fun e => hi (by rw [e]))
     | _ => rfl
   rw [e]; exact (h1.mono m1).mono m2
end
end Go.Lic
set_option linter.all false
namespace Go.Lic
def itO (c n : Nat) (seen : List Nat) : Obj := .mapIter (some (c / 2)) n seen.toArray n
theorem ents_mem {T : Type} {vf : T → Value} : ∀ {l : List (Int × T)} {n : Nat} {e : MapEntry}, e ∈ mapEnts vf n l → ∃ k, ∃ h : k < l.length, e = { key := .int .i64 (l[k]).1, val := vf (l[k]).2, born := n + k }
 | [], _, _, h => by cases h
 | p :: l, n, e, h => by
   rcases List.mem_cons.1 h with rfl | h
   · exact ⟨0, by simp, by simp⟩
   · obtain ⟨k, hk, rfl⟩ := ents_mem h
     exact ⟨k + 1, by simpa using hk, by simp; omega⟩
theorem ents_at {T : Type} (vf : T → Value) : ∀ {l : List (Int × T)} (n : Nat) {k : Nat} (h : k < l.length), { key := .int .i64 (l[k]).1, val := vf (l[k]).2, born := n + k } ∈ mapEnts vf n l
 | p :: l, n, 0, _ => by simp [mapEnts]
 | p :: l, n, k + 1, h => by
   have := ents_at vf (l := l) (n + 1) (k := k) (by simpa using h)
   simp only [mapEnts, List.mem_cons, List.getElem_cons_succ]
   right
   rw [show n + (k + 1) = n + 1 + k by omega]; exact this
section
variable {P : Program} {o : Oper} {fr : Nat → D} {h : Heap} {K : D → Heap → Prop} {T : Type} {vf : T → Value}
theorem OpA.rangeMap {t kt et : TypeId} {x : Operand} {cm : Nat} {l : List (Int × T)} (ho : o.op = .range t x) (ht : P.underlying t = some (.map kt et)) (hx : ev fr x = .map cm) (hm : Has cm (.raw (mapO vf l)) h)
   (hk : ∀ c, K (.ptr c 1 0 0) ((c, .raw (itO cm l.length [])) :: h)) : OpA P o fr h K :=
 .of_run fun A M w0 ac w hr hv => by
   have h1 := hv x (by simp [ho, Op.operands])
   rw [hx] at h1
   generalize hu : ac.eval x = u at h1
   cases h1 with
   | map hc =>
     obtain ⟨_, hb⟩ := hr.blk _ _ hm.mem
     have hb' : w.heap[cm / 2]? = some (.map (mapEnts vf 0 l).toArray l.length) := hb
     obtain ⟨_, h5, h6⟩ := hr.allocRaw (itO cm l.length [])
     refine ⟨.pointer (some ⟨w.heap.size, 0, none⟩), _, _, _, ?_, hk (2 * w.heap.size), h5, h6, ?_⟩
     · simp only [execOp, ho, hu, Sem.run_bind, run_range_map w t kt et (cm / 2) _ _ ht hb', Result.andThen_ok, Sem.run_pure]
       rfl
     · have := V.ptr (w := w.alloc (itO cm l.length [])) (X := XX A ((2 * w.heap.size, .raw (itO cm l.length [])) :: h)) (c := 2 * w.heap.size) (sz := 1) (i := 0) (k := 0) (by omega)
       rwa [show 2 * w.heap.size / 2 = w.heap.size from by omega] at this
theorem OpA.nextMap [Inhabited T] {x : Operand} {c cm : Nat} {l : List (Int × T)} {seen : List Nat} {h' : Nat → Heap} (ho : o.op = .next x false) (hx : ev fr x = .ptr c 1 0 0) (hm : Has cm (.raw (mapO vf l)) h)
   (hrepl : ∀ k, Repl c (.raw (itO cm l.length seen)) c (.raw (itO cm l.length (seen ++ [k]))) h (h' k)) (hover : (∀ k : Nat, k < l.length → k ∈ seen) → K (.tup [.b false]) h)
   (hnext : ∀ k : Nat, k < l.length → k ∉ seen → K (.tup [.b true, .i (gi l (k : Int)).1, .v (vf (gi l (k : Int)).2)]) (h' k)) : OpA P o fr h K :=
 .of_run fun A M w0 ac w hr hv => by
   have h1 := hv x (by simp [ho, Op.operands])
   rw [hx] at h1
   generalize hu : ac.eval x = u at h1
   cases h1 with
   | ptr hc =>
     obtain ⟨hcm, hb⟩ := hr.blk _ _ hm.mem
     have hb' : w.heap[cm / 2]? = some (.map (mapEnts vf 0 l).toArray l.length) := hb
     obtain ⟨_, hi⟩ := hr.blk _ _ (hrepl 0).has.mem
     have hi' : w.heap[c / 2]? = some (.mapIter (some (cm / 2)) l.length seen.toArray l.length) := hi
     have e0 : 0 * 1 + 0 = 0 := rfl
     have hlt : c / 2 < w.heap.size := (Array.getElem?_eq_some_iff.1 hi').1
     rcases run_next_at (P := P) w o.type (c / 2) (cm / 2) l.length l.length seen.toArray _ _ hi' hb' (fun e he => by
       obtain ⟨k, hk, rfl⟩ := ents_mem (by simpa using he)
       simpa using hk) (Nat.le_refl _) with ⟨g1, g2⟩ | ⟨e, g1, w1, g2, g3⟩
     · refine ⟨.tuple #[.bool false], w, _, _, ?_, hover (fun k hk => ?_), hr, Mono.refl _ _, .tup (.cons (.v _) .nil)⟩
       · simp only [execOp, ho, hu, e0, Sem.run_bind, g2, Result.andThen_ok, Sem.run_pure]
       · have := ents_at vf (l := l) 0 hk
         have hz : Go.leftOf (mapEnts vf 0 l).toArray seen.toArray = #[] := Array.eq_empty_of_size_eq_zero g1
         unfold Go.leftOf at hz
         rw [Array.filter_eq_empty_iff] at hz
         have := hz _ (by simpa using this)
         simpa using this
     · unfold Go.leftOf at g1
       have g1' : e ∈ mapEnts vf 0 l ∧ e.born ∉ seen := by
         have := g1
         simp only [Array.toList_filter, List.mem_filter, Bool.not_eq_true', List.contains_toArray] at this
         simpa using this
       obtain ⟨k, hk, rfl⟩ := ents_mem g1'.1
       have hkn : k ∉ seen := by simpa using g1'.2
       obtain ⟨q1, m1⟩ : HRel A M w0 h w1 ∧ Mono w (XX A h) w1 (XX A h) := by
         rcases g2 with rfl | rfl
         · exact ⟨hr, Mono.refl _ _⟩
         · exact hr.quiet (w' := w.drew) rfl rfl rfl rfl (Nat.le_succ _)
       have hi1 : w1.heap[c / 2]? = some (.mapIter (some (cm / 2)) l.length seen.toArray l.length) := by rcases g2 with rfl | rfl <;> exact hi'
       have hlt1 : c / 2 < w1.heap.size := (Array.getElem?_eq_some_iff.1 hi1).1
       obtain ⟨h5, h6⟩ := q1.setRaw (hrepl k) hc (w' := { w1 with heap := w1.heap.setIfInBounds (c / 2) (itO cm l.length (seen ++ [k])) }) (by simp [hlt1]) (by simp) (fun b hb => by simp [Array.getElem?_setIfInBounds, Ne.symm hb]) (by
         have e1 : w1.shape? (c / 2) = none := by unfold World.shape?; rw [hi1]
         rw [e1]; unfold World.shape?; simp [hlt1, itO]) rfl rfl ⟨rfl, rfl⟩
       have hn2 := hnext k hk hkn
       rw [gi_nat hk] at hn2
       refine ⟨.tuple #[.bool true, .int .i64 (l[k]).1, vf (l[k]).2], _, _, _, ?_, hn2, h5, m1.trans h6, .tup (.cons (.v _) (.cons (.v _) (.cons (.v _) .nil)))⟩
       simp only [execOp, ho, hu, e0, Sem.run_bind, g3, Result.andThen_ok, Sem.run_pure]
       simp [ChangeMaps.setBlock, itO]
theorem ents_born (vf : T → Value) : ∀ (l : List (Int × T)) (n : Nat), ((mapEnts vf n l).map (·.born)).Nodup ∧ ∀ b ∈ (mapEnts vf n l).map (·.born), n ≤ b
 | [], _ => ⟨.nil, fun _ h => by cases h⟩
 | p :: l, n => by
   obtain ⟨h1, h2⟩ := ents_born vf l (n + 1)
   simp only [mapEnts, List.map_cons]
   refine ⟨List.nodup_cons.2 ⟨fun hx => by have := h2 _ hx; omega, h1⟩, fun b hb => ?_⟩
   rcases List.mem_cons.1 hb with rfl | hb
   · omega
   · have := h2 b hb; omega
theorem OpA.entry [Inhabited T] {x : Operand} {c cm : Nat} {l : List (Int × T)} {seen : List Nat} {k : Nat} (ho : o.op = .entry x) (hx : ev fr x = .ptr c 1 0 0) (hm : Has cm (.raw (mapO vf l)) h) (hi : Has c (.raw (itO cm l.length (seen ++ [k]))) h) (hk0 : k < l.length)
   (hk : K (.tup [.i (gi l (k : Int)).1, .v (vf (gi l (k : Int)).2)]) h) : OpA P o fr h K :=
 .of_run fun A M w0 ac w hr hv => by
   have h1 := hv x (by simp [ho, Op.operands])
   rw [hx] at h1
   generalize hu : ac.eval x = u at h1
   cases h1 with
   | ptr hc =>
     obtain ⟨hcm, hb⟩ := hr.blk _ _ hm.mem
     have hb' : w.heap[cm / 2]? = some (.map (mapEnts vf 0 l).toArray l.length) := hb
     obtain ⟨_, hi1⟩ := hr.blk _ _ hi.mem
     have hi' : w.heap[c / 2]? = some (.mapIter (some (cm / 2)) l.length (seen.toArray.push k) l.length) := by rw [hi1]; simp [itO]
     have e0 : 0 * 1 + 0 = 0 := rfl
     rw [gi_nat hk0] at hk
     have he := ents_at vf (l := l) 0 hk0
     rw [Nat.zero_add] at he
     have hrun := run_entry_at (P := P) w (c / 2) (cm / 2) l.length seen.toArray (mapEnts vf 0 l).toArray l.length { key := .int .i64 (l[k]).1, val := vf (l[k]).2, born := k } hi' hb' (by simpa using he) (by simpa using (ents_born vf l 0).1)
     refine ⟨.tuple #[.int .i64 (l[k]).1, vf (l[k]).2], w, _, _, ?_, hk, hr, Mono.refl _ _, .tup (.cons (.v _) (.cons (.v _) .nil))⟩
     simp only [execOp, ho, hu, e0, Sem.run_bind, hrun, Result.andThen_ok, Sem.run_pure]
theorem OpA.mlen {t kt et : TypeId} {c : Call} {x : Operand} {cm : Nat} {l : List (Int × T)} (ho : o.op = .call c) (hc : c.callee = .builtin .len) (ha : c.args = #[x]) (hty : c.argTypes = #[t]) (ht : P.underlying t = some (.map kt et))
   (hx : ev fr x = .map cm) (hm : Has cm (.raw (mapO vf l)) h) (hk : K (.i l.length) h) : OpA P o fr h K :=
 .of_run fun A M w0 ac w hr hv => by
   have h1 := hv x (by simp [ho, Op.operands, Call.operands, hc, ha])
   rw [hx] at h1
   generalize hu : ac.eval x = u at h1
   cases h1 with
   | map hc2 =>
     obtain ⟨_, hb⟩ := hr.blk _ _ hm.mem
     have hb' : w.heap[cm / 2]? = some (.map (mapEnts vf 0 l).toArray l.length) := hb
     refine ⟨.int .i64 l.length, w, _, _, ?_, hk, hr, Mono.refl _ _, .v _⟩
     simp [execOp, ho, hc, resolve, invoke, builtin, Builtin.len_, hty, ha, hu, run_underlying ht, goInt, getObj, Sem.run, hb', ents_length, Result.andThen]
end
end Go.Lic
