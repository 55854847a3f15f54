/-
  Ranges over strings: an iterator is a block of its own.
-/
import Derived.Test.YtglclijalehcmaaGreatDoorClip
import Derived.Laws.RangeAny
import Derived.Maps.RangeRun
set_option linter.all false
namespace Go.Lic
section
variable {A M : Nat → Prop} {w0 w : World} {h : Heap}
theorem HRel.allocRaw (hr : HRel A M w0 h w) (o : Obj) :
   2 * w.heap.size ∉ keys h ∧ HRel A M w0 ((2 * w.heap.size, .raw o) :: h) (w.alloc o) ∧ Mono w (XX A h) (w.alloc o) (XX A ((2 * w.heap.size, .raw o) :: h)) := by
 have hnew : 2 * w.heap.size ∉ keys h := fun hc => by have := hr.lt hc (by omega); omega
 have hx : ∀ b, b < w.heap.size → XX A ((2 * w.heap.size, .raw o) :: h) b → XX A h b := fun b hb hx => by
   rcases hx with hx | hx
   · exact .inl hx
   · simp at hx; rcases hx with hx | hx
     · omega
     · exact .inr hx
 have hm : Mono w (XX A h) (w.alloc o) (XX A ((2 * w.heap.size, .raw o) :: h)) :=
   ⟨by simp, fun b hb _ => get_alloc w _ b hb, fun b hb => shape_of_heap (get_alloc w _ b hb), hx⟩
 refine ⟨hnew, ⟨?_, ?_, ?_, ?_, hr.bound, fun b hb => by have := hr.old b hb; simp; omega, ?_, hr.glob.mono hm⟩, hm⟩
 · simp only [keys_cons, List.nodup_cons]; exact ⟨hnew, hr.nodup⟩
 · intro c b hc
   rcases List.mem_cons.1 hc with hc | hc
   · cases hc
     have e2 : 2 * w.heap.size / 2 = w.heap.size := by omega
     refine ⟨by omega, ?_⟩
     rw [e2]; exact get_alloc_new w _
   · exact (hr.blk c b hc).mono hm (fun he => get_alloc w _ _ ((hr.blk c b hc).lt he))
 · intro c hc ha
   rcases List.mem_cons.1 (by simpa using hc) with hc | hc
   · subst hc; have := hr.old _ ha; have := hr.ext.size; omega
   · exact hr.free c hc ha
 · intro c hc he
   rcases List.mem_cons.1 (by simpa using hc) with hc | hc
   · subst hc; have := hr.ext.size; right; omega
   · exact hr.mine c hc he
 · exact hr.ext.trans ⟨rfl, rfl, rfl, by simp, fun b hb _ => get_alloc w _ b hb, fun b hb => shape_of_heap (get_alloc w _ b hb), Nat.le_refl _⟩
theorem HRel.setRaw (hr : HRel A M w0 h w) {h' : Heap} {c : Nat} {o o' : Obj} (ht : Repl c (.raw o) c (.raw o') h h') (hc : c % 2 = 0) {w' : World} (hw : w'.heap[c / 2]? = some o') (hs : w'.heap.size = w.heap.size)
   (hk : ∀ b, b ≠ c / 2 → w'.heap[b]? = w.heap[b]?) (hsh : w'.shape? (c / 2) = w.shape? (c / 2)) (ho : w'.os = w.os) (htp : w'.tape = w.tape) (hout : w'.output = w.output ∧ w'.drawn = w.drawn) : HRel A M w0 h' w' ∧ Mono w (XX A h) w' (XX A h') := by
 have hkeys := ht.keys_eq
 have hin : XX A h (c / 2) := .inr (by have := ht.has.key; rwa [show 2 * (c / 2) = c from by omega])
 have hxx : XX A h' = XX A h := by funext b; simp [XX, hkeys]
 have hm : Mono w (XX A h) w' (XX A h') := by
   rw [hxx]
   refine ⟨by omega, fun b _ hx => hk b (fun e => hx (e ▸ hin)), fun b _ => ?_, fun _ _ hx => hx⟩
   by_cases hb : b = c / 2
   · subst hb; exact hsh
   · exact shape_of_heap (hk b hb)
 refine ⟨⟨by rw [hkeys]; exact hr.nodup, ?_, fun c hc => hr.free c (hkeys ▸ hc), fun c hc => hr.mine c (hkeys ▸ hc), hr.bound, by rw [hs]; exact hr.old, ?_, hr.glob.mono hm⟩, hm⟩
 · intro c1 b1 hc1
   obtain ⟨h1, h2, e1, e2⟩ := ht.split
   subst e1; subst e2
   have hnd := hr.nodup
   simp only [keys_append, keys_cons, List.nodup_append, List.nodup_cons] at hnd
   rcases List.mem_append.1 hc1 with hc1 | hc1
   · have hne : c1 ≠ c := fun e => hnd.2.2 c1 (List.mem_map.2 ⟨_, hc1, rfl⟩) c (by simp) e
     exact (hr.blk c1 b1 (by simp [hc1])).mono hm (fun he => hk _ (by omega))
   · rcases List.mem_cons.1 hc1 with hc1 | hc1
     · cases hc1; exact ⟨hc, hw⟩
     · have hne : c1 ≠ c := fun e => hnd.2.1.1 (e ▸ List.mem_map.2 ⟨_, hc1, rfl⟩)
       exact (hr.blk c1 b1 (by simp [hc1])).mono hm (fun he => hk _ (by omega))
 · refine ⟨ho.trans hr.ext.os, htp.trans hr.ext.tape, hout.1.trans hr.ext.output, by rw [hs]; exact hr.ext.size, fun b hb hn => ?_, fun b hb => (hm.shape b (Nat.lt_of_lt_of_le hb hr.ext.size)).trans (hr.ext.shape b hb), by rw [hout.2]; exact hr.ext.drawn⟩
   by_cases hbc : b = c / 2
   · subst hbc
     rcases hr.mine c ht.has.key hc with hmm | hmm
     · exact absurd hmm hn
     · omega
   · exact (hk b hbc).trans (hr.ext.keep b hb hn)
end
theorem em_split {p Q : Prop} (h1 : p → Q) (h2 : ¬ p → Q) : Q := (Classical.em p).elim h1 h2
def runeAt (s : ByteArray) (i : Int) : Int := (Utf8.decode s i.toNat).1
def runeW (s : ByteArray) (i : Int) : Int := (Utf8.decode s i.toNat).2
section
variable {P : Program} {o : Oper} {fr : Nat → D} {h : Heap} {K : D → Heap → Prop}
theorem OpA.rangeStr {t : TypeId} {x : Operand} {s : ByteArray} (ho : o.op = .range t x) (ht : P.underlying t = some .string) (hx : ev fr x = .s s) (hk : ∀ c, K (.ptr c 1 0 0) ((c, .raw (.stringIter s (Int.toNat 0))) :: h)) : OpA P o fr h K :=
 .of_run fun A M w0 ac w hr hv => by
   have h1 := hv x (by simp [ho, Op.operands])
   rw [hx] at h1
   generalize hu : ac.eval x = u at h1
   cases h1
   obtain ⟨_, h5, h6⟩ := hr.allocRaw (.stringIter s 0)
   refine ⟨.pointer (some ⟨w.heap.size, 0, none⟩), _, _, _, ?_, hk (2 * w.heap.size), h5, h6, ?_⟩
   · simp only [execOp, ho, hu, Sem.run_bind, run_range_string w t s ht, Result.andThen_ok, Sem.run_pure, World.iter]
   · have := V.ptr (w := w.alloc (.stringIter s 0)) (X := XX A ((2 * w.heap.size, .raw (.stringIter s 0)) :: h)) (c := 2 * w.heap.size) (sz := 1) (i := 0) (k := 0) (by omega)
     rwa [show 2 * w.heap.size / 2 = w.heap.size from by omega] at this
theorem OpA.nextStr {x : Operand} {c : Nat} {s : ByteArray} {i : Int} {h' : Heap} (ho : o.op = .next x true) (hx : ev fr x = .ptr c 1 0 0) (hi : 0 ≤ i ∧ i < s.size)
   (hrepl : Repl c (.raw (.stringIter s (Int.toNat i))) c (.raw (.stringIter s (Int.toNat (i + runeW s i)))) h h') (hk : K (.tup [.b true, .i i, .k .i32 (runeAt s i)]) h') : OpA P o fr h K :=
 .of_run fun A M w0 ac w hr hv => by
   have h1 := hv x (by simp [ho, Op.operands])
   rw [hx] at h1
   generalize hu : ac.eval x = u at h1
   cases h1 with
   | ptr hc =>
     obtain ⟨_, hb⟩ := hr.blk _ _ hrepl.has.mem
     have hlt : c / 2 < w.heap.size := (Array.getElem?_eq_some_iff.1 hb).1
     have hpos : i.toNat < s.size := by omega
     have hw : (i + runeW s i).toNat = i.toNat + (Utf8.decode s i.toNat).2 := by unfold runeW; omega
     rw [hw] at hrepl
     obtain ⟨h5, h6⟩ := hr.setRaw hrepl hc (w' := { w with heap := w.heap.setIfInBounds (c / 2) (.stringIter s (i.toNat + (Utf8.decode s i.toNat).2)) }) (by simp [hlt]) (by simp) (fun b hb => by simp [Array.getElem?_setIfInBounds, Ne.symm hb]) (by
       have e1 : w.shape? (c / 2) = none := by unfold World.shape?; rw [hb]
       rw [e1]; unfold World.shape?; simp [hlt]) rfl rfl ⟨rfl, rfl⟩
     refine ⟨.tuple #[.bool true, .int .i64 i, .int .i32 (runeAt s i)], _, _, _, ?_, hk, h5, h6, .tup (.cons (.v _) (.cons (.v _) (.cons (.v _) .nil)))⟩
     have e0 : 0 * 1 + 0 = 0 := rfl
     have ei : ((i.toNat : Nat) : Int) = i := by omega
     simp only [execOp, ho, hu, Instr.next, getObj, setObj, Sem.run_bind, Sem.run, hb, Result.andThen, hpos, if_true, e0]
     simp [goInt, runeAt, ei]
theorem OpA.overStr {x : Operand} {c : Nat} {s : ByteArray} {i : Int} (ho : o.op = .next x true) (hx : ev fr x = .ptr c 1 0 0) (hi : ¬ i < s.size) (hh : Has c (.raw (.stringIter s (Int.toNat i))) h) (hk : K (.tup [.b false]) h) : OpA P o fr h K :=
 .of_run fun A M w0 ac w hr hv => by
   have h1 := hv x (by simp [ho, Op.operands])
   rw [hx] at h1
   generalize hu : ac.eval x = u at h1
   cases h1 with
   | ptr hc =>
     obtain ⟨_, hb⟩ := hr.blk _ _ hh.mem
     have hpos : ¬ i.toNat < s.size := by omega
     refine ⟨.tuple #[.bool false], w, _, _, ?_, hk, hr, Mono.refl _ _, .tup (.cons (.v _) .nil)⟩
     have e0 : 0 * 1 + 0 = 0 := rfl
     simp only [execOp, ho, hu, Instr.next, getObj, setObj, Sem.run_bind, Sem.run, hb, Result.andThen, hpos, if_false, e0]
     rfl
end
end Go.Lic
set_option linter.all false
namespace Go.Lic
def mapEnts {T : Type} (vf : T → Value) : Nat → List (Int × T) → List MapEntry
 | _, [] => []
 | n, p :: l => { key := .int .i64 p.1, val := vf p.2, born := n } :: mapEnts vf (n + 1) l
def mapO {T : Type} (vf : T → Value) (l : List (Int × T)) : Obj := .map (mapEnts vf 0 l).toArray l.length
abbrev vI (n : Int) : Value := .int .i64 n
def mget {T : Type} (d : T) : List (Int × T) → Int → T
 | [], _ => d
 | p :: l, k => if p.1 = k then p.2 else mget d l k
def mset {T : Type} : List (Int × T) → Int → T → List (Int × T)
 | [], k, v => [(k, v)]
 | p :: l, k, v => if p.1 = k then (k, v) :: l else p :: mset l k v
section
variable {T : Type} {vf : T → Value}
end
section
variable {P : Program} {o : Oper} {fr : Nat → D} {h : Heap} {K : D → Heap → Prop} {T : Type} {vf : T → Value}
theorem OpA.makeMap {t : TypeId} (vf : T → Value) (ho : o.op = .makeMap t none) (hk : ∀ c, K (.map c) ((c, .raw (mapO vf [])) :: h)) : OpA P o fr h K :=
 .of_run fun A M w0 ac w hr hv => by
   obtain ⟨_, h5, h6⟩ := hr.allocRaw (mapO vf [])
   refine ⟨.map (some w.heap.size), _, _, _, ?_, hk (2 * w.heap.size), h5, h6, ?_⟩
   · simp only [execOp, ho, Option.map_none, Instr.makeMap, Sem.run_bind, Sem.run_pure, Result.andThen_ok, run_newObj]
     rfl
   · have := V.map (w := w.alloc (mapO vf [])) (X := XX A ((2 * w.heap.size, .raw (mapO vf [])) :: h)) (c := 2 * w.heap.size) (by omega)
     rwa [show 2 * w.heap.size / 2 = w.heap.size from by omega] at this
theorem run_checkKey {w : World} {kt : TypeId} (hkt : P.underlying kt = some (.int .i64)) (b : Bool) (k : Int) : (Instr.checkKey b 10000 kt (.int .i64 k)).run P w = .ok () w := by
 rw [Instr.checkKey]
 simp only [Sem.run_bind, run_underlying hkt, Result.andThen_ok, Sem.run_pure]
theorem V.nilL {w : World} {X : Nat → Prop} {sz : Nat} : V w X (.list sz []) (.slice none 0 0) := .list (sz := sz) (ds := []) (cs := []) (b := 0) (o := 0) (by simp) .nil (by simp) (.inl rfl) (by simp)
theorem OpA.frz {s : Nat} {d d' : D} {h0 : Heap} {x : Nat × Blk} (hp : h.Perm (x :: h0)) (hd : fr s = d) (hsn : Snap false [x] [d] [d']) (hh : OpA P o (upd fr s d') h0 K) : OpA P o fr h K := fun A M w0 a w hr hv next Q hn => by
 obtain ⟨r1, m1⟩ := hr.perm hp
 obtain ⟨r2, m2⟩ := r1.tail
 refine hh A M w0 a w r2 (fun y hy => ?_) next Q (fun v w' d h' hk hr' hm hv' => hn v w' d h' hk hr' ((m1.trans m2).trans hm) hv')
 have h1 := hv y hy
 by_cases hi : y = .tmp s
 · subst hi
   show V w (XX A h0) (upd fr s d' s) _
   rw [upd_same]
   have hv2 := h1.mono m1
   have e : ev fr (.tmp s) = d := hd
   rw [e] at hv2
   have hk : x.1 ∉ keys h0 := (List.nodup_cons.1 (by simpa using r1.nodup)).1
   have := hsn.sound (X' := XX A h0) r1 (fun c b hh => by cases hh with | head => exact .head | tail t => cases t) (fun _ b hb => by
       rcases hb with hb | hb
       · exact .inl hb
       · exact .inr (by simp [hb])) (fun c hc hev hx => by
       simp at hc; subst hc
       rcases hx with hx | hx
       · rw [show 2 * (x.1 / 2) = x.1 from by omega] at hx
         exact r1.free x.1 (by simp) hx
       · rw [show 2 * (x.1 / 2) = x.1 from by omega] at hx
         exact hk hx) [_] (.cons hv2 .nil)
   cases this with
   | cons h1 _ => exact h1
 · have e : ev (upd fr s d') y = ev fr y := by
     cases y with
     | tmp t => exact upd_ne _ _ (fun e => hi (by rw [e]))
     | _ => rfl
   rw [e]; exact (h1.mono m1).mono m2
end
end Go.Lic
set_option linter.all false
namespace Go.Lic
def itO (c n : Nat) (seen : List Nat) : Obj := .mapIter (some (c / 2)) n seen.toArray n
theorem ents_at {T : Type} (vf : T → Value) : ∀ {l : List (Int × T)} (n : Nat) {k : Nat} (h : k < l.length), { key := .int .i64 (l[k]).1, val := vf (l[k]).2, born := n + k } ∈ mapEnts vf n l
 | p :: l, n, 0, _ => by simp [mapEnts]
 | p :: l, n, k + 1, h => by
   have := ents_at vf (l := l) (n + 1) (k := k) (by simpa using h)
   simp only [mapEnts, List.mem_cons, List.getElem_cons_succ]
   right
   rw [show n + (k + 1) = n + 1 + k by omega]; exact this
section
variable {P : Program} {o : Oper} {fr : Nat → D} {h : Heap} {K : D → Heap → Prop} {T : Type} {vf : T → Value}
theorem ents_born (vf : T → Value) : ∀ (l : List (Int × T)) (n : Nat), ((mapEnts vf n l).map (·.born)).Nodup ∧ ∀ b ∈ (mapEnts vf n l).map (·.born), n ≤ b
 | [], _ => ⟨.nil, fun _ h => by cases h⟩
 | p :: l, n => by
   obtain ⟨h1, h2⟩ := ents_born vf l (n + 1)
   simp only [mapEnts, List.map_cons]
   refine ⟨List.nodup_cons.2 ⟨fun hx => by have := h2 _ hx; omega, h1⟩, fun b hb => ?_⟩
   rcases List.mem_cons.1 hb with rfl | hb
   · omega
   · have := h2 b hb; omega
theorem OpA.entry [Inhabited T] {x : Operand} {c cm : Nat} {l : List (Int × T)} {seen : List Nat} {k : Nat} (ho : o.op = .entry x) (hx : ev fr x = .ptr c 1 0 0) (hm : Has cm (.raw (mapO vf l)) h) (hi : Has c (.raw (itO cm l.length (seen ++ [k]))) h) (hk0 : k < l.length)
   (hk : K (.tup [.i (gi l (k : Int)).1, .v (vf (gi l (k : Int)).2)]) h) : OpA P o fr h K :=
 .of_run fun A M w0 ac w hr hv => by
   have h1 := hv x (by simp [ho, Op.operands])
   rw [hx] at h1
   generalize hu : ac.eval x = u at h1
   cases h1 with
   | ptr hc =>
     obtain ⟨hcm, hb⟩ := hr.blk _ _ hm.mem
     have hb' : w.heap[cm / 2]? = some (.map (mapEnts vf 0 l).toArray l.length) := hb
     obtain ⟨_, hi1⟩ := hr.blk _ _ hi.mem
     have hi' : w.heap[c / 2]? = some (.mapIter (some (cm / 2)) l.length (seen.toArray.push k) l.length) := by rw [hi1]; simp [itO]
     have e0 : 0 * 1 + 0 = 0 := rfl
     rw [gi_nat hk0] at hk
     have he := ents_at vf (l := l) 0 hk0
     rw [Nat.zero_add] at he
     have hrun := run_entry_at (P := P) w (c / 2) (cm / 2) l.length seen.toArray (mapEnts vf 0 l).toArray l.length { key := .int .i64 (l[k]).1, val := vf (l[k]).2, born := k } hi' hb' (by simpa using he) (by simpa using (ents_born vf l 0).1)
     refine ⟨.tuple #[.int .i64 (l[k]).1, vf (l[k]).2], w, _, _, ?_, hk, hr, Mono.refl _ _, .tup (.cons (.v _) (.cons (.v _) .nil))⟩
     simp only [execOp, ho, hu, e0, Sem.run_bind, hrun, Result.andThen_ok, Sem.run_pure]
end
end Go.Lic
