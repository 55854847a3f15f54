/-
  Ranges over strings: an iterator is a block of its own.
-/
import Derived.Test.YtjncggaheahjiaaGreatDoorHv
import Derived.Laws.RangeAny
set_option linter.all false
namespace Go.Lic
variable [Fl]
section
variable {A M : Nat → Prop} {w0 w : World} {h : Heap}
theorem HRel.allocRaw (hr : HRel A M w0 h w) (o : Obj) :
   2 * w.heap.size ∉ keys h ∧ HRel A M w0 ((2 * w.heap.size, .raw o) :: h) (w.alloc o) ∧ Mono w (XX A h) (w.alloc o) (XX A ((2 * w.heap.size, .raw o) :: h)) := by
 have hnew : 2 * w.heap.size ∉ keys h := fun hc => by have := hr.lt hc (by omega); omega
 have hx : ∀ b, b < w.heap.size → XX A ((2 * w.heap.size, .raw o) :: h) b → XX A h b := fun b hb hx => by
   rcases hx with hx | hx
   · exact .inl hx
   · simp at hx; rcases hx with hx | hx
     · omega
     · exact .inr hx
 have hm : Mono w (XX A h) (w.alloc o) (XX A ((2 * w.heap.size, .raw o) :: h)) :=
   ⟨by simp, fun b hb _ => get_alloc w _ b hb, fun b hb => shape_of_heap (get_alloc w _ b hb), hx⟩
 refine ⟨hnew, ⟨?_, ?_, ?_, ?_, hr.bound, fun b hb => by have := hr.old b hb; simp; omega, ?_, hr.glob.mono hm⟩, hm⟩
 · simp only [keys_cons, List.nodup_cons]; exact ⟨hnew, hr.nodup⟩
 · intro c b hc
   rcases List.mem_cons.1 hc with hc | hc
   · cases hc
     have e2 : 2 * w.heap.size / 2 = w.heap.size := by omega
     refine ⟨by omega, ?_⟩
     rw [e2]; exact get_alloc_new w _
   · exact (hr.blk c b hc).mono hm (fun he => get_alloc w _ _ ((hr.blk c b hc).lt he))
 · intro c hc ha
   rcases List.mem_cons.1 (by simpa using hc) with hc | hc
   · subst hc; have := hr.old _ ha; have := hr.ext.size; omega
   · exact hr.free c hc ha
 · intro c hc he
   rcases List.mem_cons.1 (by simpa using hc) with hc | hc
   · subst hc; have := hr.ext.size; right; omega
   · exact hr.mine c hc he
 · exact hr.ext.trans ⟨rfl, rfl, rfl, by simp, fun b hb _ => get_alloc w _ b hb, fun b hb => shape_of_heap (get_alloc w _ b hb), fun _ => Nat.le_refl _⟩
theorem HRel.setRaw (hr : HRel A M w0 h w) {h' : Heap} {c : Nat} {o o' : Obj} (ht : Repl c (.raw o) c (.raw o') h h') (hc : c % 2 = 0) {w' : World} (hw : w'.heap[c / 2]? = some o') (hs : w'.heap.size = w.heap.size)
   (hk : ∀ b, b ≠ c / 2 → w'.heap[b]? = w.heap[b]?) (hsh : w'.shape? (c / 2) = w.shape? (c / 2)) (ho : w'.os = w.os) (htp : w'.tape = w.tape) (hout : w'.output = w.output ∧ w'.drawn = w.drawn) : HRel A M w0 h' w' ∧ Mono w (XX A h) w' (XX A h') := by
 have hkeys := ht.keys_eq
 have hin : XX A h (c / 2) := .inr (by have := ht.has.key; rwa [show 2 * (c / 2) = c from by omega])
 have hxx : XX A h' = XX A h := by funext b; simp [XX, hkeys]
 have hm : Mono w (XX A h) w' (XX A h') := by
   rw [hxx]
   refine ⟨by omega, fun b _ hx => hk b (fun e => hx (e ▸ hin)), fun b _ => ?_, fun _ _ hx => hx⟩
   by_cases hb : b = c / 2
   · subst hb; exact hsh
   · exact shape_of_heap (hk b hb)
 refine ⟨⟨by rw [hkeys]; exact hr.nodup, ?_, fun c hc => hr.free c (hkeys ▸ hc), fun c hc => hr.mine c (hkeys ▸ hc), hr.bound, by rw [hs]; exact hr.old, ?_, hr.glob.mono hm⟩, hm⟩
 · intro c1 b1 hc1
   obtain ⟨h1, h2, e1, e2⟩ := ht.split
   subst e1; subst e2
   have hnd := hr.nodup
   simp only [keys_append, keys_cons, List.nodup_append, List.nodup_cons] at hnd
   rcases List.mem_append.1 hc1 with hc1 | hc1
   · have hne : c1 ≠ c := fun e => hnd.2.2 c1 (List.mem_map.2 ⟨_, hc1, rfl⟩) c (by simp) e
     exact (hr.blk c1 b1 (by simp [hc1])).mono hm (fun he => hk _ (by omega))
   · rcases List.mem_cons.1 hc1 with hc1 | hc1
     · cases hc1; exact ⟨hc, hw⟩
     · have hne : c1 ≠ c := fun e => hnd.2.1.1 (e ▸ List.mem_map.2 ⟨_, hc1, rfl⟩)
       exact (hr.blk c1 b1 (by simp [hc1])).mono hm (fun he => hk _ (by omega))
 · refine ⟨ho.trans hr.ext.os, htp.trans hr.ext.tape, hout.1.trans hr.ext.output, by rw [hs]; exact hr.ext.size, fun b hb hn => ?_, fun b hb => (hm.shape b (Nat.lt_of_lt_of_le hb hr.ext.size)).trans (hr.ext.shape b hb), fun o_ => by rw [hout.2]; exact hr.ext.drawn o_⟩
   by_cases hbc : b = c / 2
   · subst hbc
     rcases hr.mine c ht.has.key hc with hmm | hmm
     · exact absurd hmm hn
     · omega
   · exact (hk b hbc).trans (hr.ext.keep b hb hn)
end
theorem em_split {p Q : Prop} (h1 : p → Q) (h2 : ¬ p → Q) : Q := (Classical.em p).elim h1 h2
def runeAt (s : ByteArray) (i : Int) : Int := (Utf8.decode s i.toNat).1
def runeW (s : ByteArray) (i : Int) : Int := (Utf8.decode s i.toNat).2
section
variable {P : Program} {o : Oper} {fr : Nat → D} {h : Heap} {K : D → Heap → Prop}
theorem OpA.rangeStr {t : TypeId} {x : Operand} {s : ByteArray} (ho : o.op = .range t x) (ht : P.underlying t = some .string) (hx : ev fr x = .s s) (hk : ∀ c, K (.ptr c 1 0 0) ((c, .raw (.stringIter s (Int.toNat 0))) :: h)) : OpA P o fr h K :=
 .of_run fun A M w0 ac w hr hv => by
   have h1 := hv x (by simp [ho, Op.operands])
   rw [hx] at h1
   generalize hu : ac.eval x = u at h1
   cases h1
   obtain ⟨_, h5, h6⟩ := hr.allocRaw (.stringIter s 0)
   refine ⟨.pointer (some ⟨w.heap.size, 0, none⟩), _, _, _, ?_, hk (2 * w.heap.size), h5, h6, ?_⟩
   · simp only [execOp, ho, hu, Sem.run_bind, run_range_string w t s ht, Result.andThen_ok, Sem.run_pure, World.iter]
   · have := V.ptr (w := w.alloc (.stringIter s 0)) (X := XX A ((2 * w.heap.size, .raw (.stringIter s 0)) :: h)) (c := 2 * w.heap.size) (sz := 1) (i := 0) (k := 0) (by omega)
     rwa [show 2 * w.heap.size / 2 = w.heap.size from by omega] at this
theorem OpA.nextStr {x : Operand} {c : Nat} {s : ByteArray} {i : Int} {h' : Heap} (ho : o.op = .next x true) (hx : ev fr x = .ptr c 1 0 0) (hi : 0 ≤ i ∧ i < s.size)
   (hrepl : Repl c (.raw (.stringIter s (Int.toNat i))) c (.raw (.stringIter s (Int.toNat (i + runeW s i)))) h h') (hk : K (.tup [.b true, .i i, .k .i32 (runeAt s i)]) h') : OpA P o fr h K :=
 .of_run fun A M w0 ac w hr hv => by
   have h1 := hv x (by simp [ho, Op.operands])
   rw [hx] at h1
   generalize hu : ac.eval x = u at h1
   cases h1 with
   | ptr hc =>
     obtain ⟨_, hb⟩ := hr.blk _ _ hrepl.has.mem
     have hlt : c / 2 < w.heap.size := (Array.getElem?_eq_some_iff.1 hb).1
     have hpos : i.toNat < s.size := by omega
     have hw : (i + runeW s i).toNat = i.toNat + (Utf8.decode s i.toNat).2 := by unfold runeW; omega
     rw [hw] at hrepl
     obtain ⟨h5, h6⟩ := hr.setRaw hrepl hc (w' := { w with heap := w.heap.setIfInBounds (c / 2) (.stringIter s (i.toNat + (Utf8.decode s i.toNat).2)) }) (by simp [hlt]) (by simp) (fun b hb => by simp [Array.getElem?_setIfInBounds, Ne.symm hb]) (by
       have e1 : w.shape? (c / 2) = none := by unfold World.shape?; rw [hb]
       rw [e1]; unfold World.shape?; simp [hlt]) rfl rfl ⟨rfl, rfl⟩
     refine ⟨.tuple #[.bool true, .int .i64 i, .int .i32 (runeAt s i)], _, _, _, ?_, hk, h5, h6, .tup (.cons (.v _) (.cons (.v _) (.cons (.v _) .nil)))⟩
     have e0 : 0 * 1 + 0 = 0 := rfl
     have ei : ((i.toNat : Nat) : Int) = i := by omega
     simp only [execOp, ho, hu, Instr.next, getObj, setObj, Sem.run_bind, Sem.run, hb, Result.andThen, hpos, if_true, e0]
     simp [goInt, runeAt, ei]
theorem OpA.overStr {x : Operand} {c : Nat} {s : ByteArray} {i : Int} (ho : o.op = .next x true) (hx : ev fr x = .ptr c 1 0 0) (hi : ¬ i < s.size) (hh : Has c (.raw (.stringIter s (Int.toNat i))) h) (hk : K (.tup [.b false]) h) : OpA P o fr h K :=
 .of_run fun A M w0 ac w hr hv => by
   have h1 := hv x (by simp [ho, Op.operands])
   rw [hx] at h1
   generalize hu : ac.eval x = u at h1
   cases h1 with
   | ptr hc =>
     obtain ⟨_, hb⟩ := hr.blk _ _ hh.mem
     have hpos : ¬ i.toNat < s.size := by omega
     refine ⟨.tuple #[.bool false], w, _, _, ?_, hk, hr, Mono.refl _ _, .tup (.cons (.v _) .nil)⟩
     have e0 : 0 * 1 + 0 = 0 := rfl
     simp only [execOp, ho, hu, Instr.next, getObj, setObj, Sem.run_bind, Sem.run, hb, Result.andThen, hpos, if_false, e0]
     rfl
end
end Go.Lic
