/-
  Lemmas on abstract heaps and the model's worlds: a new block, a store, an append.
-/
import Derived.Test.YtkifpidbpoghlaaGreatDoorRel
set_option linter.all false
namespace Go.Lic
variable [Fl]
inductive Has (c : Nat) (b : Blk) : Heap → Prop
 | head {h : Heap} : Has c b ((c, b) :: h)
 | tail {x : Nat × Blk} {h : Heap} (t : Has c b h) : Has c b (x :: h)
inductive Repl (c : Nat) (b : Blk) (c' : Nat) (b' : Blk) : Heap → Heap → Prop
 | head {h : Heap} : Repl c b c' b' ((c, b) :: h) ((c', b') :: h)
 | tail {x : Nat × Blk} {h h' : Heap} (t : Repl c b c' b' h h') : Repl c b c' b' (x :: h) (x :: h')
theorem Has.mem {c : Nat} {b : Blk} {h : Heap} (t : Has c b h) : (c, b) ∈ h := by
 induction t with
 | head => simp
 | tail _ ih => exact List.mem_cons_of_mem _ ih
theorem Has.key {c : Nat} {b : Blk} {h : Heap} (t : Has c b h) : c ∈ keys h := List.mem_map.2 ⟨_, t.mem, rfl⟩
theorem Repl.split {c : Nat} {b : Blk} {c' : Nat} {b' : Blk} {h h' : Heap} (t : Repl c b c' b' h h') : ∃ h1 h2, h = h1 ++ (c, b) :: h2 ∧ h' = h1 ++ (c', b') :: h2 := by
 induction t with
 | @head h => exact ⟨[], h, rfl, rfl⟩
 | @tail x _ _ _ ih => obtain ⟨h1, h2, rfl, rfl⟩ := ih; exact ⟨x :: h1, h2, rfl, rfl⟩
theorem Repl.has {c : Nat} {b : Blk} {c' : Nat} {b' : Blk} {h h' : Heap} (t : Repl c b c' b' h h') : Has c b h := by
 induction t with
 | head => exact .head
 | tail _ ih => exact .tail ih
theorem Repl.keys_eq {c : Nat} {b b' : Blk} {h h' : Heap} (t : Repl c b c b' h h') : keys h' = keys h := by
 induction t with
 | head => rfl
 | tail _ ih => simp [ih]
theorem BlkRel.mono {w w' : World} {X X' : Nat → Prop} (hm : Mono w X w' X') {c : Nat} {b : Blk} (h : BlkRel w X c b) (hk : c % 2 = 0 → w'.heap[c / 2]? = w.heap[c / 2]?) : BlkRel w' X' c b := by
 cases b with
 | cells sz es =>
   refine ⟨h.1, h.2.imp id ?_⟩
   rintro ⟨hc, arr, e, cs, h1, h2, h3⟩
   exact ⟨hc, arr, e, cs, h1.eq (hk hc), h2.mono hm, h3⟩
 | map es =>
   obtain ⟨hc, ents, clock, h1, h2, h3, h4⟩ := h
   exact ⟨hc, ents, clock, (hk hc).trans h1, h2, h3.mono hm, h4⟩
 | raw o => exact ⟨h.1, (hk h.1).trans h.2⟩
 | loop n fr ps assign body =>
   obtain ⟨hc, fn, tmps, b, h1, h2, h3⟩ := h
   exact ⟨hc, fn, tmps, b, (hk hc).trans h1, h2, fun i => (h3 i).mono hm⟩
theorem BlkRel.lt {w : World} {X : Nat → Prop} {c : Nat} {b : Blk} (h : BlkRel w X c b) (hc : c % 2 = 0) : c / 2 < w.heap.size := by
 have key : ∀ o, w.heap[c / 2]? = some o → c / 2 < w.heap.size := fun o ho => by
   rcases Nat.lt_or_ge (c / 2) w.heap.size with h' | h'
   · exact h'
   · rw [Array.getElem?_eq_none h'] at ho; simp at ho
 cases b with
 | cells sz es =>
   rcases h.2 with ⟨h1, _⟩ | ⟨_, arr, e, cs, ⟨z, h1, _⟩, _⟩
   · omega
   · exact key _ h1
 | map es => obtain ⟨_, ents, clock, h1, _⟩ := h; exact key _ h1
 | raw o => exact key _ h.2
 | loop n fr ps assign body => obtain ⟨_, fn, tmps, b, h1, _⟩ := h; exact key _ h1
section
variable {A M : Nat → Prop} {w0 w : World} {h : Heap}
theorem HRel.lt (hr : HRel A M w0 h w) {c : Nat} (hc : c ∈ keys h) (he : c % 2 = 0) : c / 2 < w.heap.size := by
 obtain ⟨⟨c', b⟩, hm, rfl⟩ := List.mem_map.1 hc
 exact (hr.blk c' b hm).lt he
theorem HRel.xlt (hr : HRel A M w0 h w) {b : Nat} (hx : XX A h b) : b < w.heap.size := by
 rcases hx with hx | hx
 · exact hr.old b hx
 · have := hr.lt hx (by omega); omega
theorem HRel.quiet (hr : HRel A M w0 h w) {w' : World} (hh : w'.heap = w.heap) (ho : w'.os = w.os) (ht : w'.tape = w.tape) (hp : w'.output = w.output) (hdr : w.drawn ≤ w'.drawn) :
   HRel A M w0 h w' ∧ Mono w (XX A h) w' (XX A h) := by
 have hm : Mono w (XX A h) w' (XX A h) := ⟨by rw [hh]; exact Nat.le_refl _, fun b _ _ => by rw [hh], fun b _ => by unfold World.shape?; rw [hh], fun _ _ hx => hx⟩
 refine ⟨⟨hr.nodup, fun c b hc => (hr.blk c b hc).mono hm (fun _ => by rw [hh]), hr.free, hr.mine, hr.bound, by rw [hh]; exact hr.old, ?_, hr.glob.mono hm⟩, hm⟩
 exact ⟨ho.trans hr.ext.os, ht.trans hr.ext.tape, hp.trans hr.ext.output, by rw [hh]; exact hr.ext.size, fun b hb hn => by rw [hh]; exact hr.ext.keep b hb hn, fun b hb => by rw [show w'.shape? b = w.shape? b from by unfold World.shape?; rw [hh]]; exact hr.ext.shape b hb, fun o_ => Nat.le_trans (hr.ext.drawn o_) hdr⟩
theorem get_alloc (w : World) (o : Obj) (b : Nat) (hb : b < w.heap.size) : (w.alloc o).heap[b]? = w.heap[b]? := RowKit.Below.heap_alloc w o b hb
theorem get_alloc_new (w : World) (o : Obj) : (w.alloc o).heap[w.heap.size]? = some o := by
 show (w.heap.push o)[_]? = _
 simp
theorem shape_of_heap {w w' : World} {b : Nat} (h : w'.heap[b]? = w.heap[b]?) : w'.shape? b = w.shape? b := by unfold World.shape?; rw [h]
theorem HRel.allocOut (hr : HRel A M w0 h w) (o : Obj) : HRel A M w0 h (w.alloc o) ∧ Mono w (XX A h) (w.alloc o) (XX A h) := by
 have hm : Mono w (XX A h) (w.alloc o) (XX A h) := ⟨by simp, fun b hb _ => get_alloc w o b hb, fun b hb => shape_of_heap (get_alloc w o b hb), fun _ _ hx => hx⟩
 refine ⟨⟨hr.nodup, fun c b hc => (hr.blk c b hc).mono hm (fun he => get_alloc w o _ ((hr.blk c b hc).lt he)), hr.free, hr.mine, hr.bound, fun b hb => by have := hr.old b hb; simp; omega, ?_, hr.glob.mono hm⟩, hm⟩
 exact hr.ext.trans ⟨rfl, rfl, rfl, by simp, fun b hb _ => get_alloc w o b hb, fun b hb => shape_of_heap (get_alloc w o b hb), fun _ => Nat.le_refl _⟩
theorem HRel.alloc (hr : HRel A M w0 h w) {sz : Nat} {es : List D} {cs : List Value} (arr : Array Value) (e : TypeId) (hok : ∀ d ∈ es, d.ok sz) (hv : VL w (XX A h) (D.flats es) cs) (hp : cs <+: arr.toList) :
   2 * w.heap.size ∉ keys h ∧ HRel A M w0 ((2 * w.heap.size, .cells sz es) :: h) (w.alloc (.cells arr e)) ∧ Mono w (XX A h) (w.alloc (.cells arr e)) (XX A ((2 * w.heap.size, .cells sz es) :: h)) := by
 have hnew : 2 * w.heap.size ∉ keys h := fun hc => by have := hr.lt hc (by omega); omega
 have hx : ∀ b, b < w.heap.size → XX A ((2 * w.heap.size, .cells sz es) :: h) b → XX A h b := fun b hb hx => by
   rcases hx with hx | hx
   · exact .inl hx
   · simp at hx; rcases hx with hx | hx
     · omega
     · exact .inr hx
 have hm : Mono w (XX A h) (w.alloc (.cells arr e)) (XX A ((2 * w.heap.size, .cells sz es) :: h)) :=
   ⟨by simp, fun b hb _ => get_alloc w _ b hb, fun b hb => shape_of_heap (get_alloc w _ b hb), hx⟩
 refine ⟨hnew, ⟨?_, ?_, ?_, ?_, hr.bound, fun b hb => by have := hr.old b hb; simp; omega, ?_, hr.glob.mono hm⟩, hm⟩
 · simp only [keys_cons, List.nodup_cons]; exact ⟨hnew, hr.nodup⟩
 · intro c b hc
   rcases List.mem_cons.1 hc with hc | hc
   · cases hc
     have e2 : 2 * w.heap.size / 2 = w.heap.size := by omega
     refine ⟨hok, .inr ⟨by omega, arr, e, cs, ?_, hv.mono hm, hp⟩⟩
     rw [e2]; exact .of (get_alloc_new w _)
   · exact (hr.blk c b hc).mono hm (fun he => get_alloc w _ _ ((hr.blk c b hc).lt he))
 · intro c hc ha
   rcases List.mem_cons.1 (by simpa using hc) with hc | hc
   · subst hc; have := hr.old _ ha; have := hr.ext.size; omega
   · exact hr.free c hc ha
 · intro c hc he
   rcases List.mem_cons.1 (by simpa using hc) with hc | hc
   · subst hc; have := hr.ext.size; right; omega
   · exact hr.mine c hc he
 · exact hr.ext.trans ⟨rfl, rfl, rfl, by simp, fun b hb _ => get_alloc w _ b hb, fun b hb => shape_of_heap (get_alloc w _ b hb), fun _ => Nat.le_refl _⟩
theorem HRel.write (hr : HRel A M w0 h w) {h' : Heap} {c sz sz' : Nat} {es es' : List D} (ht : Repl c (.cells sz es) c (.cells sz' es') h h') (hc : c % 2 = 0) (hok : ∀ d ∈ es', d.ok sz')
   {w' : World} {arr arr' : Array Value} {e : TypeId} {cs' : List Value} (ha : OwnCells w (c / 2) arr e) (ha' : OwnCells w' (c / 2) arr' e) (hsz : arr'.size = arr.size)
   (hv : VL w (XX A h) (D.flats es') cs') (hp : cs' <+: arr'.toList) (hs : w'.heap.size = w.heap.size) (hk : ∀ b, b ≠ c / 2 → w'.heap[b]? = w.heap[b]?)
   (ho : w'.os = w.os) (htp : w'.tape = w.tape) (hout : w'.output = w.output ∧ w'.drawn = w.drawn) : HRel A M w0 h' w' ∧ Mono w (XX A h) w' (XX A h') := by
 have hkeys := ht.keys_eq
 have hin : XX A h (c / 2) := .inr (by have := ht.has.key; rwa [show 2 * (c / 2) = c from by omega])
 have hxx : XX A h' = XX A h := by funext b; simp [XX, hkeys]
 have hm : Mono w (XX A h) w' (XX A h') := by
   rw [hxx]
   refine ⟨by omega, fun b _ hx => hk b (fun e => hx (e ▸ hin)), fun b _ => ?_, fun _ _ hx => hx⟩
   by_cases hb : b = c / 2
   · subst hb; rw [ha.shape, ha'.shape, hsz]
   · exact shape_of_heap (hk b hb)
 refine ⟨⟨by rw [hkeys]; exact hr.nodup, ?_, fun c hc => hr.free c (hkeys ▸ hc), fun c hc => hr.mine c (hkeys ▸ hc), hr.bound, by rw [hs]; exact hr.old, ?_, hr.glob.mono hm⟩, hm⟩
 · intro c1 b1 hc1
   obtain ⟨h1, h2, e1, e2⟩ := ht.split
   subst e1; subst e2
   have hnd := hr.nodup
   simp only [keys_append, keys_cons, List.nodup_append, List.nodup_cons] at hnd
   rcases List.mem_append.1 hc1 with hc1 | hc1
   · have hne : c1 ≠ c := fun e => hnd.2.2 c1 (List.mem_map.2 ⟨_, hc1, rfl⟩) c (by simp) e
     exact (hr.blk c1 b1 (by simp [hc1])).mono hm (fun he => hk _ (by omega))
   · rcases List.mem_cons.1 hc1 with hc1 | hc1
     · cases hc1; exact ⟨hok, .inr ⟨hc, arr', e, cs', ha', hv.mono hm, hp⟩⟩
     · have hne : c1 ≠ c := fun e => hnd.2.1.1 (e ▸ List.mem_map.2 ⟨_, hc1, rfl⟩)
       exact (hr.blk c1 b1 (by simp [hc1])).mono hm (fun he => hk _ (by omega))
 · refine ⟨ho.trans hr.ext.os, htp.trans hr.ext.tape, hout.1.trans hr.ext.output, by rw [hs]; exact hr.ext.size, fun b hb hn => ?_, fun b hb => (hm.shape b (Nat.lt_of_lt_of_le hb hr.ext.size)).trans (hr.ext.shape b hb), fun o_ => by rw [hout.2]; exact hr.ext.drawn o_⟩
   by_cases hbc : b = c / 2
   · subst hbc
     rcases hr.mine c ht.has.key hc with hmm | hmm
     · exact absurd hmm hn
     · omega
   · exact (hk b hbc).trans (hr.ext.keep b hb hn)
theorem HRel.cells (hr : HRel A M w0 h w) {c sz : Nat} {es : List D} (hh : Has c (.cells sz es) h) :
   (∀ d ∈ es, d.ok sz) ∧ ((c % 2 = 1 ∧ es = []) ∨ (c % 2 = 0 ∧ ∃ (arr : Array Value) (e : TypeId) (cs : List Value), OwnCells w (c / 2) arr e ∧ VL w (XX A h) (D.flats es) cs ∧ cs <+: arr.toList)) :=
 hr.blk c _ hh.mem
end
def setAt {α : Type} (l : List α) (i : Nat) : List α → List α
 | [] => l
 | x :: xs => setAt (l.set i x) (i + 1) xs
theorem setAt_length {α : Type} (xs : List α) : ∀ (l : List α) (i : Nat), (setAt l i xs).length = l.length := by
 induction xs with
 | nil => intro l i; rfl
 | cons x xs ih => intro l i; simp [setAt, ih]
theorem VL.setAt {w : World} {X : Nat → Prop} {xs : List D} {ys : List Value} (h : VL w X xs ys) : ∀ {ds : List D} {cs : List Value} (i : Nat), VL w X ds cs → VL w X (setAt ds i xs) (setAt cs i ys) := by
 match h with
 | .nil => intro ds cs i hd; exact hd
 | .cons h hs => intro ds cs i hd; exact hs.setAt (i + 1) (VL.set i h hd)
theorem setAt_get {α : Type} (xs : List α) : ∀ (l : List α) (i j : Nat), (setAt l i xs)[j]? = if i ≤ j ∧ j < i + xs.length ∧ j < l.length then xs[j - i]? else l[j]? := by
 induction xs with
 | nil => intro l i j; simp [setAt]; intro h1 h2; omega
 | cons x xs ih =>
   intro l i j
   simp only [setAt, ih, List.length_cons, List.length_set]
   by_cases h1 : i + 1 ≤ j ∧ j < i + 1 + xs.length ∧ j < l.length
   · rw [if_pos h1, if_pos (by omega)]
     have : j - i = (j - (i + 1)) + 1 := by omega
     rw [this, List.getElem?_cons_succ]
   · rw [if_neg h1]
     by_cases h2 : i ≤ j ∧ j < i + (xs.length + 1) ∧ j < l.length
     · rw [if_pos h2]
       have : j = i := by omega
       subst this
       simp [h2.2.2]
     · rw [if_neg h2]
       by_cases h3 : i = j
       · subst h3
         rw [List.getElem?_set]
         have : ¬ i < l.length := by omega
         simp [this]
       · rw [List.getElem?_set_ne h3]
theorem run_loadCellsFrom' {P : Program} {w : World} {b o : Nat} (cs : List Value) : ∀ (i : Nat) (acc : Array Value), (∀ j c, cs[j]? = some c → w.cell? ⟨b, o + (i + j), none⟩ = some c) →
   (loadCellsFrom ⟨b, o, none⟩ i cs.length acc).run P w = .ok (acc ++ cs.toArray) w := by
 induction cs with
 | nil => intro i acc _; simp [loadCellsFrom]
 | cons c cs ih =>
   intro i acc h
   have h0 : w.cell? (Addr.add ⟨b, o, none⟩ i) = some c := by rw [Addr.add_lit]; exact h 0 c rfl
   simp only [List.length_cons, loadCellsFrom, Sem.run_bind, run_load, h0, Result.andThen_ok]
   rw [ih (i + 1) (acc.push c) (fun j c' hj => by have := h (j + 1) c' (by simpa using hj); rwa [show i + 1 + j = i + (j + 1) from by omega])]
   simp
theorem run_loadCells' {P : Program} {w : World} {b o : Nat} (cs : List Value) (h : ∀ j c, cs[j]? = some c → w.cell? ⟨b, o + j, none⟩ = some c) :
   (loadCells ⟨b, o, none⟩ cs.length).run P w = .ok cs.toArray w := by
 unfold loadCells
 rw [run_loadCellsFrom' cs 0 #[] (by simpa using h)]
 simp
theorem run_storeCells' {P : Program} {b : Nat} {e : TypeId} (vs : List Value) : ∀ (i o : Nat) (w : World) (arr : Array Value), OwnCells w b arr e → (∀ v ∈ vs, v.oneCell' = true) → o + i + vs.length ≤ arr.size →
   ∃ w' arr', (storeCells ⟨b, o, none⟩ vs i).run P w = .ok () w' ∧ OwnCells w' b arr' e ∧ arr'.toList = setAt arr.toList (o + i) vs ∧ arr'.size = arr.size ∧
     w'.heap.size = w.heap.size ∧ (∀ b', b' ≠ b → w'.heap[b']? = w.heap[b']?) ∧ w'.os = w.os ∧ w'.tape = w.tape ∧ (w'.output = w.output ∧ w'.drawn = w.drawn) := by
 induction vs with
 | nil => intro i o w arr ha _ _; exact ⟨w, arr, by simp [storeCells], ha, rfl, rfl, rfl, fun _ _ => rfl, rfl, rfl, rfl, rfl⟩
 | cons v vs ih =>
   intro i o w arr ha hv hn
   simp only [List.length_cons] at hn
   have hc : w.cell? ⟨b, o + i, none⟩ = some arr[o + i] := by rw [ha.cell]; simp [show o + i < arr.size from by omega]
   have hf : w.frozen? ⟨b, o + i, none⟩ = false := ha.frozen (by omega)
   have ha1 : OwnCells (w.setCell ⟨b, o + i, none⟩ v) b (arr.setIfInBounds (o + i) v) e := by
     obtain ⟨z, h1, h2⟩ := ha
     refine ⟨z, ?_, by simpa using h2⟩
     simp only [World.setCell, Array.getElem?_modify, if_true, h1, Option.map_some]; simp
   obtain ⟨w', arr', h1, h2, h3, h4, h5, h6, h7, h8, h9⟩ := ih (i + 1) o (w.setCell ⟨b, o + i, none⟩ v) _ ha1 (fun x hx => hv x (List.mem_cons_of_mem _ hx)) (by simp; omega)
   refine ⟨w', arr', ?_, h2, ?_, by simpa using h4, by simpa using h5, fun b' hb => (h6 b' hb).trans (RowKit.Below.heap_setCell _ _ _ _ hb), h7, h8, h9⟩
   · simp only [storeCells, Sem.run_bind, Addr.add_lit, run_store P w _ v .plain (hv v (by simp)), hc, hf, Bool.false_eq_true, if_false, Result.andThen_ok]
     exact h1
   · rw [h3]; simp [setAt, Nat.add_assoc]
theorem flats_cons (d : D) (ds : List D) : D.flats (d :: ds) = d.flat ++ D.flats ds := rfl
theorem flats_append (ds es : List D) : D.flats (ds ++ es) = D.flats ds ++ D.flats es := by simp [D.flats]
theorem flats_length {sz : Nat} : ∀ (ds : List D), (∀ d ∈ ds, d.ok sz) → (D.flats ds).length = ds.length * sz
 | [], _ => by simp [D.flats]
 | d :: ds, h => by
   rw [flats_cons, List.length_append, flats_length ds (fun x hx => h x (List.mem_cons_of_mem _ hx)), (h d (by simp)).1, List.length_cons, Nat.succ_mul]; omega
theorem flats_get {sz : Nat} : ∀ (ds : List D) (i : Nat) (d : D), (∀ d ∈ ds, d.ok sz) → ds[i]? = some d → ((D.flats ds).drop (i * sz)).take sz = d.flat
 | [], i, d, _, h => by simp at h
 | e :: ds, 0, d, hok, h => by
   simp at h; subst h
   rw [flats_cons]; simp [(hok e (by simp)).1]
 | e :: ds, i + 1, d, hok, h => by
   have he := (hok e (by simp)).1
   rw [flats_cons, show (i + 1) * sz = e.flat.length + i * sz by rw [he, Nat.succ_mul]; omega, List.drop_append, List.drop_eq_nil_of_le (by omega)]
   simpa using flats_get ds i d (fun x hx => hok x (List.mem_cons_of_mem _ hx)) (by simpa using h)
theorem flats_take {sz : Nat} (ds : List D) (hok : ∀ d ∈ ds, d.ok sz) (n : Nat) : D.flats (ds.take n) = (D.flats ds).take (n * sz) := by
 induction n generalizing ds with
 | zero => simp [D.flats]
 | succ n ih =>
   cases ds with
   | nil => simp [D.flats]
   | cons d ds =>
     have hd := (hok d (by simp)).1
     rw [List.take_succ_cons, flats_cons, flats_cons, ih ds (fun x hx => hok x (List.mem_cons_of_mem _ hx)), show (n + 1) * sz = d.flat.length + n * sz by rw [hd, Nat.succ_mul]; omega,
       List.take_append, List.take_of_length_le (by omega : d.flat.length ≤ _)]
     simp
theorem flats_drop {sz : Nat} (ds : List D) (hok : ∀ d ∈ ds, d.ok sz) (n : Nat) : D.flats (ds.drop n) = (D.flats ds).drop (n * sz) := by
 induction n generalizing ds with
 | zero => simp
 | succ n ih =>
   cases ds with
   | nil => simp [D.flats]
   | cons d ds =>
     have hd := (hok d (by simp)).1
     rw [List.drop_succ_cons, flats_cons, ih ds (fun x hx => hok x (List.mem_cons_of_mem _ hx)), show (n + 1) * sz = d.flat.length + n * sz by rw [hd, Nat.succ_mul]; omega,
       List.drop_append, List.drop_eq_nil_of_le (as := d.flat) (by omega), show d.flat.length + n * sz - d.flat.length = n * sz from by omega]
     simp
theorem flats_set {sz : Nat} (ds : List D) (hok : ∀ d ∈ ds, d.ok sz) : ∀ (i : Nat) (d : D), i < ds.length → d.ok sz → D.flats (ds.set i d) = setAt (D.flats ds) (i * sz) d.flat := by
 intro i d hi hd
 apply List.ext_getElem?
 intro j
 have hok' : ∀ x ∈ ds.set i d, x.ok sz := fun x hx => by
   rcases List.mem_or_eq_of_mem_set hx with h | h
   · exact hok x h
   · exact h ▸ hd
 rw [setAt_get, hd.1, flats_length ds hok]
 rcases Nat.eq_zero_or_pos sz with hz | hz
 · subst hz
   have l1 := flats_length _ hok'
   have l2 := flats_length _ hok
   simp at l1 l2
   simp [l1, l2]
 · have part : ∀ (es : List D) (k : Nat) (x : D), (∀ y ∈ es, y.ok sz) → es[k]? = some x → ∀ r, r < sz → (D.flats es)[k * sz + r]? = x.flat[r]? := fun es k x ho hx r hr => by
     rw [← flats_get es k x ho hx]
     simp [hr]
   by_cases hj : j < ds.length * sz
   · have hjk : j = (j / sz) * sz + j % sz := by rw [Nat.mul_comm]; exact (Nat.div_add_mod j sz).symm
     have hr : j % sz < sz := Nat.mod_lt _ hz
     have hq : j / sz < ds.length := Nat.div_lt_of_lt_mul (by rw [Nat.mul_comm]; exact hj)
     by_cases hji : j / sz = i
     · have hpos : i * sz ≤ j ∧ j < i * sz + sz ∧ j < ds.length * sz := by rw [← hji]; omega
       rw [if_pos hpos]
       have h1 : (ds.set i d)[j / sz]? = some d := by rw [hji]; simp [hi]
       have h2 := part _ _ _ hok' h1 _ hr
       rw [← hjk] at h2
       rw [h2]
       congr 1
       rw [← hji]; omega
     · have hneg : ¬ (i * sz ≤ j ∧ j < i * sz + sz ∧ j < ds.length * sz) := by
         intro ⟨h1, h2, _⟩
         apply hji
         apply Nat.div_eq_of_lt_le
         · exact h1
         · rw [Nat.succ_mul]; exact h2
       rw [if_neg hneg]
       have hg : ∃ y, ds[j / sz]? = some y := ⟨_, List.getElem?_eq_getElem hq⟩
       obtain ⟨y, hy⟩ := hg
       have h1 : (ds.set i d)[j / sz]? = some y := by rw [List.getElem?_set_ne (Ne.symm hji)]; exact hy
       have h2 := part _ _ _ hok' h1 _ hr
       have h3 := part _ _ _ hok hy _ hr
       rw [← hjk] at h2 h3
       rw [h2, h3]
   · rw [if_neg (by omega)]
     rw [List.getElem?_eq_none (by rw [flats_length _ hok']; simp; omega), List.getElem?_eq_none (by rw [flats_length _ hok]; omega)]
end Go.Lic
