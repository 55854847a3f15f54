/-
  slices.SortFunc on a slice of our own, at structs of plain cells: the library's contract, said of abstract memory.
-/
import Derived.Test.YtjncggaheahjiaaGreatDoorSortA
import Derived.Shelf.SlSortCmp.WholeK
set_option linter.all false
namespace Go.Lic
variable [Fl]
open Go.Proofs Go.Sort Go.Shelf
theorem flatMap_get {T : Type} {f : T → List Value} {k : Nat} (hk : ∀ x, (f x).length = k) : ∀ (l : List T) (i : Nat) (x : T), l[i]? = some x → ∀ c, c < k → (l.flatMap f)[i * k + c]? = (f x)[c]?
 | [], i, x, h, c, hc => by simp at h
 | y :: l, 0, x, h, c, hc => by
   simp at h; subst h
   rw [List.flatMap_cons, List.getElem?_append_left (by rw [hk]; omega)]; simp
 | y :: l, i + 1, x, h, c, hc => by
   rw [List.flatMap_cons, List.getElem?_append_right (by rw [hk, Nat.add_mul]; omega), hk, show (i + 1) * k + c - k = i * k + c by rw [Nat.add_mul]; omega]
   exact flatMap_get hk l i x (by simpa using h) c hc
theorem flatK_eq {T : Type} [Inhabited T] {f : T → List Value} {k : Nat} (hk : ∀ x, (f x).length = k) (l : List T) : (flatK f k l.toArray).toList = l.flatMap f := by
 have hl : (l.flatMap f).length = l.length * k := by
   induction l with
   | nil => simp
   | cons x l ih => rw [List.flatMap_cons, List.length_append, ih, hk, List.length_cons, Nat.add_mul]; omega
 refine List.ext_getElem (by simp [hl]) fun t h1 h2 => ?_
 have ht : t < l.length * k := by rw [hl] at h2; exact h2
 have hk0 : 0 < k := by rcases Nat.eq_zero_or_pos k with h | h <;> simp_all
 have hi : t / k < l.length := by rw [Nat.div_lt_iff_lt_mul hk0]; exact ht
 have hm : t % k < k := Nat.mod_lt _ hk0
 have e := flatMap_get hk l (t / k) l[t / k] (by simp [hi]) (t % k) hm
 rw [show t / k * k + t % k = t by rw [Nat.mul_comm]; exact Nat.div_add_mod t k] at e
 rw [List.getElem?_eq_getElem h2, List.getElem?_eq_getElem (by rw [hk]; exact hm)] at e
 simp only [Option.some.injEq] at e
 rw [e]
 simp only [Array.getElem_toList, flatK, Array.getElem_map, Array.getElem_range, List.getElem!_toArray]
 rw [getElem!_pos l (t / k) hi, getElem!_pos _ (t % k) (by rw [hk]; exact hm)]
theorem vl_split {w : World} {X : Nat → Prop} : ∀ {ds es : List D} {xs : List Value}, VL w X (ds ++ es) xs → ∃ ys zs, xs = ys ++ zs ∧ VL w X ds ys ∧ VL w X es zs
 | [], es, xs, h => ⟨[], xs, rfl, .nil, h⟩
 | d :: ds, es, _, .cons h1 h2 => by
   obtain ⟨ys, zs, rfl, h3, h4⟩ := vl_split h2
   exact ⟨_ :: ys, zs, rfl, .cons h1 h3, h4⟩
theorem flats_encV {T : Type} {enc : T → D} {encV : T → List Value} (he : ∀ x, enc x = .agg ((encV x).map D.v)) : ∀ l : List T, D.flats (l.map enc) = (l.flatMap encV).map D.v
 | [] => rfl
 | x :: l => by rw [List.map_cons, flats_cons, flats_encV he l, he, List.flatMap_cons, List.map_append]; rfl
theorem world_grown {w w' : World} (on : Fl.on) (h : Ext (fun _ => False) w w') : ∃ q os, w' = grow (w.drewN q) os := by
 refine ⟨w'.drawn - w.drawn, w'.heap.extract w.heap.size, ?_⟩
 have hh : w'.heap = w.heap ++ w'.heap.extract w.heap.size := by
   apply Array.ext
   · simp; have := h.size; omega
   · intro i h1 h2
     by_cases hi : i < w.heap.size
     · have := h.keep i hi (fun x => x)
       rw [Array.getElem?_eq_getElem h1, Array.getElem?_eq_getElem hi] at this
       rw [Array.getElem_append_left hi]; exact Option.some.inj this
     · rw [Array.getElem_append_right (by omega)]; simp; congr 1; omega
 have hd := h.drawn on
 obtain ⟨heap, tape, drawn, os, output⟩ := w
 obtain ⟨heap', tape', drawn', os', output'⟩ := w'
 have h1 := h.os; have h2 := h.tape; have h3 := h.output
 simp only at h1 h2 h3 hh hd
 subst h1; subst h2; subst h3
 simp only [grow, World.drewN]
 congr 1
 · omega
end Go.Lic
set_option linter.all false
namespace Go.Lic
variable [Fl]
open Go.Proofs Go.Sort Go.Shelf
section
variable {P : Program} {o : Oper} {fr : Nat → D} {h : Heap} {K : D → Heap → Prop}
theorem sortWorldK_heap {T : Type} [Inhabited T] {encV : T → List Value} {k : Nat} {w : World} {blk off m : Nat} {dk : Array T} {os : Array Obj} (hb : blk < w.heap.size) :
   (∀ b, b < w.heap.size → b ≠ blk → (sortWorldK encV k w blk off m dk os).heap[b]? = w.heap[b]?) ∧ w.heap.size ≤ (sortWorldK encV k w blk off m dk os).heap.size := by
 constructor
 · intro b hb2 hne
   simp only [sortWorldK, grow, putRowK, putRow, mapBlock, Sort.ahead]
   rw [Array.getElem?_append_left (by simpa using hb2), Array.getElem?_modify]
   simp [Ne.symm hne]
 · simp [sortWorldK, grow, putRowK, putRow, mapBlock, Sort.ahead]
theorem vl_of_vals {w : World} {X : Nat → Prop} : ∀ l : List Value, VL w X (l.map D.v) l
 | [] => .nil
 | v :: l => .cons (.v v) (vl_of_vals l)
theorem splice_get {α : Type} (A X Y B R : List α) (h : X.length = Y.length) (i : Nat) : (A ++ (Y ++ B) ++ R)[i]? = if A.length ≤ i ∧ i < A.length + Y.length then Y[i - A.length]? else (A ++ (X ++ B) ++ R)[i]? := by
 simp only [List.append_assoc, List.getElem?_append, h]
 repeat' split
 all_goals first | rfl | (exfalso; omega) | (congr 1; omega)
set_option maxHeartbeats 1000000 in
theorem OpA.sortW {T : Type} [Inhabited T] {enc : T → D} {ρ : Ren} (L : SlLaysF0.n6 P ρ) {k : Nat} (aE : ∀ w, (isAgg (ρ.t 24)).run P w = .ok true w) (zE : ∀ w, (Go.sizeOf (ρ.t 24)).run P w = .ok k w) {encV : T → List Value} (hk : ∀ x, (encV x).length = k)
   (h1 : ∀ x, ∀ v ∈ encV x, v.oneCell' = true) (he : ∀ x, enc x = .agg ((encV x).map D.v)) {cf : T → T → Int} {g f6 : Nat} (hf6 : ρ.f 6 = f6) {cl : Call} {fo s x : Operand} {c : Nat} {pre post : List D} {xs : List T} {h' : Heap} (ho : o.op = .call cl) (hc : cl.callee = .value fo) (hg : ev fr fo = .fn (.func f6) [] [])
   (hent : entersB P f6 = true) (ha : cl.args = #[s, x]) (hs : ev fr s = .own c k pre.length xs.length) (hx : ev fr x = .fn (.func g) [] []) (henG : entersB P g = true) (hcf : ∀ a b, @Fun flYes false P g [enc a, enc b] (fun d => d = D.i (cf a b)))
   (h0 : Fun false P f6 [.list k [], .fn (.func g) [] []] (fun d => d = .tup [])) (hq : SWO (ltOf cf) ∧ xs.length < 4611686018427387904)
   (hrepl : Repl c (.cells k (winL enc pre xs post)) c (.cells k (winL enc pre (sortF cf xs) post)) h h') (hK : K (.tup []) h') : OpA P o fr h K := by
 subst hf6
 intro A M w0 ac w hr hv next Q hn
 obtain ⟨vs, hvs, h2⟩ := call_wp ho hc hg hent hr hv
 intro ro
 refine wd_op h2 (by simp) ⟨fun h => (by cases h), wd_calls ?_⟩
 revert ro; intro _
 rw [ha] at hvs
 simp only [List.nil_append, List.append_nil, List.map_cons, List.map_nil, hs, hx] at hvs
 obtain ⟨hb1, hb2⟩ := hr.avoid
 cases hvs with
 | @cons _ _ vS _ hvS hvs =>
 cases hvs with
 | @cons _ _ vC _ hvC hvs =>
 cases hvs
 cases hvC with
 | @fn _ _ _ vs1 us1 e1 e2 =>
 cases e1; cases e2
 have hsl := sortF_len hq.1 xs
 cases hvS with
 | @own _ _ _ _ cap a hlc hd =>
 rcases hd with ⟨hev, rfl, e0, n0, hsh, hn0⟩ | ⟨hz1, hz2⟩
 · -- a block of ours
   obtain ⟨hok, hblk⟩ := hr.cells hrepl.has
   rcases hblk with ⟨hodd, _⟩ | ⟨_, arr, e, cs, ho1, hv1, hp1⟩
   · omega
   have hlt : c / 2 < w.heap.size := lt_of_shape hsh
   rw [winL, flats_append, flats_append, flats_encV he] at hv1
   obtain ⟨csP, csR, rfl, hvP, hvR⟩ := vl_split hv1
   obtain ⟨csX, csQ, rfl, hvX, hvQ⟩ := vl_split hvR
   have ex := vl_vals _ _ hvX
   subst ex
   have hokP : ∀ d ∈ pre, d.ok k := fun d hd => hok d (by simp [hd])
   have lP : csP.length = pre.length * k := by rw [← hvP.length, flats_length _ hokP]
   have lX : ∀ l : List T, (l.flatMap encV).length = l.length * k := by
     intro l
     induction l with
     | nil => simp
     | cons y l ih => rw [List.flatMap_cons, List.length_append, ih, hk, List.length_cons, Nat.add_mul]; omega
   obtain ⟨tl, htl⟩ := hp1
   have hsz : pre.length * k + xs.length * k ≤ arr.size := by
     have := congrArg List.length htl
     simp only [List.length_append, lX, lP, Array.length_toList] at this
     omega
   -- what the row holds
   have hH : HoldsK encV k w (c / 2) (pre.length * k) xs.toArray := by
     intro j hj
     have hj' : j < xs.length * k := by simpa using hj
     have e1 : (flatK encV k xs.toArray).toList[j]? = (xs.flatMap encV)[j]? := by rw [flatK_eq hk]
     have hjl : j < (xs.flatMap encV).length := by rw [lX]; exact hj'
     have e2 : arr[pre.length * k + j]? = (xs.flatMap encV)[j]? := by
       rw [← Array.getElem?_toList, ← htl, List.append_assoc, List.append_assoc, List.getElem?_append_right (by omega), lP, Nat.add_sub_cancel_left, List.getElem?_append_left hjl]
     refine ⟨?_, ho1.frozen (by omega)⟩
     rw [ho1.cell, e2, ← e1, Array.getElem?_toList, Array.getElem?_eq_getElem (by simpa using hj), getElem!_pos _ j (by simpa using hj)]; rfl
   have eg : ∀ args w, (callFunc g args).run P w = .ok (.enter g args) w := fun args w => run_enter henG args w
   -- the closure in every world of the sort
   have hcmp : CmpLays P g #[] encV k cf (c / 2) (pre.length * k) xs.toArray.size w := by
     intro m os dk hdk y z
     obtain ⟨q1, q2⟩ := sortWorldK_heap (encV := encV) (k := k) (off := pre.length * k) (m := m) (dk := dk) (os := os) hlt
     generalize hW : sortWorldK encV k w (c / 2) (pre.length * k) m dk os = W at q1 q2
     have hgl : Glob W (fun b => A (2 * b) ∨ 2 * b ∈ keys h) := by
       obtain ⟨W0, g0, g1⟩ := hr.glob
       refine ⟨W0, g0, fun i hi => ?_⟩
       obtain ⟨a1, a2, a3⟩ := g1 i hi
       refine ⟨a1, by omega, ?_⟩
       have hne : i ≠ c / 2 := by
         rintro rfl
         exact a1 (.inr (by have := hrepl.has.key; rwa [show 2 * (c / 2) = c from by omega]))
       rw [q1 i a2 hne]; exact a3
     have := hcf y z (fun c' => A c' ∨ c' ∈ keys h) W [.agg (encV y).toArray, .agg (encV z).toArray] hb1 (fun b hb => by have := hb2 b hb; omega) hgl (.cons (by rw [he]; exact .agg (vl_of_vals _)) (.cons (by rw [he]; exact .agg (vl_of_vals _)) .nil))
     refine this.mono ?_
     rintro e' w' ⟨v, d, rfl, rfl, hvv, hext⟩
     cases hvv
     exact ⟨rfl, @world_grown flYes _ _ trivial hext⟩
   have hcall := AnyQ.slices_SortFunc_eq L k aE zE encV hk h1 cf hq.1 g #[] (c / 2) (pre.length * k) cap xs.toArray w eg hcmp hH hlt (by simpa using hq.2)
   rw [show (xs.toArray.size) = xs.length by simp] at hcall
   refine hcall.mono ?_
   rintro e' w' ⟨rfl, n, os, rfl⟩
   -- the world behind it
   generalize hd' : pdq (ltOf cf) xs.toArray 0 xs.length (Lib.bitLen xs.length) true true = d'
   have hd2 : d'.toList = sortF cf xs := by unfold sortF; rw [hd']
   have hd3 : d' = (sortF cf xs).toArray := by rw [← hd2]
   obtain ⟨r1, m1⟩ := hr.quiet (w' := Sort.ahead w n) rfl rfl rfl rfl (by show w.drawn ≤ w.drawn + n; omega)
   have hfl : (flatK encV k d').toList = (sortF cf xs).flatMap encV := by rw [hd3]; exact flatK_eq hk _
   have hfs : (flatK encV k d').size = xs.length * k := by rw [← Array.length_toList, hfl, lX, hsl]
   obtain ⟨z, hz1, hz2⟩ := ho1
   have harr' : (putCells id (pre.length * k) (flatK encV k d') arr).toList = csP ++ ((sortF cf xs).flatMap encV ++ csQ) ++ tl := by
     have l2 := lX (sortF cf xs)
     have l1 := lX xs
     rw [hsl] at l2
     refine List.ext_getElem? fun i => ?_
     rw [splice_get csP (xs.flatMap encV) _ csQ tl (by rw [l1, l2]) i, Array.getElem?_toList]
     simp only [putCells, Array.getElem?_mapIdx]
     rw [← Array.getElem?_toList, ← htl, l2, lP]
     by_cases hi : pre.length * k ≤ i ∧ i < pre.length * k + xs.length * k
     · rw [if_pos hi]
       have hlen : i < (csP ++ (xs.flatMap encV ++ csQ) ++ tl).length := by simp only [List.length_append, l1, lP]; omega
       rw [List.getElem?_eq_getElem hlen, Option.map_some, if_pos (by rw [hfs]; exact hi), ← hfl, Array.getElem?_toList, Array.getElem?_eq_getElem (by omega), getElem!_pos _ (i - pre.length * k) (by omega)]; rfl
     · rw [if_neg hi]
       generalize (csP ++ (xs.flatMap encV ++ csQ) ++ tl)[i]? = q
       cases q with
       | none => rfl
       | some v => rw [Option.map_some, if_neg (by rw [hfs]; exact hi)]
   have hw1 : (putRowK encV k (Sort.ahead w n) (c / 2) (pre.length * k) d').heap[c / 2]? = some (.cells (putCells id (pre.length * k) (flatK encV k d') arr) e z) := by
     simp only [putRowK, putRow, mapBlock, Sort.ahead, Array.getElem?_modify, if_true, hz1, Option.map_some, onCells]
   have hpsz : (putCells id (pre.length * k) (flatK encV k d') arr).size = arr.size := by simp [putCells]
   obtain ⟨r2, m2⟩ := r1.write (sz' := k) (es' := winL enc pre (sortF cf xs) post) (w' := putRowK encV k (Sort.ahead w n) (c / 2) (pre.length * k) d') (arr := arr) (arr' := putCells id (pre.length * k) (flatK encV k d') arr) (e := e) (cs' := csP ++ ((sortF cf xs).flatMap encV ++ csQ)) hrepl hev (by
       intro d hd
       rcases List.mem_append.1 hd with hd | hd
       · exact hokP d hd
       · rcases List.mem_append.1 hd with hd | hd
         · obtain ⟨y, _, rfl⟩ := List.mem_map.1 hd
           rw [he]; exact ⟨by show ((encV y).map D.v).length = k; simpa using hk y, fun v hv => by
             obtain ⟨u, hu, rfl⟩ := List.mem_map.1 (show v ∈ (encV y).map D.v from hv)
             exact h1 y u hu⟩
         · exact hok d (by simp [hd])) ⟨z, hz1, hz2⟩ ⟨z, hw1, by rw [hpsz]; exact hz2⟩ hpsz (by
       rw [winL, flats_append, flats_append, flats_encV he]
       exact (hvP.mono m1).append ((vl_of_vals _).append (hvQ.mono m1))) ⟨tl, by rw [harr']⟩ (by simp [putRowK, putRow, mapBlock, Sort.ahead]) (fun b hb => by
       simp only [putRowK, putRow, mapBlock, Sort.ahead, Array.getElem?_modify]
       simp [Ne.symm hb]) rfl rfl ⟨rfl, rfl⟩
   have hext : Ext (fun _ => False) (putRowK encV k (Sort.ahead w n) (c / 2) (pre.length * k) d') (sortWorldK encV k w (c / 2) (pre.length * k) n d' os) :=
     ⟨rfl, rfl, rfl, by simp [sortWorldK, grow], fun b hb _ => by
       simp only [sortWorldK, grow]; rw [Array.getElem?_append_left hb], fun b hb => by
       apply shape_of_heap; simp only [sortWorldK, grow]; rw [Array.getElem?_append_left hb], fun _ => Nat.le_refl _⟩
   obtain ⟨r3, m3⟩ := r2.extend hext
   exact hn _ _ (.tup []) h' hK r3 ((m1.trans m2).trans m3) (.tup .nil)
 · -- nothing to sort
   have hx0 : xs = [] := List.eq_nil_of_length_eq_zero hz1
   subst hx0
   subst hz2
   have hs0 : sortF cf ([] : List T) = [] := List.eq_nil_of_length_eq_zero (by rw [hsl]; rfl)
   rw [hs0] at hrepl
   have hsame : h' = h := by
     obtain ⟨h1', h2', e1, e2⟩ := hrepl.split
     rw [e1, e2]
   subst hsame
   refine (h0 (fun c' => A c' ∨ c' ∈ keys h') w _ hb1 hb2 hr.glob (.cons (.list (ds := []) (cs := []) (b := 0) (o := 0) (by simp) .nil (by simp) (.inl rfl) (Nat.zero_le _)) (.cons (.fn (vs := []) (us := []) .nil .nil) .nil))).mono ?_
   rintro e' w' ⟨v, d, rfl, rfl, hvv, hext⟩
   obtain ⟨r1, r2⟩ := hr.extend hext
   exact hn v w' (.tup []) h' hK r1 r2 (hvv.mono (.less fun b hb => hb))
end
end Go.Lic
