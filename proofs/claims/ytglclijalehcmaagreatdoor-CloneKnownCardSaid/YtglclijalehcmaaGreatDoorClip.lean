/-
  A region whose order is drawn, of which some moves may come late.
-/
import Derived.Test.YtglclijalehcmaaGreatDoorDraw
import Derived.Test.YtglclijalehcmaaGreatDoorVr
import Derived.Lib.Builder
import Derived.Lib.UnsafeStr
import Derived.Laws.Externs
import Derived.Sort.AssemblyPlain
import Derived.Shelf.SlSortCmp.Insertion
import Derived.Lib.BitFns
import Derived.Laws.StructEq
set_option linter.all false
namespace Go.Lic
section
variable {P : Program} {ops : Array Oper} {Q : Exit → Act → World → Prop}
end
section
end
end Go.Lic
set_option linter.all false
namespace Go.Lic
theorem pull1 {α : Type} {a b : α} {l : List α} : (a :: b :: l).Perm (b :: a :: l) := .swap _ _ _
theorem pull2 {α : Type} {a b c : α} {l : List α} : (a :: b :: c :: l).Perm (c :: a :: b :: l) := (pull1.cons a).trans pull1
theorem pull3 {α : Type} {a b c d : α} {l : List α} : (a :: b :: c :: d :: l).Perm (d :: a :: b :: c :: l) := (pull2.cons a).trans pull1
theorem pull4 {α : Type} {a b c d e : α} {l : List α} : (a :: b :: c :: d :: e :: l).Perm (e :: a :: b :: c :: d :: l) := (pull3.cons a).trans pull1
theorem pull5 {α : Type} {a b c d e f : α} {l : List α} : (a :: b :: c :: d :: e :: f :: l).Perm (f :: a :: b :: c :: d :: e :: l) := (pull4.cons a).trans pull1
theorem pull6 {α : Type} {a b c d e f g : α} {l : List α} : (a :: b :: c :: d :: e :: f :: g :: l).Perm (g :: a :: b :: c :: d :: e :: f :: l) := (pull5.cons a).trans pull1
theorem CallH.mono {P : Program} {f : Nat} {ds : List D} {h : Heap} {K K' : D → Heap → Prop} (hc : CallH P f ds h K) (hk : ∀ d h', K d h' → K' d h') : CallH P f ds h K' := by
 intro A w vs hr hv
 refine (hc A w vs hr hv).mono ?_
 rintro e w' ⟨v, d, h', rfl, hK, q⟩
 exact ⟨v, d, h', rfl, hk d h' hK, q⟩
theorem CallH.shrink {P : Program} {f : Nat} {ds : List D} {h : Heap} {K : D → Heap → Prop} (hc : CallH P f ds h (fun d h' => ∃ h1 h0 : Heap, h'.Perm h1 ∧ List.Sublist h0 h1 ∧ K d h0)) : CallH P f ds h K := by
 intro A w vs hr hv
 refine (hc A w vs hr hv).mono ?_
 rintro e w' ⟨v, d, h', rfl, ⟨h1, h0, hp, hs, hk⟩, hrr, hm, hvv⟩
 obtain ⟨r1, m1⟩ := hrr.perm hp
 obtain ⟨r2, m2⟩ := r1.sub hs
 exact ⟨v, d, h0, rfl, hk, r2, (hm.trans m1).trans m2, hvv.mono (m1.trans m2)⟩
theorem CallH.of_bodyP {P : Program} {f : Nat} {fn : Func} {c : Code} {n : Nat} {ds : List D} {h : Heap} {K : D → Heap → Prop} (hf : P.funcs[f]? = some fn) (hb : fn.body = some c) (hn : fn.ntmps = n) (hd : Nat.ble ds.length n = true)
   (hh : wpA P n c (RetA P fn (fun d h' => ∃ h1 h0 : Heap, h'.Perm h1 ∧ List.Sublist h0 h1 ∧ K d h0)) (frOf ds) h) : CallH P f ds h K :=
 (CallH.of_body hf hb hn hd hh).shrink
section
variable {P : Program} {n : Nat} {ops : Array Oper} {l : List Oper} {Q : Post} {fr : Nat → D} {h h' : Heap}
theorem wpL_perm (hp : h.Perm h') (hh : wpL P n ops l Q fr h') : wpL P n ops l Q fr h :=
 fun A M w0 a w r => by
   obtain ⟨r1, m1⟩ := r.heap.perm hp
   exact hh A M w0 a w (r.turn r1 m1)
theorem Repl.same {c : Nat} {b : Blk} (hr : Repl c b c b h h') : h' = h := by
 obtain ⟨h1, h2, e1, e2⟩ := hr.split
 rw [e1, e2]
end
section
variable {P : Program} {o : Oper} {fr : Nat → D} {h : Heap} {K : D → Heap → Prop} {T : Type} [Inhabited T] {enc : T → D}
end
end Go.Lic
set_option linter.all false
namespace Go.Lic
section
variable {P : Program} {o : Oper} {fr : Nat → D} {h : Heap} {K : D → Heap → Prop}
end
end Go.Lic
set_option linter.all false
namespace Go.Lic
open Go.Proofs Go.Sort
def sortF {T : Type} [Inhabited T] (cf : T → T → Int) (l : List T) : List T := (pdq (ltOf cf) l.toArray 0 l.length (Lib.bitLen l.length) true true).toList
theorem sortF_perm {T : Type} [Inhabited T] {cf : T → T → Int} (hO : SWO (ltOf cf)) (l : List T) : (sortF cf l).Perm l := by
 have h := (pdq_sorts (ltOf cf) hO l.toArray 0 l.length (Lib.bitLen l.length) true true (Nat.zero_le _) (by simp) (Or.inl rfl)).1
 obtain ⟨h1, _, h3⟩ := h
 have e1 : (pdq (ltOf cf) l.toArray 0 l.length (Lib.bitLen l.length) true true).extract 0 l.length = pdq (ltOf cf) l.toArray 0 l.length (Lib.bitLen l.length) true true := by
   apply Array.ext'
   rw [Array.toList_extract]
   have : (pdq (ltOf cf) l.toArray 0 l.length (Lib.bitLen l.length) true true).toList.length = l.length := by rw [Array.length_toList, h1]; simp
   show ((pdq (ltOf cf) l.toArray 0 l.length (Lib.bitLen l.length) true true).toList.drop 0).take (l.length - 0) = _
   rw [List.drop_zero, Nat.sub_zero, List.take_of_length_le (by omega)]
 have e2 : l.toArray.extract 0 l.length = l.toArray := by
   apply Array.ext'
   rw [Array.toList_extract]
   simp [List.extract_eq_take_drop]
 rw [e1, e2] at h3
 simpa [sortF] using h3
theorem sortF_len {T : Type} [Inhabited T] {cf : T → T → Int} (hO : SWO (ltOf cf)) (l : List T) : (sortF cf l).length = l.length := (sortF_perm hO l).length_eq
theorem sortF_sorted {T : Type} [Inhabited T] {cf : T → T → Int} (hO : SWO (ltOf cf)) (l : List T) : ∀ i j, i < j → j < l.length → ¬ cf ((sortF cf l)[j]!) ((sortF cf l)[i]!) < 0 := by
 have h := (pdq_sorts (ltOf cf) hO l.toArray 0 l.length (Lib.bitLen l.length) true true (Nat.zero_le _) (by simp) (Or.inl rfl)).2
 intro i j hij hj
 have := h i j (Nat.zero_le _) hij hj
 simp only [ltOf, decide_eq_false_iff_not] at this
 unfold sortF
 rw [← List.getElem!_toArray, ← List.getElem!_toArray, Array.toArray_toList]
 exact this
end Go.Lic
set_option linter.all false
namespace Go.Lic
inductive SEq (P : Program) (xs ys : List Value) : List (Nat × TypeId) → Bool → Prop
 | nil : SEq P xs ys [] true
 | str {o : Nat} {t : TypeId} {l : List (Nat × TypeId)} {r : Bool} {a c : ByteArray} (ht : P.underlying t = some .string) (hti : TI P t 1 false) (hx : xs[o]? = some (.string a)) (hy : ys[o]? = some (.string c)) (h : SEq P xs ys l r) : SEq P xs ys ((o, t) :: l) (decide (a = c) && r)
 | int {o : Nat} {t : TypeId} {l : List (Nat × TypeId)} {r : Bool} {k : IntKind} {a c : Int} (ht : P.underlying t = some (.int k)) (hti : TI P t 1 false) (hx : xs[o]? = some (.int k a)) (hy : ys[o]? = some (.int k c)) (h : SEq P xs ys l r) : SEq P xs ys ((o, t) :: l) (decide (a = c) && r)
 | bool {o : Nat} {t : TypeId} {l : List (Nat × TypeId)} {r : Bool} {a c : Bool} (ht : P.underlying t = some .bool) (hti : TI P t 1 false) (hx : xs[o]? = some (.bool a)) (hy : ys[o]? = some (.bool c)) (h : SEq P xs ys l r) : SEq P xs ys ((o, t) :: l) (decide (a = c) && r)
theorem run_part1 {P : Program} {t : TypeId} (hti : TI P t 1 false) {xs : List Value} {o : Nat} {v : Value} (h : xs[o]? = some v) (w : World) : (part t xs.toArray o).run P w = .ok v w := by
 simp only [part, Sem.run_bind, hti.isAgg, Result.andThen_ok, Bool.false_eq_true, if_false]
 simp [h]
theorem run_eqStr {P : Program} {t : TypeId} (ht : P.underlying t = some .string) (d : Nat) (a c : ByteArray) (w : World) : (Op.equalIn (d + 1) t (.string a) (.string c)).run P w = .ok (decide (a = c)) w := by
 simp only [Op.equalIn, Sem.run_bind, run_underlying ht, Result.andThen_ok, Sem.run_pure]
 rw [beq_toListBytes, str_beq]
theorem run_eqInt {P : Program} {t : TypeId} {k : IntKind} (ht : P.underlying t = some (.int k)) (d : Nat) (a c : Int) (w : World) : (Op.equalIn (d + 1) t (.int k a) (.int k c)).run P w = .ok (decide (a = c)) w := by
 simp [Op.equalIn, run_underlying ht]
 rw [Bool.eq_iff_iff]; simp
theorem run_eqBool {P : Program} {t : TypeId} (ht : P.underlying t = some .bool) (d : Nat) (a c : Bool) (w : World) : (Op.equalIn (d + 1) t (.bool a) (.bool c)).run P w = .ok (decide (a = c)) w := by
 simp [Op.equalIn, run_underlying ht]
 cases a <;> cases c <;> rfl
theorem SEq.run {P : Program} {xs ys : List Value} {l : List (Nat × TypeId)} {r : Bool} (h : SEq P xs ys l r) (d : Nat) (w : World) : ∀ fs : List Field, fs.map (fun f => (f.name == "_", f.offset, f.type)) = l.map (fun p => (false, p.1, p.2)) →
   (Op.eqFields (d + 1) xs.toArray ys.toArray fs).run P w = .ok r w := by
 induction h with
 | nil =>
   intro fs hf
   have : fs = [] := by simpa using hf
   subst this
   simp [Op.eqFields]
 | str ht hti hx hy _ ih =>
   intro fs hf
   cases fs with
   | nil => simp at hf
   | cons f fs =>
     simp only [List.map_cons, List.cons.injEq, Prod.mk.injEq] at hf
     obtain ⟨⟨h1, h2, h3⟩, hf⟩ := hf
     have h1' : f.name ≠ "_" := by simpa using h1
     simp only [Op.eqFields, h1', ne_eq, not_false_eq_true, if_true, Sem.run_bind, h2, h3, run_part1 hti hx, run_part1 hti hy, Result.andThen_ok, run_eqStr ht]
     split
     · next hc => simp at hc; simp [hc]
     · next hc => simp at hc; simp [hc, ih fs hf]
 | int ht hti hx hy _ ih =>
   intro fs hf
   cases fs with
   | nil => simp at hf
   | cons f fs =>
     simp only [List.map_cons, List.cons.injEq, Prod.mk.injEq] at hf
     obtain ⟨⟨h1, h2, h3⟩, hf⟩ := hf
     have h1' : f.name ≠ "_" := by simpa using h1
     simp only [Op.eqFields, h1', ne_eq, not_false_eq_true, if_true, Sem.run_bind, h2, h3, run_part1 hti hx, run_part1 hti hy, Result.andThen_ok, run_eqInt ht]
     split
     · next hc => simp at hc; simp [hc]
     · next hc => simp at hc; simp [hc, ih fs hf]
 | bool ht hti hx hy _ ih =>
   intro fs hf
   cases fs with
   | nil => simp at hf
   | cons f fs =>
     simp only [List.map_cons, List.cons.injEq, Prod.mk.injEq] at hf
     obtain ⟨⟨h1, h2, h3⟩, hf⟩ := hf
     have h1' : f.name ≠ "_" := by simpa using h1
     simp only [Op.eqFields, h1', ne_eq, not_false_eq_true, if_true, Sem.run_bind, h2, h3, run_part1 hti hx, run_part1 hti hy, Result.andThen_ok, run_eqBool ht]
     split
     · next hc => simp at hc; simp [hc]
     · next hc => simp at hc; simp [hc, ih fs hf]
theorem OpA.structcmp {P : Program} {o : Oper} {fr : Nat → D} {h : Heap} {K : D → Heap → Prop} {op : BinOp} {t t2 : TypeId} {x y : Operand} {xs ys : List Value} {r b : Bool} {l : List (Nat × TypeId)} (ho : o.op = .binOp op t x y t2) (hm : P.eqGuardType P.depth t = false)
   (hu : P.underlying t = some (.struct (P.fieldsOf t))) (hp : P.stoodInHeld t = false) (hl : (P.fieldsOf t).toList.map (fun f => (f.name == "_", f.offset, f.type)) = l.map (fun p => (false, p.1, p.2)))
   (hx : ev fr x = .agg (xs.map D.v)) (hy : ev fr y = .agg (ys.map D.v)) (hs : SEq P xs ys l r) (hop : (op = .eql ∧ b = r) ∨ (op = .neq ∧ b = !r)) (hk : K (.b b) h) : OpA P o fr h K :=
 .aggcmp ho hm hx hy (fun w => by rw [run_equalIn_struct w 9999 t _ _ hu hp]; exact hs.run 9998 w _ hl) hop hk
end Go.Lic
set_option linter.all false
namespace Go.Lic
section
variable {P : Program} {o : Oper} {fr : Nat → D} {h : Heap} {K : D → Heap → Prop}
theorem OpA.sliceClip {t et : TypeId} {bytes : Nat} {agg : Bool} {x hi mx : Operand} {sz : Nat} {ds : List D} (ho : o.op = .slice t x none (some hi) (some mx)) (ht : TS P t et sz bytes agg) (hx : ev fr x = .list sz ds)
   (hh : ev fr hi = .i ds.length) (hm : ev fr mx = .i ds.length) (hk : K (.clip sz ds) h) : OpA P o fr h K :=
 .of_quiet (fun A M w0 ac w _ hv => by
   have h3 := hv x (by simp [ho, Op.operands])
   have h4 := hv hi (by simp [ho, Op.operands])
   have h5 := hv mx (by simp [ho, Op.operands])
   rw [hx] at h3; rw [hh] at h4; rw [hm] at h5
   generalize hu : ac.eval x = u at h3
   generalize hu2 : ac.eval hi = u2 at h4
   generalize hu3 : ac.eval mx = u3 at h5
   cases h4; cases h5
   cases h3 with
   | @list _ _ cs a b oo cap hok hvl ha hlie hc =>
     have hb : ∀ w, (Instr.sliceBounds true ds.length cap none (some (.int .i64 ds.length)) (some (.int .i64 ds.length))).run P w = .ok (0, ds.length, ds.length) w := fun w => by
       simp [Instr.sliceBounds, run_sliceBound' (show (0 : Int) ≤ (ds.length : Int) by omega) (show ((ds.length : Int)).toNat ≤ cap by omega), run_sliceBound' (show (0 : Int) ≤ (ds.length : Int) by omega) (show ((ds.length : Int)).toNat ≤ ds.length by omega)]
     refine ⟨.slice (if ds.length = 0 then a else a.map (·.add (0 * sz))) (ds.length - 0) (ds.length - 0), ?_, ?_⟩
     · simp [execOp, ho, hu, hu2, hu3, Instr.sliceAt, Instr.slice, run_underlying ht.desc, hb, ht.elem.size]
     · have : (if ds.length = 0 then a else a.map (·.add (0 * sz))) = a := by
         split
         · rfl
         · cases a <;> simp [Addr.add]
       rw [this, Nat.sub_zero]
       exact .clip hok hvl ha hlie) hk
theorem OpA.appendClip {T : Type} [Inhabited T] {enc : T → D} {t e : TypeId} {sz bytes : Nat} {agg : Bool} {cl : Call} {s x : Operand} {xs ys : List T} (ho : o.op = .call cl) (hc : cl.callee = .builtin .append) (ha : cl.args = #[s, x]) (hty : cl.argTypes = #[t, t])
   (ht : TS P t e sz bytes agg) (hs : ev fr s = .clip sz (xs.map enc)) (hx : SrcV enc h sz (ev fr x) ys) (hb : ((xs.length + ys.length) * bytes ≤ 140737488355328 ∧ xs.length + ys.length ≤ 9223372036854775807) ∧ 0 < ys.length)
   (hk : ∀ c' pre', K (.own c' sz (List.length pre') (xs ++ ys).length) ((c', .cells sz (winL enc pre' (xs ++ ys) [])) :: h)) : OpA P o fr h K :=
 .of_run fun A M w0 ac w hr hv => by
   have h1 := hv s (append_operands ho hc ha).1
   have h2 := hv x (append_operands ho hc ha).2
   rw [hs] at h1
   obtain ⟨⟨hbytes, hmax⟩, hpos⟩ := hb
   obtain ⟨xa, xcap, cs, hxe, hxcap, hdok, hdv, hcs⟩ := hx.is.val hr h2
   rw [List.length_map] at hxe hxcap
   have hcl : cs.length = ys.length * sz := by rw [← hdv.length, flats_length _ hdok, List.length_map]
   generalize hu : ac.eval s = u at h1
   generalize hu2 : ac.eval x = u2 at hxe
   subst hxe
   generalize hL : xs.map enc = L at *
   have hLl : L.length = xs.length := by rw [← hL, List.length_map]
   cases h1 with
   | @clip _ _ mcs a b oo hmok hmv hma hml =>
     have hmc : mcs = [] ∨ ∃ b oo, a = some ⟨b, oo, none⟩ ∧ ∀ j c, mcs[j]? = some c → w.cell? ⟨b, oo + j, none⟩ = some c := by
       rcases hml with hl | ⟨_, hl⟩
       · exact .inl hl
       · by_cases hne : mcs = []
         · exact .inl hne
         · exact .inr ⟨b, oo, hma hne, hl⟩
     have hmcl : mcs.length = xs.length * sz := by rw [← hmv.length, flats_length _ hmok, hLl]
     rw [hLl] at hu
     obtain ⟨z, hz, hzs, hzi⟩ := ht.zeroRun
     obtain ⟨bi, hbi, hbb⟩ := Option.map_eq_some_iff.1 ht.bytes
     have hroom : ¬ xs.length + ys.length ≤ xs.length := by omega
     have hgrow := growslice_fits (need := xs.length + ys.length) (old := xs.length) (by omega) hbytes
     have hnm : ¬ ((xs.length + ys.length : Nat) : Int) > IntKind.i64.max := by rw [IntKind.max_i64]; omega
     have hng : ¬ (Builtin.nextslicecap (xs.length + ys.length) xs.length * bytes > 2 ^ 48) := by omega
     obtain ⟨ncap, hncap, hncapge⟩ : ∃ ncap, (Question.appendCap (xs.length + ys.length) xs.length e).cut (w.tape w.drawn (.appendCap (xs.length + ys.length) xs.length e)) = ncap ∧ xs.length + ys.length ≤ ncap := ⟨_, rfl, by simp [Question.cut]⟩
     have hinfo : (typeInfo e).run P w = .ok bi w := by simp [typeInfo, hbi]
     have hinfo' : (typeInfo e).run P w.drew = .ok bi w.drew := by simp [typeInfo, hbi]
     obtain ⟨r1, hm⟩ := hr.quiet (w' := w.drew) rfl rfl rfl rfl (Nat.le_succ _)
     obtain ⟨_, q3, m4⟩ := r1.alloc (sz := sz) (es := L ++ ys.map enc) (cs := mcs ++ cs) (mcs.toArray ++ cs.toArray ++ Builtin.zeroCells z.cells (ncap - (xs.length + ys.length))) e (by
         intro x hx
         rcases List.mem_append.1 hx with hx | hx
         · exact hmok x hx
         · exact hdok x hx) (by
         rw [flats_append]
         exact (hmv.append hdv).mono hm) (by simp)
     have hk' := hk (2 * w.heap.size) []
     have hw : winL enc ([] : List D) (xs ++ ys) [] = L ++ ys.map enc := by simp [winL, hL]
     rw [hw] at hk'
     refine ⟨.slice (some ⟨w.heap.size, 0, none⟩) (xs.length + ys.length) ncap, _, _, _, ?_, hk', q3, hm.trans m4, ?_⟩
     · have hz' := hz w.drew
       have hfd : (Builtin.firstCells sz ys.length (.slice xa ys.length xcap)).run P w.drew = .ok cs.toArray w.drew := run_firstCells' (P := P) (w := w.drew) hcl hcs
       have hfm : (Builtin.firstCells sz xs.length (.slice a xs.length xs.length)).run P w.drew = .ok mcs.toArray w.drew := run_firstCells' (P := P) (w := w.drew) hmcl hmc
       simp only [execOp, ho, resolve, hc, Sem.run_bind, Sem.run_pure, Result.andThen_ok, invoke, builtin, hty, ha, List.map_toArray, List.map_cons, List.map_nil, hu, hu2]
       simp only [Builtin.append_, Array.getElem?_eq_getElem, List.size_toArray, List.length_cons, List.length_nil, Nat.zero_add, Nat.reduceLT, Nat.reduceAdd, List.getElem_toArray, List.getElem_cons_zero, List.getElem_cons_succ,
         Sem.run_bind, run_underlying ht.desc, Result.andThen_ok, ht.elem.size, Sem.run_pure, Bool.false_eq_true, if_false, Builtin.lenOf, hroom, hinfo, hinfo', hbb, hnm, false_and, hng, run_choose, Question.forced, World.drew_eq, hncap, run_askRoom, hfm, hfd, hz',
         Bool.not_false, if_true, newRow, run_newObj, World.alloc_eq, Sem.run_ite]
       rfl
     · rw [List.length_append]
       refine .own hncapge (.inl ⟨by omega, by simp, e, (mcs.toArray ++ cs.toArray ++ Builtin.zeroCells z.cells (ncap - (xs.length + ys.length))).size, ?_, ?_⟩)
       · rw [show 2 * w.heap.size / 2 = w.drew.heap.size from by show 2 * w.heap.size / 2 = w.heap.size; omega]; exact shape_alloc_new _ _ _
       · simp only [Array.size_append, List.size_toArray, hmcl, hcl, size_zeroCells, hzs, List.length_nil, Nat.zero_add]
         rw [← Nat.add_mul, ← Nat.add_mul]
         apply Nat.mul_le_mul_right
         omega
end
end Go.Lic
