/-
  strings.Builder: its block and its buffer, as memory of our own.
-/
import Derived.Test.YtjncggaheahjiaaGreatDoorHv
import Derived.Lib.Builder
import Derived.Lib.UnsafeStr
import Derived.Laws.Externs
set_option linter.all false
namespace Go.Lic
variable [Fl]
@[reducible] def bufD (e g : Nat) : List Int → D
 | [] => .v (.slice none 0 0)
 | x :: l => .tbuf g e 0 (x :: l).length
abbrev bldD (T e c : Nat) (u : Bool) (g : Nat) (xs : List Int) : D := .agg [.tself c T u, bufD e g xs]
abbrev bldH (T e c : Nat) (u : Bool) (g : Nat) (xs : List Int) (post : List D) : Heap := [(c, .cells 2 [bldD T e c u g xs]), (g, .cells 1 (winL (D.k .u8) [] xs post))]
theorem bufD_ok (e g : Nat) (xs : List Int) : (bufD e g xs).ok 1 := by cases xs <;> exact .of rfl
theorem bufD_flat (e g : Nat) (xs : List Int) : (bufD e g xs).flat = [bufD e g xs] := by cases xs <;> rfl
theorem bld_put {e g : Nat} {d0 d1 : D} (xs : List Int) : [d0, bufD e g xs] = setAt [d0, d1] 1 (bufD e g xs).flat := by rw [bufD_flat]; rfl
section
variable {P : Program} {o : Oper} {fr : Nat → D} {h : Heap} {K : D → Heap → Prop}
theorem OpA.selfNil {t t2 te : TypeId} {x y : Operand} {c T : Nat} {u : Bool} (ho : o.op = .binOp .eql t x y t2) (ht : P.underlying t = some (.pointer te)) (hx : ev fr x = .tself c T u) (hy : ev fr y = .v (.pointer none)) (hk : K (.b (!u)) h) : OpA P o fr h K :=
 .of_quiet (fun A M w0 ac w _ hv => by
   have h1 := hv x (by simp [ho, Op.operands])
   have h2 := hv y (by simp [ho, Op.operands])
   rw [hx] at h1; rw [hy] at h2
   generalize hu : ac.eval x = v1 at h1
   generalize hu2 : ac.eval y = v2 at h2
   cases h1; cases h2
   have hd : ∀ (d : Nat) (a : Addr), (Op.equalIn (d + 1) t (.pointer (some a)) (.pointer none)).run P w = .ok false w := fun d a => by simp [Op.equalIn, run_underlying ht]
   have hn : ∀ (d : Nat), (Op.equalIn (d + 1) t (.pointer none) (.pointer none)).run P w = .ok true w := fun d => by simp [Op.equalIn, run_underlying ht]
   refine ⟨.bool (!u), ?_, .v _⟩
   cases u
   · simp [execOp, ho, hu, hu2, eqGuard, binOp, Op.equal, Op.maxDepth, hn 9999]
   · simp [execOp, ho, hu, hu2, eqGuard, binOp, Op.equal, Op.maxDepth, hd 9999]) hk
theorem OpA.selfSame {t t2 te : TypeId} {x y : Operand} {c T sz : Nat} (ho : o.op = .binOp .neq t x y t2) (ht : P.underlying t = some (.pointer te)) (hte : (P.info? te).isSome = true) (hx : ev fr x = .tself c T true) (hy : ev fr y = .ptr c sz 0 0) (hk : K (.b false) h) : OpA P o fr h K :=
 .of_quiet (fun A M w0 ac w _ hv => by
   have h1 := hv x (by simp [ho, Op.operands])
   have h2 := hv y (by simp [ho, Op.operands])
   rw [hx] at h1; rw [hy] at h2
   generalize hu : ac.eval x = v1 at h1
   generalize hu2 : ac.eval y = v2 at h2
   cases h1; cases h2
   obtain ⟨j, hte⟩ := Option.isSome_iff_exists.1 hte
   have hr := Lib.run_neq_ptr_same (P := P) w (tp := t) ⟨c / 2, 0, none⟩ ht hte
   refine ⟨.bool false, ?_, .v _⟩
   simp [execOp, ho, hu, hu2, eqGuard, hr]) hk
theorem self_shape {A M : Nat → Prop} {w0 w : World} (hr : HRel A M w0 h w) {c T : Nat} {u : Bool} {ds : List D} (hh : Has c (.cells 2 [.agg (.tself c T u :: ds)]) h) : w.shape? (c / 2) = some (T, 2) ∧ c % 2 = 0 := by
 obtain ⟨_, hb⟩ := hr.cells hh
 rcases hb with ⟨_, he⟩ | ⟨hc, arr, e, cs, _, hv, _⟩
 · cases he
 · have hv' : VL w (XX A h) (.tself c T u :: ds) cs := by simpa [D.flats, D.flat] using hv
   cases hv' with
   | cons h1 _ => cases h1 with | tself _ hs => exact ⟨hs, hc⟩
theorem OpA.toUnsafe {src dst t : TypeId} {x : Operand} {c T : Nat} {u : Bool} {ds : List D} (ho : o.op = .convert src dst x) (hs : P.underlying src = some (.pointer t)) (hd : P.underlying dst = some .unsafePointer) (ht : (P.info? t).any (fun j => j.size != 0) = true)
   (hx : ev fr x = .ptr c 2 0 0) (hh : Has c (.cells 2 [.agg (.tself c T u :: ds)]) h) (hk : K (.ptr c 2 0 0) h) : OpA P o fr h K :=
 .of_quiet (fun A M w0 ac w hr hv => by
   have h1 := hv x (by simp [ho, Op.operands])
   rw [hx] at h1
   generalize hu : ac.eval x = v1 at h1
   cases h1 with
   | ptr hc =>
     obtain ⟨hsh, _⟩ := self_shape hr hh
     refine ⟨.pointer (some ⟨c / 2, 0 * 2 + 0, none⟩), ?_, .ptr hc⟩
     obtain ⟨j, ht, hj⟩ : ∃ j, P.info? t = some j ∧ j.size ≠ 0 := by
       cases hq : P.info? t with
       | none => rw [hq] at ht; simp at ht
       | some j => rw [hq] at ht; exact ⟨j, rfl, by simpa using ht⟩
     have := Lib.run_to_unsafe (P := P) w (src := src) (dst := dst) ⟨c / 2, 0 * 2 + 0, none⟩ hs hd ht hj hsh (by simp)
     simp only [execOp, ho, hu, Sem.run_bind, this, Result.andThen_ok, Sem.run_pure]) hk
theorem OpA.fromUnsafe {src dst u' : TypeId} {x : Operand} {c T : Nat} {u : Bool} {ds : List D} (ho : o.op = .convert src dst x) (hs : P.underlying src = some .unsafePointer) (hd : P.underlying dst = some (.pointer u')) (hu' : (P.info? u').isSome = true)
   (hlies : liesAt P P.depth T (2 / P.cellsOf T) 0 u' 1 = true) (hx : ev fr x = .ptr c 2 0 0) (hh : Has c (.cells 2 [.agg (.tself c T u :: ds)]) h) (hk : K (.tself c T true) h) : OpA P o fr h K :=
 .of_quiet (fun A M w0 ac w hr hv => by
   have h1 := hv x (by simp [ho, Op.operands])
   rw [hx] at h1
   generalize hu : ac.eval x = v1 at h1
   cases h1 with
   | ptr hc =>
     obtain ⟨hsh, _⟩ := self_shape hr hh
     refine ⟨.pointer (some ⟨c / 2, 0, none⟩), ?_, .tself (u := true) hc hsh⟩
     obtain ⟨j, hu'⟩ := Option.isSome_iff_exists.1 hu'
     have := Lib.run_from_unsafe (P := P) w (src := src) (dst := dst) (cells := 2) ⟨c / 2, 0, none⟩ hs hd hu' hsh hlies
     simp only [execOp, ho, hu, Nat.zero_mul, Nat.add_zero, Sem.run_bind, this, Result.andThen_ok, Sem.run_pure]) hk
theorem run_extCall {f : Nat} {fn : Func} {e : Array Value → Sem Value} (hf : P.funcs[f]? = some fn) (hname : (fn.name == "runtime.NumGoroutine") = false) (hb : fn.body.isNone = true) (hn : Extern.findNext fn = none) (he : Extern.find fn = some e)
   {cl : Call} {g : Operand} {ac : Act} (ho : o.op = .call cl) (hc : cl.callee = .value g) (hg : ac.eval g = .func (.func f) #[] #[]) {r : Value} (w : World) (hrun : (e (cl.args.map ac.eval)).run P w = .ok r w) :
   (execOp ac.eval o).run P w = .ok (.value r) w := by
 have h1 := run_callFunc_extern hf hname hb hn he (cl.args.map ac.eval) w
 rw [hrun, Result.andThen_ok] at h1
 simp only [execOp, ho, resolve, hc, hg, Deferred.ofValue, Sem.run_bind, Sem.run_pure, Result.andThen_ok, invoke]
 have e1 : #[] ++ cl.args.map ac.eval ++ #[] = cl.args.map ac.eval := by simp
 rw [e1]
 exact h1
theorem fn_val {w : World} {X : Nat → Prop} {f : Nat} {v : Value} (h : V w X (.fn (.func f) [] []) v) : v = .func (.func f) #[] #[] := by
 cases h with
 | fn h1 h2 => cases h1; cases h2; rfl
theorem OpA.callId {cl : Call} {g x : Operand} {f : Nat} {fn : Func} (ho : o.op = .call cl) (hc : cl.callee = .value g) (hg : ev fr g = .fn (.func f) [] []) (ha : cl.args = #[x]) (hf : P.funcs[f]? = some fn) (hname : (fn.name == "runtime.NumGoroutine") = false)
   (hb : fn.body.isNone = true) (hn : Extern.findNext fn = none) (he : Extern.find fn = some Extern.AbiNoEscape.same) (hk : K (ev fr x) h) : OpA P o fr h K :=
 .of_quiet (fun A M w0 ac w hr hv => by
   have h1 := hv g (by simp [ho, Op.operands, Call.operands, hc])
   have h2 := hv x (by simp [ho, Op.operands, Call.operands, hc, ha])
   rw [hg] at h1
   exact ⟨ac.eval x, run_extCall hf hname hb hn he ho hc (fn_val h1) w (by rw [ha]; simp only [List.map_toArray, List.map_cons, List.map_nil]; rfl), h2⟩) hk
theorem HRel.reblk {A M : Nat → Prop} {w0 w : World} {h h' : Heap} {c : Nat} {b b' : Blk} (hr : HRel A M w0 h w) (hrepl : Repl c b c b' h h') (hb : BlkRel w (XX A h) c b') : HRel A M w0 h' w ∧ Mono w (XX A h) w (XX A h') := by
 have hk : keys h' = keys h := hrepl.keys_eq
 have hX : XX A h' = XX A h := by funext b; simp only [XX, hk]
 obtain ⟨h1, h2, e1, e2⟩ := hrepl.split
 refine ⟨⟨by rw [hk]; exact hr.nodup, ?_, by rw [hk]; exact hr.free, by rw [hk]; exact hr.mine, hr.bound, hr.old, hr.ext, by rw [hX]; exact hr.glob⟩, by rw [hX]; exact Mono.refl _ _⟩
 intro c' b2 hc'
 rw [hX]
 rw [e2] at hc'
 rcases List.mem_append.1 hc' with h3 | h3
 · exact hr.blk _ _ (by rw [e1]; simp [h3])
 · rcases List.mem_cons.1 h3 with h3 | h3
   · cases h3; exact hb
   · exact hr.blk _ _ (by rw [e1]; simp [h3])
theorem OpA.allocB {T e : TypeId} (ho : o.op = .alloc T) (hz : (P.info? T).bind (·.zero) = some (.agg #[.pointer none, .slice none 0 0]))
   (hk : ∀ c g, K (.ptr c 2 0 0) ((c, .cells 2 [bldD T e c false g []]) :: (g, .cells 1 (winL (D.k .u8) [] [] [])) :: h)) : OpA P o fr h K :=
 .of_run fun A M w0 a w hr _ => by
   obtain ⟨g, _, _, hr1, hm1⟩ := hr.ghost 1
   obtain ⟨h2, h3, h4⟩ := hr1.alloc (sz := 2) (es := [.agg [.v (.pointer none), .v (.slice none 0 0)]]) (cs := [.pointer none, .slice none 0 0]) #[.pointer none, .slice none 0 0] T (by intro d hd; simp at hd; subst hd; exact .of rfl) (.cons (.v _) (.cons (.v _) .nil)) (List.prefix_refl _)
   have hzr : ∀ w, (zeroValue T).run P w = .ok (.agg #[.pointer none, .slice none 0 0]) w := fun w => by
     obtain ⟨i, hi, hi2⟩ := Option.bind_eq_some_iff.1 hz
     simp [zeroValue, typeInfo, hi, hi2]
   have hsh : (w.alloc (.cells #[.pointer none, .slice none 0 0] T)).shape? (2 * w.heap.size / 2) = some (T, 2) := by
     rw [show 2 * w.heap.size / 2 = w.heap.size from by omega]; exact shape_alloc_new _ _ _
   obtain ⟨r5, m5⟩ := HRel.reblk (b' := .cells 2 [bldD T e (2 * w.heap.size) false g []]) h3 .head (by
     have hb := h3.blk (2 * w.heap.size) _ (List.mem_cons_self ..)
     refine ⟨by intro d hd; simp at hd; subst hd; exact .of rfl, ?_⟩
     rcases hb.2 with ⟨_, he⟩ | ⟨hc, arr, et, cs, ha, hv, hp⟩
     · cases he
     · refine .inr ⟨hc, arr, et, cs, ha, ?_, hp⟩
       have hv' : VL (w.alloc (.cells #[.pointer none, .slice none 0 0] T)) (XX A ((2 * w.heap.size, .cells 2 [.agg [.v (.pointer none), .v (.slice none 0 0)]]) :: (g, .cells 1 []) :: h)) [.v (.pointer none), .v (.slice none 0 0)] cs := hv
       cases hv' with
       | cons q1 q2 =>
         cases q1
         exact .cons (.tself (u := false) (by omega) hsh) q2)
   refine ⟨.pointer (some ⟨w.heap.size, 0, none⟩), _, _, _, by simp [execOp, ho, Instr.alloc, hzr, newVar, newRow, Value.cells], hk _ g, r5, (hm1.trans h4).trans m5, ?_⟩
   have := V.ptr (w := w.alloc (.cells #[.pointer none, .slice none 0 0] T)) (X := XX A ((2 * w.heap.size, .cells 2 [bldD T e (2 * w.heap.size) false g []]) :: (g, .cells 1 (winL (D.k .u8) [] [] [])) :: h)) (c := 2 * w.heap.size) (sz := 2) (i := 0) (k := 0) (by omega)
   simpa using this
theorem buf_of {w w' : World} {X X' : Nat → Prop} {e c c' : Nat} {xs ys : List Int} {pre : List D} {v v' : Value} (hv : V w X (bufD e c xs) v) (hm : Mono w X w' X') (hp : pre.length ≤ 0)
   (hx : (c' = c ∧ ∀ a n cap, v = .slice a n cap → ∃ n', v' = .slice a n' cap) ∨ (∃ a cap, v' = .slice a (xs.length + ys.length) cap ∧ 0 < cap ∧ 0 < xs.length + ys.length ∧ ∃ n, w'.shape? (c' / 2) = some (e, n)))
   (hv' : V w' X' (.own c' 1 pre.length (xs.length + ys.length)) v') : V w' X' (bufD e c' (xs ++ ys)) v' := by
 have hp0 : pre.length = 0 := by omega
 rw [hp0] at hv'
 have key : 0 < xs.length + ys.length → V w' X' (.tbuf c' e 0 (xs.length + ys.length)) v' := by
   intro hpos
   cases hv' with
   | @own _ _ _ _ cap a hlc hd =>
     rcases hd with ⟨hc2, rfl, e1, n1, hs1, hn1⟩ | ⟨hz, _⟩
     · refine .tbuf hlc ⟨hc2, by simp, by omega, n1, ?_, by simpa using hn1⟩
       rcases hx with ⟨rfl, hx⟩ | ⟨_, _, _, _, _, n, hs⟩
       · cases xs with
         | nil =>
           cases hv
           obtain ⟨n', hn'⟩ := hx none 0 0 rfl
           cases hn'
         | cons x l =>
           cases hv with
           | tbuf _ hq =>
             obtain ⟨_, _, _, n, hs, _⟩ := hq
             rw [hm.shape _ (lt_of_shape hs), hs] at hs1
             cases hs1
             rw [hm.shape _ (lt_of_shape hs), hs]
       · rw [hs] at hs1; cases hs1; exact hs
     · omega
 cases xs with
 | cons x l =>
   have := key (by simp; omega)
   have e1 : (x :: l).length + ys.length = (x :: (l ++ ys)).length := by simp; omega
   rw [e1] at this
   exact this
 | nil =>
   cases ys with
   | cons y m =>
     have := key (by simp)
     have e1 : ([] : List Int).length + (y :: m).length = (y :: m).length := by simp
     rw [e1] at this
     exact this
   | nil =>
     cases hv
     rcases hx with ⟨rfl, hx⟩ | hx
     · obtain ⟨n', rfl⟩ := hx none 0 0 rfl
       cases hv' with
       | own hlc hd => exact .v _
     · obtain ⟨_, _, _, _, h0, _⟩ := hx; simp at h0
theorem own_of_buf {w : World} {X : Nat → Prop} {e c : Nat} {xs : List Int} {v : Value} (hv : V w X (bufD e c xs) v) : V w X (.own c 1 0 xs.length) v := by
 cases xs with
 | nil => cases hv; exact .own (Nat.le_refl _) (.inr ⟨rfl, rfl⟩)
 | cons x l =>
   cases hv with
   | tbuf hc hq =>
     obtain ⟨h1, rfl, h2, n, hs, hn⟩ := hq
     exact .own hc (.inl ⟨h1, by simp, e, n, hs, by simpa using hn⟩)
theorem OpA.appendBS {t u e : TypeId} {bytes : Nat} {agg : Bool} {cl : Call} {s x : Operand} {c : Nat} {post : List D} {xs : List Int} {y : ByteArray} {hf : Nat → Blk → Heap} (ho : o.op = .call cl) (hc : cl.callee = .builtin .append) (ha : cl.args = #[s, x]) (hty : cl.argTypes = #[t, u])
   (ht : TS P t e 1 bytes agg) (hu : P.underlying u = some .string) (hs : ev fr s = bufD e c xs) (hrepl : ∀ c' b', Repl c (.cells 1 (winL (D.k .u8) [] xs post)) c' b' h (hf c' b')) (hx : ev fr x = .s y)
   (hb : (xs.length + (sbytes y).length) * bytes ≤ 140737488355328 ∧ xs.length + (sbytes y).length ≤ 9223372036854775807) (hk : ∀ c', K (bufD e c' (xs ++ sbytes y)) (hf c' (.cells 1 (winL (D.k .u8) [] (xs ++ sbytes y) [])))) : OpA P o fr h K :=
 .of_run fun A M w0 ac w hr hv => by
   have h1 := hv s (append_operands ho hc ha).1
   have h2 := hv x (append_operands ho hc ha).2
   rw [hs] at h1; rw [hx] at h2
   generalize hu2 : ac.eval x = u2 at h2
   cases h2
   obtain ⟨v', w', c', pre, g1, g2, g3, g4, g5, g6⟩ := append_coreSX (ty := o.type) (ds := (sbytes y).map (D.k .u8)) ht hr hu rfl rfl hrepl (by simp [winL]) (own_of_buf h1) (by simpa using hb.1) (by simpa using hb.2)
   have hp : pre = [] := List.eq_nil_of_length_eq_zero (by omega)
   subst hp
   have e1 : [] ++ ((winL (D.k .u8) [] xs post).drop 0).take xs.length ++ (sbytes y).map (D.k .u8) = winL (D.k .u8) [] (xs ++ sbytes y) [] := by
     simp [winL, List.take_append_of_le_length]
   rw [e1] at g2 g3 g4
   simp only [List.length_map] at g4 g6
   refine ⟨v', w', _, _, ?_, hk c', g2, g3, buf_of h1 g3 (by simp) g6 g4⟩
   simp only [execOp, ho, resolve, hc, Sem.run_bind, Sem.run_pure, Result.andThen_ok, invoke, builtin, hty, ha, List.map_toArray, List.map_cons, List.map_nil, hu2, g1]
theorem OpA.dataN {t : Array TypeId} {cl : Call} {x : Operand} (ho : o.op = .call cl) (hc : cl.callee = .builtin .unsafeSliceData) (ha : cl.args = #[x]) (hx : ev fr x = .v (.slice none 0 0)) (hk : K (.v (.pointer none)) h) : OpA P o fr h K :=
 .of_quiet (fun A M w0 ac w hr hv => by
   have h1 := hv x (by simp [ho, Op.operands, Call.operands, hc, ha])
   rw [hx] at h1
   generalize hu : ac.eval x = u at h1
   cases h1
   refine ⟨.pointer none, ?_, .v _⟩
   have := Lib.run_unsafeSliceData_nil (P := P) w cl.argTypes o.type 0 0
   simp only [execOp, ho, resolve, hc, Sem.run_bind, Sem.run_pure, Result.andThen_ok, invoke, builtin, ha, List.map_toArray, List.map_cons, List.map_nil, hu, this]) hk
theorem OpA.dataT {cl : Call} {x : Operand} {g e n : Nat} (ho : o.op = .call cl) (hc : cl.callee = .builtin .unsafeSliceData) (ha : cl.args = #[x]) (hx : ev fr x = .tbuf g e 0 n) (hk : K (.ptr g 1 0 0) h) : OpA P o fr h K :=
 .of_quiet (fun A M w0 ac w hr hv => by
   have h1 := hv x (by simp [ho, Op.operands, Call.operands, hc, ha])
   rw [hx] at h1
   generalize hu : ac.eval x = u at h1
   cases h1 with
   | @tbuf _ _ _ _ cap a hlc hq =>
     obtain ⟨h2, rfl, h3, _⟩ := hq
     refine ⟨.pointer (some ⟨g / 2, 0, none⟩), ?_, .ptr (sz := 1) (i := 0) (k := 0) h2⟩
     have := Lib.run_unsafeSliceData_row (P := P) w cl.argTypes o.type ⟨g / 2, 0, none⟩ n cap (by omega)
     simp only [execOp, ho, resolve, hc, Sem.run_bind, Sem.run_pure, Result.andThen_ok, invoke, builtin, ha, List.map_toArray, List.map_cons, List.map_nil, hu, this]) hk
theorem OpA.lenT {cl : Call} {x : Operand} {g e n t e' : Nat} (ho : o.op = .call cl) (hc : cl.callee = .builtin .len) (ha : cl.args = #[x]) (hty : cl.argTypes = #[t]) (ht : P.underlying t = some (.slice e')) (hx : ev fr x = .tbuf g e 0 n) (hk : K (.i (n : Int)) h) : OpA P o fr h K :=
 .of_quiet (fun A M w0 ac w _ hv => by
   have h1 := hv x (by simp [ho, Op.operands, Call.operands, hc, ha])
   rw [hx] at h1
   generalize hu : ac.eval x = u at h1
   cases h1
   exact ⟨.int .i64 n, by simp [execOp, ho, hc, resolve, invoke, builtin, Builtin.len_, hty, ha, hu, run_underlying ht, goInt], .v _⟩) hk
theorem run_loadBytesI (w : World) : ∀ (l : List Int) (a : Addr) (acc : ByteArray), (∀ j x, l[j]? = some x → w.cell? (a.add j) = some (.int .u8 x)) →
   (loadBytes a acc l.length).run P w = .ok ⟨acc.data ++ (l.map fun n => UInt8.ofNat n.toNat).toArray⟩ w
 | [], a, acc, _ => by simp [loadBytes]
 | x :: l, a, acc, h => by
   have h0 : w.cell? a = some (.int .u8 x) := by
     have := h 0 x rfl
     simpa [Addr.add] using this
   have ih := run_loadBytesI w l (a.add 1) (acc.push x.toNat.toUInt8) (fun j y hy => by
     have := h (j + 1) y (by simpa using hy)
     have e : (a.add 1).add j = a.add (j + 1) := by
       unfold Addr.add
       by_cases hj : j = 0
       · subst hj; simp
       · simp [hj]; omega
     rw [e]; exact this)
   simp only [List.length_cons, loadBytes, Sem.run_bind, run_load, h0, Result.andThen]
   rw [ih]
   congr 1
   apply ByteArray.ext
   simp [ByteArray.push]
theorem HRel.turnOut {A M : Nat → Prop} {w0 w w' : World} {c : Nat} {b : Blk} {h0 : Heap} (hr : HRel A M w0 ((c, b) :: h0) w) (hc : c % 2 = 0) (hs : w'.heap.size = w.heap.size) (hk : ∀ b, b ≠ c / 2 → w'.heap[b]? = w.heap[b]?)
   (hsh : w'.shape? (c / 2) = w.shape? (c / 2)) (ho : w'.os = w.os) (htp : w'.tape = w.tape) (hout : w'.output = w.output ∧ w'.drawn = w.drawn) : HRel A M w0 h0 w' ∧ Mono w (XX A ((c, b) :: h0)) w' (XX A h0) := by
 have hin : XX A ((c, b) :: h0) (c / 2) := .inr (by rw [show 2 * (c / 2) = c from by omega]; simp)
 have hshape : ∀ b, w'.shape? b = w.shape? b := fun b => by
   by_cases hb : b = c / 2
   · subst hb; exact hsh
   · exact shape_of_heap (hk b hb)
 have hm : Mono w (XX A ((c, b) :: h0)) w' (XX A h0) := by
   refine ⟨by omega, fun b _ hx => hk b (fun e => hx (e ▸ hin)), fun b _ => hshape b, fun b _ hx => ?_⟩
   rcases hx with hx | hx
   · exact .inl hx
   · exact .inr (by simp [hx])
 have hnd := hr.nodup
 simp only [keys_cons, List.nodup_cons] at hnd
 refine ⟨⟨hnd.2, fun c1 b1 hc1 => ?_, fun c1 hc1 => hr.free c1 (by simp [hc1]), fun c1 hc1 => hr.mine c1 (by simp [hc1]), hr.bound, by rw [hs]; exact hr.old, ?_, hr.glob.mono hm⟩, hm⟩
 · have hne : c1 ≠ c := fun e => hnd.1 (e ▸ List.mem_map.2 ⟨_, hc1, rfl⟩)
   exact (hr.blk c1 b1 (by simp [hc1])).mono hm (fun he => hk _ (by omega))
 · refine ⟨ho.trans hr.ext.os, htp.trans hr.ext.tape, hout.1.trans hr.ext.output, by rw [hs]; exact hr.ext.size, fun b hb hn => ?_, fun b hb => (hshape b).trans (hr.ext.shape b hb), fun o_ => by rw [hout.2]; exact hr.ext.drawn o_⟩
   by_cases hbc : b = c / 2
   · subst hbc
     rcases hr.mine c (by simp) hc with hmm | hmm
     · exact absurd hmm hn
     · omega
   · exact (hk b hbc).trans (hr.ext.keep b hb hn)
theorem freeze_facts (w : World) (g n : Nat) : (w.freeze ⟨g, 0, none⟩ n).heap.size = w.heap.size ∧ (∀ b, b ≠ g → (w.freeze ⟨g, 0, none⟩ n).heap[b]? = w.heap[b]?) ∧ (w.freeze ⟨g, 0, none⟩ n).shape? g = w.shape? g ∧
   (w.freeze ⟨g, 0, none⟩ n).os = w.os ∧ (w.freeze ⟨g, 0, none⟩ n).tape = w.tape ∧ ((w.freeze ⟨g, 0, none⟩ n).output = w.output ∧ (w.freeze ⟨g, 0, none⟩ n).drawn = w.drawn) := by
 unfold World.freeze
 split
 · exact ⟨rfl, fun _ _ => rfl, rfl, rfl, rfl, rfl, rfl⟩
 · refine ⟨by simp, fun b hb => by simp [Array.getElem?_modify, Ne.symm hb], ?_, rfl, rfl, rfl, rfl⟩
   simp only [World.shape?, Array.getElem?_modify, if_true]
   cases w.heap[g]? with
   | none => rfl
   | some o => cases o <;> simp <;> (try split) <;> simp_all
theorem OpA.strN {cl : Call} {x y : Operand} {pt it : TypeId} (ho : o.op = .call cl) (hc : cl.callee = .builtin .unsafeString) (ha : cl.args = #[x, y]) (hty : cl.argTypes = #[pt, it]) (hx : ev fr x = .v (.pointer none)) (hy : ev fr y = .i 0) (hk : K (.s ⟨#[]⟩) h) : OpA P o fr h K :=
 .of_quiet (fun A M w0 ac w hr hv => by
   have h1 := hv x (by simp [ho, Op.operands, Call.operands, hc, ha])
   have h2 := hv y (by simp [ho, Op.operands, Call.operands, hc, ha])
   rw [hx] at h1; rw [hy] at h2
   generalize hu : ac.eval x = u at h1
   generalize hu2 : ac.eval y = u2 at h2
   cases h1; cases h2
   refine ⟨.string ⟨#[]⟩, ?_, .v _⟩
   have := Lib.run_unsafeString_none (P := P) w pt it o.type none
   simp only [execOp, ho, resolve, hc, Sem.run_bind, Sem.run_pure, Result.andThen_ok, invoke, builtin, ha, hty, List.map_toArray, List.map_cons, List.map_nil, hu, hu2, this]
   rfl) hk
theorem OpA.strT {cl : Call} {x y : Operand} {pt it e g c : Nat} {d0 : D} {xs : List Int} {post : List D} {h0 : Heap} (ho : o.op = .call cl) (hc : cl.callee = .builtin .unsafeString) (ha : cl.args = #[x, y]) (hty : cl.argTypes = #[pt, it]) (hpt : P.underlying pt = some (.pointer e)) (hce : P.cellsOf e = 1)
   (hx : ev fr x = .ptr g 1 0 0) (hy : ev fr y = .i (xs.length : Int)) (hb : Has c (.cells 2 [.agg [d0, .tbuf g e 0 xs.length]]) h) (hp : h.Perm ((g, .cells 1 (winL (D.k .u8) [] xs post)) :: h0)) (hne : xs ≠ []) (hmax : xs.length ≤ 9223372036854775807)
   (hk : K (.s (bstr xs)) h0) : OpA P o fr h K :=
 .of_run fun A M w0 ac w hr hv => by
   have h1 := hv x (by simp [ho, Op.operands, Call.operands, hc, ha])
   have h2 := hv y (by simp [ho, Op.operands, Call.operands, hc, ha])
   rw [hx] at h1; rw [hy] at h2
   generalize hu : ac.eval x = u at h1
   generalize hu2 : ac.eval y = u2 at h2
   cases h2
   cases h1 with
   | ptr hg =>
     -- the shape of the row
     obtain ⟨cap, n, hcap, hsh, hn⟩ : ∃ cap n, xs.length ≤ cap ∧ w.shape? (g / 2) = some (e, n) ∧ 0 + cap ≤ n := by
       obtain ⟨_, hb2⟩ := hr.cells hb
       rcases hb2 with ⟨_, he⟩ | ⟨_, arr, e2, cs, _, hvl, _⟩
       · cases he
       · have hvl' : VL w (XX A h) [d0, .tbuf g e 0 xs.length] cs := by simpa [D.flats, D.flat] using hvl
         cases hvl' with
         | cons _ q =>
           cases q with
           | cons q1 _ =>
             cases q1 with
             | @tbuf _ _ _ _ cap a hlc hq =>
               obtain ⟨_, _, _, n, hs, hn⟩ := hq
               exact ⟨cap, n, hlc, hs, hn⟩
     obtain ⟨r1, m1⟩ := hr.perm hp
     have hcells : ∀ j v, xs[j]? = some v → w.cell? ((⟨g / 2, 0, none⟩ : Addr).add j) = some (.int .u8 v) := by
       intro j v hj
       obtain ⟨_, hb2⟩ := r1.blk g _ (List.mem_cons_self ..)
       rcases hb2 with ⟨hodd, _⟩ | ⟨_, arr, e2, cs, hoc, hvl, hpre⟩
       · omega
       · have hcj : cs[j]? = some (.int .u8 v) := by
           have hfl : D.flats (winL (D.k .u8) [] xs post) = (xs.map (Value.int .u8)).map D.v ++ D.flats post := by
             simp only [winL, List.nil_append]
             rw [flats_append, flats_u8]
           rw [hfl] at hvl
           have hlt := (List.getElem?_eq_some_iff.1 hj).1
           have key : ∀ (l : List Value) (rest : List D) (us : List Value), VL w (XX A ((g, .cells 1 (winL (D.k .u8) [] xs post)) :: h0)) (l.map D.v ++ rest) us → ∀ (j : Nat) (v : Value), l[j]? = some v → us[j]? = some v := by
             intro l rest
             induction l with
             | nil => intro us _ j v hj; simp at hj
             | cons a l ih =>
               intro us hus j v hj
               cases hus with
               | cons q1 q2 =>
                 cases q1
                 cases j with
                 | zero => simpa using hj
                 | succ j => simpa using ih _ q2 j v (by simpa using hj)
           exact key _ _ _ hvl j (.int .u8 v) (by rw [List.getElem?_map, hj]; rfl)
         have := own_cell hoc hpre j _ hcj
         unfold Addr.add
         by_cases hj0 : j = 0
         · subst hj0; simpa using this
         · simpa [hj0] using this
     obtain ⟨f1, f2, f3, f4, f5, f6⟩ := freeze_facts w (g / 2) xs.length
     obtain ⟨r2, m2⟩ := r1.turnOut hg f1 f2 f3 f4 f5 f6
     refine ⟨.string (bstr xs), _, _, _, ?_, hk, r2, m1.trans m2, .v _⟩
     have hl : xs.length ≠ 0 := by simpa using hne
     have hlb := run_loadBytesI (P := P) w xs ⟨g / 2, 0, none⟩ .empty hcells
     have hlies := Lib.liesAt_bytes (P := P) hce (n / P.cellsOf e) xs.length (by rw [hce]; simp; omega)
     have h63' : ¬ (9223372036854775807 : Int) < (xs.length : Int) := by omega
     have hdef : Builtin.unsafeString_ #[pt, it] o.type #[.pointer (some ⟨g / 2, 0, none⟩), .int .i64 xs.length] =
         (do
           let n ← asInt (.int .i64 xs.length)
           if n < 0 then runtimePanic (.error "unsafe.String: len out of range")
           if n > IntKind.i64.max then unsupported (.unsafePointer "String: a length above the largest int")
           if n = 0 then pure (.string .empty)
           else if ← variablesAt ⟨g / 2, 0, none⟩ (← elemOf pt) n.toNat then do
             let s ← loadBytes ⟨g / 2, 0, none⟩ .empty n.toNat
             Go.freeze ⟨g / 2, 0, none⟩ n.toNat
             pure (.string s)
           else unsupported (.unsafePointer "String: not so many bytes at ptr")) := rfl
     have hmax2 : IntKind.i64.max = 9223372036854775807 := rfl
     have hneg : ¬ (xs.length : Int) < 0 := by omega
     have hrun : (Builtin.unsafeString_ #[pt, it] o.type #[.pointer (some ⟨g / 2, 0, none⟩), .int .i64 xs.length]).run P w = .ok (.string (bstr xs)) (w.freeze ⟨g / 2, 0, none⟩ xs.length) := by
       rw [hdef]
       simp [asInt, asIntOf, hmax2, h63', hneg, hl, hne, variablesAt, hsh, elemOf, run_underlying hpt, hlies, hlb, bstr]
     simp only [execOp, ho, resolve, hc, Sem.run_bind, Sem.run_pure, Result.andThen_ok, invoke, builtin, ha, hty, List.map_toArray, List.map_cons, List.map_nil, hu, hu2, Nat.zero_mul, Nat.add_zero, hrun]
end
end Go.Lic
