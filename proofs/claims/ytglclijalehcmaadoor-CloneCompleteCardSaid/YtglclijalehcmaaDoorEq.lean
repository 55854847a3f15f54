/-
  A region whose order is drawn, of which some moves may come late.
-/
import Derived.Test.YtglclijalehcmaaDoorDraw
import Derived.Test.YtglclijalehcmaaDoorVr
import Derived.Lib.Builder
import Derived.Lib.UnsafeStr
import Derived.Laws.Externs
import Derived.Laws.StructEq
set_option linter.all false
namespace Go.Lic
section
variable {P : Program} {ops : Array Oper} {Q : Exit → Act → World → Prop}
end
section
end
end Go.Lic
set_option linter.all false
namespace Go.Lic
theorem pull1 {α : Type} {a b : α} {l : List α} : (a :: b :: l).Perm (b :: a :: l) := .swap _ _ _
theorem pull2 {α : Type} {a b c : α} {l : List α} : (a :: b :: c :: l).Perm (c :: a :: b :: l) := (pull1.cons a).trans pull1
theorem pull3 {α : Type} {a b c d : α} {l : List α} : (a :: b :: c :: d :: l).Perm (d :: a :: b :: c :: l) := (pull2.cons a).trans pull1
theorem pull4 {α : Type} {a b c d e : α} {l : List α} : (a :: b :: c :: d :: e :: l).Perm (e :: a :: b :: c :: d :: l) := (pull3.cons a).trans pull1
theorem pull5 {α : Type} {a b c d e f : α} {l : List α} : (a :: b :: c :: d :: e :: f :: l).Perm (f :: a :: b :: c :: d :: e :: l) := (pull4.cons a).trans pull1
theorem pull6 {α : Type} {a b c d e f g : α} {l : List α} : (a :: b :: c :: d :: e :: f :: g :: l).Perm (g :: a :: b :: c :: d :: e :: f :: l) := (pull5.cons a).trans pull1
theorem CallH.mono {P : Program} {f : Nat} {ds : List D} {h : Heap} {K K' : D → Heap → Prop} (hc : CallH P f ds h K) (hk : ∀ d h', K d h' → K' d h') : CallH P f ds h K' := by
 intro A w vs hr hv
 refine (hc A w vs hr hv).mono ?_
 rintro e w' ⟨v, d, h', rfl, hK, q⟩
 exact ⟨v, d, h', rfl, hk d h' hK, q⟩
theorem CallH.shrink {P : Program} {f : Nat} {ds : List D} {h : Heap} {K : D → Heap → Prop} (hc : CallH P f ds h (fun d h' => ∃ h1 h0 : Heap, h'.Perm h1 ∧ List.Sublist h0 h1 ∧ K d h0)) : CallH P f ds h K := by
 intro A w vs hr hv
 refine (hc A w vs hr hv).mono ?_
 rintro e w' ⟨v, d, h', rfl, ⟨h1, h0, hp, hs, hk⟩, hrr, hm, hvv⟩
 obtain ⟨r1, m1⟩ := hrr.perm hp
 obtain ⟨r2, m2⟩ := r1.sub hs
 exact ⟨v, d, h0, rfl, hk, r2, (hm.trans m1).trans m2, hvv.mono (m1.trans m2)⟩
theorem CallH.of_bodyP {P : Program} {f : Nat} {fn : Func} {c : Code} {n : Nat} {ds : List D} {h : Heap} {K : D → Heap → Prop} (hf : P.funcs[f]? = some fn) (hb : fn.body = some c) (hn : fn.ntmps = n) (hd : Nat.ble ds.length n = true)
   (hh : wpA P n c (RetA P fn (fun d h' => ∃ h1 h0 : Heap, h'.Perm h1 ∧ List.Sublist h0 h1 ∧ K d h0)) (frOf ds) h) : CallH P f ds h K :=
 (CallH.of_body hf hb hn hd hh).shrink
section
variable {P : Program} {n : Nat} {ops : Array Oper} {l : List Oper} {Q : Post} {fr : Nat → D} {h h' : Heap}
theorem wpL_perm (hp : h.Perm h') (hh : wpL P n ops l Q fr h') : wpL P n ops l Q fr h :=
 fun A M w0 a w r => by
   obtain ⟨r1, m1⟩ := r.heap.perm hp
   exact hh A M w0 a w (r.turn r1 m1)
theorem Repl.same {c : Nat} {b : Blk} (hr : Repl c b c b h h') : h' = h := by
 obtain ⟨h1, h2, e1, e2⟩ := hr.split
 rw [e1, e2]
end
section
variable {P : Program} {o : Oper} {fr : Nat → D} {h : Heap} {K : D → Heap → Prop} {T : Type} [Inhabited T] {enc : T → D}
end
end Go.Lic
set_option linter.all false
namespace Go.Lic
section
variable {P : Program} {o : Oper} {fr : Nat → D} {h : Heap} {K : D → Heap → Prop}
end
end Go.Lic
set_option linter.all false
namespace Go.Lic
inductive SEq (P : Program) (xs ys : List Value) : List (Nat × TypeId) → Bool → Prop
 | nil : SEq P xs ys [] true
 | str {o : Nat} {t : TypeId} {l : List (Nat × TypeId)} {r : Bool} {a c : ByteArray} (ht : P.underlying t = some .string) (hti : TI P t 1 false) (hx : xs[o]? = some (.string a)) (hy : ys[o]? = some (.string c)) (h : SEq P xs ys l r) : SEq P xs ys ((o, t) :: l) (decide (a = c) && r)
 | int {o : Nat} {t : TypeId} {l : List (Nat × TypeId)} {r : Bool} {k : IntKind} {a c : Int} (ht : P.underlying t = some (.int k)) (hti : TI P t 1 false) (hx : xs[o]? = some (.int k a)) (hy : ys[o]? = some (.int k c)) (h : SEq P xs ys l r) : SEq P xs ys ((o, t) :: l) (decide (a = c) && r)
 | bool {o : Nat} {t : TypeId} {l : List (Nat × TypeId)} {r : Bool} {a c : Bool} (ht : P.underlying t = some .bool) (hti : TI P t 1 false) (hx : xs[o]? = some (.bool a)) (hy : ys[o]? = some (.bool c)) (h : SEq P xs ys l r) : SEq P xs ys ((o, t) :: l) (decide (a = c) && r)
theorem run_part1 {P : Program} {t : TypeId} (hti : TI P t 1 false) {xs : List Value} {o : Nat} {v : Value} (h : xs[o]? = some v) (w : World) : (part t xs.toArray o).run P w = .ok v w := by
 simp only [part, Sem.run_bind, hti.isAgg, Result.andThen_ok, Bool.false_eq_true, if_false]
 simp [h]
theorem run_eqStr {P : Program} {t : TypeId} (ht : P.underlying t = some .string) (d : Nat) (a c : ByteArray) (w : World) : (Op.equalIn (d + 1) t (.string a) (.string c)).run P w = .ok (decide (a = c)) w := by
 simp only [Op.equalIn, Sem.run_bind, run_underlying ht, Result.andThen_ok, Sem.run_pure]
 rw [beq_toListBytes, str_beq]
theorem run_eqInt {P : Program} {t : TypeId} {k : IntKind} (ht : P.underlying t = some (.int k)) (d : Nat) (a c : Int) (w : World) : (Op.equalIn (d + 1) t (.int k a) (.int k c)).run P w = .ok (decide (a = c)) w := by
 simp [Op.equalIn, run_underlying ht]
 rw [Bool.eq_iff_iff]; simp
theorem run_eqBool {P : Program} {t : TypeId} (ht : P.underlying t = some .bool) (d : Nat) (a c : Bool) (w : World) : (Op.equalIn (d + 1) t (.bool a) (.bool c)).run P w = .ok (decide (a = c)) w := by
 simp [Op.equalIn, run_underlying ht]
 cases a <;> cases c <;> rfl
theorem SEq.run {P : Program} {xs ys : List Value} {l : List (Nat × TypeId)} {r : Bool} (h : SEq P xs ys l r) (d : Nat) (w : World) : ∀ fs : List Field, fs.map (fun f => (f.name == "_", f.offset, f.type)) = l.map (fun p => (false, p.1, p.2)) →
   (Op.eqFields (d + 1) xs.toArray ys.toArray fs).run P w = .ok r w := by
 induction h with
 | nil =>
   intro fs hf
   have : fs = [] := by simpa using hf
   subst this
   simp [Op.eqFields]
 | str ht hti hx hy _ ih =>
   intro fs hf
   cases fs with
   | nil => simp at hf
   | cons f fs =>
     simp only [List.map_cons, List.cons.injEq, Prod.mk.injEq] at hf
     obtain ⟨⟨h1, h2, h3⟩, hf⟩ := hf
     have h1' : f.name ≠ "_" := by simpa using h1
     simp only [Op.eqFields, h1', ne_eq, not_false_eq_true, if_true, Sem.run_bind, h2, h3, run_part1 hti hx, run_part1 hti hy, Result.andThen_ok, run_eqStr ht]
     split
     · next hc => simp at hc; simp [hc]
     · next hc => simp at hc; simp [hc, ih fs hf]
 | int ht hti hx hy _ ih =>
   intro fs hf
   cases fs with
   | nil => simp at hf
   | cons f fs =>
     simp only [List.map_cons, List.cons.injEq, Prod.mk.injEq] at hf
     obtain ⟨⟨h1, h2, h3⟩, hf⟩ := hf
     have h1' : f.name ≠ "_" := by simpa using h1
     simp only [Op.eqFields, h1', ne_eq, not_false_eq_true, if_true, Sem.run_bind, h2, h3, run_part1 hti hx, run_part1 hti hy, Result.andThen_ok, run_eqInt ht]
     split
     · next hc => simp at hc; simp [hc]
     · next hc => simp at hc; simp [hc, ih fs hf]
 | bool ht hti hx hy _ ih =>
   intro fs hf
   cases fs with
   | nil => simp at hf
   | cons f fs =>
     simp only [List.map_cons, List.cons.injEq, Prod.mk.injEq] at hf
     obtain ⟨⟨h1, h2, h3⟩, hf⟩ := hf
     have h1' : f.name ≠ "_" := by simpa using h1
     simp only [Op.eqFields, h1', ne_eq, not_false_eq_true, if_true, Sem.run_bind, h2, h3, run_part1 hti hx, run_part1 hti hy, Result.andThen_ok, run_eqBool ht]
     split
     · next hc => simp at hc; simp [hc]
     · next hc => simp at hc; simp [hc, ih fs hf]
theorem OpA.structcmp {P : Program} {o : Oper} {fr : Nat → D} {h : Heap} {K : D → Heap → Prop} {op : BinOp} {t t2 : TypeId} {x y : Operand} {xs ys : List Value} {r b : Bool} {l : List (Nat × TypeId)} (ho : o.op = .binOp op t x y t2) (hm : P.eqGuardType P.depth t = false)
   (hu : P.underlying t = some (.struct (P.fieldsOf t))) (hp : P.stoodInHeld t = false) (hl : (P.fieldsOf t).toList.map (fun f => (f.name == "_", f.offset, f.type)) = l.map (fun p => (false, p.1, p.2)))
   (hx : ev fr x = .agg (xs.map D.v)) (hy : ev fr y = .agg (ys.map D.v)) (hs : SEq P xs ys l r) (hop : (op = .eql ∧ b = r) ∨ (op = .neq ∧ b = !r)) (hk : K (.b b) h) : OpA P o fr h K :=
 .aggcmp ho hm hx hy (fun w => by rw [run_equalIn_struct w 9999 t _ _ hu hp]; exact hs.run 9998 w _ hl) hop hk
end Go.Lic
