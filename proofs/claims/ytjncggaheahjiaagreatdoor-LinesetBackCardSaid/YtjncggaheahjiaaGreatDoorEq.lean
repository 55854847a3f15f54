/-
  Structs compared, field by field.
-/
import Derived.Test.YtjncggaheahjiaaGreatDoorHv
import Derived.Laws.StructEq
set_option linter.all false
namespace Go.Lic
inductive SEq (P : Program) (xs ys : List Value) : List (Nat × TypeId) → Bool → Prop
 | nil : SEq P xs ys [] true
 | str {o : Nat} {t : TypeId} {l : List (Nat × TypeId)} {r : Bool} {a c : ByteArray} (ht : P.underlying t = some .string) (hti : TI P t 1 false) (hx : xs[o]? = some (.string a)) (hy : ys[o]? = some (.string c)) (h : SEq P xs ys l r) : SEq P xs ys ((o, t) :: l) (decide (a = c) && r)
 | int {o : Nat} {t : TypeId} {l : List (Nat × TypeId)} {r : Bool} {k : IntKind} {a c : Int} (ht : P.underlying t = some (.int k)) (hti : TI P t 1 false) (hx : xs[o]? = some (.int k a)) (hy : ys[o]? = some (.int k c)) (h : SEq P xs ys l r) : SEq P xs ys ((o, t) :: l) (decide (a = c) && r)
 | bool {o : Nat} {t : TypeId} {l : List (Nat × TypeId)} {r : Bool} {a c : Bool} (ht : P.underlying t = some .bool) (hti : TI P t 1 false) (hx : xs[o]? = some (.bool a)) (hy : ys[o]? = some (.bool c)) (h : SEq P xs ys l r) : SEq P xs ys ((o, t) :: l) (decide (a = c) && r)
theorem run_part1 {P : Program} {t : TypeId} (hti : TI P t 1 false) {xs : List Value} {o : Nat} {v : Value} (h : xs[o]? = some v) (w : World) : (part t xs.toArray o).run P w = .ok v w := by
 simp only [part, Sem.run_bind, hti.isAgg, Result.andThen_ok, Bool.false_eq_true, if_false]
 simp [h]
theorem run_eqStr {P : Program} {t : TypeId} (ht : P.underlying t = some .string) (d : Nat) (a c : ByteArray) (w : World) : (Op.equalIn (d + 1) t (.string a) (.string c)).run P w = .ok (decide (a = c)) w := by
 simp only [Op.equalIn, Sem.run_bind, run_underlying ht, Result.andThen_ok, Sem.run_pure]
 rw [beq_toListBytes, str_beq]
theorem run_eqInt {P : Program} {t : TypeId} {k : IntKind} (ht : P.underlying t = some (.int k)) (d : Nat) (a c : Int) (w : World) : (Op.equalIn (d + 1) t (.int k a) (.int k c)).run P w = .ok (decide (a = c)) w := by
 simp [Op.equalIn, run_underlying ht]
 rw [Bool.eq_iff_iff]; simp
theorem run_eqBool {P : Program} {t : TypeId} (ht : P.underlying t = some .bool) (d : Nat) (a c : Bool) (w : World) : (Op.equalIn (d + 1) t (.bool a) (.bool c)).run P w = .ok (decide (a = c)) w := by
 simp [Op.equalIn, run_underlying ht]
 cases a <;> cases c <;> rfl
theorem SEq.run {P : Program} {xs ys : List Value} {l : List (Nat × TypeId)} {r : Bool} (h : SEq P xs ys l r) (d : Nat) (w : World) : ∀ fs : List Field, fs.map (fun f => (f.name == "_", f.offset, f.type)) = l.map (fun p => (false, p.1, p.2)) →
   (Op.eqFields (d + 1) xs.toArray ys.toArray fs).run P w = .ok r w := by
 induction h with
 | nil =>
   intro fs hf
   have : fs = [] := by simpa using hf
   subst this
   simp [Op.eqFields]
 | str ht hti hx hy _ ih =>
   intro fs hf
   cases fs with
   | nil => simp at hf
   | cons f fs =>
     simp only [List.map_cons, List.cons.injEq, Prod.mk.injEq] at hf
     obtain ⟨⟨h1, h2, h3⟩, hf⟩ := hf
     have h1' : f.name ≠ "_" := by simpa using h1
     simp only [Op.eqFields, h1', ne_eq, not_false_eq_true, if_true, Sem.run_bind, h2, h3, run_part1 hti hx, run_part1 hti hy, Result.andThen_ok, run_eqStr ht]
     split
     · next hc => simp at hc; simp [hc]
     · next hc => simp at hc; simp [hc, ih fs hf]
 | int ht hti hx hy _ ih =>
   intro fs hf
   cases fs with
   | nil => simp at hf
   | cons f fs =>
     simp only [List.map_cons, List.cons.injEq, Prod.mk.injEq] at hf
     obtain ⟨⟨h1, h2, h3⟩, hf⟩ := hf
     have h1' : f.name ≠ "_" := by simpa using h1
     simp only [Op.eqFields, h1', ne_eq, not_false_eq_true, if_true, Sem.run_bind, h2, h3, run_part1 hti hx, run_part1 hti hy, Result.andThen_ok, run_eqInt ht]
     split
     · next hc => simp at hc; simp [hc]
     · next hc => simp at hc; simp [hc, ih fs hf]
 | bool ht hti hx hy _ ih =>
   intro fs hf
   cases fs with
   | nil => simp at hf
   | cons f fs =>
     simp only [List.map_cons, List.cons.injEq, Prod.mk.injEq] at hf
     obtain ⟨⟨h1, h2, h3⟩, hf⟩ := hf
     have h1' : f.name ≠ "_" := by simpa using h1
     simp only [Op.eqFields, h1', ne_eq, not_false_eq_true, if_true, Sem.run_bind, h2, h3, run_part1 hti hx, run_part1 hti hy, Result.andThen_ok, run_eqBool ht]
     split
     · next hc => simp at hc; simp [hc]
     · next hc => simp at hc; simp [hc, ih fs hf]
theorem OpA.structcmp {P : Program} {o : Oper} {fr : Nat → D} {h : Heap} {K : D → Heap → Prop} {op : BinOp} {t t2 : TypeId} {x y : Operand} {xs ys : List Value} {r b : Bool} {l : List (Nat × TypeId)} (ho : o.op = .binOp op t x y t2) (hm : P.eqGuardType P.depth t = false)
   (hu : P.underlying t = some (.struct (P.fieldsOf t))) (hp : P.stoodInHeld t = false) (hl : (P.fieldsOf t).toList.map (fun f => (f.name == "_", f.offset, f.type)) = l.map (fun p => (false, p.1, p.2)))
   (hx : ev fr x = .agg (xs.map D.v)) (hy : ev fr y = .agg (ys.map D.v)) (hs : SEq P xs ys l r) (hop : (op = .eql ∧ b = r) ∨ (op = .neq ∧ b = !r)) (hk : K (.b b) h) : OpA P o fr h K :=
 .aggcmp ho hm hx hy (fun w => by rw [run_equalIn_struct w 9999 t _ _ hu hp]; exact hs.run 9998 w _ hl) hop hk
end Go.Lic
