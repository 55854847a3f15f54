/-
  Structs compared, field by field.
-/
import Derived.Test.YtglclijalehcmaaGreatDoorClip
import Derived.Laws.StructEq
import Derived.Lib.Builder
import Derived.Lib.UnsafeStr
import Derived.Laws.Externs
import Derived.Test.YtglclijalehcmaaGreatDoorRel
import Derived.Test.YtglclijalehcmaaGreatDoorCm
import Derived.Test.YtglclijalehcmaaGreatDoorShelf
import Derived.Test.YtglclijalehcmaaGreatDoorSort
import Derived.Test.YtglclijalehcmaaGreatDoorCv0
import Derived.Test.YtglclijalehcmaaGreatDoorStates
set_option linter.all false
namespace Go.Lic
inductive SEq (P : Program) (xs ys : List Value) : List (Nat × TypeId) → Bool → Prop
 | nil : SEq P xs ys [] true
 | str {o : Nat} {t : TypeId} {l : List (Nat × TypeId)} {r : Bool} {a c : ByteArray} (ht : P.underlying t = some .string) (hti : TI P t 1 false) (hx : xs[o]? = some (.string a)) (hy : ys[o]? = some (.string c)) (h : SEq P xs ys l r) : SEq P xs ys ((o, t) :: l) (decide (a = c) && r)
 | int {o : Nat} {t : TypeId} {l : List (Nat × TypeId)} {r : Bool} {k : IntKind} {a c : Int} (ht : P.underlying t = some (.int k)) (hti : TI P t 1 false) (hx : xs[o]? = some (.int k a)) (hy : ys[o]? = some (.int k c)) (h : SEq P xs ys l r) : SEq P xs ys ((o, t) :: l) (decide (a = c) && r)
 | bool {o : Nat} {t : TypeId} {l : List (Nat × TypeId)} {r : Bool} {a c : Bool} (ht : P.underlying t = some .bool) (hti : TI P t 1 false) (hx : xs[o]? = some (.bool a)) (hy : ys[o]? = some (.bool c)) (h : SEq P xs ys l r) : SEq P xs ys ((o, t) :: l) (decide (a = c) && r)
theorem run_part1 {P : Program} {t : TypeId} (hti : TI P t 1 false) {xs : List Value} {o : Nat} {v : Value} (h : xs[o]? = some v) (w : World) : (part t xs.toArray o).run P w = .ok v w := by
 simp only [part, Sem.run_bind, hti.isAgg, Result.andThen_ok, Bool.false_eq_true, if_false]
 simp [h]
theorem run_eqStr {P : Program} {t : TypeId} (ht : P.underlying t = some .string) (d : Nat) (a c : ByteArray) (w : World) : (Op.equalIn (d + 1) t (.string a) (.string c)).run P w = .ok (decide (a = c)) w := by
 simp only [Op.equalIn, Sem.run_bind, run_underlying ht, Result.andThen_ok, Sem.run_pure]
 rw [beq_toListBytes, str_beq]
theorem run_eqInt {P : Program} {t : TypeId} {k : IntKind} (ht : P.underlying t = some (.int k)) (d : Nat) (a c : Int) (w : World) : (Op.equalIn (d + 1) t (.int k a) (.int k c)).run P w = .ok (decide (a = c)) w := by
 simp [Op.equalIn, run_underlying ht]
 rw [Bool.eq_iff_iff]; simp
theorem run_eqBool {P : Program} {t : TypeId} (ht : P.underlying t = some .bool) (d : Nat) (a c : Bool) (w : World) : (Op.equalIn (d + 1) t (.bool a) (.bool c)).run P w = .ok (decide (a = c)) w := by
 simp [Op.equalIn, run_underlying ht]
 cases a <;> cases c <;> rfl
theorem SEq.run {P : Program} {xs ys : List Value} {l : List (Nat × TypeId)} {r : Bool} (h : SEq P xs ys l r) (d : Nat) (w : World) : ∀ fs : List Field, fs.map (fun f => (f.name == "_", f.offset, f.type)) = l.map (fun p => (false, p.1, p.2)) →
   (Op.eqFields (d + 1) xs.toArray ys.toArray fs).run P w = .ok r w := by
 induction h with
 | nil =>
   intro fs hf
   have : fs = [] := by simpa using hf
   subst this
   simp [Op.eqFields]
 | str ht hti hx hy _ ih =>
   intro fs hf
   cases fs with
   | nil => simp at hf
   | cons f fs =>
     simp only [List.map_cons, List.cons.injEq, Prod.mk.injEq] at hf
     obtain ⟨⟨h1, h2, h3⟩, hf⟩ := hf
     have h1' : f.name ≠ "_" := by simpa using h1
     simp only [Op.eqFields, h1', ne_eq, not_false_eq_true, if_true, Sem.run_bind, h2, h3, run_part1 hti hx, run_part1 hti hy, Result.andThen_ok, run_eqStr ht]
     split
     · next hc => simp at hc; simp [hc]
     · next hc => simp at hc; simp [hc, ih fs hf]
 | int ht hti hx hy _ ih =>
   intro fs hf
   cases fs with
   | nil => simp at hf
   | cons f fs =>
     simp only [List.map_cons, List.cons.injEq, Prod.mk.injEq] at hf
     obtain ⟨⟨h1, h2, h3⟩, hf⟩ := hf
     have h1' : f.name ≠ "_" := by simpa using h1
     simp only [Op.eqFields, h1', ne_eq, not_false_eq_true, if_true, Sem.run_bind, h2, h3, run_part1 hti hx, run_part1 hti hy, Result.andThen_ok, run_eqInt ht]
     split
     · next hc => simp at hc; simp [hc]
     · next hc => simp at hc; simp [hc, ih fs hf]
 | bool ht hti hx hy _ ih =>
   intro fs hf
   cases fs with
   | nil => simp at hf
   | cons f fs =>
     simp only [List.map_cons, List.cons.injEq, Prod.mk.injEq] at hf
     obtain ⟨⟨h1, h2, h3⟩, hf⟩ := hf
     have h1' : f.name ≠ "_" := by simpa using h1
     simp only [Op.eqFields, h1', ne_eq, not_false_eq_true, if_true, Sem.run_bind, h2, h3, run_part1 hti hx, run_part1 hti hy, Result.andThen_ok, run_eqBool ht]
     split
     · next hc => simp at hc; simp [hc]
     · next hc => simp at hc; simp [hc, ih fs hf]
theorem OpA.structcmp {P : Program} {o : Oper} {fr : Nat → D} {h : Heap} {K : D → Heap → Prop} {op : BinOp} {t t2 : TypeId} {x y : Operand} {xs ys : List Value} {r b : Bool} {l : List (Nat × TypeId)} (ho : o.op = .binOp op t x y t2) (hm : P.eqGuardType P.depth t = false)
   (hu : P.underlying t = some (.struct (P.fieldsOf t))) (hp : P.stoodInHeld t = false) (hl : (P.fieldsOf t).toList.map (fun f => (f.name == "_", f.offset, f.type)) = l.map (fun p => (false, p.1, p.2)))
   (hx : ev fr x = .agg (xs.map D.v)) (hy : ev fr y = .agg (ys.map D.v)) (hs : SEq P xs ys l r) (hop : (op = .eql ∧ b = r) ∨ (op = .neq ∧ b = !r)) (hk : K (.b b) h) : OpA P o fr h K :=
 .aggcmp ho hm hx hy (fun w => by rw [run_equalIn_struct w 9999 t _ _ hu hp]; exact hs.run 9998 w _ hl) hop hk
end Go.Lic
set_option linter.all false
namespace Go.Lic
section
variable {P : Program} {o : Oper} {fr : Nat → D} {h : Heap} {K : D → Heap → Prop} {T : Type} [Inhabited T] {enc : T → D}
end
section
variable {P : Program} {o : Oper} {fr : Nat → D} {h : Heap} {K : D → Heap → Prop}
end
end Go.Lic
set_option linter.all false
namespace Go.Lic
section
variable {P : Program} {o : Oper} {fr : Nat → D} {h : Heap} {K : D → Heap → Prop}
end
end Go.Lic
set_option linter.all false
namespace Go.Lic
theorem glob_none (W : World) : Glob W (fun b => (fun _ : Nat => False) (2 * b)) := ⟨W, trivial, fun g hg => by cases hg⟩
end Go.Lic
set_option linter.all false
namespace Go.Lic
open Go.Proofs Go.Sort Go.Shelf
theorem Fun.of_same {P : Program} {f : Nat} {vs : List Value} {v : Value} (h : ∀ w, Calls P f vs.toArray w fun e w' => e = .returned v ∧ w' = w) : Fun false P f (vs.map D.v) (fun d => d = .v v) := by
 intro A w us hb ho hg hv
 obtain rfl := vl_vals _ _ hv
 refine (h w).mono ?_
 rintro e w' ⟨rfl, rfl⟩
 exact ⟨v, .v v, rfl, rfl, .v _, Ext.refl _ _⟩
theorem one_byte {sep : ByteArray} (h : sep.size = 1) : sep = ⟨#[sepOf sep]⟩ := by
 obtain ⟨⟨l⟩⟩ := sep
 have : l.length = 1 := h
 match l, this with
 | [c], _ => rfl
theorem iCompare_c (a b : Int) : Fun false Tryz.prog 79 [D.i a, D.i b] (fun d => d = D.i (cmpI a b)) := Fun.of_same (vs := [.int .i64 a, .int .i64 b]) (Tryz.cmp_Compare_int a b)
theorem count_c (s sep : ByteArray) (h : sep.size = 1) : Fun false Tryz.prog 168 [D.s s, D.s sep] (fun d => d = D.i (countF s sep)) := by
 have := Fun.of_same (vs := [.string s, .string ⟨#[sepOf sep]⟩]) (Tryz.strings_Count_one s (sepOf sep))
 rw [← one_byte h] at this
 exact this
theorem index_c (s sep : ByteArray) (h : sep.size = 1) : Fun false Tryz.prog 169 [D.s s, D.s sep] (fun d => d = D.i (indexF s sep)) := by
 have := Fun.of_same (vs := [.string s, .string ⟨#[sepOf sep]⟩]) (Tryz.strings_Index_one s (sepOf sep))
 rw [← one_byte h] at this
 exact this
theorem len_c (n : Int) (h0 : 0 ≤ n) (h1 : n ≤ 18446744073709551615) : Fun false Tryz.prog 119 [D.k .u64 n] (fun d => d = D.i (lenF n)) := Fun.of_same (vs := [.int .u64 n]) (fun w => Tryz.bits_Len n w h0 h1)
theorem mul64_c (a b : Int) (h0 : 0 ≤ a) (h1 : a ≤ 18446744073709551615) (h2 : 0 ≤ b) (h3 : b ≤ 18446744073709551615) : Fun false Tryz.prog 172 [D.k .u64 a, D.k .u64 b] (fun d => d = .tup [D.k .u64 (mul64F a b).1, D.k .u64 (mul64F a b).2]) := by
 obtain ⟨x, rfl⟩ := Int.eq_ofNat_of_zero_le h0
 obtain ⟨y, rfl⟩ := Int.eq_ofNat_of_zero_le h2
 intro A w us hb ho hg hv
 cases hv with
 | cons k2 k3 =>
   cases k2
   cases k3 with
   | cons k4 k5 =>
     cases k4; cases k5
     refine (Tryz.bits_Mul64 x y (by omega) (by omega) w).mono ?_
     rintro e w' ⟨rfl, rfl⟩
     refine ⟨_, _, rfl, rfl, .tup (.cons ?_ (.cons ?_ .nil)), Ext.refl _ _⟩
     · have : ((x * y / 18446744073709551616 : Nat) : Int) = (mul64F (x : Int) (y : Int)).1 := by simp [mul64F]
       rw [this]; exact .v _
     · have : ((x * y % 18446744073709551616 : Nat) : Int) = (mul64F (x : Int) (y : Int)).2 := by simp [mul64F]
       rw [this]; exact .v _
end Go.Lic
