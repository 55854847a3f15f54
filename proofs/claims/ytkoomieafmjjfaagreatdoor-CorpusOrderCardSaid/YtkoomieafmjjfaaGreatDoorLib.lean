/-
  What the rows' condition says of package-level variables.
-/
import Derived.Test.YtkoomieafmjjfaaGreatDoorRel
import Derived.Test.YtkoomieafmjjfaaGreatDoorRows
import Derived.LaidLaws
import Derived.Lay
import Derived.ProofKit
import Derived.Lib.LaidTab
import Derived.Lib.LaidU8
import Derived.KernelRfl
import Derived.Test.YtkoomieafmjjfaaGreatDoorCm
import Derived.Test.YtkoomieafmjjfaaGreatDoorShelf
import Derived.Test.YtkoomieafmjjfaaGreatDoorSort
import Derived.Test.YtkoomieafmjjfaaGreatDoorIter
import Derived.Test.YtkoomieafmjjfaaGreatDoorEq
import Derived.Test.YtkoomieafmjjfaaGreatDoorStates
import Derived.Test.YtkoomieafmjjfaaGreatDoorGrow
import Derived.Test.YtkoomieafmjjfaaGreatDoorBld
import Derived.Test.YtkoomieafmjjfaaGreatDoorMap
set_option linter.all false
namespace Go.Lic
open Go.Proofs Go.Proofs.YtkoomieafmjjfaaGreatDoor
set_option maxRecDepth 10000 in
theorem glob_of_laid {l : List (String × DataW Unit)} {W : World} (hm : ("internal/strconv.uint64pow10", Rows.laid_internal_strconv_uint64pow10) ∈ l) (h : laidMet Tryz.prog l W) : Glob W (fun b => (fun _ : Nat => False) (2 * b)) := by
  obtain ⟨g, t, cs, fuel, p, hg, hty, hvar, hd⟩ := Lib.laidMet.reads h hm
  have e1 : Tryz.prog.globalNamed "internal/strconv.uint64pow10" = some 1 := by kernel_rfl
  obtain rfl := Option.some.inj (e1.symm.trans hg)
  have e2 : (Tryz.prog.globals[1]?).map (·.type) = some 186 := by kernel_rfl
  obtain rfl := Option.some.inj (e2.symm.trans hty)
  have e3 : (Rows.laid_internal_strconv_uint64pow10 : DataW Unit) = Lib.tabData .u64 pow10L := by rfl
  rw [e3] at hd
  have hcs := Lib.cells_of_tab (n := 20) (e := 130) (by kernel_rfl) (by kernel_rfl) (by kernel_rfl) (by kernel_rfl) hd
  unfold World.var? at hvar
  rw [e1] at hvar
  simp only [Option.bind_some] at hvar
  have hg1 : ∃ t z, W.heap[1]? = some (.cells (pow10L.map fun n => Value.int .u64 n).toArray t z) := by
    split at hvar
    · next cs' t z he =>
      obtain rfl := Option.some.inj hvar
      refine ⟨t, z, ?_⟩
      rw [he, ← hcs]
    · cases hvar
  refine ⟨W, hg1, fun g hg => ?_⟩
  have : g = 1 := by simpa [globIds] using hg
  subst this
  refine ⟨fun h => h, ?_, rfl⟩
  obtain ⟨t, z, h1⟩ := hg1
  by_cases hlt : 1 < W.heap.size
  · exact hlt
  · rw [Array.getElem?_eq_none (by omega)] at h1
    cases h1
/-- What the library's contracts ask of the table. -/
theorem tab_of_glob {w : World} {X : Nat → Prop} (h : Glob w X) : Lib.TabIs Tryz.prog w "internal/strconv.uint64pow10" .u64 pow10L := by
  obtain ⟨W0, ⟨t, z, h0⟩, h1⟩ := h
  obtain ⟨_, _, h2⟩ := h1 1 (by simp [globIds])
  have e1 : Tryz.prog.globalNamed "internal/strconv.uint64pow10" = some 1 := by kernel_rfl
  unfold Lib.TabIs World.var?
  rw [e1]
  simp only [Option.bind_some]
  rw [h2, h0]
end Go.Lic

set_option linter.all false
namespace Go.Lic
open Go.Proofs Go.Sort Go.Shelf

theorem Fun.of_same {P : Program} {f : Nat} {vs : List Value} {v : Value} (h : ∀ w, Calls P f vs.toArray w fun e w' => e = .returned v ∧ w' = w) : Fun false P f (vs.map D.v) (fun d => d = .v v) := by
  intro A w us hb ho hg hv
  obtain rfl := vl_vals _ _ hv
  refine (h w).mono ?_
  rintro e w' ⟨rfl, rfl⟩
  exact ⟨v, .v v, rfl, rfl, .v _, Ext.refl _ _⟩
theorem ext_grow (w : World) (k : Nat) (os : Array Obj) : Ext (fun _ => False) w (grow (w.drewN k) os) :=
  ⟨rfl, rfl, rfl, by simp [grow, World.drewN], fun b hb _ => by simp only [grow, World.drewN]; rw [Array.getElem?_append_left hb], fun b hb => by
    apply shape_of_heap; simp only [grow, World.drewN]; rw [Array.getElem?_append_left hb], by simp [grow, World.drewN]⟩

theorem one_byte {sep : ByteArray} (h : sep.size = 1) : sep = ⟨#[sepOf sep]⟩ := by
  obtain ⟨⟨l⟩⟩ := sep
  have : l.length = 1 := h
  match l, this with
  | [c], _ => rfl
theorem sCompare_c (a b : ByteArray) : Fun false Tryz.prog 86 [D.s a, D.s b] (fun d => d = D.i (cmpB a b)) := Fun.of_same (vs := [.string a, .string b]) (Tryz.strings_Compare a b)
theorem iCompare_c (a b : Int) : Fun false Tryz.prog 58 [D.i a, D.i b] (fun d => d = D.i (cmpI a b)) := Fun.of_same (vs := [.int .i64 a, .int .i64 b]) (Tryz.cmp_Compare_int a b)
theorem count_c (s sep : ByteArray) (h : sep.size = 1) : Fun false Tryz.prog 143 [D.s s, D.s sep] (fun d => d = D.i (countF s sep)) := by
  have := Fun.of_same (vs := [.string s, .string ⟨#[sepOf sep]⟩]) (Tryz.strings_Count_one s (sepOf sep))
  rw [← one_byte h] at this
  exact this
theorem index_c (s sep : ByteArray) (h : sep.size = 1) : Fun false Tryz.prog 144 [D.s s, D.s sep] (fun d => d = D.i (indexF s sep)) := by
  have := Fun.of_same (vs := [.string s, .string ⟨#[sepOf sep]⟩]) (Tryz.strings_Index_one s (sepOf sep))
  rw [← one_byte h] at this
  exact this
theorem len_c (n : Int) (h0 : 0 ≤ n) (h1 : n ≤ 18446744073709551615) : Fun false Tryz.prog 107 [D.k .u64 n] (fun d => d = D.i (lenF n)) := Fun.of_same (vs := [.int .u64 n]) (fun w => Tryz.bits_Len n w h0 h1)
theorem itoa_c (n : Int) (h0 : -9223372036854775808 ≤ n) (h1 : n ≤ 9223372036854775807) : Fun false Tryz.prog 70 [D.i n] (fun d => d = D.s (itoaF n)) := by
  intro A w us hb ho hg hv
  cases hv with
  | cons h2 h3 =>
    cases h2; cases h3
    refine (Tryz.strconv_Itoa n h0 h1 w (tab_of_glob hg)).mono ?_
    rintro e w' ⟨rfl, k, os, rfl⟩
    exact ⟨_, _, rfl, rfl, .v _, ext_grow w k os⟩
theorem mul64_c (a b : Int) (h0 : 0 ≤ a) (h1 : a ≤ 18446744073709551615) (h2 : 0 ≤ b) (h3 : b ≤ 18446744073709551615) : Fun false Tryz.prog 146 [D.k .u64 a, D.k .u64 b] (fun d => d = .tup [D.k .u64 (mul64F a b).1, D.k .u64 (mul64F a b).2]) := by
  obtain ⟨x, rfl⟩ := Int.eq_ofNat_of_zero_le h0
  obtain ⟨y, rfl⟩ := Int.eq_ofNat_of_zero_le h2
  intro A w us hb ho hg hv
  cases hv with
  | cons k2 k3 =>
    cases k2
    cases k3 with
    | cons k4 k5 =>
      cases k4; cases k5
      refine (Tryz.bits_Mul64 x y (by omega) (by omega) w).mono ?_
      rintro e w' ⟨rfl, rfl⟩
      refine ⟨_, _, rfl, rfl, .tup (.cons ?_ (.cons ?_ .nil)), Ext.refl _ _⟩
      · have : ((x * y / 18446744073709551616 : Nat) : Int) = (mul64F (x : Int) (y : Int)).1 := by simp [mul64F]
        rw [this]; exact .v _
      · have : ((x * y % 18446744073709551616 : Nat) : Int) = (mul64F (x : Int) (y : Int)).2 := by simp [mul64F]
        rw [this]; exact .v _
end Go.Lic
