/-
  The rows' condition: nothing is asked of package-level variables.
-/
import Derived.Test.YtglclijalehcmaaGreatDoorRel
import Derived.Test.YtglclijalehcmaaGreatDoorCm
import Derived.Test.YtglclijalehcmaaGreatDoorShelf
import Derived.Test.YtglclijalehcmaaGreatDoorSort
import Derived.Test.YtglclijalehcmaaGreatDoorIter
import Derived.Test.YtglclijalehcmaaGreatDoorEq
import Derived.Test.YtglclijalehcmaaGreatDoorStates
import Derived.Test.YtglclijalehcmaaGreatDoorGrow
import Derived.Test.YtglclijalehcmaaGreatDoorLm
import Derived.Test.YtglclijalehcmaaGreatDoorMap
set_option linter.all false
namespace Go.Lic
theorem glob_none (W : World) : Glob W (fun b => (fun _ : Nat => False) (2 * b)) := ⟨W, trivial, fun g hg => by cases hg⟩
end Go.Lic

set_option linter.all false
namespace Go.Lic
open Go.Proofs Go.Sort Go.Shelf

theorem Fun.of_same {P : Program} {f : Nat} {vs : List Value} {v : Value} (h : ∀ w, Calls P f vs.toArray w fun e w' => e = .returned v ∧ w' = w) : Fun false P f (vs.map D.v) (fun d => d = .v v) := by
  intro A w us hb ho hg hv
  obtain rfl := vl_vals _ _ hv
  refine (h w).mono ?_
  rintro e w' ⟨rfl, rfl⟩
  exact ⟨v, .v v, rfl, rfl, .v _, Ext.refl _ _⟩
theorem one_byte {sep : ByteArray} (h : sep.size = 1) : sep = ⟨#[sepOf sep]⟩ := by
  obtain ⟨⟨l⟩⟩ := sep
  have : l.length = 1 := h
  match l, this with
  | [c], _ => rfl
theorem sCompare_c (a b : ByteArray) : Fun false Tryz.prog 126 [D.s a, D.s b] (fun d => d = D.i (cmpB a b)) := Fun.of_same (vs := [.string a, .string b]) (Tryz.strings_Compare a b)
theorem iCompare_c (a b : Int) : Fun false Tryz.prog 79 [D.i a, D.i b] (fun d => d = D.i (cmpI a b)) := Fun.of_same (vs := [.int .i64 a, .int .i64 b]) (Tryz.cmp_Compare_int a b)
theorem count_c (s sep : ByteArray) (h : sep.size = 1) : Fun false Tryz.prog 168 [D.s s, D.s sep] (fun d => d = D.i (countF s sep)) := by
  have := Fun.of_same (vs := [.string s, .string ⟨#[sepOf sep]⟩]) (Tryz.strings_Count_one s (sepOf sep))
  rw [← one_byte h] at this
  exact this
theorem index_c (s sep : ByteArray) (h : sep.size = 1) : Fun false Tryz.prog 169 [D.s s, D.s sep] (fun d => d = D.i (indexF s sep)) := by
  have := Fun.of_same (vs := [.string s, .string ⟨#[sepOf sep]⟩]) (Tryz.strings_Index_one s (sepOf sep))
  rw [← one_byte h] at this
  exact this
theorem len_c (n : Int) (h0 : 0 ≤ n) (h1 : n ≤ 18446744073709551615) : Fun false Tryz.prog 119 [D.k .u64 n] (fun d => d = D.i (lenF n)) := Fun.of_same (vs := [.int .u64 n]) (fun w => Tryz.bits_Len n w h0 h1)
theorem mul64_c (a b : Int) (h0 : 0 ≤ a) (h1 : a ≤ 18446744073709551615) (h2 : 0 ≤ b) (h3 : b ≤ 18446744073709551615) : Fun false Tryz.prog 172 [D.k .u64 a, D.k .u64 b] (fun d => d = .tup [D.k .u64 (mul64F a b).1, D.k .u64 (mul64F a b).2]) := by
  obtain ⟨x, rfl⟩ := Int.eq_ofNat_of_zero_le h0
  obtain ⟨y, rfl⟩ := Int.eq_ofNat_of_zero_le h2
  intro A w us hb ho hg hv
  cases hv with
  | cons k2 k3 =>
    cases k2
    cases k3 with
    | cons k4 k5 =>
      cases k4; cases k5
      refine (Tryz.bits_Mul64 x y (by omega) (by omega) w).mono ?_
      rintro e w' ⟨rfl, rfl⟩
      refine ⟨_, _, rfl, rfl, .tup (.cons ?_ (.cons ?_ .nil)), Ext.refl _ _⟩
      · have : ((x * y / 18446744073709551616 : Nat) : Int) = (mul64F (x : Int) (y : Int)).1 := by simp [mul64F]
        rw [this]; exact .v _
      · have : ((x * y % 18446744073709551616 : Nat) : Int) = (mul64F (x : Int) (y : Int)).2 := by simp [mul64F]
        rw [this]; exact .v _
end Go.Lic
