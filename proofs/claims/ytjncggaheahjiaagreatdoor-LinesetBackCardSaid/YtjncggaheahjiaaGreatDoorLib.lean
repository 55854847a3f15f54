/-
  Go's library at this seat: the shelf's contracts, said of abstract data.
-/
import Derived.Test.YtjncggaheahjiaaGreatDoorLm
import Derived.Test.YtjncggaheahjiaaGreatDoorShelf
import Derived.Test.YtjncggaheahjiaaGreatDoorLaid
import Derived.Test.YtjncggaheahjiaaGreatDoorSort
import Derived.Test.YtjncggaheahjiaaGreatDoorIter
import Derived.Test.YtjncggaheahjiaaGreatDoorEq
import Derived.Test.YtjncggaheahjiaaGreatDoorStates
import Derived.Test.YtjncggaheahjiaaGreatDoorGrow
import Derived.Test.YtjncggaheahjiaaGreatDoorBld
import Derived.Test.YtjncggaheahjiaaGreatDoorMap
set_option linter.all false
namespace Go.Lic
variable [Fl]
open Go.Proofs Go.Sort Go.Shelf
theorem Fun.of_same {P : Program} {f : Nat} {vs : List Value} {v : Value} (h : ∀ w, Calls P f vs.toArray w fun e w' => e = .returned v ∧ w' = w) : Fun false P f (vs.map D.v) (fun d => d = .v v) := by
 intro A w us hb ho hg hv
 obtain rfl := vl_vals _ _ hv
 refine (h w).mono ?_
 rintro e w' ⟨rfl, rfl⟩
 exact ⟨v, .v v, rfl, rfl, .v _, Ext.refl _ _⟩
theorem ext_grow (w : World) (k : Nat) (os : Array Obj) : Ext (fun _ => False) w (grow (w.drewN k) os) :=
 ⟨rfl, rfl, rfl, by simp [grow, World.drewN], fun b hb _ => by simp only [grow, World.drewN]; rw [Array.getElem?_append_left hb], fun b hb => by
   apply shape_of_heap; simp only [grow, World.drewN]; rw [Array.getElem?_append_left hb], by simp [grow, World.drewN]⟩
theorem one_byte {sep : ByteArray} (h : sep.size = 1) : sep = ⟨#[sepOf sep]⟩ := by
 obtain ⟨⟨l⟩⟩ := sep
 have : l.length = 1 := h
 match l, this with
 | [c], _ => rfl
theorem sCompare_c (a b : ByteArray) : Fun false Tryz.prog 52 [D.s a, D.s b] (fun d => d = D.i (cmpB a b)) := Fun.of_same (vs := [.string a, .string b]) (Tryz.strings_Compare a b)
theorem iCompare_c (a b : Int) : Fun false Tryz.prog 53 [D.i a, D.i b] (fun d => d = D.i (cmpI a b)) := Fun.of_same (vs := [.int .i64 a, .int .i64 b]) (Tryz.cmp_Compare_int a b)
theorem count_c (s sep : ByteArray) (h : sep.size = 1) : Fun false Tryz.prog 78 [D.s s, D.s sep] (fun d => d = D.i (countF s sep)) := by
 have := Fun.of_same (vs := [.string s, .string ⟨#[sepOf sep]⟩]) (Tryz.strings_Count_one s (sepOf sep))
 rw [← one_byte h] at this
 exact this
theorem index_c (s sep : ByteArray) (h : sep.size = 1) : Fun false Tryz.prog 79 [D.s s, D.s sep] (fun d => d = D.i (indexF s sep)) := by
 have := Fun.of_same (vs := [.string s, .string ⟨#[sepOf sep]⟩]) (Tryz.strings_Index_one s (sepOf sep))
 rw [← one_byte h] at this
 exact this
theorem hasPref_c (s p : ByteArray) : Fun false Tryz.prog 35 [D.s s, D.s p] (fun d => d = D.b (hasPrefF s p)) := Fun.of_same (vs := [.string s, .string p]) (Tryz.strings_HasPrefix s p)
theorem len_c (n : Int) (h0 : 0 ≤ n) (h1 : n ≤ 18446744073709551615) : Fun false Tryz.prog 66 [D.k .u64 n] (fun d => d = D.i (lenF n)) := Fun.of_same (vs := [.int .u64 n]) (fun w => Tryz.bits_Len n w h0 h1)
theorem itoa_c (n : Int) (h0 : -9223372036854775808 ≤ n) (h1 : n ≤ 9223372036854775807) : Fun false Tryz.prog 21 [D.i n] (fun d => d = D.s (itoaF n)) := by
 intro A w us hb ho hg hv
 cases hv with
 | cons h2 h3 =>
   cases h2; cases h3
   refine (Tryz.strconv_Itoa n h0 h1 w (tab_of_glob hg)).mono ?_
   rintro e w' ⟨rfl, k, os, rfl⟩
   exact ⟨_, _, rfl, rfl, .v _, ext_grow w k os⟩
end Go.Lic
