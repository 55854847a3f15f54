/-
  What the rows' condition says of package-level variables.
-/
import Derived.Test.YtciihmjdccecgaaDoorRel
import Derived.Test.YtciihmjdccecgaaDoorRows
import Derived.LaidLaws
import Derived.Lay
import Derived.ProofKit
import Derived.Lib.LaidTab
import Derived.Lib.LaidU8
import Derived.KernelRfl
set_option linter.all false
namespace Go.Lic
open Go.Proofs Go.Proofs.YtciihmjdccecgaaDoor
set_option maxRecDepth 10000 in
theorem glob_of_laid {l : List (String × DataW Unit)} {W : World} (hm : ("internal/strconv.uint64pow10", Rows.laid_internal_strconv_uint64pow10) ∈ l) (h : laidMet Tryd.prog l W) : Glob W (fun b => (fun _ : Nat => False) (2 * b)) := by
  obtain ⟨g, t, cs, fuel, p, hg, hty, hvar, hd⟩ := Lib.laidMet.reads h hm
  have e1 : Tryd.prog.globalNamed "internal/strconv.uint64pow10" = some 1 := by kernel_rfl
  obtain rfl := Option.some.inj (e1.symm.trans hg)
  have e2 : (Tryd.prog.globals[1]?).map (·.type) = some 117 := by kernel_rfl
  obtain rfl := Option.some.inj (e2.symm.trans hty)
  have e3 : (Rows.laid_internal_strconv_uint64pow10 : DataW Unit) = Lib.tabData .u64 pow10L := by rfl
  rw [e3] at hd
  have hcs := Lib.cells_of_tab (n := 20) (e := 99) (by kernel_rfl) (by kernel_rfl) (by kernel_rfl) (by kernel_rfl) hd
  unfold World.var? at hvar
  rw [e1] at hvar
  simp only [Option.bind_some] at hvar
  have hg1 : ∃ t z, W.heap[1]? = some (.cells (pow10L.map fun n => Value.int .u64 n).toArray t z) := by
    split at hvar
    · next cs' t z he =>
      obtain rfl := Option.some.inj hvar
      refine ⟨t, z, ?_⟩
      rw [he, ← hcs]
    · cases hvar
  refine ⟨W, hg1, fun g hg => ?_⟩
  have : g = 1 := by simpa [globIds] using hg
  subst this
  refine ⟨fun h => h, ?_, rfl⟩
  obtain ⟨t, z, h1⟩ := hg1
  by_cases hlt : 1 < W.heap.size
  · exact hlt
  · rw [Array.getElem?_eq_none (by omega)] at h1
    cases h1
/-- What the library's contracts ask of the table. -/
theorem tab_of_glob {w : World} {X : Nat → Prop} (h : Glob w X) : Lib.TabIs Tryd.prog w "internal/strconv.uint64pow10" .u64 pow10L := by
  obtain ⟨W0, ⟨t, z, h0⟩, h1⟩ := h
  obtain ⟨_, _, h2⟩ := h1 1 (by simp [globIds])
  have e1 : Tryd.prog.globalNamed "internal/strconv.uint64pow10" = some 1 := by kernel_rfl
  unfold Lib.TabIs World.var?
  rw [e1]
  simp only [Option.bind_some]
  rw [h2, h0]
end Go.Lic
