/-
  What the rows' condition says of package-level variables.
-/
import Derived.Test.YtjncggaheahjiaaGreatDoorRel
import Derived.Test.YtjncggaheahjiaaGreatDoorRows
import Derived.LaidLaws
import Derived.Lay
import Derived.ProofKit
import Derived.Lib.LaidTab
import Derived.Lib.LaidU8
import Derived.Stop.LaidErr
import Derived.Lib.AtoiErrMem
import Derived.KernelRfl
set_option linter.all false
namespace Go.Lic
open Go.Proofs Go.Proofs.YtjncggaheahjiaaGreatDoor
theorem laid_mem {P : Program} {n : String} {d : DataW Unit} : ∀ {l : List (String × DataW Unit)} {W : World}, (n, d) ∈ l → laidMet P l W → ∃ r, laidMet P ((n, d) :: r) W
 | x :: l, W, hm, h => by
   rcases List.mem_cons.1 hm with e | hm
   · subst e; exact ⟨l, h⟩
   · exact laid_mem hm h.tail
theorem star_err : "*" ++ "errors.errorString" = "*errors.errorString" := by decide
theorem row_err (u : TypeId) (h : Tryz.prog.typeName? 3 u = some "*errors.errorString") : u = 151 :=
 typeName_ptr_named (nm := "errors.errorString") (by rw [star_err]; kernel_rfl) (by kernel_rfl) (by decide) u (by rw [star_err]; exact h)
def msOf (P : Program) (t : TypeId) : Array (String × TypeId) := match P.underlying t with | some (.interface ms) => ms | _ => #[]
def fOne (P : Program) (t : TypeId) : Field := match P.underlying t with | some (.struct fs) => fs.getD 0 default | _ => default
theorem laid_err {l : List (String × DataW Unit)} {W : World} {n : String} {g : Nat} {text : List UInt8} (hm : (n, .iface "*errors.errorString" (.ptr (.agg [.lit (.string text)]))) ∈ l) (h : laidMet Tryz.prog l W)
   (hg : Tryz.prog.globalNamed n = some g) (ht : (Tryz.prog.globals[g]?).map (·.type) = some 51) : ∃ u p, W.cell? ⟨g, 0, none⟩ = some (.iface u p) := by
 obtain ⟨r, hr⟩ := laid_mem hm h
 have hi : Tryz.prog.underlying 51 = some (.interface (msOf Tryz.prog 51)) := by kernel_rfl
 have hp : Tryz.prog.underlying 151 = some (.pointer 153) := by kernel_rfl
 have he : Tryz.prog.underlying 153 = some (.struct #[fOne Tryz.prog 153]) := by kernel_rfl
 have h1 : (fOne Tryz.prog 153).type = 9 := by kernel_rfl
 have h2 : (fOne Tryz.prog 153).offset = 0 := by kernel_rfl
 have h3 : Tryz.prog.underlying 9 = some .string := by kernel_rfl
 have h4 : Tryz.prog.cellsOf 153 = 1 := by kernel_rfl
 have h5 : Tryz.prog.cellsOf 9 = 1 := by kernel_rfl
 obtain ⟨a, s, hv, _⟩ := laid_sentinel hr hg ht hi row_err hp he h1 h2 h3 h4 h5
 exact ⟨_, _, by have := World.var?_cell hg hv 0; simpa using this⟩
set_option maxRecDepth 10000 in
theorem glob_of_laid {l : List (String × DataW Unit)} {W : World} (hm : ("internal/strconv.uint64pow10", Rows.laid_internal_strconv_uint64pow10) ∈ l) (hm2 : ("strconv.ErrSyntax", Rows.laid_strconv_ErrSyntax) ∈ l) (hm3 : ("strconv.ErrRange", Rows.laid_strconv_ErrRange) ∈ l) (h : laidMet Tryz.prog l W) : Glob W (fun b => (fun _ : Nat => False) (2 * b)) := by
 obtain ⟨g, t, cs, fuel, p, hg, hty, hvar, hd⟩ := Lib.laidMet.reads h hm
 have e1 : Tryz.prog.globalNamed "internal/strconv.uint64pow10" = some 1 := by kernel_rfl
 obtain rfl := Option.some.inj (e1.symm.trans hg)
 have e2 : (Tryz.prog.globals[1]?).map (·.type) = some 116 := by kernel_rfl
 obtain rfl := Option.some.inj (e2.symm.trans hty)
 have e3 : (Rows.laid_internal_strconv_uint64pow10 : DataW Unit) = Lib.tabData .u64 pow10L := by rfl
 rw [e3] at hd
 have hcs := Lib.cells_of_tab (n := 20) (e := 96) (by kernel_rfl) (by kernel_rfl) (by kernel_rfl) (by kernel_rfl) hd
 unfold World.var? at hvar
 rw [e1] at hvar
 simp only [Option.bind_some] at hvar
 have hg1 : ∃ t z, W.heap[1]? = some (.cells (pow10L.map fun n => Value.int .u64 n).toArray t z) := by
   split at hvar
   · next cs' t z he =>
     obtain rfl := Option.some.inj hvar
     refine ⟨t, z, ?_⟩
     rw [he, ← hcs]
   · cases hvar
 have hg2 := laid_err (n := "strconv.ErrSyntax") (g := 2) hm2 h (by kernel_rfl) (by kernel_rfl)
 have hg3 := laid_err (n := "strconv.ErrRange") (g := 3) hm3 h (by kernel_rfl) (by kernel_rfl)
 refine ⟨W, ⟨hg1, hg2, hg3⟩, fun g hg => ?_⟩
 refine ⟨fun h => h, ?_, rfl⟩
 simp only [globIds, List.mem_cons, List.not_mem_nil, or_false] at hg
 rcases hg with rfl | rfl | rfl
 · obtain ⟨t, z, h1⟩ := hg1
   by_cases hlt : 1 < W.heap.size
   · exact hlt
   · rw [Array.getElem?_eq_none (by omega)] at h1
     cases h1
 · obtain ⟨u, q, h1⟩ := hg2; exact Lib.lt_of_cell h1
 · obtain ⟨u, q, h1⟩ := hg3; exact Lib.lt_of_cell h1
theorem tab_of_glob {w : World} {X : Nat → Prop} (h : Glob w X) : Lib.TabIs Tryz.prog w "internal/strconv.uint64pow10" .u64 pow10L := by
 obtain ⟨W0, ⟨⟨t, z, h0⟩, _⟩, h1⟩ := h
 obtain ⟨_, _, h2⟩ := h1 1 (by simp [globIds])
 have e1 : Tryz.prog.globalNamed "internal/strconv.uint64pow10" = some 1 := by kernel_rfl
 unfold Lib.TabIs World.var?
 rw [e1]
 simp only [Option.bind_some]
 rw [h2, h0]
theorem cell_same {w w' : World} {g : Nat} (h : w.heap[g]? = w'.heap[g]?) : w.cell? ⟨g, 0, none⟩ = w'.cell? ⟨g, 0, none⟩ := by simp [World.cell?, h]
theorem err_of_glob {w : World} {X : Nat → Prop} (h : Glob w X) : (∃ u p, w.cell? ⟨2, 0, none⟩ = some (.iface u p)) ∧ (∃ u p, w.cell? ⟨3, 0, none⟩ = some (.iface u p)) := by
 obtain ⟨W0, ⟨_, ⟨u, p, h2⟩, ⟨u', p', h3⟩⟩, h1⟩ := h
 obtain ⟨_, _, k2⟩ := h1 2 (by simp [globIds])
 obtain ⟨_, _, k3⟩ := h1 3 (by simp [globIds])
 exact ⟨⟨u, p, (cell_same k2).trans h2⟩, ⟨u', p', (cell_same k3).trans h3⟩⟩
end Go.Lic
