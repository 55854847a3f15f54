/-
  What is known of package-level variables: the table of powers of ten; two errors of the library.
-/
import Derived.Test.YtjncggaheahjiaaGreatDoorBase
set_option linter.all false
namespace Go.Lic
def globIds : List Nat := [1, 2, 3]
def pow10L : List Int := [1, 10, 100, 1000, 10000, 100000, 1000000, 10000000, 100000000, 1000000000, 10000000000, 100000000000, 1000000000000, 10000000000000, 100000000000000, 1000000000000000, 10000000000000000, 100000000000000000, 1000000000000000000, 10000000000000000000]
def globP (w : World) : Prop := (∃ t z, w.heap[1]? = some (.cells (pow10L.map fun n => Value.int .u64 n).toArray t z)) ∧ (∃ u p, w.cell? ⟨2, 0, none⟩ = some (.iface u p)) ∧ (∃ u p, w.cell? ⟨3, 0, none⟩ = some (.iface u p))
end Go.Lic
