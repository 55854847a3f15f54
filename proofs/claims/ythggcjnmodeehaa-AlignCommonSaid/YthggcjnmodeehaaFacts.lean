/-
  Closed facts on the types and functions, each by the kernel.
-/
import Derived.Test.YthggcjnmodeehaaRule2
import Derived.Test.YthggcjnmodeehaaChecked
set_option linter.all false
namespace Go.Proofs.Ythggcjnmodeehaa
open Go Go.Lic

theorem mo : Try.prog.follows .mixedOrders = true := by kernel_rfl

theorem ti22 : TI Try.prog 22 1 false := .mk' (by kernel_rfl) (by kernel_rfl)

theorem ti24 : TI Try.prog 24 3 true := .mk' (by kernel_rfl) (by kernel_rfl)

theorem ti25 : TI Try.prog 25 1 false := .mk' (by kernel_rfl) (by kernel_rfl)

theorem ti27 : TI Try.prog 27 2 true := .mk' (by kernel_rfl) (by kernel_rfl)

theorem ti3 : TI Try.prog 3 1 false := .mk' (by kernel_rfl) (by kernel_rfl)

theorem ti34 : TI Try.prog 34 2 true := .mk' (by kernel_rfl) (by kernel_rfl)

theorem ti40 : TI Try.prog 40 2 true := .mk' (by kernel_rfl) (by kernel_rfl)

theorem ti9 : TI Try.prog 9 1 false := .mk' (by kernel_rfl) (by kernel_rfl)

theorem eg34 : Try.prog.eqGuardType Try.prog.depth 34 = false := by kernel_rfl

theorem en10 : entersB Try.prog 10 = true := by kernel_rfl

theorem en11 : entersB Try.prog 11 = true := by kernel_rfl

theorem en12 : entersB Try.prog 12 = true := by kernel_rfl

theorem en13 : entersB Try.prog 13 = true := by kernel_rfl

theorem en14 : entersB Try.prog 14 = true := by kernel_rfl

theorem en15 : entersB Try.prog 15 = true := by kernel_rfl

theorem en16 : entersB Try.prog 16 = true := by kernel_rfl

theorem en17 : entersB Try.prog 17 = true := by kernel_rfl

theorem en20 : entersB Try.prog 20 = true := by kernel_rfl

theorem en24 : entersB Try.prog 24 = true := by kernel_rfl

theorem en30 : entersB Try.prog 30 = true := by kernel_rfl

theorem en32 : entersB Try.prog 32 = true := by kernel_rfl

theorem en33 : entersB Try.prog 33 = true := by kernel_rfl

theorem en34 : entersB Try.prog 34 = true := by kernel_rfl

theorem en35 : entersB Try.prog 35 = true := by kernel_rfl

theorem en36 : entersB Try.prog 36 = true := by kernel_rfl

theorem en37 : entersB Try.prog 37 = true := by kernel_rfl

theorem en38 : entersB Try.prog 38 = true := by kernel_rfl

theorem en39 : entersB Try.prog 39 = true := by kernel_rfl

theorem en40 : entersB Try.prog 40 = true := by kernel_rfl

theorem en41 : entersB Try.prog 41 = true := by kernel_rfl

theorem en43 : entersB Try.prog 43 = true := by kernel_rfl

theorem en45 : entersB Try.prog 45 = true := by kernel_rfl

theorem en46 : entersB Try.prog 46 = true := by kernel_rfl

theorem en47 : entersB Try.prog 47 = true := by kernel_rfl

theorem en48 : entersB Try.prog 48 = true := by kernel_rfl

theorem td34 : Try.prog.underlying 34 = some (.array 2 3) := by kernel_rfl

theorem td4 : Try.prog.underlying 4 = some (.bool) := by kernel_rfl

theorem td9 : Try.prog.underlying 9 = some (.string) := by kernel_rfl

theorem tf24_0 : fieldOff Try.prog 24 0 = some 0 := by kernel_rfl

theorem tf24_1 : fieldOff Try.prog 24 1 = some 1 := by kernel_rfl

theorem tf24_2 : fieldOff Try.prog 24 2 = some 2 := by kernel_rfl

theorem tf27_0 : fieldOff Try.prog 27 0 = some 0 := by kernel_rfl

theorem tf27_1 : fieldOff Try.prog 27 1 = some 1 := by kernel_rfl

theorem tf40_0 : fieldOff Try.prog 40 0 = some 0 := by kernel_rfl

theorem tp24 : placesOf Try.prog 24 = some [(0, 1), (1, 1), (2, 1)] := by kernel_rfl

theorem tp27 : placesOf Try.prog 27 = some [(0, 1), (1, 1)] := by kernel_rfl

theorem tp40 : placesOf Try.prog 40 = some [(0, 1), (1, 1)] := by kernel_rfl

theorem ts22 : TS Try.prog 22 40 2 24 true := ⟨by kernel_rfl, ti40, by kernel_rfl, by kernel_rfl⟩

theorem ts25 : TS Try.prog 25 3 1 8 false := ⟨by kernel_rfl, ti3, by kernel_rfl, by kernel_rfl⟩

theorem ts33 : TS Try.prog 33 34 2 16 true := ⟨by kernel_rfl, ti34, by kernel_rfl, by kernel_rfl⟩

theorem ts48 : TS Try.prog 48 25 1 24 false := ⟨by kernel_rfl, ti25, by kernel_rfl, by kernel_rfl⟩

theorem ts60 : TS Try.prog 60 22 1 24 false := ⟨by kernel_rfl, ti22, by kernel_rfl, by kernel_rfl⟩

theorem tz24 : (Try.prog.info? 24).bind (·.zero) = some (.agg #[.int .i64 0, .int .i64 0, .int .i64 0]) := by kernel_rfl

theorem tz25 : (Try.prog.info? 25).bind (·.zero) = some (.slice none 0 0) := by kernel_rfl

theorem tz27 : (Try.prog.info? 27).bind (·.zero) = some (.agg #[.int .i64 0, .slice none 0 0]) := by kernel_rfl

theorem tz3 : (Try.prog.info? 3).bind (·.zero) = some (.int .i64 0) := by kernel_rfl

theorem tz34 : (Try.prog.info? 34).bind (·.zero) = some (.agg #[.int .i64 0, .int .i64 0]) := by kernel_rfl

theorem tz40 : (Try.prog.info? 40).bind (·.zero) = some (.agg #[.string ⟨#[]⟩, .int .i64 0]) := by kernel_rfl

theorem tzs27 : ((Try.prog.info? 27).bind (·.zero)).map (·.cells.size) = some 2 := by kernel_rfl
end Go.Proofs.Ythggcjnmodeehaa
