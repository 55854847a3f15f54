/-
  walks and contracts
-/
import Derived.Test.YtkoomieafmjjfaaDoorLib
set_option linter.all false
namespace Go.Proofs.YtkoomieafmjjfaaDoor
open Go Go.Lic Go.Sort Go.Proofs

set_option maxRecDepth 10000
theorem mo : Tryd.prog.follows .mixedOrders = true := by kernel_rfl
theorem ti22 : TI Tryd.prog 22 1 false := .mk' (by kernel_rfl) (by kernel_rfl)
theorem ti23 : TI Tryd.prog 23 1 false := .mk' (by kernel_rfl) (by kernel_rfl)
theorem ti25 : TI Tryd.prog 25 4 true := .mk' (by kernel_rfl) (by kernel_rfl)
theorem ti3 : TI Tryd.prog 3 1 false := .mk' (by kernel_rfl) (by kernel_rfl)
theorem ti30 : TI Tryd.prog 30 1 false := .mk' (by kernel_rfl) (by kernel_rfl)
theorem ti32 : TI Tryd.prog 32 2 true := .mk' (by kernel_rfl) (by kernel_rfl)
theorem ti37 : TI Tryd.prog 37 2 true := .mk' (by kernel_rfl) (by kernel_rfl)
theorem ti40 : TI Tryd.prog 40 3 true := .mk' (by kernel_rfl) (by kernel_rfl)
theorem ti48 : TI Tryd.prog 48 2 true := .mk' (by kernel_rfl) (by kernel_rfl)
theorem ti5 : TI Tryd.prog 5 1 false := .mk' (by kernel_rfl) (by kernel_rfl)
theorem ti68 : TI Tryd.prog 68 1 false := .mk' (by kernel_rfl) (by kernel_rfl)
theorem ti9 : TI Tryd.prog 9 1 false := .mk' (by kernel_rfl) (by kernel_rfl)
theorem eg40 : Tryd.prog.eqGuardType Tryd.prog.depth 40 = false := by kernel_rfl
theorem en10 : entersB Tryd.prog 10 = true := by kernel_rfl
theorem en11 : entersB Tryd.prog 11 = true := by kernel_rfl
theorem en12 : entersB Tryd.prog 12 = true := by kernel_rfl
theorem en13 : entersB Tryd.prog 13 = true := by kernel_rfl
theorem en14 : entersB Tryd.prog 14 = true := by kernel_rfl
theorem en15 : entersB Tryd.prog 15 = true := by kernel_rfl
theorem en16 : entersB Tryd.prog 16 = true := by kernel_rfl
theorem en17 : entersB Tryd.prog 17 = true := by kernel_rfl
theorem en18 : entersB Tryd.prog 18 = true := by kernel_rfl
theorem en19 : entersB Tryd.prog 19 = true := by kernel_rfl
theorem en20 : entersB Tryd.prog 20 = true := by kernel_rfl
theorem en21 : entersB Tryd.prog 21 = true := by kernel_rfl
theorem en22 : entersB Tryd.prog 22 = true := by kernel_rfl
theorem en23 : entersB Tryd.prog 23 = true := by kernel_rfl
theorem en24 : entersB Tryd.prog 24 = true := by kernel_rfl
theorem en25 : entersB Tryd.prog 25 = true := by kernel_rfl
theorem en26 : entersB Tryd.prog 26 = true := by kernel_rfl
theorem en27 : entersB Tryd.prog 27 = true := by kernel_rfl
theorem en28 : entersB Tryd.prog 28 = true := by kernel_rfl
theorem en29 : entersB Tryd.prog 29 = true := by kernel_rfl
theorem en30 : entersB Tryd.prog 30 = true := by kernel_rfl
theorem en31 : entersB Tryd.prog 31 = true := by kernel_rfl
theorem en32 : entersB Tryd.prog 32 = true := by kernel_rfl
theorem en33 : entersB Tryd.prog 33 = true := by kernel_rfl
theorem en34 : entersB Tryd.prog 34 = true := by kernel_rfl
theorem en35 : entersB Tryd.prog 35 = true := by kernel_rfl
theorem en36 : entersB Tryd.prog 36 = true := by kernel_rfl
theorem en37 : entersB Tryd.prog 37 = true := by kernel_rfl
theorem en38 : entersB Tryd.prog 38 = true := by kernel_rfl
theorem en39 : entersB Tryd.prog 39 = true := by kernel_rfl
theorem en4 : entersB Tryd.prog 4 = true := by kernel_rfl
theorem en40 : entersB Tryd.prog 40 = true := by kernel_rfl
theorem en41 : entersB Tryd.prog 41 = true := by kernel_rfl
theorem en42 : entersB Tryd.prog 42 = true := by kernel_rfl
theorem en43 : entersB Tryd.prog 43 = true := by kernel_rfl
theorem en44 : entersB Tryd.prog 44 = true := by kernel_rfl
theorem en45 : entersB Tryd.prog 45 = true := by kernel_rfl
theorem en46 : entersB Tryd.prog 46 = true := by kernel_rfl
theorem en48 : entersB Tryd.prog 48 = true := by kernel_rfl
theorem en49 : entersB Tryd.prog 49 = true := by kernel_rfl
theorem en5 : entersB Tryd.prog 5 = true := by kernel_rfl
theorem en50 : entersB Tryd.prog 50 = true := by kernel_rfl
theorem en51 : entersB Tryd.prog 51 = true := by kernel_rfl
theorem en52 : entersB Tryd.prog 52 = true := by kernel_rfl
theorem en53 : entersB Tryd.prog 53 = true := by kernel_rfl
theorem en54 : entersB Tryd.prog 54 = true := by kernel_rfl
theorem en55 : entersB Tryd.prog 55 = true := by kernel_rfl
theorem en56 : entersB Tryd.prog 56 = true := by kernel_rfl
theorem en57 : entersB Tryd.prog 57 = true := by kernel_rfl
theorem en58 : entersB Tryd.prog 58 = true := by kernel_rfl
theorem en59 : entersB Tryd.prog 59 = true := by kernel_rfl
theorem en6 : entersB Tryd.prog 6 = true := by kernel_rfl
theorem en61 : entersB Tryd.prog 61 = true := by kernel_rfl
theorem en63 : entersB Tryd.prog 63 = true := by kernel_rfl
theorem en64 : entersB Tryd.prog 64 = true := by kernel_rfl
theorem en65 : entersB Tryd.prog 65 = true := by kernel_rfl
theorem en66 : entersB Tryd.prog 66 = true := by kernel_rfl
theorem en67 : entersB Tryd.prog 67 = true := by kernel_rfl
theorem en7 : entersB Tryd.prog 7 = true := by kernel_rfl
theorem en77 : entersB Tryd.prog 77 = true := by kernel_rfl
theorem en8 : entersB Tryd.prog 8 = true := by kernel_rfl
theorem en81 : entersB Tryd.prog 81 = true := by kernel_rfl
theorem en82 : entersB Tryd.prog 82 = true := by kernel_rfl
theorem en83 : entersB Tryd.prog 83 = true := by kernel_rfl
theorem en9 : entersB Tryd.prog 9 = true := by kernel_rfl
theorem en94 : entersB Tryd.prog 94 = true := by kernel_rfl
theorem su40 : Tryd.prog.underlying 40 = some (.struct (Tryd.prog.fieldsOf 40)) ∧ Tryd.prog.stoodInHeld 40 = false ∧ (Tryd.prog.fieldsOf 40).toList.map (fun f => (f.name == "_", f.offset, f.type)) = ([(0, 3), (1, 3), (2, 3)] : List (Nat × TypeId)).map (fun p => (false, p.1, p.2)) := ⟨by kernel_rfl, by kernel_rfl, by kernel_rfl⟩
theorem td114 : Tryd.prog.underlying 114 = some (.int .u64) := by kernel_rfl
theorem td3 : Tryd.prog.underlying 3 = some (.int .i64) := by kernel_rfl
theorem td4 : Tryd.prog.underlying 4 = some (.bool) := by kernel_rfl
theorem td5 : Tryd.prog.underlying 5 = some (.int .u8) := by kernel_rfl
theorem td67 : Tryd.prog.underlying 67 = some (.map 3 4) := by kernel_rfl
theorem td68 : Tryd.prog.underlying 68 = some (.map 3 3) := by kernel_rfl
theorem td9 : Tryd.prog.underlying 9 = some (.string) := by kernel_rfl
theorem td94 : Tryd.prog.underlying 94 = some (.int .u64) := by kernel_rfl
theorem tf25_0 : fieldOff Tryd.prog 25 0 = some 0 := by kernel_rfl
theorem tf25_1 : fieldOff Tryd.prog 25 1 = some 1 := by kernel_rfl
theorem tf25_2 : fieldOff Tryd.prog 25 2 = some 2 := by kernel_rfl
theorem tf25_3 : fieldOff Tryd.prog 25 3 = some 3 := by kernel_rfl
theorem tf32_0 : fieldOff Tryd.prog 32 0 = some 0 := by kernel_rfl
theorem tf32_1 : fieldOff Tryd.prog 32 1 = some 1 := by kernel_rfl
theorem tf37_0 : fieldOff Tryd.prog 37 0 = some 0 := by kernel_rfl
theorem tf37_1 : fieldOff Tryd.prog 37 1 = some 1 := by kernel_rfl
theorem tf40_0 : fieldOff Tryd.prog 40 0 = some 0 := by kernel_rfl
theorem tf40_1 : fieldOff Tryd.prog 40 1 = some 1 := by kernel_rfl
theorem tf40_2 : fieldOff Tryd.prog 40 2 = some 2 := by kernel_rfl
theorem tf48_0 : fieldOff Tryd.prog 48 0 = some 0 := by kernel_rfl
theorem tf48_1 : fieldOff Tryd.prog 48 1 = some 1 := by kernel_rfl
theorem tp25 : placesOf Tryd.prog 25 = some [(0, 1), (1, 1), (2, 1), (3, 1)] := by kernel_rfl
theorem tp32 : placesOf Tryd.prog 32 = some [(0, 1), (1, 1)] := by kernel_rfl
theorem tp37 : placesOf Tryd.prog 37 = some [(0, 1), (1, 1)] := by kernel_rfl
theorem tp40 : placesOf Tryd.prog 40 = some [(0, 1), (1, 1), (2, 1)] := by kernel_rfl
theorem tp48 : placesOf Tryd.prog 48 = some [(0, 1), (1, 1)] := by kernel_rfl
theorem ts22 : TS Tryd.prog 22 32 2 40 true := ⟨by kernel_rfl, ti32, by kernel_rfl, by kernel_rfl⟩
theorem ts23 : TS Tryd.prog 23 40 3 24 true := ⟨by kernel_rfl, ti40, by kernel_rfl, by kernel_rfl⟩
theorem ts30 : TS Tryd.prog 30 48 2 24 true := ⟨by kernel_rfl, ti48, by kernel_rfl, by kernel_rfl⟩
theorem ts33 : TS Tryd.prog 33 37 2 16 true := ⟨by kernel_rfl, ti37, by kernel_rfl, by kernel_rfl⟩
theorem ts49 : TS Tryd.prog 49 3 1 8 false := ⟨by kernel_rfl, ti3, by kernel_rfl, by kernel_rfl⟩
theorem ts74 : TS Tryd.prog 74 5 1 1 false := ⟨by kernel_rfl, ti5, by kernel_rfl, by kernel_rfl⟩
theorem ts84 : TS Tryd.prog 84 22 1 24 false := ⟨by kernel_rfl, ti22, by kernel_rfl, by kernel_rfl⟩
theorem ts87 : TS Tryd.prog 87 9 1 16 false := ⟨by kernel_rfl, ti9, by kernel_rfl, by kernel_rfl⟩
theorem tz25 : (Tryd.prog.info? 25).bind (·.zero) = some (.agg #[.int .i64 0, .int .i64 0, .slice none 0 0, .slice none 0 0]) := by kernel_rfl
theorem tz3 : (Tryd.prog.info? 3).bind (·.zero) = some (.int .i64 0) := by kernel_rfl
theorem tz32 : (Tryd.prog.info? 32).bind (·.zero) = some (.agg #[.string ⟨#[]⟩, .slice none 0 0]) := by kernel_rfl
theorem tz37 : (Tryd.prog.info? 37).bind (·.zero) = some (.agg #[.int .i64 0, .int .i64 0]) := by kernel_rfl
theorem tz4 : (Tryd.prog.info? 4).bind (·.zero) = some (.bool false) := by kernel_rfl
theorem tz40 : (Tryd.prog.info? 40).bind (·.zero) = some (.agg #[.int .i64 0, .int .i64 0, .int .i64 0]) := by kernel_rfl
theorem tz48 : (Tryd.prog.info? 48).bind (·.zero) = some (.agg #[.string ⟨#[]⟩, .int .i64 0]) := by kernel_rfl
theorem tz68 : (Tryd.prog.info? 68).bind (·.zero) = some (.map none) := by kernel_rfl
theorem tz9 : (Tryd.prog.info? 9).bind (·.zero) = some (.string ⟨#[]⟩) := by kernel_rfl



end Go.Proofs.YtkoomieafmjjfaaDoor
