/-
  walks and contracts
-/
import Derived.Test.YtkoomieafmjjfaaGreatDoorLib
set_option linter.all false
namespace Go.Proofs.YtkoomieafmjjfaaGreatDoor
open Go Go.Lic Go.Sort Go.Proofs

set_option maxRecDepth 10000
theorem mo : Tryz.prog.follows .mixedOrders = true := by kernel_rfl
theorem ti22 : TI Tryz.prog 22 1 false := .mk' (by kernel_rfl) (by kernel_rfl)
theorem ti23 : TI Tryz.prog 23 1 false := .mk' (by kernel_rfl) (by kernel_rfl)
theorem ti25 : TI Tryz.prog 25 4 true := .mk' (by kernel_rfl) (by kernel_rfl)
theorem ti3 : TI Tryz.prog 3 1 false := .mk' (by kernel_rfl) (by kernel_rfl)
theorem ti34 : TI Tryz.prog 34 1 false := .mk' (by kernel_rfl) (by kernel_rfl)
theorem ti36 : TI Tryz.prog 36 2 true := .mk' (by kernel_rfl) (by kernel_rfl)
theorem ti46 : TI Tryz.prog 46 3 true := .mk' (by kernel_rfl) (by kernel_rfl)
theorem ti5 : TI Tryz.prog 5 1 false := .mk' (by kernel_rfl) (by kernel_rfl)
theorem ti60 : TI Tryz.prog 60 2 true := .mk' (by kernel_rfl) (by kernel_rfl)
theorem ti72 : TI Tryz.prog 72 2 true := .mk' (by kernel_rfl) (by kernel_rfl)
theorem ti84 : TI Tryz.prog 84 1 false := .mk' (by kernel_rfl) (by kernel_rfl)
theorem ti9 : TI Tryz.prog 9 1 false := .mk' (by kernel_rfl) (by kernel_rfl)
theorem eg46 : Tryz.prog.eqGuardType Tryz.prog.depth 46 = false := by kernel_rfl
theorem eg72 : Tryz.prog.eqGuardType Tryz.prog.depth 72 = false := by kernel_rfl
theorem en10 : entersB Tryz.prog 10 = true := by kernel_rfl
theorem en106 : entersB Tryz.prog 106 = true := by kernel_rfl
theorem en107 : entersB Tryz.prog 107 = true := by kernel_rfl
theorem en108 : entersB Tryz.prog 108 = true := by kernel_rfl
theorem en109 : entersB Tryz.prog 109 = true := by kernel_rfl
theorem en11 : entersB Tryz.prog 11 = true := by kernel_rfl
theorem en111 : entersB Tryz.prog 111 = true := by kernel_rfl
theorem en113 : entersB Tryz.prog 113 = true := by kernel_rfl
theorem en114 : entersB Tryz.prog 114 = true := by kernel_rfl
theorem en115 : entersB Tryz.prog 115 = true := by kernel_rfl
theorem en116 : entersB Tryz.prog 116 = true := by kernel_rfl
theorem en117 : entersB Tryz.prog 117 = true := by kernel_rfl
theorem en118 : entersB Tryz.prog 118 = true := by kernel_rfl
theorem en119 : entersB Tryz.prog 119 = true := by kernel_rfl
theorem en12 : entersB Tryz.prog 12 = true := by kernel_rfl
theorem en120 : entersB Tryz.prog 120 = true := by kernel_rfl
theorem en121 : entersB Tryz.prog 121 = true := by kernel_rfl
theorem en122 : entersB Tryz.prog 122 = true := by kernel_rfl
theorem en129 : entersB Tryz.prog 129 = true := by kernel_rfl
theorem en13 : entersB Tryz.prog 13 = true := by kernel_rfl
theorem en14 : entersB Tryz.prog 14 = true := by kernel_rfl
theorem en141 : entersB Tryz.prog 141 = true := by kernel_rfl
theorem en143 : entersB Tryz.prog 143 = true := by kernel_rfl
theorem en144 : entersB Tryz.prog 144 = true := by kernel_rfl
theorem en145 : entersB Tryz.prog 145 = true := by kernel_rfl
theorem en146 : entersB Tryz.prog 146 = true := by kernel_rfl
theorem en15 : entersB Tryz.prog 15 = true := by kernel_rfl
theorem en16 : entersB Tryz.prog 16 = true := by kernel_rfl
theorem en160 : entersB Tryz.prog 160 = true := by kernel_rfl
theorem en161 : entersB Tryz.prog 161 = true := by kernel_rfl
theorem en162 : entersB Tryz.prog 162 = true := by kernel_rfl
theorem en167 : entersB Tryz.prog 167 = true := by kernel_rfl
theorem en17 : entersB Tryz.prog 17 = true := by kernel_rfl
theorem en18 : entersB Tryz.prog 18 = true := by kernel_rfl
theorem en19 : entersB Tryz.prog 19 = true := by kernel_rfl
theorem en20 : entersB Tryz.prog 20 = true := by kernel_rfl
theorem en21 : entersB Tryz.prog 21 = true := by kernel_rfl
theorem en22 : entersB Tryz.prog 22 = true := by kernel_rfl
theorem en23 : entersB Tryz.prog 23 = true := by kernel_rfl
theorem en24 : entersB Tryz.prog 24 = true := by kernel_rfl
theorem en25 : entersB Tryz.prog 25 = true := by kernel_rfl
theorem en26 : entersB Tryz.prog 26 = true := by kernel_rfl
theorem en27 : entersB Tryz.prog 27 = true := by kernel_rfl
theorem en29 : entersB Tryz.prog 29 = true := by kernel_rfl
theorem en40 : entersB Tryz.prog 40 = true := by kernel_rfl
theorem en43 : entersB Tryz.prog 43 = true := by kernel_rfl
theorem en44 : entersB Tryz.prog 44 = true := by kernel_rfl
theorem en45 : entersB Tryz.prog 45 = true := by kernel_rfl
theorem en46 : entersB Tryz.prog 46 = true := by kernel_rfl
theorem en47 : entersB Tryz.prog 47 = true := by kernel_rfl
theorem en48 : entersB Tryz.prog 48 = true := by kernel_rfl
theorem en49 : entersB Tryz.prog 49 = true := by kernel_rfl
theorem en50 : entersB Tryz.prog 50 = true := by kernel_rfl
theorem en51 : entersB Tryz.prog 51 = true := by kernel_rfl
theorem en52 : entersB Tryz.prog 52 = true := by kernel_rfl
theorem en53 : entersB Tryz.prog 53 = true := by kernel_rfl
theorem en54 : entersB Tryz.prog 54 = true := by kernel_rfl
theorem en55 : entersB Tryz.prog 55 = true := by kernel_rfl
theorem en56 : entersB Tryz.prog 56 = true := by kernel_rfl
theorem en57 : entersB Tryz.prog 57 = true := by kernel_rfl
theorem en58 : entersB Tryz.prog 58 = true := by kernel_rfl
theorem en59 : entersB Tryz.prog 59 = true := by kernel_rfl
theorem en60 : entersB Tryz.prog 60 = true := by kernel_rfl
theorem en61 : entersB Tryz.prog 61 = true := by kernel_rfl
theorem en62 : entersB Tryz.prog 62 = true := by kernel_rfl
theorem en63 : entersB Tryz.prog 63 = true := by kernel_rfl
theorem en64 : entersB Tryz.prog 64 = true := by kernel_rfl
theorem en65 : entersB Tryz.prog 65 = true := by kernel_rfl
theorem en66 : entersB Tryz.prog 66 = true := by kernel_rfl
theorem en78 : entersB Tryz.prog 78 = true := by kernel_rfl
theorem en79 : entersB Tryz.prog 79 = true := by kernel_rfl
theorem en80 : entersB Tryz.prog 80 = true := by kernel_rfl
theorem en81 : entersB Tryz.prog 81 = true := by kernel_rfl
theorem en82 : entersB Tryz.prog 82 = true := by kernel_rfl
theorem en83 : entersB Tryz.prog 83 = true := by kernel_rfl
theorem en84 : entersB Tryz.prog 84 = true := by kernel_rfl
theorem en85 : entersB Tryz.prog 85 = true := by kernel_rfl
theorem en86 : entersB Tryz.prog 86 = true := by kernel_rfl
theorem en87 : entersB Tryz.prog 87 = true := by kernel_rfl
theorem en89 : entersB Tryz.prog 89 = true := by kernel_rfl
theorem en9 : entersB Tryz.prog 9 = true := by kernel_rfl
theorem en90 : entersB Tryz.prog 90 = true := by kernel_rfl
theorem en91 : entersB Tryz.prog 91 = true := by kernel_rfl
theorem en92 : entersB Tryz.prog 92 = true := by kernel_rfl
theorem en93 : entersB Tryz.prog 93 = true := by kernel_rfl
theorem en94 : entersB Tryz.prog 94 = true := by kernel_rfl
theorem en95 : entersB Tryz.prog 95 = true := by kernel_rfl
theorem en96 : entersB Tryz.prog 96 = true := by kernel_rfl
theorem en97 : entersB Tryz.prog 97 = true := by kernel_rfl
theorem en98 : entersB Tryz.prog 98 = true := by kernel_rfl
theorem su46 : Tryz.prog.underlying 46 = some (.struct (Tryz.prog.fieldsOf 46)) ∧ Tryz.prog.stoodInHeld 46 = false ∧ (Tryz.prog.fieldsOf 46).toList.map (fun f => (f.name == "_", f.offset, f.type)) = ([(0, 3), (1, 3), (2, 3)] : List (Nat × TypeId)).map (fun p => (false, p.1, p.2)) := ⟨by kernel_rfl, by kernel_rfl, by kernel_rfl⟩
theorem su72 : Tryz.prog.underlying 72 = some (.struct (Tryz.prog.fieldsOf 72)) ∧ Tryz.prog.stoodInHeld 72 = false ∧ (Tryz.prog.fieldsOf 72).toList.map (fun f => (f.name == "_", f.offset, f.type)) = ([(0, 9), (1, 3)] : List (Nat × TypeId)).map (fun p => (false, p.1, p.2)) := ⟨by kernel_rfl, by kernel_rfl, by kernel_rfl⟩
theorem td130 : Tryz.prog.underlying 130 = some (.int .u64) := by kernel_rfl
theorem td132 : Tryz.prog.underlying 132 = some (.int .u64) := by kernel_rfl
theorem td3 : Tryz.prog.underlying 3 = some (.int .i64) := by kernel_rfl
theorem td4 : Tryz.prog.underlying 4 = some (.bool) := by kernel_rfl
theorem td5 : Tryz.prog.underlying 5 = some (.int .u8) := by kernel_rfl
theorem td83 : Tryz.prog.underlying 83 = some (.map 3 4) := by kernel_rfl
theorem td84 : Tryz.prog.underlying 84 = some (.map 3 3) := by kernel_rfl
theorem td9 : Tryz.prog.underlying 9 = some (.string) := by kernel_rfl
theorem tf25_0 : fieldOff Tryz.prog 25 0 = some 0 := by kernel_rfl
theorem tf25_1 : fieldOff Tryz.prog 25 1 = some 1 := by kernel_rfl
theorem tf25_2 : fieldOff Tryz.prog 25 2 = some 2 := by kernel_rfl
theorem tf25_3 : fieldOff Tryz.prog 25 3 = some 3 := by kernel_rfl
theorem tf36_0 : fieldOff Tryz.prog 36 0 = some 0 := by kernel_rfl
theorem tf36_1 : fieldOff Tryz.prog 36 1 = some 1 := by kernel_rfl
theorem tf46_0 : fieldOff Tryz.prog 46 0 = some 0 := by kernel_rfl
theorem tf46_1 : fieldOff Tryz.prog 46 1 = some 1 := by kernel_rfl
theorem tf46_2 : fieldOff Tryz.prog 46 2 = some 2 := by kernel_rfl
theorem tf60_0 : fieldOff Tryz.prog 60 0 = some 0 := by kernel_rfl
theorem tf60_1 : fieldOff Tryz.prog 60 1 = some 1 := by kernel_rfl
theorem tf72_0 : fieldOff Tryz.prog 72 0 = some 0 := by kernel_rfl
theorem tf72_1 : fieldOff Tryz.prog 72 1 = some 1 := by kernel_rfl
theorem tp25 : placesOf Tryz.prog 25 = some [(0, 1), (1, 1), (2, 1), (3, 1)] := by kernel_rfl
theorem tp36 : placesOf Tryz.prog 36 = some [(0, 1), (1, 1)] := by kernel_rfl
theorem tp46 : placesOf Tryz.prog 46 = some [(0, 1), (1, 1), (2, 1)] := by kernel_rfl
theorem tp60 : placesOf Tryz.prog 60 = some [(0, 1), (1, 1)] := by kernel_rfl
theorem tp72 : placesOf Tryz.prog 72 = some [(0, 1), (1, 1)] := by kernel_rfl
theorem ts108 : TS Tryz.prog 108 22 1 24 false := ⟨by kernel_rfl, ti22, by kernel_rfl, by kernel_rfl⟩
theorem ts118 : TS Tryz.prog 118 9 1 16 false := ⟨by kernel_rfl, ti9, by kernel_rfl, by kernel_rfl⟩
theorem ts22 : TS Tryz.prog 22 36 2 40 true := ⟨by kernel_rfl, ti36, by kernel_rfl, by kernel_rfl⟩
theorem ts23 : TS Tryz.prog 23 46 3 24 true := ⟨by kernel_rfl, ti46, by kernel_rfl, by kernel_rfl⟩
theorem ts34 : TS Tryz.prog 34 72 2 24 true := ⟨by kernel_rfl, ti72, by kernel_rfl, by kernel_rfl⟩
theorem ts41 : TS Tryz.prog 41 3 1 8 false := ⟨by kernel_rfl, ti3, by kernel_rfl, by kernel_rfl⟩
theorem ts53 : TS Tryz.prog 53 60 2 16 true := ⟨by kernel_rfl, ti60, by kernel_rfl, by kernel_rfl⟩
theorem ts90 : TS Tryz.prog 90 5 1 1 false := ⟨by kernel_rfl, ti5, by kernel_rfl, by kernel_rfl⟩
theorem tz25 : (Tryz.prog.info? 25).bind (·.zero) = some (.agg #[.int .i64 0, .int .i64 0, .slice none 0 0, .slice none 0 0]) := by kernel_rfl
theorem tz3 : (Tryz.prog.info? 3).bind (·.zero) = some (.int .i64 0) := by kernel_rfl
theorem tz36 : (Tryz.prog.info? 36).bind (·.zero) = some (.agg #[.string ⟨#[]⟩, .slice none 0 0]) := by kernel_rfl
theorem tz4 : (Tryz.prog.info? 4).bind (·.zero) = some (.bool false) := by kernel_rfl
theorem tz46 : (Tryz.prog.info? 46).bind (·.zero) = some (.agg #[.int .i64 0, .int .i64 0, .int .i64 0]) := by kernel_rfl
theorem tz60 : (Tryz.prog.info? 60).bind (·.zero) = some (.agg #[.int .i64 0, .int .i64 0]) := by kernel_rfl
theorem tz72 : (Tryz.prog.info? 72).bind (·.zero) = some (.agg #[.string ⟨#[]⟩, .int .i64 0]) := by kernel_rfl
theorem tz84 : (Tryz.prog.info? 84).bind (·.zero) = some (.map none) := by kernel_rfl
theorem tz9 : (Tryz.prog.info? 9).bind (·.zero) = some (.string ⟨#[]⟩) := by kernel_rfl
end Go.Proofs.YtkoomieafmjjfaaGreatDoor
