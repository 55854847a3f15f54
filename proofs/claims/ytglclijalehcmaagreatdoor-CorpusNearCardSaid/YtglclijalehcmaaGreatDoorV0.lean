/-
  walks and contracts
-/
import Derived.Test.YtglclijalehcmaaGreatDoorLib
set_option linter.all false
namespace Go.Proofs.YtglclijalehcmaaGreatDoor
open Go Go.Lic Go.Sort Go.Proofs

set_option maxRecDepth 10000
theorem mo : Tryz.prog.follows .mixedOrders = true := by kernel_rfl
theorem ti107 : TI Tryz.prog 107 3 true := .mk' (by kernel_rfl) (by kernel_rfl)
theorem ti115 : TI Tryz.prog 115 1 false := .mk' (by kernel_rfl) (by kernel_rfl)
theorem ti22 : TI Tryz.prog 22 1 false := .mk' (by kernel_rfl) (by kernel_rfl)
theorem ti23 : TI Tryz.prog 23 1 false := .mk' (by kernel_rfl) (by kernel_rfl)
theorem ti25 : TI Tryz.prog 25 4 true := .mk' (by kernel_rfl) (by kernel_rfl)
theorem ti26 : TI Tryz.prog 26 1 false := .mk' (by kernel_rfl) (by kernel_rfl)
theorem ti28 : TI Tryz.prog 28 2 true := .mk' (by kernel_rfl) (by kernel_rfl)
theorem ti3 : TI Tryz.prog 3 1 false := .mk' (by kernel_rfl) (by kernel_rfl)
theorem ti5 : TI Tryz.prog 5 1 false := .mk' (by kernel_rfl) (by kernel_rfl)
theorem ti61 : TI Tryz.prog 61 2 true := .mk' (by kernel_rfl) (by kernel_rfl)
theorem ti77 : TI Tryz.prog 77 1 false := .mk' (by kernel_rfl) (by kernel_rfl)
theorem ti83 : TI Tryz.prog 83 2 true := .mk' (by kernel_rfl) (by kernel_rfl)
theorem ti9 : TI Tryz.prog 9 1 false := .mk' (by kernel_rfl) (by kernel_rfl)
theorem eg107 : Tryz.prog.eqGuardType Tryz.prog.depth 107 = false := by kernel_rfl
theorem en10 : entersB Tryz.prog 10 = true := by kernel_rfl
theorem en102 : entersB Tryz.prog 102 = true := by kernel_rfl
theorem en103 : entersB Tryz.prog 103 = true := by kernel_rfl
theorem en104 : entersB Tryz.prog 104 = true := by kernel_rfl
theorem en105 : entersB Tryz.prog 105 = true := by kernel_rfl
theorem en106 : entersB Tryz.prog 106 = true := by kernel_rfl
theorem en107 : entersB Tryz.prog 107 = true := by kernel_rfl
theorem en108 : entersB Tryz.prog 108 = true := by kernel_rfl
theorem en109 : entersB Tryz.prog 109 = true := by kernel_rfl
theorem en110 : entersB Tryz.prog 110 = true := by kernel_rfl
theorem en111 : entersB Tryz.prog 111 = true := by kernel_rfl
theorem en112 : entersB Tryz.prog 112 = true := by kernel_rfl
theorem en113 : entersB Tryz.prog 113 = true := by kernel_rfl
theorem en115 : entersB Tryz.prog 115 = true := by kernel_rfl
theorem en116 : entersB Tryz.prog 116 = true := by kernel_rfl
theorem en117 : entersB Tryz.prog 117 = true := by kernel_rfl
theorem en119 : entersB Tryz.prog 119 = true := by kernel_rfl
theorem en120 : entersB Tryz.prog 120 = true := by kernel_rfl
theorem en126 : entersB Tryz.prog 126 = true := by kernel_rfl
theorem en129 : entersB Tryz.prog 129 = true := by kernel_rfl
theorem en130 : entersB Tryz.prog 130 = true := by kernel_rfl
theorem en131 : entersB Tryz.prog 131 = true := by kernel_rfl
theorem en132 : entersB Tryz.prog 132 = true := by kernel_rfl
theorem en133 : entersB Tryz.prog 133 = true := by kernel_rfl
theorem en134 : entersB Tryz.prog 134 = true := by kernel_rfl
theorem en135 : entersB Tryz.prog 135 = true := by kernel_rfl
theorem en136 : entersB Tryz.prog 136 = true := by kernel_rfl
theorem en137 : entersB Tryz.prog 137 = true := by kernel_rfl
theorem en139 : entersB Tryz.prog 139 = true := by kernel_rfl
theorem en140 : entersB Tryz.prog 140 = true := by kernel_rfl
theorem en141 : entersB Tryz.prog 141 = true := by kernel_rfl
theorem en142 : entersB Tryz.prog 142 = true := by kernel_rfl
theorem en159 : entersB Tryz.prog 159 = true := by kernel_rfl
theorem en168 : entersB Tryz.prog 168 = true := by kernel_rfl
theorem en169 : entersB Tryz.prog 169 = true := by kernel_rfl
theorem en170 : entersB Tryz.prog 170 = true := by kernel_rfl
theorem en172 : entersB Tryz.prog 172 = true := by kernel_rfl
theorem en196 : entersB Tryz.prog 196 = true := by kernel_rfl
theorem en32 : entersB Tryz.prog 32 = true := by kernel_rfl
theorem en36 : entersB Tryz.prog 36 = true := by kernel_rfl
theorem en37 : entersB Tryz.prog 37 = true := by kernel_rfl
theorem en38 : entersB Tryz.prog 38 = true := by kernel_rfl
theorem en39 : entersB Tryz.prog 39 = true := by kernel_rfl
theorem en40 : entersB Tryz.prog 40 = true := by kernel_rfl
theorem en41 : entersB Tryz.prog 41 = true := by kernel_rfl
theorem en42 : entersB Tryz.prog 42 = true := by kernel_rfl
theorem en43 : entersB Tryz.prog 43 = true := by kernel_rfl
theorem en44 : entersB Tryz.prog 44 = true := by kernel_rfl
theorem en45 : entersB Tryz.prog 45 = true := by kernel_rfl
theorem en47 : entersB Tryz.prog 47 = true := by kernel_rfl
theorem en67 : entersB Tryz.prog 67 = true := by kernel_rfl
theorem en68 : entersB Tryz.prog 68 = true := by kernel_rfl
theorem en69 : entersB Tryz.prog 69 = true := by kernel_rfl
theorem en70 : entersB Tryz.prog 70 = true := by kernel_rfl
theorem en71 : entersB Tryz.prog 71 = true := by kernel_rfl
theorem en72 : entersB Tryz.prog 72 = true := by kernel_rfl
theorem en73 : entersB Tryz.prog 73 = true := by kernel_rfl
theorem en74 : entersB Tryz.prog 74 = true := by kernel_rfl
theorem en75 : entersB Tryz.prog 75 = true := by kernel_rfl
theorem en76 : entersB Tryz.prog 76 = true := by kernel_rfl
theorem en77 : entersB Tryz.prog 77 = true := by kernel_rfl
theorem en78 : entersB Tryz.prog 78 = true := by kernel_rfl
theorem en79 : entersB Tryz.prog 79 = true := by kernel_rfl
theorem en80 : entersB Tryz.prog 80 = true := by kernel_rfl
theorem en81 : entersB Tryz.prog 81 = true := by kernel_rfl
theorem en82 : entersB Tryz.prog 82 = true := by kernel_rfl
theorem en83 : entersB Tryz.prog 83 = true := by kernel_rfl
theorem en9 : entersB Tryz.prog 9 = true := by kernel_rfl
theorem su107 : Tryz.prog.underlying 107 = some (.struct (Tryz.prog.fieldsOf 107)) ∧ Tryz.prog.stoodInHeld 107 = false ∧ (Tryz.prog.fieldsOf 107).toList.map (fun f => (f.name == "_", f.offset, f.type)) = ([(0, 3), (1, 3), (2, 3)] : List (Nat × TypeId)).map (fun p => (false, p.1, p.2)) := ⟨by kernel_rfl, by kernel_rfl, by kernel_rfl⟩
theorem td115 : Tryz.prog.underlying 115 = some (.map 3 3) := by kernel_rfl
theorem td163 : Tryz.prog.underlying 163 = some (.int .u64) := by kernel_rfl
theorem td193 : Tryz.prog.underlying 193 = some (.int .u64) := by kernel_rfl
theorem td3 : Tryz.prog.underlying 3 = some (.int .i64) := by kernel_rfl
theorem td4 : Tryz.prog.underlying 4 = some (.bool) := by kernel_rfl
theorem td5 : Tryz.prog.underlying 5 = some (.int .u8) := by kernel_rfl
theorem td59 : Tryz.prog.underlying 59 = some (.map 3 4) := by kernel_rfl
theorem td9 : Tryz.prog.underlying 9 = some (.string) := by kernel_rfl
theorem tf107_0 : fieldOff Tryz.prog 107 0 = some 0 := by kernel_rfl
theorem tf107_1 : fieldOff Tryz.prog 107 1 = some 1 := by kernel_rfl
theorem tf107_2 : fieldOff Tryz.prog 107 2 = some 2 := by kernel_rfl
theorem tf25_0 : fieldOff Tryz.prog 25 0 = some 0 := by kernel_rfl
theorem tf25_1 : fieldOff Tryz.prog 25 1 = some 1 := by kernel_rfl
theorem tf25_2 : fieldOff Tryz.prog 25 2 = some 2 := by kernel_rfl
theorem tf25_3 : fieldOff Tryz.prog 25 3 = some 3 := by kernel_rfl
theorem tf28_0 : fieldOff Tryz.prog 28 0 = some 0 := by kernel_rfl
theorem tf28_1 : fieldOff Tryz.prog 28 1 = some 1 := by kernel_rfl
theorem tf61_0 : fieldOff Tryz.prog 61 0 = some 0 := by kernel_rfl
theorem tf61_1 : fieldOff Tryz.prog 61 1 = some 1 := by kernel_rfl
theorem tf83_0 : fieldOff Tryz.prog 83 0 = some 0 := by kernel_rfl
theorem tf83_1 : fieldOff Tryz.prog 83 1 = some 1 := by kernel_rfl
theorem tp107 : placesOf Tryz.prog 107 = some [(0, 1), (1, 1), (2, 1)] := by kernel_rfl
theorem tp25 : placesOf Tryz.prog 25 = some [(0, 1), (1, 1), (2, 1), (3, 1)] := by kernel_rfl
theorem tp28 : placesOf Tryz.prog 28 = some [(0, 1), (1, 1)] := by kernel_rfl
theorem tp61 : placesOf Tryz.prog 61 = some [(0, 1), (1, 1)] := by kernel_rfl
theorem tp83 : placesOf Tryz.prog 83 = some [(0, 1), (1, 1)] := by kernel_rfl
theorem ts113 : TS Tryz.prog 113 5 1 1 false := ⟨by kernel_rfl, ti5, by kernel_rfl, by kernel_rfl⟩
theorem ts150 : TS Tryz.prog 150 9 1 16 false := ⟨by kernel_rfl, ti9, by kernel_rfl, by kernel_rfl⟩
theorem ts172 : TS Tryz.prog 172 22 1 24 false := ⟨by kernel_rfl, ti22, by kernel_rfl, by kernel_rfl⟩
theorem ts22 : TS Tryz.prog 22 28 2 40 true := ⟨by kernel_rfl, ti28, by kernel_rfl, by kernel_rfl⟩
theorem ts23 : TS Tryz.prog 23 107 3 24 true := ⟨by kernel_rfl, ti107, by kernel_rfl, by kernel_rfl⟩
theorem ts26 : TS Tryz.prog 26 61 2 24 true := ⟨by kernel_rfl, ti61, by kernel_rfl, by kernel_rfl⟩
theorem ts67 : TS Tryz.prog 67 3 1 8 false := ⟨by kernel_rfl, ti3, by kernel_rfl, by kernel_rfl⟩
theorem ts77 : TS Tryz.prog 77 83 2 16 true := ⟨by kernel_rfl, ti83, by kernel_rfl, by kernel_rfl⟩
theorem tz107 : (Tryz.prog.info? 107).bind (·.zero) = some (.agg #[.int .i64 0, .int .i64 0, .int .i64 0]) := by kernel_rfl
theorem tz115 : (Tryz.prog.info? 115).bind (·.zero) = some (.map none) := by kernel_rfl
theorem tz25 : (Tryz.prog.info? 25).bind (·.zero) = some (.agg #[.int .i64 0, .int .i64 0, .slice none 0 0, .slice none 0 0]) := by kernel_rfl
theorem tz28 : (Tryz.prog.info? 28).bind (·.zero) = some (.agg #[.string ⟨#[]⟩, .slice none 0 0]) := by kernel_rfl
theorem tz3 : (Tryz.prog.info? 3).bind (·.zero) = some (.int .i64 0) := by kernel_rfl
theorem tz4 : (Tryz.prog.info? 4).bind (·.zero) = some (.bool false) := by kernel_rfl
theorem tz61 : (Tryz.prog.info? 61).bind (·.zero) = some (.agg #[.string ⟨#[]⟩, .int .i64 0]) := by kernel_rfl
theorem tz77 : (Tryz.prog.info? 77).bind (·.zero) = some (.slice none 0 0) := by kernel_rfl
theorem tz83 : (Tryz.prog.info? 83).bind (·.zero) = some (.agg #[.int .i64 0, .int .i64 0]) := by kernel_rfl
theorem tz9 : (Tryz.prog.info? 9).bind (·.zero) = some (.string ⟨#[]⟩) := by kernel_rfl



end Go.Proofs.YtglclijalehcmaaGreatDoor
