/-
  walks and contracts
-/
import Derived.Test.YtglclijalehcmaaGreatDoorLib
import Derived.Test.YtglclijalehcmaaGreatDoorLm
import Derived.Test.YtglclijalehcmaaGreatDoorKm
import Derived.Test.YtglclijalehcmaaGreatDoorSm
set_option linter.all false
namespace Go.Proofs.YtglclijalehcmaaGreatDoor
open Go Go.Lic Go.Sort Go.Proofs
set_option maxRecDepth 10000
theorem mo : Tryz.prog.follows .mixedOrders = true := by kernel_rfl
theorem ti122 : TI Tryz.prog 122 1 false := .mk' (by kernel_rfl) (by kernel_rfl)
theorem ti123 : TI Tryz.prog 123 1 false := .mk' (by kernel_rfl) (by kernel_rfl)
theorem ti130 : TI Tryz.prog 130 2 true := .mk' (by kernel_rfl) (by kernel_rfl)
theorem ti159 : TI Tryz.prog 159 3 true := .mk' (by kernel_rfl) (by kernel_rfl)
theorem ti22 : TI Tryz.prog 22 1 false := .mk' (by kernel_rfl) (by kernel_rfl)
theorem ti26 : TI Tryz.prog 26 1 false := .mk' (by kernel_rfl) (by kernel_rfl)
theorem ti28 : TI Tryz.prog 28 2 true := .mk' (by kernel_rfl) (by kernel_rfl)
theorem ti3 : TI Tryz.prog 3 1 false := .mk' (by kernel_rfl) (by kernel_rfl)
theorem ti38 : TI Tryz.prog 38 5 true := .mk' (by kernel_rfl) (by kernel_rfl)
theorem ti5 : TI Tryz.prog 5 1 false := .mk' (by kernel_rfl) (by kernel_rfl)
theorem ti51 : TI Tryz.prog 51 1 false := .mk' (by kernel_rfl) (by kernel_rfl)
theorem ti56 : TI Tryz.prog 56 3 true := .mk' (by kernel_rfl) (by kernel_rfl)
theorem ti61 : TI Tryz.prog 61 2 true := .mk' (by kernel_rfl) (by kernel_rfl)
theorem ti65 : TI Tryz.prog 65 2 true := .mk' (by kernel_rfl) (by kernel_rfl)
theorem ti67 : TI Tryz.prog 67 1 false := .mk' (by kernel_rfl) (by kernel_rfl)
theorem ti77 : TI Tryz.prog 77 1 false := .mk' (by kernel_rfl) (by kernel_rfl)
theorem ti83 : TI Tryz.prog 83 2 true := .mk' (by kernel_rfl) (by kernel_rfl)
theorem ti9 : TI Tryz.prog 9 1 false := .mk' (by kernel_rfl) (by kernel_rfl)
theorem ti91 : TI Tryz.prog 91 1 false := .mk' (by kernel_rfl) (by kernel_rfl)
theorem eg130 : Tryz.prog.eqGuardType Tryz.prog.depth 130 = false := by kernel_rfl
theorem eg38 : Tryz.prog.eqGuardType Tryz.prog.depth 38 = false := by kernel_rfl
theorem en10 : entersB Tryz.prog 10 = true := by kernel_rfl
theorem en100 : entersB Tryz.prog 100 = true := by kernel_rfl
theorem en101 : entersB Tryz.prog 101 = true := by kernel_rfl
theorem en108 : entersB Tryz.prog 108 = true := by kernel_rfl
theorem en109 : entersB Tryz.prog 109 = true := by kernel_rfl
theorem en110 : entersB Tryz.prog 110 = true := by kernel_rfl
theorem en111 : entersB Tryz.prog 111 = true := by kernel_rfl
theorem en112 : entersB Tryz.prog 112 = true := by kernel_rfl
theorem en115 : entersB Tryz.prog 115 = true := by kernel_rfl
theorem en116 : entersB Tryz.prog 116 = true := by kernel_rfl
theorem en117 : entersB Tryz.prog 117 = true := by kernel_rfl
theorem en118 : entersB Tryz.prog 118 = true := by kernel_rfl
theorem en119 : entersB Tryz.prog 119 = true := by kernel_rfl
theorem en120 : entersB Tryz.prog 120 = true := by kernel_rfl
theorem en124 : entersB Tryz.prog 124 = true := by kernel_rfl
theorem en125 : entersB Tryz.prog 125 = true := by kernel_rfl
theorem en126 : entersB Tryz.prog 126 = true := by kernel_rfl
theorem en13 : entersB Tryz.prog 13 = true := by kernel_rfl
theorem en133 : entersB Tryz.prog 133 = true := by kernel_rfl
theorem en134 : entersB Tryz.prog 134 = true := by kernel_rfl
theorem en135 : entersB Tryz.prog 135 = true := by kernel_rfl
theorem en136 : entersB Tryz.prog 136 = true := by kernel_rfl
theorem en139 : entersB Tryz.prog 139 = true := by kernel_rfl
theorem en14 : entersB Tryz.prog 14 = true := by kernel_rfl
theorem en140 : entersB Tryz.prog 140 = true := by kernel_rfl
theorem en141 : entersB Tryz.prog 141 = true := by kernel_rfl
theorem en142 : entersB Tryz.prog 142 = true := by kernel_rfl
theorem en143 : entersB Tryz.prog 143 = true := by kernel_rfl
theorem en155 : entersB Tryz.prog 155 = true := by kernel_rfl
theorem en168 : entersB Tryz.prog 168 = true := by kernel_rfl
theorem en169 : entersB Tryz.prog 169 = true := by kernel_rfl
theorem en170 : entersB Tryz.prog 170 = true := by kernel_rfl
theorem en172 : entersB Tryz.prog 172 = true := by kernel_rfl
theorem en180 : entersB Tryz.prog 180 = true := by kernel_rfl
theorem en196 : entersB Tryz.prog 196 = true := by kernel_rfl
theorem en20 : entersB Tryz.prog 20 = true := by kernel_rfl
theorem en22 : entersB Tryz.prog 22 = true := by kernel_rfl
theorem en24 : entersB Tryz.prog 24 = true := by kernel_rfl
theorem en28 : entersB Tryz.prog 28 = true := by kernel_rfl
theorem en29 : entersB Tryz.prog 29 = true := by kernel_rfl
theorem en30 : entersB Tryz.prog 30 = true := by kernel_rfl
theorem en31 : entersB Tryz.prog 31 = true := by kernel_rfl
theorem en32 : entersB Tryz.prog 32 = true := by kernel_rfl
theorem en33 : entersB Tryz.prog 33 = true := by kernel_rfl
theorem en34 : entersB Tryz.prog 34 = true := by kernel_rfl
theorem en35 : entersB Tryz.prog 35 = true := by kernel_rfl
theorem en38 : entersB Tryz.prog 38 = true := by kernel_rfl
theorem en40 : entersB Tryz.prog 40 = true := by kernel_rfl
theorem en41 : entersB Tryz.prog 41 = true := by kernel_rfl
theorem en46 : entersB Tryz.prog 46 = true := by kernel_rfl
theorem en47 : entersB Tryz.prog 47 = true := by kernel_rfl
theorem en48 : entersB Tryz.prog 48 = true := by kernel_rfl
theorem en53 : entersB Tryz.prog 53 = true := by kernel_rfl
theorem en55 : entersB Tryz.prog 55 = true := by kernel_rfl
theorem en56 : entersB Tryz.prog 56 = true := by kernel_rfl
theorem en59 : entersB Tryz.prog 59 = true := by kernel_rfl
theorem en60 : entersB Tryz.prog 60 = true := by kernel_rfl
theorem en63 : entersB Tryz.prog 63 = true := by kernel_rfl
theorem en64 : entersB Tryz.prog 64 = true := by kernel_rfl
theorem en65 : entersB Tryz.prog 65 = true := by kernel_rfl
theorem en66 : entersB Tryz.prog 66 = true := by kernel_rfl
theorem en67 : entersB Tryz.prog 67 = true := by kernel_rfl
theorem en74 : entersB Tryz.prog 74 = true := by kernel_rfl
theorem en75 : entersB Tryz.prog 75 = true := by kernel_rfl
theorem en76 : entersB Tryz.prog 76 = true := by kernel_rfl
theorem en79 : entersB Tryz.prog 79 = true := by kernel_rfl
theorem en8 : entersB Tryz.prog 8 = true := by kernel_rfl
theorem en80 : entersB Tryz.prog 80 = true := by kernel_rfl
theorem en81 : entersB Tryz.prog 81 = true := by kernel_rfl
theorem en82 : entersB Tryz.prog 82 = true := by kernel_rfl
theorem en84 : entersB Tryz.prog 84 = true := by kernel_rfl
theorem en85 : entersB Tryz.prog 85 = true := by kernel_rfl
theorem en86 : entersB Tryz.prog 86 = true := by kernel_rfl
theorem en92 : entersB Tryz.prog 92 = true := by kernel_rfl
theorem en93 : entersB Tryz.prog 93 = true := by kernel_rfl
theorem en95 : entersB Tryz.prog 95 = true := by kernel_rfl
theorem en96 : entersB Tryz.prog 96 = true := by kernel_rfl
theorem su130 : Tryz.prog.underlying 130 = some (.struct (Tryz.prog.fieldsOf 130)) ∧ Tryz.prog.stoodInHeld 130 = false ∧ (Tryz.prog.fieldsOf 130).toList.map (fun f => (f.name == "_", f.offset, f.type)) = ([(0, 3), (1, 3)] : List (Nat × TypeId)).map (fun p => (false, p.1, p.2)) := ⟨by kernel_rfl, by kernel_rfl, by kernel_rfl⟩
theorem su38 : Tryz.prog.underlying 38 = some (.struct (Tryz.prog.fieldsOf 38)) ∧ Tryz.prog.stoodInHeld 38 = false ∧ (Tryz.prog.fieldsOf 38).toList.map (fun f => (f.name == "_", f.offset, f.type)) = ([(0, 3), (1, 3), (2, 3), (3, 3), (4, 3)] : List (Nat × TypeId)).map (fun p => (false, p.1, p.2)) := ⟨by kernel_rfl, by kernel_rfl, by kernel_rfl⟩
theorem td122 : Tryz.prog.underlying 122 = some (.map 159 3) := by kernel_rfl
theorem td123 : Tryz.prog.underlying 123 = some (.map 38 160) := by kernel_rfl
theorem td126 : Tryz.prog.underlying 126 = some (.map 3 128) := by kernel_rfl
theorem td163 : Tryz.prog.underlying 163 = some (.int .u64) := by kernel_rfl
theorem td193 : Tryz.prog.underlying 193 = some (.int .u64) := by kernel_rfl
theorem td3 : Tryz.prog.underlying 3 = some (.int .i64) := by kernel_rfl
theorem td4 : Tryz.prog.underlying 4 = some (.bool) := by kernel_rfl
theorem td5 : Tryz.prog.underlying 5 = some (.int .u8) := by kernel_rfl
theorem td59 : Tryz.prog.underlying 59 = some (.map 3 4) := by kernel_rfl
theorem td9 : Tryz.prog.underlying 9 = some (.string) := by kernel_rfl
theorem td96 : Tryz.prog.underlying 96 = some (.map 3 67) := by kernel_rfl
theorem tf125_0 : fieldOff Tryz.prog 125 0 = some 0 := by kernel_rfl
theorem tf125_1 : fieldOff Tryz.prog 125 1 = some 1 := by kernel_rfl
theorem tf125_2 : fieldOff Tryz.prog 125 2 = some 2 := by kernel_rfl
theorem tf125_3 : fieldOff Tryz.prog 125 3 = some 3 := by kernel_rfl
theorem tf130_0 : fieldOff Tryz.prog 130 0 = some 0 := by kernel_rfl
theorem tf130_1 : fieldOff Tryz.prog 130 1 = some 1 := by kernel_rfl
theorem tf28_0 : fieldOff Tryz.prog 28 0 = some 0 := by kernel_rfl
theorem tf28_1 : fieldOff Tryz.prog 28 1 = some 1 := by kernel_rfl
theorem tf38_0 : fieldOff Tryz.prog 38 0 = some 0 := by kernel_rfl
theorem tf38_1 : fieldOff Tryz.prog 38 1 = some 1 := by kernel_rfl
theorem tf38_2 : fieldOff Tryz.prog 38 2 = some 2 := by kernel_rfl
theorem tf38_3 : fieldOff Tryz.prog 38 3 = some 3 := by kernel_rfl
theorem tf38_4 : fieldOff Tryz.prog 38 4 = some 4 := by kernel_rfl
theorem tf56_0 : fieldOff Tryz.prog 56 0 = some 0 := by kernel_rfl
theorem tf56_1 : fieldOff Tryz.prog 56 1 = some 1 := by kernel_rfl
theorem tf56_2 : fieldOff Tryz.prog 56 2 = some 2 := by kernel_rfl
theorem tf61_0 : fieldOff Tryz.prog 61 0 = some 0 := by kernel_rfl
theorem tf61_1 : fieldOff Tryz.prog 61 1 = some 1 := by kernel_rfl
theorem tf65_0 : fieldOff Tryz.prog 65 0 = some 0 := by kernel_rfl
theorem tf65_1 : fieldOff Tryz.prog 65 1 = some 1 := by kernel_rfl
theorem tf83_0 : fieldOff Tryz.prog 83 0 = some 0 := by kernel_rfl
theorem tf83_1 : fieldOff Tryz.prog 83 1 = some 1 := by kernel_rfl
theorem tp125 : placesOf Tryz.prog 125 = some [(0, 1), (1, 1), (2, 1), (3, 1)] := by kernel_rfl
theorem tp130 : placesOf Tryz.prog 130 = some [(0, 1), (1, 1)] := by kernel_rfl
theorem tp159 : placesOf Tryz.prog 159 = some [(0, 1), (1, 1), (2, 1)] := by kernel_rfl
theorem tp160 : placesOf Tryz.prog 160 = some [] := by kernel_rfl
theorem tp28 : placesOf Tryz.prog 28 = some [(0, 1), (1, 1)] := by kernel_rfl
theorem tp38 : placesOf Tryz.prog 38 = some [(0, 1), (1, 1), (2, 1), (3, 1), (4, 1)] := by kernel_rfl
theorem tp56 : placesOf Tryz.prog 56 = some [(0, 1), (1, 1), (2, 1)] := by kernel_rfl
theorem tp61 : placesOf Tryz.prog 61 = some [(0, 1), (1, 1)] := by kernel_rfl
theorem tp65 : placesOf Tryz.prog 65 = some [(0, 1), (1, 1)] := by kernel_rfl
theorem tp83 : placesOf Tryz.prog 83 = some [(0, 1), (1, 1)] := by kernel_rfl
theorem ts113 : TS Tryz.prog 113 5 1 1 false := ⟨by kernel_rfl, ti5, by kernel_rfl, by kernel_rfl⟩
theorem ts127 : TS Tryz.prog 127 77 1 24 false := ⟨by kernel_rfl, ti77, by kernel_rfl, by kernel_rfl⟩
theorem ts128 : TS Tryz.prog 128 130 2 16 true := ⟨by kernel_rfl, ti130, by kernel_rfl, by kernel_rfl⟩
theorem ts150 : TS Tryz.prog 150 9 1 16 false := ⟨by kernel_rfl, ti9, by kernel_rfl, by kernel_rfl⟩
theorem ts22 : TS Tryz.prog 22 28 2 40 true := ⟨by kernel_rfl, ti28, by kernel_rfl, by kernel_rfl⟩
theorem ts26 : TS Tryz.prog 26 61 2 24 true := ⟨by kernel_rfl, ti61, by kernel_rfl, by kernel_rfl⟩
theorem ts32 : TS Tryz.prog 32 38 5 40 true := ⟨by kernel_rfl, ti38, by kernel_rfl, by kernel_rfl⟩
theorem ts47 : TS Tryz.prog 47 56 3 32 true := ⟨by kernel_rfl, ti56, by kernel_rfl, by kernel_rfl⟩
theorem ts48 : TS Tryz.prog 48 56 3 32 true := ⟨by kernel_rfl, ti56, by kernel_rfl, by kernel_rfl⟩
theorem ts51 : TS Tryz.prog 51 67 1 24 false := ⟨by kernel_rfl, ti67, by kernel_rfl, by kernel_rfl⟩
theorem ts67 : TS Tryz.prog 67 3 1 8 false := ⟨by kernel_rfl, ti3, by kernel_rfl, by kernel_rfl⟩
theorem ts77 : TS Tryz.prog 77 83 2 16 true := ⟨by kernel_rfl, ti83, by kernel_rfl, by kernel_rfl⟩
theorem ts91 : TS Tryz.prog 91 65 2 24 true := ⟨by kernel_rfl, ti65, by kernel_rfl, by kernel_rfl⟩
theorem tz125 : (Tryz.prog.info? 125).bind (·.zero) = some (.agg #[.slice none 0 0, .int .i64 0, .map none, .map none]) := by kernel_rfl
theorem tz128 : (Tryz.prog.info? 128).bind (·.zero) = some (.slice none 0 0) := by kernel_rfl
theorem tz130 : (Tryz.prog.info? 130).bind (·.zero) = some (.agg #[.int .i64 0, .int .i64 0]) := by kernel_rfl
theorem tz159 : (Tryz.prog.info? 159).bind (·.zero) = some (.agg #[.int .i64 0, .int .i64 0, .int .i64 0]) := by kernel_rfl
theorem tz160 : (Tryz.prog.info? 160).bind (·.zero) = some (.agg #[]) := by kernel_rfl
theorem tz26 : (Tryz.prog.info? 26).bind (·.zero) = some (.slice none 0 0) := by kernel_rfl
theorem tz28 : (Tryz.prog.info? 28).bind (·.zero) = some (.agg #[.string ⟨#[]⟩, .slice none 0 0]) := by kernel_rfl
theorem tz3 : (Tryz.prog.info? 3).bind (·.zero) = some (.int .i64 0) := by kernel_rfl
theorem tz38 : (Tryz.prog.info? 38).bind (·.zero) = some (.agg #[.int .i64 0, .int .i64 0, .int .i64 0, .int .i64 0, .int .i64 0]) := by kernel_rfl
theorem tz51 : (Tryz.prog.info? 51).bind (·.zero) = some (.slice none 0 0) := by kernel_rfl
theorem tz56 : (Tryz.prog.info? 56).bind (·.zero) = some (.agg #[.string ⟨#[]⟩, .int .i64 0, .int .i64 0]) := by kernel_rfl
theorem tz61 : (Tryz.prog.info? 61).bind (·.zero) = some (.agg #[.string ⟨#[]⟩, .int .i64 0]) := by kernel_rfl
theorem tz65 : (Tryz.prog.info? 65).bind (·.zero) = some (.agg #[.string ⟨#[]⟩, .int .i64 0]) := by kernel_rfl
theorem tz67 : (Tryz.prog.info? 67).bind (·.zero) = some (.slice none 0 0) := by kernel_rfl
theorem tz77 : (Tryz.prog.info? 77).bind (·.zero) = some (.slice none 0 0) := by kernel_rfl
theorem tz83 : (Tryz.prog.info? 83).bind (·.zero) = some (.agg #[.int .i64 0, .int .i64 0]) := by kernel_rfl
theorem tz9 : (Tryz.prog.info? 9).bind (·.zero) = some (.string ⟨#[]⟩) := by kernel_rfl
theorem tz91 : (Tryz.prog.info? 91).bind (·.zero) = some (.slice none 0 0) := by kernel_rfl
abbrev vs159 (u : CloneDiagonal) : List Value := [Value.int .i64 u.a, Value.int .i64 u.b, Value.int .i64 u.by_]
abbrev kf159 (u : CloneDiagonal) : Value := .agg (vs159 u).toArray
theorem kt159 : KeyT Tryz.prog 159 kf159 :=
 .struct (l := [(0, 3), (1, 3), (2, 3)]) (by kernel_rfl) (by kernel_rfl) (by kernel_rfl) (fun a b => ⟨_, (.int (show Tryz.prog.underlying 3 = some (.int .i64) by kernel_rfl) (TI.mk' (P := Tryz.prog) (t := 3) (n := 1) (agg := false) (by kernel_rfl) (by kernel_rfl)) rfl rfl (.int (show Tryz.prog.underlying 3 = some (.int .i64) by kernel_rfl) (TI.mk' (P := Tryz.prog) (t := 3) (n := 1) (agg := false) (by kernel_rfl) (by kernel_rfl)) rfl rfl (.int (show Tryz.prog.underlying 3 = some (.int .i64) by kernel_rfl) (TI.mk' (P := Tryz.prog) (t := 3) (n := 1) (agg := false) (by kernel_rfl) (by kernel_rfl)) rfl rfl .nil))), by cases a; cases b; simp⟩) (fun a => (.cons (show Tryz.prog.underlying 3 = some (.int .i64) by kernel_rfl) (.inl ⟨_, rfl⟩) (TI.mk' (P := Tryz.prog) (t := 3) (n := 1) (agg := false) (by kernel_rfl) (by kernel_rfl)) rfl (.cons (show Tryz.prog.underlying 3 = some (.int .i64) by kernel_rfl) (.inl ⟨_, rfl⟩) (TI.mk' (P := Tryz.prog) (t := 3) (n := 1) (agg := false) (by kernel_rfl) (by kernel_rfl)) rfl (.cons (show Tryz.prog.underlying 3 = some (.int .i64) by kernel_rfl) (.inl ⟨_, rfl⟩) (TI.mk' (P := Tryz.prog) (t := 3) (n := 1) (agg := false) (by kernel_rfl) (by kernel_rfl)) rfl .nil)))) (fun k => by simp [Instr.sameBits])
theorem pk159 : PlainK encCloneDiagonal kf159 := plain_agg (vs := vs159) (fun _ => rfl)
abbrev vs38 (u : Clone) : List Value := [Value.int .i64 u.a, Value.int .i64 u.atA, Value.int .i64 u.b, Value.int .i64 u.atB, Value.int .i64 u.len]
abbrev kf38 (u : Clone) : Value := .agg (vs38 u).toArray
theorem kt38 : KeyT Tryz.prog 38 kf38 :=
 .struct (l := [(0, 3), (1, 3), (2, 3), (3, 3), (4, 3)]) (by kernel_rfl) (by kernel_rfl) (by kernel_rfl) (fun a b => ⟨_, (.int (show Tryz.prog.underlying 3 = some (.int .i64) by kernel_rfl) (TI.mk' (P := Tryz.prog) (t := 3) (n := 1) (agg := false) (by kernel_rfl) (by kernel_rfl)) rfl rfl (.int (show Tryz.prog.underlying 3 = some (.int .i64) by kernel_rfl) (TI.mk' (P := Tryz.prog) (t := 3) (n := 1) (agg := false) (by kernel_rfl) (by kernel_rfl)) rfl rfl (.int (show Tryz.prog.underlying 3 = some (.int .i64) by kernel_rfl) (TI.mk' (P := Tryz.prog) (t := 3) (n := 1) (agg := false) (by kernel_rfl) (by kernel_rfl)) rfl rfl (.int (show Tryz.prog.underlying 3 = some (.int .i64) by kernel_rfl) (TI.mk' (P := Tryz.prog) (t := 3) (n := 1) (agg := false) (by kernel_rfl) (by kernel_rfl)) rfl rfl (.int (show Tryz.prog.underlying 3 = some (.int .i64) by kernel_rfl) (TI.mk' (P := Tryz.prog) (t := 3) (n := 1) (agg := false) (by kernel_rfl) (by kernel_rfl)) rfl rfl .nil))))), by cases a; cases b; simp⟩) (fun a => (.cons (show Tryz.prog.underlying 3 = some (.int .i64) by kernel_rfl) (.inl ⟨_, rfl⟩) (TI.mk' (P := Tryz.prog) (t := 3) (n := 1) (agg := false) (by kernel_rfl) (by kernel_rfl)) rfl (.cons (show Tryz.prog.underlying 3 = some (.int .i64) by kernel_rfl) (.inl ⟨_, rfl⟩) (TI.mk' (P := Tryz.prog) (t := 3) (n := 1) (agg := false) (by kernel_rfl) (by kernel_rfl)) rfl (.cons (show Tryz.prog.underlying 3 = some (.int .i64) by kernel_rfl) (.inl ⟨_, rfl⟩) (TI.mk' (P := Tryz.prog) (t := 3) (n := 1) (agg := false) (by kernel_rfl) (by kernel_rfl)) rfl (.cons (show Tryz.prog.underlying 3 = some (.int .i64) by kernel_rfl) (.inl ⟨_, rfl⟩) (TI.mk' (P := Tryz.prog) (t := 3) (n := 1) (agg := false) (by kernel_rfl) (by kernel_rfl)) rfl (.cons (show Tryz.prog.underlying 3 = some (.int .i64) by kernel_rfl) (.inl ⟨_, rfl⟩) (TI.mk' (P := Tryz.prog) (t := 3) (n := 1) (agg := false) (by kernel_rfl) (by kernel_rfl)) rfl .nil)))))) (fun k => by simp [Instr.sameBits])
theorem pk38 : PlainK encClone kf38 := plain_agg (vs := vs38) (fun _ => rfl)
end Go.Proofs.YtglclijalehcmaaGreatDoor
