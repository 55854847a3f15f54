/-
  walks and contracts
-/
import Derived.Test.YtglclijalehcmaaDoorLib
import Derived.Test.YtglclijalehcmaaDoorLa
import Derived.Test.YtglclijalehcmaaDoorKm
import Derived.Test.YtglclijalehcmaaDoorSm
set_option linter.all false
namespace Go.Proofs.YtglclijalehcmaaDoor
open Go Go.Lic Go.Sort Go.Proofs
set_option maxRecDepth 10000
theorem mo : Tryd.prog.follows .mixedOrders = true := by kernel_rfl
theorem ti22 : TI Tryd.prog 22 1 false := .mk' (by kernel_rfl) (by kernel_rfl)
theorem ti3 : TI Tryd.prog 3 1 false := .mk' (by kernel_rfl) (by kernel_rfl)
theorem ti31 : TI Tryd.prog 31 5 true := .mk' (by kernel_rfl) (by kernel_rfl)
theorem ti33 : TI Tryd.prog 33 1 false := .mk' (by kernel_rfl) (by kernel_rfl)
theorem ti35 : TI Tryd.prog 35 2 true := .mk' (by kernel_rfl) (by kernel_rfl)
theorem ti5 : TI Tryd.prog 5 1 false := .mk' (by kernel_rfl) (by kernel_rfl)
theorem ti53 : TI Tryd.prog 53 2 true := .mk' (by kernel_rfl) (by kernel_rfl)
theorem ti57 : TI Tryd.prog 57 1 false := .mk' (by kernel_rfl) (by kernel_rfl)
theorem ti58 : TI Tryd.prog 58 1 false := .mk' (by kernel_rfl) (by kernel_rfl)
theorem ti63 : TI Tryd.prog 63 1 false := .mk' (by kernel_rfl) (by kernel_rfl)
theorem ti67 : TI Tryd.prog 67 2 true := .mk' (by kernel_rfl) (by kernel_rfl)
theorem ti70 : TI Tryd.prog 70 2 true := .mk' (by kernel_rfl) (by kernel_rfl)
theorem ti83 : TI Tryd.prog 83 3 true := .mk' (by kernel_rfl) (by kernel_rfl)
theorem ti9 : TI Tryd.prog 9 1 false := .mk' (by kernel_rfl) (by kernel_rfl)
theorem eg31 : Tryd.prog.eqGuardType Tryd.prog.depth 31 = false := by kernel_rfl
theorem eg70 : Tryd.prog.eqGuardType Tryd.prog.depth 70 = false := by kernel_rfl
theorem en10 : entersB Tryd.prog 10 = true := by kernel_rfl
theorem en11 : entersB Tryd.prog 11 = true := by kernel_rfl
theorem en12 : entersB Tryd.prog 12 = true := by kernel_rfl
theorem en13 : entersB Tryd.prog 13 = true := by kernel_rfl
theorem en14 : entersB Tryd.prog 14 = true := by kernel_rfl
theorem en16 : entersB Tryd.prog 16 = true := by kernel_rfl
theorem en17 : entersB Tryd.prog 17 = true := by kernel_rfl
theorem en18 : entersB Tryd.prog 18 = true := by kernel_rfl
theorem en19 : entersB Tryd.prog 19 = true := by kernel_rfl
theorem en20 : entersB Tryd.prog 20 = true := by kernel_rfl
theorem en24 : entersB Tryd.prog 24 = true := by kernel_rfl
theorem en25 : entersB Tryd.prog 25 = true := by kernel_rfl
theorem en26 : entersB Tryd.prog 26 = true := by kernel_rfl
theorem en27 : entersB Tryd.prog 27 = true := by kernel_rfl
theorem en28 : entersB Tryd.prog 28 = true := by kernel_rfl
theorem en29 : entersB Tryd.prog 29 = true := by kernel_rfl
theorem en30 : entersB Tryd.prog 30 = true := by kernel_rfl
theorem en31 : entersB Tryd.prog 31 = true := by kernel_rfl
theorem en32 : entersB Tryd.prog 32 = true := by kernel_rfl
theorem en35 : entersB Tryd.prog 35 = true := by kernel_rfl
theorem en36 : entersB Tryd.prog 36 = true := by kernel_rfl
theorem en37 : entersB Tryd.prog 37 = true := by kernel_rfl
theorem en38 : entersB Tryd.prog 38 = true := by kernel_rfl
theorem en39 : entersB Tryd.prog 39 = true := by kernel_rfl
theorem en41 : entersB Tryd.prog 41 = true := by kernel_rfl
theorem en42 : entersB Tryd.prog 42 = true := by kernel_rfl
theorem en43 : entersB Tryd.prog 43 = true := by kernel_rfl
theorem en44 : entersB Tryd.prog 44 = true := by kernel_rfl
theorem en45 : entersB Tryd.prog 45 = true := by kernel_rfl
theorem en49 : entersB Tryd.prog 49 = true := by kernel_rfl
theorem en50 : entersB Tryd.prog 50 = true := by kernel_rfl
theorem en51 : entersB Tryd.prog 51 = true := by kernel_rfl
theorem en52 : entersB Tryd.prog 52 = true := by kernel_rfl
theorem en53 : entersB Tryd.prog 53 = true := by kernel_rfl
theorem en54 : entersB Tryd.prog 54 = true := by kernel_rfl
theorem en55 : entersB Tryd.prog 55 = true := by kernel_rfl
theorem en56 : entersB Tryd.prog 56 = true := by kernel_rfl
theorem en57 : entersB Tryd.prog 57 = true := by kernel_rfl
theorem en6 : entersB Tryd.prog 6 = true := by kernel_rfl
theorem en68 : entersB Tryd.prog 68 = true := by kernel_rfl
theorem en69 : entersB Tryd.prog 69 = true := by kernel_rfl
theorem en7 : entersB Tryd.prog 7 = true := by kernel_rfl
theorem en70 : entersB Tryd.prog 70 = true := by kernel_rfl
theorem en71 : entersB Tryd.prog 71 = true := by kernel_rfl
theorem en72 : entersB Tryd.prog 72 = true := by kernel_rfl
theorem en73 : entersB Tryd.prog 73 = true := by kernel_rfl
theorem en74 : entersB Tryd.prog 74 = true := by kernel_rfl
theorem en75 : entersB Tryd.prog 75 = true := by kernel_rfl
theorem en8 : entersB Tryd.prog 8 = true := by kernel_rfl
theorem en82 : entersB Tryd.prog 82 = true := by kernel_rfl
theorem en83 : entersB Tryd.prog 83 = true := by kernel_rfl
theorem en84 : entersB Tryd.prog 84 = true := by kernel_rfl
theorem en85 : entersB Tryd.prog 85 = true := by kernel_rfl
theorem en91 : entersB Tryd.prog 91 = true := by kernel_rfl
theorem su31 : Tryd.prog.underlying 31 = some (.struct (Tryd.prog.fieldsOf 31)) ∧ Tryd.prog.stoodInHeld 31 = false ∧ (Tryd.prog.fieldsOf 31).toList.map (fun f => (f.name == "_", f.offset, f.type)) = ([(0, 3), (1, 3), (2, 3), (3, 3), (4, 3)] : List (Nat × TypeId)).map (fun p => (false, p.1, p.2)) := ⟨by kernel_rfl, by kernel_rfl, by kernel_rfl⟩
theorem su70 : Tryd.prog.underlying 70 = some (.struct (Tryd.prog.fieldsOf 70)) ∧ Tryd.prog.stoodInHeld 70 = false ∧ (Tryd.prog.fieldsOf 70).toList.map (fun f => (f.name == "_", f.offset, f.type)) = ([(0, 3), (1, 3)] : List (Nat × TypeId)).map (fun p => (false, p.1, p.2)) := ⟨by kernel_rfl, by kernel_rfl, by kernel_rfl⟩
theorem td109 : Tryd.prog.underlying 109 = some (.int .u64) := by kernel_rfl
theorem td3 : Tryd.prog.underlying 3 = some (.int .i64) := by kernel_rfl
theorem td4 : Tryd.prog.underlying 4 = some (.bool) := by kernel_rfl
theorem td5 : Tryd.prog.underlying 5 = some (.int .u8) := by kernel_rfl
theorem td57 : Tryd.prog.underlying 57 = some (.map 83 3) := by kernel_rfl
theorem td58 : Tryd.prog.underlying 58 = some (.map 31 84) := by kernel_rfl
theorem td61 : Tryd.prog.underlying 61 = some (.map 3 68) := by kernel_rfl
theorem td87 : Tryd.prog.underlying 87 = some (.int .u64) := by kernel_rfl
theorem td9 : Tryd.prog.underlying 9 = some (.string) := by kernel_rfl
theorem tf31_0 : fieldOff Tryd.prog 31 0 = some 0 := by kernel_rfl
theorem tf31_1 : fieldOff Tryd.prog 31 1 = some 1 := by kernel_rfl
theorem tf31_2 : fieldOff Tryd.prog 31 2 = some 2 := by kernel_rfl
theorem tf31_3 : fieldOff Tryd.prog 31 3 = some 3 := by kernel_rfl
theorem tf31_4 : fieldOff Tryd.prog 31 4 = some 4 := by kernel_rfl
theorem tf35_0 : fieldOff Tryd.prog 35 0 = some 0 := by kernel_rfl
theorem tf35_1 : fieldOff Tryd.prog 35 1 = some 1 := by kernel_rfl
theorem tf53_0 : fieldOff Tryd.prog 53 0 = some 0 := by kernel_rfl
theorem tf53_1 : fieldOff Tryd.prog 53 1 = some 1 := by kernel_rfl
theorem tf60_0 : fieldOff Tryd.prog 60 0 = some 0 := by kernel_rfl
theorem tf60_1 : fieldOff Tryd.prog 60 1 = some 1 := by kernel_rfl
theorem tf60_2 : fieldOff Tryd.prog 60 2 = some 2 := by kernel_rfl
theorem tf60_3 : fieldOff Tryd.prog 60 3 = some 3 := by kernel_rfl
theorem tf67_0 : fieldOff Tryd.prog 67 0 = some 0 := by kernel_rfl
theorem tf67_1 : fieldOff Tryd.prog 67 1 = some 1 := by kernel_rfl
theorem tf70_0 : fieldOff Tryd.prog 70 0 = some 0 := by kernel_rfl
theorem tf70_1 : fieldOff Tryd.prog 70 1 = some 1 := by kernel_rfl
theorem tp31 : placesOf Tryd.prog 31 = some [(0, 1), (1, 1), (2, 1), (3, 1), (4, 1)] := by kernel_rfl
theorem tp35 : placesOf Tryd.prog 35 = some [(0, 1), (1, 1)] := by kernel_rfl
theorem tp53 : placesOf Tryd.prog 53 = some [(0, 1), (1, 1)] := by kernel_rfl
theorem tp60 : placesOf Tryd.prog 60 = some [(0, 1), (1, 1), (2, 1), (3, 1)] := by kernel_rfl
theorem tp67 : placesOf Tryd.prog 67 = some [(0, 1), (1, 1)] := by kernel_rfl
theorem tp70 : placesOf Tryd.prog 70 = some [(0, 1), (1, 1)] := by kernel_rfl
theorem tp83 : placesOf Tryd.prog 83 = some [(0, 1), (1, 1), (2, 1)] := by kernel_rfl
theorem tp84 : placesOf Tryd.prog 84 = some [] := by kernel_rfl
theorem ts22 : TS Tryd.prog 22 35 2 40 true := ⟨by kernel_rfl, ti35, by kernel_rfl, by kernel_rfl⟩
theorem ts25 : TS Tryd.prog 25 31 5 40 true := ⟨by kernel_rfl, ti31, by kernel_rfl, by kernel_rfl⟩
theorem ts33 : TS Tryd.prog 33 53 2 24 true := ⟨by kernel_rfl, ti53, by kernel_rfl, by kernel_rfl⟩
theorem ts42 : TS Tryd.prog 42 3 1 8 false := ⟨by kernel_rfl, ti3, by kernel_rfl, by kernel_rfl⟩
theorem ts62 : TS Tryd.prog 62 63 1 24 false := ⟨by kernel_rfl, ti63, by kernel_rfl, by kernel_rfl⟩
theorem ts63 : TS Tryd.prog 63 67 2 16 true := ⟨by kernel_rfl, ti67, by kernel_rfl, by kernel_rfl⟩
theorem ts68 : TS Tryd.prog 68 70 2 16 true := ⟨by kernel_rfl, ti70, by kernel_rfl, by kernel_rfl⟩
theorem ts76 : TS Tryd.prog 76 5 1 1 false := ⟨by kernel_rfl, ti5, by kernel_rfl, by kernel_rfl⟩
theorem ts91 : TS Tryd.prog 91 9 1 16 false := ⟨by kernel_rfl, ti9, by kernel_rfl, by kernel_rfl⟩
theorem tz3 : (Tryd.prog.info? 3).bind (·.zero) = some (.int .i64 0) := by kernel_rfl
theorem tz31 : (Tryd.prog.info? 31).bind (·.zero) = some (.agg #[.int .i64 0, .int .i64 0, .int .i64 0, .int .i64 0, .int .i64 0]) := by kernel_rfl
theorem tz33 : (Tryd.prog.info? 33).bind (·.zero) = some (.slice none 0 0) := by kernel_rfl
theorem tz35 : (Tryd.prog.info? 35).bind (·.zero) = some (.agg #[.string ⟨#[]⟩, .slice none 0 0]) := by kernel_rfl
theorem tz53 : (Tryd.prog.info? 53).bind (·.zero) = some (.agg #[.string ⟨#[]⟩, .int .i64 0]) := by kernel_rfl
theorem tz60 : (Tryd.prog.info? 60).bind (·.zero) = some (.agg #[.slice none 0 0, .int .i64 0, .map none, .map none]) := by kernel_rfl
theorem tz63 : (Tryd.prog.info? 63).bind (·.zero) = some (.slice none 0 0) := by kernel_rfl
theorem tz67 : (Tryd.prog.info? 67).bind (·.zero) = some (.agg #[.int .i64 0, .int .i64 0]) := by kernel_rfl
theorem tz68 : (Tryd.prog.info? 68).bind (·.zero) = some (.slice none 0 0) := by kernel_rfl
theorem tz70 : (Tryd.prog.info? 70).bind (·.zero) = some (.agg #[.int .i64 0, .int .i64 0]) := by kernel_rfl
theorem tz83 : (Tryd.prog.info? 83).bind (·.zero) = some (.agg #[.int .i64 0, .int .i64 0, .int .i64 0]) := by kernel_rfl
theorem tz84 : (Tryd.prog.info? 84).bind (·.zero) = some (.agg #[]) := by kernel_rfl
theorem tz9 : (Tryd.prog.info? 9).bind (·.zero) = some (.string ⟨#[]⟩) := by kernel_rfl
abbrev vs31 (u : Clone) : List Value := [Value.int .i64 u.a, Value.int .i64 u.atA, Value.int .i64 u.b, Value.int .i64 u.atB, Value.int .i64 u.len]
abbrev kf31 (u : Clone) : Value := .agg (vs31 u).toArray
theorem kt31 : KeyT Tryd.prog 31 kf31 :=
 .struct (l := [(0, 3), (1, 3), (2, 3), (3, 3), (4, 3)]) (by kernel_rfl) (by kernel_rfl) (by kernel_rfl) (fun a b => ⟨_, (.int (show Tryd.prog.underlying 3 = some (.int .i64) by kernel_rfl) (TI.mk' (P := Tryd.prog) (t := 3) (n := 1) (agg := false) (by kernel_rfl) (by kernel_rfl)) rfl rfl (.int (show Tryd.prog.underlying 3 = some (.int .i64) by kernel_rfl) (TI.mk' (P := Tryd.prog) (t := 3) (n := 1) (agg := false) (by kernel_rfl) (by kernel_rfl)) rfl rfl (.int (show Tryd.prog.underlying 3 = some (.int .i64) by kernel_rfl) (TI.mk' (P := Tryd.prog) (t := 3) (n := 1) (agg := false) (by kernel_rfl) (by kernel_rfl)) rfl rfl (.int (show Tryd.prog.underlying 3 = some (.int .i64) by kernel_rfl) (TI.mk' (P := Tryd.prog) (t := 3) (n := 1) (agg := false) (by kernel_rfl) (by kernel_rfl)) rfl rfl (.int (show Tryd.prog.underlying 3 = some (.int .i64) by kernel_rfl) (TI.mk' (P := Tryd.prog) (t := 3) (n := 1) (agg := false) (by kernel_rfl) (by kernel_rfl)) rfl rfl .nil))))), by cases a; cases b; simp⟩) (fun a => (.cons (show Tryd.prog.underlying 3 = some (.int .i64) by kernel_rfl) (.inl ⟨_, rfl⟩) (TI.mk' (P := Tryd.prog) (t := 3) (n := 1) (agg := false) (by kernel_rfl) (by kernel_rfl)) rfl (.cons (show Tryd.prog.underlying 3 = some (.int .i64) by kernel_rfl) (.inl ⟨_, rfl⟩) (TI.mk' (P := Tryd.prog) (t := 3) (n := 1) (agg := false) (by kernel_rfl) (by kernel_rfl)) rfl (.cons (show Tryd.prog.underlying 3 = some (.int .i64) by kernel_rfl) (.inl ⟨_, rfl⟩) (TI.mk' (P := Tryd.prog) (t := 3) (n := 1) (agg := false) (by kernel_rfl) (by kernel_rfl)) rfl (.cons (show Tryd.prog.underlying 3 = some (.int .i64) by kernel_rfl) (.inl ⟨_, rfl⟩) (TI.mk' (P := Tryd.prog) (t := 3) (n := 1) (agg := false) (by kernel_rfl) (by kernel_rfl)) rfl (.cons (show Tryd.prog.underlying 3 = some (.int .i64) by kernel_rfl) (.inl ⟨_, rfl⟩) (TI.mk' (P := Tryd.prog) (t := 3) (n := 1) (agg := false) (by kernel_rfl) (by kernel_rfl)) rfl .nil)))))) (fun k => by simp [Instr.sameBits])
theorem pk31 : PlainK encClone kf31 := plain_agg (vs := vs31) (fun _ => rfl)
abbrev vs83 (u : CloneDiagonal) : List Value := [Value.int .i64 u.a, Value.int .i64 u.b, Value.int .i64 u.by_]
abbrev kf83 (u : CloneDiagonal) : Value := .agg (vs83 u).toArray
theorem kt83 : KeyT Tryd.prog 83 kf83 :=
 .struct (l := [(0, 3), (1, 3), (2, 3)]) (by kernel_rfl) (by kernel_rfl) (by kernel_rfl) (fun a b => ⟨_, (.int (show Tryd.prog.underlying 3 = some (.int .i64) by kernel_rfl) (TI.mk' (P := Tryd.prog) (t := 3) (n := 1) (agg := false) (by kernel_rfl) (by kernel_rfl)) rfl rfl (.int (show Tryd.prog.underlying 3 = some (.int .i64) by kernel_rfl) (TI.mk' (P := Tryd.prog) (t := 3) (n := 1) (agg := false) (by kernel_rfl) (by kernel_rfl)) rfl rfl (.int (show Tryd.prog.underlying 3 = some (.int .i64) by kernel_rfl) (TI.mk' (P := Tryd.prog) (t := 3) (n := 1) (agg := false) (by kernel_rfl) (by kernel_rfl)) rfl rfl .nil))), by cases a; cases b; simp⟩) (fun a => (.cons (show Tryd.prog.underlying 3 = some (.int .i64) by kernel_rfl) (.inl ⟨_, rfl⟩) (TI.mk' (P := Tryd.prog) (t := 3) (n := 1) (agg := false) (by kernel_rfl) (by kernel_rfl)) rfl (.cons (show Tryd.prog.underlying 3 = some (.int .i64) by kernel_rfl) (.inl ⟨_, rfl⟩) (TI.mk' (P := Tryd.prog) (t := 3) (n := 1) (agg := false) (by kernel_rfl) (by kernel_rfl)) rfl (.cons (show Tryd.prog.underlying 3 = some (.int .i64) by kernel_rfl) (.inl ⟨_, rfl⟩) (TI.mk' (P := Tryd.prog) (t := 3) (n := 1) (agg := false) (by kernel_rfl) (by kernel_rfl)) rfl .nil)))) (fun k => by simp [Instr.sameBits])
theorem pk83 : PlainK encCloneDiagonal kf83 := plain_agg (vs := vs83) (fun _ => rfl)
end Go.Proofs.YtglclijalehcmaaDoor
