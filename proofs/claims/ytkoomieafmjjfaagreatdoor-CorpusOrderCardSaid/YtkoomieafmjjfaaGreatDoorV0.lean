/-
  walks and contracts
-/
import Derived.Test.YtkoomieafmjjfaaGreatDoorLib
set_option linter.all false
namespace Go.Proofs.YtkoomieafmjjfaaGreatDoor
open Go Go.Lic Go.Sort Go.Proofs

set_option maxRecDepth 10000
theorem mo : Tryz.prog.follows .mixedOrders = true := by kernel_rfl
theorem ti130 : TI Tryz.prog 130 1 false := .mk' (by kernel_rfl) (by kernel_rfl)
theorem ti131 : TI Tryz.prog 131 25 true := .mk' (by kernel_rfl) (by kernel_rfl)
theorem ti150 : TI Tryz.prog 150 54 true := .mk' (by kernel_rfl) (by kernel_rfl)
theorem ti188 : TI Tryz.prog 188 25 true := .mk' (by kernel_rfl) (by kernel_rfl)
theorem ti190 : TI Tryz.prog 190 24 true := .mk' (by kernel_rfl) (by kernel_rfl)
theorem ti22 : TI Tryz.prog 22 1 false := .mk' (by kernel_rfl) (by kernel_rfl)
theorem ti23 : TI Tryz.prog 23 1 false := .mk' (by kernel_rfl) (by kernel_rfl)
theorem ti25 : TI Tryz.prog 25 4 true := .mk' (by kernel_rfl) (by kernel_rfl)
theorem ti3 : TI Tryz.prog 3 1 false := .mk' (by kernel_rfl) (by kernel_rfl)
theorem ti34 : TI Tryz.prog 34 1 false := .mk' (by kernel_rfl) (by kernel_rfl)
theorem ti36 : TI Tryz.prog 36 2 true := .mk' (by kernel_rfl) (by kernel_rfl)
theorem ti46 : TI Tryz.prog 46 3 true := .mk' (by kernel_rfl) (by kernel_rfl)
theorem ti5 : TI Tryz.prog 5 1 false := .mk' (by kernel_rfl) (by kernel_rfl)
theorem ti60 : TI Tryz.prog 60 2 true := .mk' (by kernel_rfl) (by kernel_rfl)
theorem ti72 : TI Tryz.prog 72 2 true := .mk' (by kernel_rfl) (by kernel_rfl)
theorem ti84 : TI Tryz.prog 84 1 false := .mk' (by kernel_rfl) (by kernel_rfl)
theorem ti9 : TI Tryz.prog 9 1 false := .mk' (by kernel_rfl) (by kernel_rfl)
theorem ti90 : TI Tryz.prog 90 1 false := .mk' (by kernel_rfl) (by kernel_rfl)
theorem ti96 : TI Tryz.prog 96 1 false := .mk' (by kernel_rfl) (by kernel_rfl)
theorem eg131 : Tryz.prog.eqGuardType Tryz.prog.depth 131 = false := by kernel_rfl
theorem eg46 : Tryz.prog.eqGuardType Tryz.prog.depth 46 = false := by kernel_rfl
theorem eg72 : Tryz.prog.eqGuardType Tryz.prog.depth 72 = false := by kernel_rfl
theorem en101 : entersB Tryz.prog 101 = true := by kernel_rfl
theorem en102 : entersB Tryz.prog 102 = true := by kernel_rfl
theorem en103 : entersB Tryz.prog 103 = true := by kernel_rfl
theorem en104 : entersB Tryz.prog 104 = true := by kernel_rfl
theorem en106 : entersB Tryz.prog 106 = true := by kernel_rfl
theorem en107 : entersB Tryz.prog 107 = true := by kernel_rfl
theorem en108 : entersB Tryz.prog 108 = true := by kernel_rfl
theorem en11 : entersB Tryz.prog 11 = true := by kernel_rfl
theorem en111 : entersB Tryz.prog 111 = true := by kernel_rfl
theorem en115 : entersB Tryz.prog 115 = true := by kernel_rfl
theorem en116 : entersB Tryz.prog 116 = true := by kernel_rfl
theorem en117 : entersB Tryz.prog 117 = true := by kernel_rfl
theorem en118 : entersB Tryz.prog 118 = true := by kernel_rfl
theorem en119 : entersB Tryz.prog 119 = true := by kernel_rfl
theorem en120 : entersB Tryz.prog 120 = true := by kernel_rfl
theorem en121 : entersB Tryz.prog 121 = true := by kernel_rfl
theorem en122 : entersB Tryz.prog 122 = true := by kernel_rfl
theorem en125 : entersB Tryz.prog 125 = true := by kernel_rfl
theorem en126 : entersB Tryz.prog 126 = true := by kernel_rfl
theorem en129 : entersB Tryz.prog 129 = true := by kernel_rfl
theorem en13 : entersB Tryz.prog 13 = true := by kernel_rfl
theorem en143 : entersB Tryz.prog 143 = true := by kernel_rfl
theorem en144 : entersB Tryz.prog 144 = true := by kernel_rfl
theorem en145 : entersB Tryz.prog 145 = true := by kernel_rfl
theorem en146 : entersB Tryz.prog 146 = true := by kernel_rfl
theorem en15 : entersB Tryz.prog 15 = true := by kernel_rfl
theorem en151 : entersB Tryz.prog 151 = true := by kernel_rfl
theorem en16 : entersB Tryz.prog 16 = true := by kernel_rfl
theorem en167 : entersB Tryz.prog 167 = true := by kernel_rfl
theorem en17 : entersB Tryz.prog 17 = true := by kernel_rfl
theorem en172 : entersB Tryz.prog 172 = true := by kernel_rfl
theorem en173 : entersB Tryz.prog 173 = true := by kernel_rfl
theorem en174 : entersB Tryz.prog 174 = true := by kernel_rfl
theorem en183 : entersB Tryz.prog 183 = true := by kernel_rfl
theorem en19 : entersB Tryz.prog 19 = true := by kernel_rfl
theorem en21 : entersB Tryz.prog 21 = true := by kernel_rfl
theorem en23 : entersB Tryz.prog 23 = true := by kernel_rfl
theorem en26 : entersB Tryz.prog 26 = true := by kernel_rfl
theorem en27 : entersB Tryz.prog 27 = true := by kernel_rfl
theorem en29 : entersB Tryz.prog 29 = true := by kernel_rfl
theorem en35 : entersB Tryz.prog 35 = true := by kernel_rfl
theorem en37 : entersB Tryz.prog 37 = true := by kernel_rfl
theorem en38 : entersB Tryz.prog 38 = true := by kernel_rfl
theorem en39 : entersB Tryz.prog 39 = true := by kernel_rfl
theorem en40 : entersB Tryz.prog 40 = true := by kernel_rfl
theorem en41 : entersB Tryz.prog 41 = true := by kernel_rfl
theorem en42 : entersB Tryz.prog 42 = true := by kernel_rfl
theorem en43 : entersB Tryz.prog 43 = true := by kernel_rfl
theorem en45 : entersB Tryz.prog 45 = true := by kernel_rfl
theorem en47 : entersB Tryz.prog 47 = true := by kernel_rfl
theorem en49 : entersB Tryz.prog 49 = true := by kernel_rfl
theorem en50 : entersB Tryz.prog 50 = true := by kernel_rfl
theorem en51 : entersB Tryz.prog 51 = true := by kernel_rfl
theorem en52 : entersB Tryz.prog 52 = true := by kernel_rfl
theorem en53 : entersB Tryz.prog 53 = true := by kernel_rfl
theorem en56 : entersB Tryz.prog 56 = true := by kernel_rfl
theorem en57 : entersB Tryz.prog 57 = true := by kernel_rfl
theorem en58 : entersB Tryz.prog 58 = true := by kernel_rfl
theorem en61 : entersB Tryz.prog 61 = true := by kernel_rfl
theorem en62 : entersB Tryz.prog 62 = true := by kernel_rfl
theorem en63 : entersB Tryz.prog 63 = true := by kernel_rfl
theorem en64 : entersB Tryz.prog 64 = true := by kernel_rfl
theorem en65 : entersB Tryz.prog 65 = true := by kernel_rfl
theorem en66 : entersB Tryz.prog 66 = true := by kernel_rfl
theorem en69 : entersB Tryz.prog 69 = true := by kernel_rfl
theorem en70 : entersB Tryz.prog 70 = true := by kernel_rfl
theorem en71 : entersB Tryz.prog 71 = true := by kernel_rfl
theorem en72 : entersB Tryz.prog 72 = true := by kernel_rfl
theorem en73 : entersB Tryz.prog 73 = true := by kernel_rfl
theorem en77 : entersB Tryz.prog 77 = true := by kernel_rfl
theorem en78 : entersB Tryz.prog 78 = true := by kernel_rfl
theorem en79 : entersB Tryz.prog 79 = true := by kernel_rfl
theorem en80 : entersB Tryz.prog 80 = true := by kernel_rfl
theorem en84 : entersB Tryz.prog 84 = true := by kernel_rfl
theorem en85 : entersB Tryz.prog 85 = true := by kernel_rfl
theorem en86 : entersB Tryz.prog 86 = true := by kernel_rfl
theorem en87 : entersB Tryz.prog 87 = true := by kernel_rfl
theorem en9 : entersB Tryz.prog 9 = true := by kernel_rfl
theorem en91 : entersB Tryz.prog 91 = true := by kernel_rfl
theorem en92 : entersB Tryz.prog 92 = true := by kernel_rfl
theorem en93 : entersB Tryz.prog 93 = true := by kernel_rfl
theorem en94 : entersB Tryz.prog 94 = true := by kernel_rfl
theorem en95 : entersB Tryz.prog 95 = true := by kernel_rfl
theorem en96 : entersB Tryz.prog 96 = true := by kernel_rfl
theorem en97 : entersB Tryz.prog 97 = true := by kernel_rfl
theorem en98 : entersB Tryz.prog 98 = true := by kernel_rfl
theorem en99 : entersB Tryz.prog 99 = true := by kernel_rfl
theorem su46 : Tryz.prog.underlying 46 = some (.struct (Tryz.prog.fieldsOf 46)) ∧ Tryz.prog.stoodInHeld 46 = false ∧ (Tryz.prog.fieldsOf 46).toList.map (fun f => (f.name == "_", f.offset, f.type)) = ([(0, 3), (1, 3), (2, 3)] : List (Nat × TypeId)).map (fun p => (false, p.1, p.2)) := ⟨by kernel_rfl, by kernel_rfl, by kernel_rfl⟩
theorem su72 : Tryz.prog.underlying 72 = some (.struct (Tryz.prog.fieldsOf 72)) ∧ Tryz.prog.stoodInHeld 72 = false ∧ (Tryz.prog.fieldsOf 72).toList.map (fun f => (f.name == "_", f.offset, f.type)) = ([(0, 9), (1, 3)] : List (Nat × TypeId)).map (fun p => (false, p.1, p.2)) := ⟨by kernel_rfl, by kernel_rfl, by kernel_rfl⟩
theorem td129 : Tryz.prog.underlying 129 = some (.pointer 5) := by kernel_rfl
theorem td130 : Tryz.prog.underlying 130 = some (.int .u64) := by kernel_rfl
theorem td131 : Tryz.prog.underlying 131 = some (.array 25 130) := by kernel_rfl
theorem td132 : Tryz.prog.underlying 132 = some (.int .u64) := by kernel_rfl
theorem td146 : Tryz.prog.underlying 146 = some (.unsafePointer) := by kernel_rfl
theorem td172 : Tryz.prog.underlying 172 = some (.array 5 130) := by kernel_rfl
theorem td188 : Tryz.prog.underlying 188 = some (.array 25 3) := by kernel_rfl
theorem td190 : Tryz.prog.underlying 190 = some (.array 24 130) := by kernel_rfl
theorem td3 : Tryz.prog.underlying 3 = some (.int .i64) := by kernel_rfl
theorem td4 : Tryz.prog.underlying 4 = some (.bool) := by kernel_rfl
theorem td5 : Tryz.prog.underlying 5 = some (.int .u8) := by kernel_rfl
theorem td83 : Tryz.prog.underlying 83 = some (.map 3 4) := by kernel_rfl
theorem td84 : Tryz.prog.underlying 84 = some (.map 3 3) := by kernel_rfl
theorem td9 : Tryz.prog.underlying 9 = some (.string) := by kernel_rfl
theorem td96 : Tryz.prog.underlying 96 = some (.pointer 98) := by kernel_rfl
theorem tf150_0 : fieldOff Tryz.prog 150 0 = some 0 := by kernel_rfl
theorem tf150_1 : fieldOff Tryz.prog 150 1 = some 25 := by kernel_rfl
theorem tf150_2 : fieldOff Tryz.prog 150 2 = some 26 := by kernel_rfl
theorem tf150_3 : fieldOff Tryz.prog 150 3 = some 27 := by kernel_rfl
theorem tf150_4 : fieldOff Tryz.prog 150 4 = some 52 := by kernel_rfl
theorem tf150_5 : fieldOff Tryz.prog 150 5 = some 53 := by kernel_rfl
theorem tf25_0 : fieldOff Tryz.prog 25 0 = some 0 := by kernel_rfl
theorem tf25_1 : fieldOff Tryz.prog 25 1 = some 1 := by kernel_rfl
theorem tf25_2 : fieldOff Tryz.prog 25 2 = some 2 := by kernel_rfl
theorem tf25_3 : fieldOff Tryz.prog 25 3 = some 3 := by kernel_rfl
theorem tf36_0 : fieldOff Tryz.prog 36 0 = some 0 := by kernel_rfl
theorem tf36_1 : fieldOff Tryz.prog 36 1 = some 1 := by kernel_rfl
theorem tf46_0 : fieldOff Tryz.prog 46 0 = some 0 := by kernel_rfl
theorem tf46_1 : fieldOff Tryz.prog 46 1 = some 1 := by kernel_rfl
theorem tf46_2 : fieldOff Tryz.prog 46 2 = some 2 := by kernel_rfl
theorem tf60_0 : fieldOff Tryz.prog 60 0 = some 0 := by kernel_rfl
theorem tf60_1 : fieldOff Tryz.prog 60 1 = some 1 := by kernel_rfl
theorem tf72_0 : fieldOff Tryz.prog 72 0 = some 0 := by kernel_rfl
theorem tf72_1 : fieldOff Tryz.prog 72 1 = some 1 := by kernel_rfl
theorem tf98_0 : fieldOff Tryz.prog 98 0 = some 0 := by kernel_rfl
theorem tf98_1 : fieldOff Tryz.prog 98 1 = some 1 := by kernel_rfl
theorem tp150 : placesOf Tryz.prog 150 = some [(0, 25), (25, 1), (26, 1), (27, 25), (52, 1), (53, 1)] := by kernel_rfl
theorem tp25 : placesOf Tryz.prog 25 = some [(0, 1), (1, 1), (2, 1), (3, 1)] := by kernel_rfl
theorem tp36 : placesOf Tryz.prog 36 = some [(0, 1), (1, 1)] := by kernel_rfl
theorem tp46 : placesOf Tryz.prog 46 = some [(0, 1), (1, 1), (2, 1)] := by kernel_rfl
theorem tp60 : placesOf Tryz.prog 60 = some [(0, 1), (1, 1)] := by kernel_rfl
theorem tp72 : placesOf Tryz.prog 72 = some [(0, 1), (1, 1)] := by kernel_rfl
theorem ts108 : TS Tryz.prog 108 22 1 24 false := ⟨by kernel_rfl, ti22, by kernel_rfl, by kernel_rfl⟩
theorem ts118 : TS Tryz.prog 118 9 1 16 false := ⟨by kernel_rfl, ti9, by kernel_rfl, by kernel_rfl⟩
theorem ts22 : TS Tryz.prog 22 36 2 40 true := ⟨by kernel_rfl, ti36, by kernel_rfl, by kernel_rfl⟩
theorem ts23 : TS Tryz.prog 23 46 3 24 true := ⟨by kernel_rfl, ti46, by kernel_rfl, by kernel_rfl⟩
theorem ts34 : TS Tryz.prog 34 72 2 24 true := ⟨by kernel_rfl, ti72, by kernel_rfl, by kernel_rfl⟩
theorem ts41 : TS Tryz.prog 41 3 1 8 false := ⟨by kernel_rfl, ti3, by kernel_rfl, by kernel_rfl⟩
theorem ts53 : TS Tryz.prog 53 60 2 16 true := ⟨by kernel_rfl, ti60, by kernel_rfl, by kernel_rfl⟩
theorem ts90 : TS Tryz.prog 90 5 1 1 false := ⟨by kernel_rfl, ti5, by kernel_rfl, by kernel_rfl⟩
theorem tz131 : (Tryz.prog.info? 131).bind (·.zero) = some (.agg #[.int .u64 0, .int .u64 0, .int .u64 0, .int .u64 0, .int .u64 0, .int .u64 0, .int .u64 0, .int .u64 0, .int .u64 0, .int .u64 0, .int .u64 0, .int .u64 0, .int .u64 0, .int .u64 0, .int .u64 0, .int .u64 0, .int .u64 0, .int .u64 0, .int .u64 0, .int .u64 0, .int .u64 0, .int .u64 0, .int .u64 0, .int .u64 0, .int .u64 0]) := by kernel_rfl
theorem tz150 : (Tryz.prog.info? 150).bind (·.zero) = some (.agg #[.int .u64 0, .int .u64 0, .int .u64 0, .int .u64 0, .int .u64 0, .int .u64 0, .int .u64 0, .int .u64 0, .int .u64 0, .int .u64 0, .int .u64 0, .int .u64 0, .int .u64 0, .int .u64 0, .int .u64 0, .int .u64 0, .int .u64 0, .int .u64 0, .int .u64 0, .int .u64 0, .int .u64 0, .int .u64 0, .int .u64 0, .int .u64 0, .int .u64 0, .slice none 0 0, .int .i64 0, .int .u64 0, .int .u64 0, .int .u64 0, .int .u64 0, .int .u64 0, .int .u64 0, .int .u64 0, .int .u64 0, .int .u64 0, .int .u64 0, .int .u64 0, .int .u64 0, .int .u64 0, .int .u64 0, .int .u64 0, .int .u64 0, .int .u64 0, .int .u64 0, .int .u64 0, .int .u64 0, .int .u64 0, .int .u64 0, .int .u64 0, .int .u64 0, .int .u64 0, .string ⟨#[]⟩, .string ⟨#[]⟩]) := by kernel_rfl
theorem tz172 : (Tryz.prog.info? 172).bind (·.zero) = some (.agg #[.int .u64 0, .int .u64 0, .int .u64 0, .int .u64 0, .int .u64 0]) := by kernel_rfl
theorem tz188 : (Tryz.prog.info? 188).bind (·.zero) = some (.agg #[.int .i64 0, .int .i64 0, .int .i64 0, .int .i64 0, .int .i64 0, .int .i64 0, .int .i64 0, .int .i64 0, .int .i64 0, .int .i64 0, .int .i64 0, .int .i64 0, .int .i64 0, .int .i64 0, .int .i64 0, .int .i64 0, .int .i64 0, .int .i64 0, .int .i64 0, .int .i64 0, .int .i64 0, .int .i64 0, .int .i64 0, .int .i64 0, .int .i64 0]) := by kernel_rfl
theorem tz190 : (Tryz.prog.info? 190).bind (·.zero) = some (.agg #[.int .u64 0, .int .u64 0, .int .u64 0, .int .u64 0, .int .u64 0, .int .u64 0, .int .u64 0, .int .u64 0, .int .u64 0, .int .u64 0, .int .u64 0, .int .u64 0, .int .u64 0, .int .u64 0, .int .u64 0, .int .u64 0, .int .u64 0, .int .u64 0, .int .u64 0, .int .u64 0, .int .u64 0, .int .u64 0, .int .u64 0, .int .u64 0]) := by kernel_rfl
theorem tz25 : (Tryz.prog.info? 25).bind (·.zero) = some (.agg #[.int .i64 0, .int .i64 0, .slice none 0 0, .slice none 0 0]) := by kernel_rfl
theorem tz3 : (Tryz.prog.info? 3).bind (·.zero) = some (.int .i64 0) := by kernel_rfl
theorem tz36 : (Tryz.prog.info? 36).bind (·.zero) = some (.agg #[.string ⟨#[]⟩, .slice none 0 0]) := by kernel_rfl
theorem tz4 : (Tryz.prog.info? 4).bind (·.zero) = some (.bool false) := by kernel_rfl
theorem tz46 : (Tryz.prog.info? 46).bind (·.zero) = some (.agg #[.int .i64 0, .int .i64 0, .int .i64 0]) := by kernel_rfl
theorem tz5 : (Tryz.prog.info? 5).bind (·.zero) = some (.int .u8 0) := by kernel_rfl
theorem tz60 : (Tryz.prog.info? 60).bind (·.zero) = some (.agg #[.int .i64 0, .int .i64 0]) := by kernel_rfl
theorem tz72 : (Tryz.prog.info? 72).bind (·.zero) = some (.agg #[.string ⟨#[]⟩, .int .i64 0]) := by kernel_rfl
theorem tz84 : (Tryz.prog.info? 84).bind (·.zero) = some (.map none) := by kernel_rfl
theorem tz9 : (Tryz.prog.info? 9).bind (·.zero) = some (.string ⟨#[]⟩) := by kernel_rfl
theorem tz98 : (Tryz.prog.info? 98).bind (·.zero) = some (.agg #[.pointer none, .slice none 0 0]) := by kernel_rfl
theorem bldInfo : (Tryz.prog.info? 98).isSome = true := by kernel_rfl
theorem bldSize : (Tryz.prog.info? 98).any (fun j => j.size != 0) = true := by kernel_rfl
theorem bldLies : liesAt Tryz.prog Tryz.prog.depth 98 (2 / Tryz.prog.cellsOf 98) 0 98 1 = true := by kernel_rfl
theorem bldCells : Tryz.prog.cellsOf 5 = 1 := by kernel_rfl

theorem bldCheck_c (xs : List Int) (c : Nat) (u : Bool) (g : Nat) (post : List D) : CallH Tryz.prog 99 [.ptr c 2 0 0] (bldH 98 5 c u g xs post) (fun d h' => ∃ k : Bool × Nat × List D, d = .tup [] ∧ h' = bldH 98 5 c k.1 k.2.1 xs k.2.2) := by
  refine CallH.of_body Tryz.func99 rfl Tryz.ntmps99 rfl ?_
  cases u
  · refine wpA_seq ?_
    refine wpA_region ?_
    refine wpL_op rfl rfl rfl (OpA.mv rfl (by with_reducible conv => lhs; whnf) ?_)
    refine wpL_op rfl rfl rfl (OpA.nc rfl (by with_reducible conv => lhs; whnf) (.inl ⟨_, _, _, _, rfl⟩) ?_)
    refine wpL_op rfl rfl rfl (OpA.fieldAddr rfl tf98_0 rfl ?_)
    refine wpL_op rfl rfl rfl (OpA.load rfl ti96 rfl .head rfl rfl ?_)
    refine wpL_op rfl rfl rfl (OpA.selfNil rfl td96 rfl rfl ?_)
    refine wpL_nil ?_
    refine wpA_condT rfl ?_
    refine wpA_region ?_
    refine wpL_op rfl rfl rfl (OpA.mv rfl (by with_reducible conv => lhs; whnf) ?_)
    refine wpL_op rfl rfl rfl (OpA.mv rfl (by with_reducible conv => lhs; whnf) ?_)
    refine wpL_op rfl rfl rfl (OpA.toUnsafe rfl td96 td146 bldSize rfl .head ?_)
    refine wpL_op rfl rfl rfl (OpA.callId rfl rfl rfl rfl Tryz.func123 (by kernel_rfl) (by kernel_rfl) (by kernel_rfl) (by kernel_rfl) ?_)
    refine wpL_op rfl rfl rfl (OpA.fromUnsafe rfl td146 td96 bldInfo bldLies rfl .head ?_)
    refine wpL_op rfl rfl rfl (OpA.nc rfl (by with_reducible conv => lhs; whnf) (.inl ⟨_, _, _, _, rfl⟩) ?_)
    refine wpL_op rfl rfl rfl (OpA.fieldAddr rfl tf98_0 rfl ?_)
    refine wpL_eff rfl rfl (OpA.store (e' := bldD 98 5 c true g xs) rfl ti96 rfl (.of rfl) rfl (Nat.le_of_ble_eq_true rfl) rfl .head ?_)
    refine wpL_nil ?_
    exact ⟨_, .nil, (true, g, post), rfl, rfl⟩
  · refine wpA_seq ?_
    refine wpA_region ?_
    refine wpL_op rfl rfl rfl (OpA.mv rfl (by with_reducible conv => lhs; whnf) ?_)
    refine wpL_op rfl rfl rfl (OpA.nc rfl (by with_reducible conv => lhs; whnf) (.inl ⟨_, _, _, _, rfl⟩) ?_)
    refine wpL_op rfl rfl rfl (OpA.fieldAddr rfl tf98_0 rfl ?_)
    refine wpL_op rfl rfl rfl (OpA.load rfl ti96 rfl .head rfl rfl ?_)
    refine wpL_op rfl rfl rfl (OpA.selfNil rfl td96 rfl rfl ?_)
    refine wpL_nil ?_
    refine wpA_condF rfl ?_
    refine wpA_seq ?_
    refine wpA_region ?_
    refine wpL_op rfl rfl rfl (OpA.mv rfl (by with_reducible conv => lhs; whnf) ?_)
    refine wpL_op rfl rfl rfl (OpA.nc rfl (by with_reducible conv => lhs; whnf) (.inl ⟨_, _, _, _, rfl⟩) ?_)
    refine wpL_op rfl rfl rfl (OpA.fieldAddr rfl tf98_0 rfl ?_)
    refine wpL_op rfl rfl rfl (OpA.load rfl ti96 rfl .head rfl rfl ?_)
    refine wpL_op rfl rfl rfl (OpA.mv rfl (by with_reducible conv => lhs; whnf) ?_)
    refine wpL_op rfl rfl rfl (OpA.selfSame rfl td96 bldInfo rfl rfl ?_)
    refine wpL_nil ?_
    refine wpA_condF rfl ?_
    refine wpA_skip ?_
    exact ⟨_, .nil, (true, g, post), rfl, rfl⟩

theorem bldWB_c (xs : List Int) (c : Nat) (u : Bool) (g : Nat) (post : List D) (b : Int) (hb : (xs.length + ([b]).length) * 1 ≤ 140737488355328 ∧ xs.length + ([b]).length ≤ 9223372036854775807) : CallH Tryz.prog 101 [.ptr c 2 0 0, D.k .u8 b] (bldH 98 5 c u g xs post) (fun d h' => ∃ k : Bool × Nat × List D, d = .v .nilIface ∧ h' = bldH 98 5 c k.1 k.2.1 (xs ++ [b]) k.2.2) := by
  refine CallH.of_body Tryz.func101 rfl Tryz.ntmps101 rfl ?_
  refine wpA_seq ?_
  refine wpA_region ?_
  refine wpL_op rfl rfl rfl (OpA.asn rfl (by with_reducible conv => lhs; whnf) ?_)
  refine wpL_nil ?_
  refine wpA_seq ?_
  refine wpA_region ?_
  refine wpL_op rfl rfl rfl (OpA.mv rfl (by with_reducible conv => lhs; whnf) ?_)
  refine wpL_op rfl rfl rfl (OpA.callH rfl rfl rfl en99 (h1 := bldH 98 5 c u g xs post) (h2 := []) (.refl _) (bldCheck_c xs c u g post) ?_)
  rintro _ _ ⟨⟨u', g', post'⟩, rfl, rfl⟩
  refine wpL_nil ?_
  refine wpA_seq ?_
  refine wpA_region ?_
  refine wpL_op rfl rfl rfl (OpA.mv rfl (by with_reducible conv => lhs; whnf) ?_)
  refine wpL_op rfl rfl rfl (OpA.mv rfl (by with_reducible conv => lhs; whnf) ?_)
  refine wpL_op rfl rfl rfl (OpA.nc rfl (by with_reducible conv => lhs; whnf) (.inl ⟨_, _, _, _, rfl⟩) ?_)
  refine wpL_op rfl rfl rfl (OpA.fieldAddr rfl tf98_1 rfl ?_)
  refine wpL_op rfl rfl rfl (OpA.load rfl ti90 rfl .head rfl rfl ?_)
  refine wpL_op rfl rfl rfl (OpA.mv rfl (by with_reducible conv => lhs; whnf) ?_)
  refine wpL_op rfl rfl rfl (OpA.ibuildSliceO rfl ts90 rfl (.cons (.of (sz := 1) rfl) .nil) (by decide) ?_)
  refine wpL_op rfl rfl rfl (OpA.appendB rfl rfl rfl rfl ts90 rfl (fun _ _ => .tail .head) (.list (ys := [b])) hb (fun g2 => ?_))
  refine wpL_op rfl rfl rfl (OpA.nc rfl (by with_reducible conv => lhs; whnf) (.inl ⟨_, _, _, _, rfl⟩) ?_)
  refine wpL_op rfl rfl rfl (OpA.fieldAddr rfl tf98_1 rfl ?_)
  refine wpL_eff rfl rfl (OpA.store (e := bldD 98 5 c u' g' xs) (e' := bldD 98 5 c u' g2 (xs ++ [b])) rfl ti90 rfl (bufD_ok _ _ _) rfl (Nat.le_of_ble_eq_true rfl) (bld_put _) .head ?_)
  refine wpL_nil ?_
  refine wpA_seq ?_
  refine wpA_region ?_
  refine wpL_op rfl rfl rfl (OpA.asn rfl (by with_reducible conv => lhs; whnf) ?_)
  refine wpL_nil ?_
  refine wpA_ret ?_
  exact ⟨_, (.tmp (d := .v .nilIface) rfl .nil), (u', g2, []), rfl, rfl⟩

theorem bldWS_c (xs : List Int) (c : Nat) (u : Bool) (g : Nat) (post : List D) (b : ByteArray) (hb : (xs.length + (sbytes b).length) * 1 ≤ 140737488355328 ∧ xs.length + (sbytes b).length ≤ 9223372036854775807) : CallH Tryz.prog 69 [.ptr c 2 0 0, D.s b] (bldH 98 5 c u g xs post) (fun d h' => ∃ k : Bool × Nat × List D, d = .tup [D.i (b.size : Int), .v .nilIface] ∧ h' = bldH 98 5 c k.1 k.2.1 (xs ++ sbytes b) k.2.2) := by
  refine CallH.of_body Tryz.func69 rfl Tryz.ntmps69 rfl ?_
  refine wpA_seq ?_
  refine wpA_region ?_
  refine wpL_op rfl rfl rfl (OpA.asn rfl (by with_reducible conv => lhs; whnf) ?_)
  refine wpL_op rfl rfl rfl (OpA.asn rfl (by with_reducible conv => lhs; whnf) ?_)
  refine wpL_nil ?_
  refine wpA_seq ?_
  refine wpA_region ?_
  refine wpL_op rfl rfl rfl (OpA.mv rfl (by with_reducible conv => lhs; whnf) ?_)
  refine wpL_op rfl rfl rfl (OpA.callH rfl rfl rfl en99 (h1 := bldH 98 5 c u g xs post) (h2 := []) (.refl _) (bldCheck_c xs c u g post) ?_)
  rintro _ _ ⟨⟨u', g', post'⟩, rfl, rfl⟩
  refine wpL_nil ?_
  refine wpA_seq ?_
  refine wpA_region ?_
  refine wpL_op rfl rfl rfl (OpA.mv rfl (by with_reducible conv => lhs; whnf) ?_)
  refine wpL_op rfl rfl rfl (OpA.mv rfl (by with_reducible conv => lhs; whnf) ?_)
  refine wpL_op rfl rfl rfl (OpA.nc rfl (by with_reducible conv => lhs; whnf) (.inl ⟨_, _, _, _, rfl⟩) ?_)
  refine wpL_op rfl rfl rfl (OpA.fieldAddr rfl tf98_1 rfl ?_)
  refine wpL_op rfl rfl rfl (OpA.load rfl ti90 rfl .head rfl rfl ?_)
  refine wpL_op rfl rfl rfl (OpA.mv rfl (by with_reducible conv => lhs; whnf) ?_)
  refine wpL_op rfl rfl rfl (OpA.appendBS rfl rfl rfl rfl ts90 td9 rfl (fun _ _ => .tail .head) rfl hb (fun g2 => ?_))
  refine wpL_op rfl rfl rfl (OpA.nc rfl (by with_reducible conv => lhs; whnf) (.inl ⟨_, _, _, _, rfl⟩) ?_)
  refine wpL_op rfl rfl rfl (OpA.fieldAddr rfl tf98_1 rfl ?_)
  refine wpL_eff rfl rfl (OpA.store (e := bldD 98 5 c u' g' xs) (e' := bldD 98 5 c u' g2 (xs ++ sbytes b)) rfl ti90 rfl (bufD_ok _ _ _) rfl (Nat.le_of_ble_eq_true rfl) (bld_put _) .head ?_)
  refine wpL_nil ?_
  refine wpA_seq ?_
  refine wpA_region ?_
  refine wpL_op rfl rfl rfl (OpA.mv rfl (by with_reducible conv => lhs; whnf) ?_)
  refine wpL_op rfl rfl rfl (OpA.slen rfl rfl rfl rfl td9 rfl ?_)
  refine wpL_op rfl rfl rfl (OpA.asn rfl (by with_reducible conv => lhs; whnf) ?_)
  refine wpL_op rfl rfl rfl (OpA.asn rfl (by with_reducible conv => lhs; whnf) ?_)
  refine wpL_nil ?_
  refine wpA_ret ?_
  exact ⟨_, (.tmp (d := D.i (b.size : Int)) rfl (.tmp (d := .v .nilIface) rfl .nil)), (u', g2, []), rfl, rfl⟩

theorem bldStr_c (xs : List Int) (c : Nat) (u : Bool) (g : Nat) (post : List D) (hl : xs.length ≤ 9223372036854775807) : CallH Tryz.prog 73 [.ptr c 2 0 0] (bldH 98 5 c u g xs post) (fun d h' => ∃ _ : Unit, d = D.s (bstr xs) ∧ h' = []) := by
  refine CallH.of_body Tryz.func73 rfl Tryz.ntmps73 rfl ?_
  rcases xs with _ | ⟨x, l⟩
  · refine wpA_seq ?_
    refine wpA_region ?_
    refine wpL_op rfl rfl rfl (OpA.asn rfl (by with_reducible conv => lhs; whnf) ?_)
    refine wpL_nil ?_
    refine wpA_seq ?_
    refine wpA_draw (m := 10) mo (by kernel_rfl) rfl ?_
    refine DetK.op rfl (OpA.mv rfl (by with_reducible conv => lhs; whnf) ⟨rfl, rfl⟩) ?_
    refine DetK.op rfl (OpA.nc rfl (by with_reducible conv => lhs; whnf) (.inl ⟨_, _, _, _, rfl⟩) ⟨rfl, rfl⟩) ?_
    refine DetK.op rfl (OpA.fieldAddr rfl tf98_1 rfl ⟨rfl, rfl⟩) ?_
    refine DetK.op rfl (OpA.load rfl ti90 rfl .head rfl rfl ⟨rfl, rfl⟩) ?_
    refine DetK.op rfl (OpA.dataN (t := #[]) rfl rfl rfl rfl ⟨rfl, rfl⟩) ?_
    refine DetK.op rfl (OpA.mv rfl (by with_reducible conv => lhs; whnf) ⟨rfl, rfl⟩) ?_
    refine DetK.op rfl (OpA.nc rfl (by with_reducible conv => lhs; whnf) (.inl ⟨_, _, _, _, rfl⟩) ⟨rfl, rfl⟩) ?_
    refine DetK.op rfl (OpA.fieldAddr rfl tf98_1 rfl ⟨rfl, rfl⟩) ?_
    refine DetK.op rfl (OpA.load rfl ti90 rfl .head rfl rfl ⟨rfl, rfl⟩) ?_
    refine DetK.op rfl (OpA.len (n := 0) rfl rfl rfl rfl ts90.desc (.inr (.inr ⟨rfl, rfl⟩)) ⟨rfl, rfl⟩) ?_
    refine DetK.nil ?_
    refine wpL_op rfl rfl rfl (OpA.strN rfl rfl rfl rfl rfl rfl ?_)
    refine wpL_op rfl rfl rfl (OpA.asn rfl (by with_reducible conv => lhs; whnf) ?_)
    refine wpL_nil ?_
    refine wpA_sub (h0 := []) (.cons _ (.cons _ (.refl _))) ?_
    refine wpA_ret ?_
    exact ⟨_, (.tmp (d := D.s (bstr [])) rfl .nil), (), rfl, rfl⟩
  · refine wpA_seq ?_
    refine wpA_region ?_
    refine wpL_op rfl rfl rfl (OpA.asn rfl (by with_reducible conv => lhs; whnf) ?_)
    refine wpL_nil ?_
    refine wpA_seq ?_
    refine wpA_draw (m := 10) mo (by kernel_rfl) rfl ?_
    refine DetK.op rfl (OpA.mv rfl (by with_reducible conv => lhs; whnf) ⟨rfl, rfl⟩) ?_
    refine DetK.op rfl (OpA.nc rfl (by with_reducible conv => lhs; whnf) (.inl ⟨_, _, _, _, rfl⟩) ⟨rfl, rfl⟩) ?_
    refine DetK.op rfl (OpA.fieldAddr rfl tf98_1 rfl ⟨rfl, rfl⟩) ?_
    refine DetK.op rfl (OpA.load rfl ti90 rfl .head rfl rfl ⟨rfl, rfl⟩) ?_
    refine DetK.op rfl (OpA.dataT rfl rfl rfl rfl ⟨rfl, rfl⟩) ?_
    refine DetK.op rfl (OpA.mv rfl (by with_reducible conv => lhs; whnf) ⟨rfl, rfl⟩) ?_
    refine DetK.op rfl (OpA.nc rfl (by with_reducible conv => lhs; whnf) (.inl ⟨_, _, _, _, rfl⟩) ⟨rfl, rfl⟩) ?_
    refine DetK.op rfl (OpA.fieldAddr rfl tf98_1 rfl ⟨rfl, rfl⟩) ?_
    refine DetK.op rfl (OpA.load rfl ti90 rfl .head rfl rfl ⟨rfl, rfl⟩) ?_
    refine DetK.op rfl (OpA.lenT rfl rfl rfl rfl ts90.desc rfl ⟨rfl, rfl⟩) ?_
    refine DetK.nil ?_
    refine wpL_op rfl rfl rfl (OpA.strT (xs := x :: l) rfl rfl rfl rfl td129 bldCells rfl rfl .head pull1 (by simp) hl ?_)
    refine wpL_op rfl rfl rfl (OpA.asn rfl (by with_reducible conv => lhs; whnf) ?_)
    refine wpL_nil ?_
    refine wpA_sub (h0 := []) (.cons _ (.refl _)) ?_
    refine wpA_ret ?_
    exact ⟨_, (.tmp (d := D.s (bstr (x :: l))) rfl .nil), (), rfl, rfl⟩


end Go.Proofs.YtkoomieafmjjfaaGreatDoor
