/-
  walks and contracts
-/
import Derived.Test.YtaofnefejkokdaaGreatDoorLib
import Derived.Test.YtaofnefejkokdaaGreatDoorCv0
set_option linter.all false
namespace Go.Proofs.YtaofnefejkokdaaGreatDoor
open Go Go.Lic Go.Sort Go.Proofs

set_option maxRecDepth 10000
theorem mo : Tryz.prog.follows .mixedOrders = true := by kernel_rfl
theorem ti102 : TI Tryz.prog 102 3 true := .mk' (by kernel_rfl) (by kernel_rfl)
theorem ti104 : TI Tryz.prog 104 1 false := .mk' (by kernel_rfl) (by kernel_rfl)
theorem ti128 : TI Tryz.prog 128 2 true := .mk' (by kernel_rfl) (by kernel_rfl)
theorem ti22 : TI Tryz.prog 22 1 false := .mk' (by kernel_rfl) (by kernel_rfl)
theorem ti23 : TI Tryz.prog 23 1 false := .mk' (by kernel_rfl) (by kernel_rfl)
theorem ti25 : TI Tryz.prog 25 4 true := .mk' (by kernel_rfl) (by kernel_rfl)
theorem ti26 : TI Tryz.prog 26 1 false := .mk' (by kernel_rfl) (by kernel_rfl)
theorem ti28 : TI Tryz.prog 28 2 true := .mk' (by kernel_rfl) (by kernel_rfl)
theorem ti3 : TI Tryz.prog 3 1 false := .mk' (by kernel_rfl) (by kernel_rfl)
theorem ti31 : TI Tryz.prog 31 1 false := .mk' (by kernel_rfl) (by kernel_rfl)
theorem ti33 : TI Tryz.prog 33 2 true := .mk' (by kernel_rfl) (by kernel_rfl)
theorem ti4 : TI Tryz.prog 4 1 false := .mk' (by kernel_rfl) (by kernel_rfl)
theorem ti48 : TI Tryz.prog 48 4 true := .mk' (by kernel_rfl) (by kernel_rfl)
theorem ti5 : TI Tryz.prog 5 1 false := .mk' (by kernel_rfl) (by kernel_rfl)
theorem ti50 : TI Tryz.prog 50 2 true := .mk' (by kernel_rfl) (by kernel_rfl)
theorem ti52 : TI Tryz.prog 52 1 false := .mk' (by kernel_rfl) (by kernel_rfl)
theorem ti62 : TI Tryz.prog 62 3 true := .mk' (by kernel_rfl) (by kernel_rfl)
theorem ti68 : TI Tryz.prog 68 2 true := .mk' (by kernel_rfl) (by kernel_rfl)
theorem ti79 : TI Tryz.prog 79 1 false := .mk' (by kernel_rfl) (by kernel_rfl)
theorem ti84 : TI Tryz.prog 84 2 true := .mk' (by kernel_rfl) (by kernel_rfl)
theorem ti9 : TI Tryz.prog 9 1 false := .mk' (by kernel_rfl) (by kernel_rfl)
theorem eg102 : Tryz.prog.eqGuardType Tryz.prog.depth 102 = false := by kernel_rfl
theorem eg48 : Tryz.prog.eqGuardType Tryz.prog.depth 48 = false := by kernel_rfl
theorem eg84 : Tryz.prog.eqGuardType Tryz.prog.depth 84 = false := by kernel_rfl
theorem en10 : entersB Tryz.prog 10 = true := by kernel_rfl
theorem en100 : entersB Tryz.prog 100 = true := by kernel_rfl
theorem en101 : entersB Tryz.prog 101 = true := by kernel_rfl
theorem en107 : entersB Tryz.prog 107 = true := by kernel_rfl
theorem en108 : entersB Tryz.prog 108 = true := by kernel_rfl
theorem en109 : entersB Tryz.prog 109 = true := by kernel_rfl
theorem en11 : entersB Tryz.prog 11 = true := by kernel_rfl
theorem en110 : entersB Tryz.prog 110 = true := by kernel_rfl
theorem en111 : entersB Tryz.prog 111 = true := by kernel_rfl
theorem en112 : entersB Tryz.prog 112 = true := by kernel_rfl
theorem en113 : entersB Tryz.prog 113 = true := by kernel_rfl
theorem en114 : entersB Tryz.prog 114 = true := by kernel_rfl
theorem en12 : entersB Tryz.prog 12 = true := by kernel_rfl
theorem en124 : entersB Tryz.prog 124 = true := by kernel_rfl
theorem en129 : entersB Tryz.prog 129 = true := by kernel_rfl
theorem en130 : entersB Tryz.prog 130 = true := by kernel_rfl
theorem en131 : entersB Tryz.prog 131 = true := by kernel_rfl
theorem en132 : entersB Tryz.prog 132 = true := by kernel_rfl
theorem en133 : entersB Tryz.prog 133 = true := by kernel_rfl
theorem en134 : entersB Tryz.prog 134 = true := by kernel_rfl
theorem en135 : entersB Tryz.prog 135 = true := by kernel_rfl
theorem en141 : entersB Tryz.prog 141 = true := by kernel_rfl
theorem en15 : entersB Tryz.prog 15 = true := by kernel_rfl
theorem en155 : entersB Tryz.prog 155 = true := by kernel_rfl
theorem en156 : entersB Tryz.prog 156 = true := by kernel_rfl
theorem en17 : entersB Tryz.prog 17 = true := by kernel_rfl
theorem en18 : entersB Tryz.prog 18 = true := by kernel_rfl
theorem en19 : entersB Tryz.prog 19 = true := by kernel_rfl
theorem en20 : entersB Tryz.prog 20 = true := by kernel_rfl
theorem en21 : entersB Tryz.prog 21 = true := by kernel_rfl
theorem en23 : entersB Tryz.prog 23 = true := by kernel_rfl
theorem en28 : entersB Tryz.prog 28 = true := by kernel_rfl
theorem en29 : entersB Tryz.prog 29 = true := by kernel_rfl
theorem en30 : entersB Tryz.prog 30 = true := by kernel_rfl
theorem en31 : entersB Tryz.prog 31 = true := by kernel_rfl
theorem en32 : entersB Tryz.prog 32 = true := by kernel_rfl
theorem en33 : entersB Tryz.prog 33 = true := by kernel_rfl
theorem en34 : entersB Tryz.prog 34 = true := by kernel_rfl
theorem en35 : entersB Tryz.prog 35 = true := by kernel_rfl
theorem en36 : entersB Tryz.prog 36 = true := by kernel_rfl
theorem en37 : entersB Tryz.prog 37 = true := by kernel_rfl
theorem en38 : entersB Tryz.prog 38 = true := by kernel_rfl
theorem en39 : entersB Tryz.prog 39 = true := by kernel_rfl
theorem en40 : entersB Tryz.prog 40 = true := by kernel_rfl
theorem en45 : entersB Tryz.prog 45 = true := by kernel_rfl
theorem en46 : entersB Tryz.prog 46 = true := by kernel_rfl
theorem en47 : entersB Tryz.prog 47 = true := by kernel_rfl
theorem en48 : entersB Tryz.prog 48 = true := by kernel_rfl
theorem en49 : entersB Tryz.prog 49 = true := by kernel_rfl
theorem en50 : entersB Tryz.prog 50 = true := by kernel_rfl
theorem en51 : entersB Tryz.prog 51 = true := by kernel_rfl
theorem en52 : entersB Tryz.prog 52 = true := by kernel_rfl
theorem en53 : entersB Tryz.prog 53 = true := by kernel_rfl
theorem en54 : entersB Tryz.prog 54 = true := by kernel_rfl
theorem en58 : entersB Tryz.prog 58 = true := by kernel_rfl
theorem en59 : entersB Tryz.prog 59 = true := by kernel_rfl
theorem en60 : entersB Tryz.prog 60 = true := by kernel_rfl
theorem en61 : entersB Tryz.prog 61 = true := by kernel_rfl
theorem en62 : entersB Tryz.prog 62 = true := by kernel_rfl
theorem en63 : entersB Tryz.prog 63 = true := by kernel_rfl
theorem en64 : entersB Tryz.prog 64 = true := by kernel_rfl
theorem en65 : entersB Tryz.prog 65 = true := by kernel_rfl
theorem en66 : entersB Tryz.prog 66 = true := by kernel_rfl
theorem en67 : entersB Tryz.prog 67 = true := by kernel_rfl
theorem en69 : entersB Tryz.prog 69 = true := by kernel_rfl
theorem en70 : entersB Tryz.prog 70 = true := by kernel_rfl
theorem en71 : entersB Tryz.prog 71 = true := by kernel_rfl
theorem en72 : entersB Tryz.prog 72 = true := by kernel_rfl
theorem en73 : entersB Tryz.prog 73 = true := by kernel_rfl
theorem en74 : entersB Tryz.prog 74 = true := by kernel_rfl
theorem en75 : entersB Tryz.prog 75 = true := by kernel_rfl
theorem en76 : entersB Tryz.prog 76 = true := by kernel_rfl
theorem en79 : entersB Tryz.prog 79 = true := by kernel_rfl
theorem en80 : entersB Tryz.prog 80 = true := by kernel_rfl
theorem en81 : entersB Tryz.prog 81 = true := by kernel_rfl
theorem en82 : entersB Tryz.prog 82 = true := by kernel_rfl
theorem en83 : entersB Tryz.prog 83 = true := by kernel_rfl
theorem en84 : entersB Tryz.prog 84 = true := by kernel_rfl
theorem en85 : entersB Tryz.prog 85 = true := by kernel_rfl
theorem en89 : entersB Tryz.prog 89 = true := by kernel_rfl
theorem en90 : entersB Tryz.prog 90 = true := by kernel_rfl
theorem en91 : entersB Tryz.prog 91 = true := by kernel_rfl
theorem en92 : entersB Tryz.prog 92 = true := by kernel_rfl
theorem en93 : entersB Tryz.prog 93 = true := by kernel_rfl
theorem en94 : entersB Tryz.prog 94 = true := by kernel_rfl
theorem en95 : entersB Tryz.prog 95 = true := by kernel_rfl
theorem en96 : entersB Tryz.prog 96 = true := by kernel_rfl
theorem en97 : entersB Tryz.prog 97 = true := by kernel_rfl
theorem en98 : entersB Tryz.prog 98 = true := by kernel_rfl
theorem en99 : entersB Tryz.prog 99 = true := by kernel_rfl
theorem su102 : Tryz.prog.underlying 102 = some (.struct (Tryz.prog.fieldsOf 102)) ∧ Tryz.prog.stoodInHeld 102 = false ∧ (Tryz.prog.fieldsOf 102).toList.map (fun f => (f.name == "_", f.offset, f.type)) = ([(0, 3), (1, 3), (2, 3)] : List (Nat × TypeId)).map (fun p => (false, p.1, p.2)) := ⟨by kernel_rfl, by kernel_rfl, by kernel_rfl⟩
theorem su48 : Tryz.prog.underlying 48 = some (.struct (Tryz.prog.fieldsOf 48)) ∧ Tryz.prog.stoodInHeld 48 = false ∧ (Tryz.prog.fieldsOf 48).toList.map (fun f => (f.name == "_", f.offset, f.type)) = ([(0, 3), (1, 3), (2, 3), (3, 3)] : List (Nat × TypeId)).map (fun p => (false, p.1, p.2)) := ⟨by kernel_rfl, by kernel_rfl, by kernel_rfl⟩
theorem td149 : Tryz.prog.underlying 149 = some (.int .u64) := by kernel_rfl
theorem td171 : Tryz.prog.underlying 171 = some (.int .u64) := by kernel_rfl
theorem td3 : Tryz.prog.underlying 3 = some (.int .i64) := by kernel_rfl
theorem td4 : Tryz.prog.underlying 4 = some (.bool) := by kernel_rfl
theorem td5 : Tryz.prog.underlying 5 = some (.int .u8) := by kernel_rfl
theorem td65 : Tryz.prog.underlying 65 = some (.map 3 4) := by kernel_rfl
theorem td84 : Tryz.prog.underlying 84 = some (.array 2 3) := by kernel_rfl
theorem td9 : Tryz.prog.underlying 9 = some (.string) := by kernel_rfl
theorem tf102_0 : fieldOff Tryz.prog 102 0 = some 0 := by kernel_rfl
theorem tf102_1 : fieldOff Tryz.prog 102 1 = some 1 := by kernel_rfl
theorem tf102_2 : fieldOff Tryz.prog 102 2 = some 2 := by kernel_rfl
theorem tf128_0 : fieldOff Tryz.prog 128 0 = some 0 := by kernel_rfl
theorem tf128_1 : fieldOff Tryz.prog 128 1 = some 1 := by kernel_rfl
theorem tf25_0 : fieldOff Tryz.prog 25 0 = some 0 := by kernel_rfl
theorem tf25_1 : fieldOff Tryz.prog 25 1 = some 1 := by kernel_rfl
theorem tf25_2 : fieldOff Tryz.prog 25 2 = some 2 := by kernel_rfl
theorem tf25_3 : fieldOff Tryz.prog 25 3 = some 3 := by kernel_rfl
theorem tf28_0 : fieldOff Tryz.prog 28 0 = some 0 := by kernel_rfl
theorem tf28_1 : fieldOff Tryz.prog 28 1 = some 1 := by kernel_rfl
theorem tf33_0 : fieldOff Tryz.prog 33 0 = some 0 := by kernel_rfl
theorem tf33_1 : fieldOff Tryz.prog 33 1 = some 1 := by kernel_rfl
theorem tf48_0 : fieldOff Tryz.prog 48 0 = some 0 := by kernel_rfl
theorem tf48_1 : fieldOff Tryz.prog 48 1 = some 1 := by kernel_rfl
theorem tf48_2 : fieldOff Tryz.prog 48 2 = some 2 := by kernel_rfl
theorem tf48_3 : fieldOff Tryz.prog 48 3 = some 3 := by kernel_rfl
theorem tf50_0 : fieldOff Tryz.prog 50 0 = some 0 := by kernel_rfl
theorem tf50_1 : fieldOff Tryz.prog 50 1 = some 1 := by kernel_rfl
theorem tf62_0 : fieldOff Tryz.prog 62 0 = some 0 := by kernel_rfl
theorem tf62_1 : fieldOff Tryz.prog 62 1 = some 1 := by kernel_rfl
theorem tf62_2 : fieldOff Tryz.prog 62 2 = some 2 := by kernel_rfl
theorem tf68_0 : fieldOff Tryz.prog 68 0 = some 0 := by kernel_rfl
theorem tf68_1 : fieldOff Tryz.prog 68 1 = some 1 := by kernel_rfl
theorem tp102 : placesOf Tryz.prog 102 = some [(0, 1), (1, 1), (2, 1)] := by kernel_rfl
theorem tp128 : placesOf Tryz.prog 128 = some [(0, 1), (1, 1)] := by kernel_rfl
theorem tp25 : placesOf Tryz.prog 25 = some [(0, 1), (1, 1), (2, 1), (3, 1)] := by kernel_rfl
theorem tp28 : placesOf Tryz.prog 28 = some [(0, 1), (1, 1)] := by kernel_rfl
theorem tp33 : placesOf Tryz.prog 33 = some [(0, 1), (1, 1)] := by kernel_rfl
theorem tp48 : placesOf Tryz.prog 48 = some [(0, 1), (1, 1), (2, 1), (3, 1)] := by kernel_rfl
theorem tp50 : placesOf Tryz.prog 50 = some [(0, 1), (1, 1)] := by kernel_rfl
theorem tp62 : placesOf Tryz.prog 62 = some [(0, 1), (1, 1), (2, 1)] := by kernel_rfl
theorem tp68 : placesOf Tryz.prog 68 = some [(0, 1), (1, 1)] := by kernel_rfl
theorem ts104 : TS Tryz.prog 104 68 2 24 true := ⟨by kernel_rfl, ti68, by kernel_rfl, by kernel_rfl⟩
theorem ts122 : TS Tryz.prog 122 5 1 1 false := ⟨by kernel_rfl, ti5, by kernel_rfl, by kernel_rfl⟩
theorem ts124 : TS Tryz.prog 124 128 2 16 true := ⟨by kernel_rfl, ti128, by kernel_rfl, by kernel_rfl⟩
theorem ts138 : TS Tryz.prog 138 22 1 24 false := ⟨by kernel_rfl, ti22, by kernel_rfl, by kernel_rfl⟩
theorem ts141 : TS Tryz.prog 141 9 1 16 false := ⟨by kernel_rfl, ti9, by kernel_rfl, by kernel_rfl⟩
theorem ts22 : TS Tryz.prog 22 28 2 40 true := ⟨by kernel_rfl, ti28, by kernel_rfl, by kernel_rfl⟩
theorem ts23 : TS Tryz.prog 23 102 3 24 true := ⟨by kernel_rfl, ti102, by kernel_rfl, by kernel_rfl⟩
theorem ts26 : TS Tryz.prog 26 50 2 24 true := ⟨by kernel_rfl, ti50, by kernel_rfl, by kernel_rfl⟩
theorem ts31 : TS Tryz.prog 31 48 4 32 true := ⟨by kernel_rfl, ti48, by kernel_rfl, by kernel_rfl⟩
theorem ts52 : TS Tryz.prog 52 3 1 8 false := ⟨by kernel_rfl, ti3, by kernel_rfl, by kernel_rfl⟩
theorem ts55 : TS Tryz.prog 55 62 3 32 true := ⟨by kernel_rfl, ti62, by kernel_rfl, by kernel_rfl⟩
theorem ts56 : TS Tryz.prog 56 62 3 32 true := ⟨by kernel_rfl, ti62, by kernel_rfl, by kernel_rfl⟩
theorem ts64 : TS Tryz.prog 64 4 1 1 false := ⟨by kernel_rfl, ti4, by kernel_rfl, by kernel_rfl⟩
theorem ts79 : TS Tryz.prog 79 84 2 16 true := ⟨by kernel_rfl, ti84, by kernel_rfl, by kernel_rfl⟩
theorem tz102 : (Tryz.prog.info? 102).bind (·.zero) = some (.agg #[.int .i64 0, .int .i64 0, .int .i64 0]) := by kernel_rfl
theorem tz104 : (Tryz.prog.info? 104).bind (·.zero) = some (.slice none 0 0) := by kernel_rfl
theorem tz128 : (Tryz.prog.info? 128).bind (·.zero) = some (.agg #[.int .i64 0, .int .i64 0]) := by kernel_rfl
theorem tz25 : (Tryz.prog.info? 25).bind (·.zero) = some (.agg #[.int .i64 0, .int .i64 0, .slice none 0 0, .slice none 0 0]) := by kernel_rfl
theorem tz28 : (Tryz.prog.info? 28).bind (·.zero) = some (.agg #[.string ⟨#[]⟩, .slice none 0 0]) := by kernel_rfl
theorem tz3 : (Tryz.prog.info? 3).bind (·.zero) = some (.int .i64 0) := by kernel_rfl
theorem tz33 : (Tryz.prog.info? 33).bind (·.zero) = some (.agg #[.string ⟨#[]⟩, .slice none 0 0]) := by kernel_rfl
theorem tz4 : (Tryz.prog.info? 4).bind (·.zero) = some (.bool false) := by kernel_rfl
theorem tz48 : (Tryz.prog.info? 48).bind (·.zero) = some (.agg #[.int .i64 0, .int .i64 0, .int .i64 0, .int .i64 0]) := by kernel_rfl
theorem tz50 : (Tryz.prog.info? 50).bind (·.zero) = some (.agg #[.string ⟨#[]⟩, .int .i64 0]) := by kernel_rfl
theorem tz52 : (Tryz.prog.info? 52).bind (·.zero) = some (.slice none 0 0) := by kernel_rfl
theorem tz62 : (Tryz.prog.info? 62).bind (·.zero) = some (.agg #[.string ⟨#[]⟩, .int .i64 0, .int .i64 0]) := by kernel_rfl
theorem tz68 : (Tryz.prog.info? 68).bind (·.zero) = some (.agg #[.string ⟨#[]⟩, .int .i64 0]) := by kernel_rfl
theorem tz79 : (Tryz.prog.info? 79).bind (·.zero) = some (.slice none 0 0) := by kernel_rfl
theorem tz84 : (Tryz.prog.info? 84).bind (·.zero) = some (.agg #[.int .i64 0, .int .i64 0]) := by kernel_rfl
theorem tz9 : (Tryz.prog.info? 9).bind (·.zero) = some (.string ⟨#[]⟩) := by kernel_rfl



end Go.Proofs.YtaofnefejkokdaaGreatDoor

set_option linter.all false
namespace Go.Proofs.YtaofnefejkokdaaGreatDoor
open Go Go.Lic Go.Sort Go.Proofs

/-- The iterator of slices.Backward. -/
theorem backL_c (xs : List Lexeme) (_ : xs.length ≤ 9223372036854775807) : Fun false Tryz.prog 37 [encL 2 encLex xs] (fun d => d = .fn (.func 66) [] [.iptr (encL 2 encLex xs) 0]) := by
  refine Fun.of_body Tryz.func37 rfl Tryz.ntmps37 rfl ?_
  refine wpA_seq ?_
  refine wpA_region ?_
  refine wpL_op rfl rfl rfl (OpA.bx (sz := 1) rfl (by with_reducible conv => lhs; whnf) (.of rfl) (fun c1 _ => ?_))
  refine wpL_op rfl rfl rfl (OpA.asn rfl (by with_reducible conv => lhs; whnf) ?_)
  refine wpL_nil ?_
  refine wpA_seq ?_
  refine wpA_region ?_
  refine wpL_op rfl rfl rfl (OpA.makeFunc rfl ?_)
  refine wpL_op rfl rfl rfl (OpA.asn rfl (by with_reducible conv => lhs; whnf) ?_)
  refine wpL_nil ?_
  refine wpA_ret ?_
  exact ⟨_, (.tmp rfl .nil), _, (.fn .nil (.ptrp rfl .head rfl .nil) .nil), rfl⟩
theorem backL_it (xs : List Lexeme) (hx : xs.length ≤ 9223372036854775807) : BackC Tryz.prog 66 [.iptr (encL 2 encLex xs) 0] xs.length (backArg encLex xs) := by
  intro c n fr ps assign body I hround h0 hI0
  refine CallH.of_body Tryz.func66 rfl Tryz.ntmps66 rfl ?_
  refine wpA_perm (List.perm_append_comm (l₁ := [(c, Blk.loop n fr ps assign body)]) (l₂ := h0)) ?_
  refine wpA_seq ?_
  refine wpA_region ?_
  refine wL (OpA.iload rfl ti26 rfl rfl ?_)
  refine wL (OpA.len rfl rfl rfl rfl ts26.desc (.inl ⟨_, _, rfl, (List.length_map _).symm⟩) ?_)
  refine wL (OpA.subi rfl rfl rfl (by omega) ?_)
  refine wL (OpA.a ?_)
  refine wpL_nil ?_
  refine wpA_block ?_
  refine wpA_loopP (fun k f h => ∃ (j : Nat) (h1 : Heap), j ≤ xs.length ∧ k = xs.length - j ∧ I j h1 ∧ f = asg [(0, .fn (.yield (c / 2)) [] []), (1, .iptr (encL 2 encLex xs) 0), (3, D.i ((xs.length : Int) - 1 - j))] ∧ h = h1 ++ [(c, .loop n fr ps assign body)])
    ⟨xs.length, _, _, ⟨0, h0, by omega, rfl, hI0, rfl, rfl⟩, .refl _, Cov.asg ⟨rfl, rfl, by simp [show ((0 : Nat) : Int) = 0 from rfl, Int.sub_zero], trivial⟩⟩ ?_
  rintro k f h ⟨j, h1, hj, rfl, hI, rfl, rfl⟩
  refine wpA_seq ?_
  refine wpA_seq ?_
  refine wpA_region ?_
  refine wL (OpA.m ?_)
  refine wL (OpA.geq rfl rfl rfl ?_)
  refine wpL_nil ?_
  refine wpA_cond rfl (fun b1 => ?_) (fun b1 => ?_)
  · have b1 := decT b1
    refine wpA_skip ?_
    refine wpA_seq ?_
    refine wpA_block ?_
    refine wpA_seq ?_
    refine wpA_region ?_
    iterate 2 refine wL (OpA.m ?_)
    refine wL (OpA.iload rfl ti26 rfl rfl ?_)
    refine wL (OpA.m ?_)
    refine wL (OpA.iixV (enc := encLex) rfl ts26 rfl rfl rfl ⟨by omega, by omega⟩ ?_)
    refine wL (OpA.iload_whole rfl ti50 rfl ⟨_, rfl, rfl⟩ ?_)
    refine wL (OpA.yield rfl rfl rfl (.refl _) (hround j h1 (by omega) hI) (fun h2 hI2 => ?_))
    refine wL (OpA.not rfl rfl ?_)
    refine wpL_nil ?_
    refine wpA_condF rfl ?_
    refine wpA_skip ?_
    refine wpA_region ?_
    refine wL (OpA.m ?_)
    refine wL (OpA.subi rfl rfl rfl (by omega) ?_)
    refine wL (OpA.a ?_)
    refine wpL_nil ?_
    exact ⟨xs.length - (j + 1), _, _, by omega, ⟨j + 1, h2, by omega, rfl, hI2, rfl, rfl⟩, .refl _, Cov.asg ⟨rfl, rfl, by rw [show (xs.length : Int) - 1 - ((j + 1 : Nat) : Int) = (xs.length : Int) - 1 - (j : Nat) - 1 by omega], trivial⟩⟩
  · have b1 := decF b1
    refine wpA_exit ?_
    obtain rfl : j = xs.length := by omega
    exact ⟨_, .nil, h1, List.perm_append_comm, hI⟩



end Go.Proofs.YtaofnefejkokdaaGreatDoor
