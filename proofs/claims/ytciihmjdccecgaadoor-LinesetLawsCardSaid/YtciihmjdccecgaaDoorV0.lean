/-
  walks and contracts
-/
import Derived.Test.YtciihmjdccecgaaDoorLib
set_option linter.all false
namespace Go.Proofs.YtciihmjdccecgaaDoor
open Go Go.Lic Go.Sort Go.Proofs

set_option maxRecDepth 10000
theorem mo : Tryd.prog.follows .mixedOrders = true := by kernel_rfl
theorem ti23 : TI Tryd.prog 23 1 false := .mk' (by kernel_rfl) (by kernel_rfl)
theorem ti27 : TI Tryd.prog 27 1 false := .mk' (by kernel_rfl) (by kernel_rfl)
theorem ti3 : TI Tryd.prog 3 1 false := .mk' (by kernel_rfl) (by kernel_rfl)
theorem ti33 : TI Tryd.prog 33 3 true := .mk' (by kernel_rfl) (by kernel_rfl)
theorem ti37 : TI Tryd.prog 37 2 true := .mk' (by kernel_rfl) (by kernel_rfl)
theorem ti4 : TI Tryd.prog 4 1 false := .mk' (by kernel_rfl) (by kernel_rfl)
theorem ti49 : TI Tryd.prog 49 1 false := .mk' (by kernel_rfl) (by kernel_rfl)
theorem ti5 : TI Tryd.prog 5 1 false := .mk' (by kernel_rfl) (by kernel_rfl)
theorem ti50 : TI Tryd.prog 50 1 false := .mk' (by kernel_rfl) (by kernel_rfl)
theorem ti9 : TI Tryd.prog 9 1 false := .mk' (by kernel_rfl) (by kernel_rfl)
theorem eg33 : Tryd.prog.eqGuardType Tryd.prog.depth 33 = false := by kernel_rfl
theorem en10 : entersB Tryd.prog 10 = true := by kernel_rfl
theorem en11 : entersB Tryd.prog 11 = true := by kernel_rfl
theorem en12 : entersB Tryd.prog 12 = true := by kernel_rfl
theorem en13 : entersB Tryd.prog 13 = true := by kernel_rfl
theorem en14 : entersB Tryd.prog 14 = true := by kernel_rfl
theorem en15 : entersB Tryd.prog 15 = true := by kernel_rfl
theorem en16 : entersB Tryd.prog 16 = true := by kernel_rfl
theorem en17 : entersB Tryd.prog 17 = true := by kernel_rfl
theorem en18 : entersB Tryd.prog 18 = true := by kernel_rfl
theorem en19 : entersB Tryd.prog 19 = true := by kernel_rfl
theorem en20 : entersB Tryd.prog 20 = true := by kernel_rfl
theorem en21 : entersB Tryd.prog 21 = true := by kernel_rfl
theorem en22 : entersB Tryd.prog 22 = true := by kernel_rfl
theorem en23 : entersB Tryd.prog 23 = true := by kernel_rfl
theorem en24 : entersB Tryd.prog 24 = true := by kernel_rfl
theorem en25 : entersB Tryd.prog 25 = true := by kernel_rfl
theorem en26 : entersB Tryd.prog 26 = true := by kernel_rfl
theorem en27 : entersB Tryd.prog 27 = true := by kernel_rfl
theorem en28 : entersB Tryd.prog 28 = true := by kernel_rfl
theorem en29 : entersB Tryd.prog 29 = true := by kernel_rfl
theorem en30 : entersB Tryd.prog 30 = true := by kernel_rfl
theorem en31 : entersB Tryd.prog 31 = true := by kernel_rfl
theorem en32 : entersB Tryd.prog 32 = true := by kernel_rfl
theorem en33 : entersB Tryd.prog 33 = true := by kernel_rfl
theorem en34 : entersB Tryd.prog 34 = true := by kernel_rfl
theorem en35 : entersB Tryd.prog 35 = true := by kernel_rfl
theorem en36 : entersB Tryd.prog 36 = true := by kernel_rfl
theorem en37 : entersB Tryd.prog 37 = true := by kernel_rfl
theorem en38 : entersB Tryd.prog 38 = true := by kernel_rfl
theorem en39 : entersB Tryd.prog 39 = true := by kernel_rfl
theorem en4 : entersB Tryd.prog 4 = true := by kernel_rfl
theorem en40 : entersB Tryd.prog 40 = true := by kernel_rfl
theorem en41 : entersB Tryd.prog 41 = true := by kernel_rfl
theorem en42 : entersB Tryd.prog 42 = true := by kernel_rfl
theorem en45 : entersB Tryd.prog 45 = true := by kernel_rfl
theorem en46 : entersB Tryd.prog 46 = true := by kernel_rfl
theorem en47 : entersB Tryd.prog 47 = true := by kernel_rfl
theorem en48 : entersB Tryd.prog 48 = true := by kernel_rfl
theorem en49 : entersB Tryd.prog 49 = true := by kernel_rfl
theorem en5 : entersB Tryd.prog 5 = true := by kernel_rfl
theorem en50 : entersB Tryd.prog 50 = true := by kernel_rfl
theorem en51 : entersB Tryd.prog 51 = true := by kernel_rfl
theorem en57 : entersB Tryd.prog 57 = true := by kernel_rfl
theorem en58 : entersB Tryd.prog 58 = true := by kernel_rfl
theorem en59 : entersB Tryd.prog 59 = true := by kernel_rfl
theorem en6 : entersB Tryd.prog 6 = true := by kernel_rfl
theorem en60 : entersB Tryd.prog 60 = true := by kernel_rfl
theorem en7 : entersB Tryd.prog 7 = true := by kernel_rfl
theorem en79 : entersB Tryd.prog 79 = true := by kernel_rfl
theorem en8 : entersB Tryd.prog 8 = true := by kernel_rfl
theorem en9 : entersB Tryd.prog 9 = true := by kernel_rfl
theorem su33 : Tryd.prog.underlying 33 = some (.struct (Tryd.prog.fieldsOf 33)) ∧ Tryd.prog.stoodInHeld 33 = false ∧ (Tryd.prog.fieldsOf 33).toList.map (fun f => (f.name == "_", f.offset, f.type)) = ([(0, 9), (1, 3), (2, 3)] : List (Nat × TypeId)).map (fun p => (false, p.1, p.2)) := ⟨by kernel_rfl, by kernel_rfl, by kernel_rfl⟩
theorem td3 : Tryd.prog.underlying 3 = some (.int .i64) := by kernel_rfl
theorem td4 : Tryd.prog.underlying 4 = some (.bool) := by kernel_rfl
theorem td49 : Tryd.prog.underlying 49 = some (.pointer 52) := by kernel_rfl
theorem td72 : Tryd.prog.underlying 72 = some (.pointer 5) := by kernel_rfl
theorem td80 : Tryd.prog.underlying 80 = some (.int .u64) := by kernel_rfl
theorem td83 : Tryd.prog.underlying 83 = some (.unsafePointer) := by kernel_rfl
theorem td9 : Tryd.prog.underlying 9 = some (.string) := by kernel_rfl
theorem tf33_0 : fieldOff Tryd.prog 33 0 = some 0 := by kernel_rfl
theorem tf33_1 : fieldOff Tryd.prog 33 1 = some 1 := by kernel_rfl
theorem tf33_2 : fieldOff Tryd.prog 33 2 = some 2 := by kernel_rfl
theorem tf37_0 : fieldOff Tryd.prog 37 0 = some 0 := by kernel_rfl
theorem tf37_1 : fieldOff Tryd.prog 37 1 = some 1 := by kernel_rfl
theorem tf52_0 : fieldOff Tryd.prog 52 0 = some 0 := by kernel_rfl
theorem tf52_1 : fieldOff Tryd.prog 52 1 = some 1 := by kernel_rfl
theorem tp33 : placesOf Tryd.prog 33 = some [(0, 1), (1, 1), (2, 1)] := by kernel_rfl
theorem tp37 : placesOf Tryd.prog 37 = some [(0, 1), (1, 1)] := by kernel_rfl
theorem ts22 : TS Tryd.prog 22 33 3 32 true := ⟨by kernel_rfl, ti33, by kernel_rfl, by kernel_rfl⟩
theorem ts23 : TS Tryd.prog 23 33 3 32 true := ⟨by kernel_rfl, ti33, by kernel_rfl, by kernel_rfl⟩
theorem ts38 : TS Tryd.prog 38 37 2 24 true := ⟨by kernel_rfl, ti37, by kernel_rfl, by kernel_rfl⟩
theorem ts50 : TS Tryd.prog 50 5 1 1 false := ⟨by kernel_rfl, ti5, by kernel_rfl, by kernel_rfl⟩
theorem ts61 : TS Tryd.prog 61 9 1 16 false := ⟨by kernel_rfl, ti9, by kernel_rfl, by kernel_rfl⟩
theorem ts70 : TS Tryd.prog 70 23 1 24 false := ⟨by kernel_rfl, ti23, by kernel_rfl, by kernel_rfl⟩
theorem ts81 : TS Tryd.prog 81 3 1 8 false := ⟨by kernel_rfl, ti3, by kernel_rfl, by kernel_rfl⟩
theorem tz27 : (Tryd.prog.info? 27).bind (·.zero) = some (.nilFunc) := by kernel_rfl
theorem tz33 : (Tryd.prog.info? 33).bind (·.zero) = some (.agg #[.string ⟨#[]⟩, .int .i64 0, .int .i64 0]) := by kernel_rfl
theorem tz37 : (Tryd.prog.info? 37).bind (·.zero) = some (.agg #[.string ⟨#[]⟩, .int .i64 0]) := by kernel_rfl
theorem tz4 : (Tryd.prog.info? 4).bind (·.zero) = some (.bool false) := by kernel_rfl
theorem tz52 : (Tryd.prog.info? 52).bind (·.zero) = some (.agg #[.pointer none, .slice none 0 0]) := by kernel_rfl
theorem tz9 : (Tryd.prog.info? 9).bind (·.zero) = some (.string ⟨#[]⟩) := by kernel_rfl
theorem bldInfo : (Tryd.prog.info? 52).isSome = true := by kernel_rfl
theorem bldSize : (Tryd.prog.info? 52).any (fun j => j.size != 0) = true := by kernel_rfl
theorem bldLies : liesAt Tryd.prog Tryd.prog.depth 52 (2 / Tryd.prog.cellsOf 52) 0 52 1 = true := by kernel_rfl
theorem bldCells : Tryd.prog.cellsOf 5 = 1 := by kernel_rfl

theorem bldCheck_c (xs : List Int) (c : Nat) (u : Bool) (g : Nat) (post : List D) : CallH Tryd.prog 42 [.ptr c 2 0 0] (bldH 52 5 c u g xs post) (fun d h' => ∃ k : Bool × Nat × List D, d = .tup [] ∧ h' = bldH 52 5 c k.1 k.2.1 xs k.2.2) := by
  refine CallH.of_body Tryd.func42 rfl Tryd.ntmps42 rfl ?_
  cases u
  · refine wpA_seq ?_
    refine wpA_region ?_
    refine wpL_op rfl rfl rfl (OpA.mv rfl (by with_reducible conv => lhs; whnf) ?_)
    refine wpL_op rfl rfl rfl (OpA.nc rfl (by with_reducible conv => lhs; whnf) (.inl ⟨_, _, _, _, rfl⟩) ?_)
    refine wpL_op rfl rfl rfl (OpA.fieldAddr rfl tf52_0 rfl ?_)
    refine wpL_op rfl rfl rfl (OpA.load rfl ti49 rfl .head rfl rfl ?_)
    refine wpL_op rfl rfl rfl (OpA.selfNil rfl td49 rfl rfl ?_)
    refine wpL_nil ?_
    refine wpA_condT rfl ?_
    refine wpA_region ?_
    refine wpL_op rfl rfl rfl (OpA.mv rfl (by with_reducible conv => lhs; whnf) ?_)
    refine wpL_op rfl rfl rfl (OpA.mv rfl (by with_reducible conv => lhs; whnf) ?_)
    refine wpL_op rfl rfl rfl (OpA.toUnsafe rfl td49 td83 bldSize rfl .head ?_)
    refine wpL_op rfl rfl rfl (OpA.callId rfl rfl rfl rfl Tryd.func54 (by kernel_rfl) (by kernel_rfl) (by kernel_rfl) (by kernel_rfl) ?_)
    refine wpL_op rfl rfl rfl (OpA.fromUnsafe rfl td83 td49 bldInfo bldLies rfl .head ?_)
    refine wpL_op rfl rfl rfl (OpA.nc rfl (by with_reducible conv => lhs; whnf) (.inl ⟨_, _, _, _, rfl⟩) ?_)
    refine wpL_op rfl rfl rfl (OpA.fieldAddr rfl tf52_0 rfl ?_)
    refine wpL_eff rfl rfl (OpA.store (e' := bldD 52 5 c true g xs) rfl ti49 rfl (.of rfl) rfl (Nat.le_of_ble_eq_true rfl) rfl .head ?_)
    refine wpL_nil ?_
    exact ⟨_, .nil, (true, g, post), rfl, rfl⟩
  · refine wpA_seq ?_
    refine wpA_region ?_
    refine wpL_op rfl rfl rfl (OpA.mv rfl (by with_reducible conv => lhs; whnf) ?_)
    refine wpL_op rfl rfl rfl (OpA.nc rfl (by with_reducible conv => lhs; whnf) (.inl ⟨_, _, _, _, rfl⟩) ?_)
    refine wpL_op rfl rfl rfl (OpA.fieldAddr rfl tf52_0 rfl ?_)
    refine wpL_op rfl rfl rfl (OpA.load rfl ti49 rfl .head rfl rfl ?_)
    refine wpL_op rfl rfl rfl (OpA.selfNil rfl td49 rfl rfl ?_)
    refine wpL_nil ?_
    refine wpA_condF rfl ?_
    refine wpA_seq ?_
    refine wpA_region ?_
    refine wpL_op rfl rfl rfl (OpA.mv rfl (by with_reducible conv => lhs; whnf) ?_)
    refine wpL_op rfl rfl rfl (OpA.nc rfl (by with_reducible conv => lhs; whnf) (.inl ⟨_, _, _, _, rfl⟩) ?_)
    refine wpL_op rfl rfl rfl (OpA.fieldAddr rfl tf52_0 rfl ?_)
    refine wpL_op rfl rfl rfl (OpA.load rfl ti49 rfl .head rfl rfl ?_)
    refine wpL_op rfl rfl rfl (OpA.mv rfl (by with_reducible conv => lhs; whnf) ?_)
    refine wpL_op rfl rfl rfl (OpA.selfSame rfl td49 bldInfo rfl rfl ?_)
    refine wpL_nil ?_
    refine wpA_condF rfl ?_
    refine wpA_skip ?_
    exact ⟨_, .nil, (true, g, post), rfl, rfl⟩

theorem bldWS_c (xs : List Int) (c : Nat) (u : Bool) (g : Nat) (post : List D) (b : ByteArray) (hb : (xs.length + (sbytes b).length) * 1 ≤ 140737488355328 ∧ xs.length + (sbytes b).length ≤ 9223372036854775807) : CallH Tryd.prog 26 [.ptr c 2 0 0, D.s b] (bldH 52 5 c u g xs post) (fun d h' => ∃ k : Bool × Nat × List D, d = .tup [D.i (b.size : Int), .v .nilIface] ∧ h' = bldH 52 5 c k.1 k.2.1 (xs ++ sbytes b) k.2.2) := by
  refine CallH.of_body Tryd.func26 rfl Tryd.ntmps26 rfl ?_
  refine wpA_seq ?_
  refine wpA_region ?_
  refine wpL_op rfl rfl rfl (OpA.asn rfl (by with_reducible conv => lhs; whnf) ?_)
  refine wpL_op rfl rfl rfl (OpA.asn rfl (by with_reducible conv => lhs; whnf) ?_)
  refine wpL_nil ?_
  refine wpA_seq ?_
  refine wpA_region ?_
  refine wpL_op rfl rfl rfl (OpA.mv rfl (by with_reducible conv => lhs; whnf) ?_)
  refine wpL_op rfl rfl rfl (OpA.callH rfl rfl rfl en42 (h1 := bldH 52 5 c u g xs post) (h2 := []) (.refl _) (bldCheck_c xs c u g post) ?_)
  rintro _ _ ⟨⟨u', g', post'⟩, rfl, rfl⟩
  refine wpL_nil ?_
  refine wpA_seq ?_
  refine wpA_region ?_
  refine wpL_op rfl rfl rfl (OpA.mv rfl (by with_reducible conv => lhs; whnf) ?_)
  refine wpL_op rfl rfl rfl (OpA.mv rfl (by with_reducible conv => lhs; whnf) ?_)
  refine wpL_op rfl rfl rfl (OpA.nc rfl (by with_reducible conv => lhs; whnf) (.inl ⟨_, _, _, _, rfl⟩) ?_)
  refine wpL_op rfl rfl rfl (OpA.fieldAddr rfl tf52_1 rfl ?_)
  refine wpL_op rfl rfl rfl (OpA.load rfl ti50 rfl .head rfl rfl ?_)
  refine wpL_op rfl rfl rfl (OpA.mv rfl (by with_reducible conv => lhs; whnf) ?_)
  refine wpL_op rfl rfl rfl (OpA.appendBS rfl rfl rfl rfl ts50 td9 rfl (fun _ _ => .tail .head) rfl hb (fun g2 => ?_))
  refine wpL_op rfl rfl rfl (OpA.nc rfl (by with_reducible conv => lhs; whnf) (.inl ⟨_, _, _, _, rfl⟩) ?_)
  refine wpL_op rfl rfl rfl (OpA.fieldAddr rfl tf52_1 rfl ?_)
  refine wpL_eff rfl rfl (OpA.store (e := bldD 52 5 c u' g' xs) (e' := bldD 52 5 c u' g2 (xs ++ sbytes b)) rfl ti50 rfl (bufD_ok _ _ _) rfl (Nat.le_of_ble_eq_true rfl) (bld_put _) .head ?_)
  refine wpL_nil ?_
  refine wpA_seq ?_
  refine wpA_region ?_
  refine wpL_op rfl rfl rfl (OpA.mv rfl (by with_reducible conv => lhs; whnf) ?_)
  refine wpL_op rfl rfl rfl (OpA.slen rfl rfl rfl rfl td9 rfl ?_)
  refine wpL_op rfl rfl rfl (OpA.asn rfl (by with_reducible conv => lhs; whnf) ?_)
  refine wpL_op rfl rfl rfl (OpA.asn rfl (by with_reducible conv => lhs; whnf) ?_)
  refine wpL_nil ?_
  refine wpA_ret ?_
  exact ⟨_, (.tmp (d := D.i (b.size : Int)) rfl (.tmp (d := .v .nilIface) rfl .nil)), (u', g2, []), rfl, rfl⟩

theorem bldStr_c (xs : List Int) (c : Nat) (u : Bool) (g : Nat) (post : List D) (hl : xs.length ≤ 9223372036854775807) : CallH Tryd.prog 28 [.ptr c 2 0 0] (bldH 52 5 c u g xs post) (fun d h' => ∃ _ : Unit, d = D.s (bstr xs) ∧ h' = []) := by
  refine CallH.of_body Tryd.func28 rfl Tryd.ntmps28 rfl ?_
  rcases xs with _ | ⟨x, l⟩
  · refine wpA_seq ?_
    refine wpA_region ?_
    refine wpL_op rfl rfl rfl (OpA.asn rfl (by with_reducible conv => lhs; whnf) ?_)
    refine wpL_nil ?_
    refine wpA_seq ?_
    refine wpA_draw (m := 10) mo (by kernel_rfl) rfl ?_
    refine DetK.op rfl (OpA.mv rfl (by with_reducible conv => lhs; whnf) ⟨rfl, rfl⟩) ?_
    refine DetK.op rfl (OpA.nc rfl (by with_reducible conv => lhs; whnf) (.inl ⟨_, _, _, _, rfl⟩) ⟨rfl, rfl⟩) ?_
    refine DetK.op rfl (OpA.fieldAddr rfl tf52_1 rfl ⟨rfl, rfl⟩) ?_
    refine DetK.op rfl (OpA.load rfl ti50 rfl .head rfl rfl ⟨rfl, rfl⟩) ?_
    refine DetK.op rfl (OpA.dataN (t := #[]) rfl rfl rfl rfl ⟨rfl, rfl⟩) ?_
    refine DetK.op rfl (OpA.mv rfl (by with_reducible conv => lhs; whnf) ⟨rfl, rfl⟩) ?_
    refine DetK.op rfl (OpA.nc rfl (by with_reducible conv => lhs; whnf) (.inl ⟨_, _, _, _, rfl⟩) ⟨rfl, rfl⟩) ?_
    refine DetK.op rfl (OpA.fieldAddr rfl tf52_1 rfl ⟨rfl, rfl⟩) ?_
    refine DetK.op rfl (OpA.load rfl ti50 rfl .head rfl rfl ⟨rfl, rfl⟩) ?_
    refine DetK.op rfl (OpA.len (n := 0) rfl rfl rfl rfl ts50.desc (.inr (.inr ⟨rfl, rfl⟩)) ⟨rfl, rfl⟩) ?_
    refine DetK.nil ?_
    refine wpL_op rfl rfl rfl (OpA.strN rfl rfl rfl rfl rfl rfl ?_)
    refine wpL_op rfl rfl rfl (OpA.asn rfl (by with_reducible conv => lhs; whnf) ?_)
    refine wpL_nil ?_
    refine wpA_sub (h0 := []) (.cons _ (.cons _ (.refl _))) ?_
    refine wpA_ret ?_
    exact ⟨_, (.tmp (d := D.s (bstr [])) rfl .nil), (), rfl, rfl⟩
  · refine wpA_seq ?_
    refine wpA_region ?_
    refine wpL_op rfl rfl rfl (OpA.asn rfl (by with_reducible conv => lhs; whnf) ?_)
    refine wpL_nil ?_
    refine wpA_seq ?_
    refine wpA_draw (m := 10) mo (by kernel_rfl) rfl ?_
    refine DetK.op rfl (OpA.mv rfl (by with_reducible conv => lhs; whnf) ⟨rfl, rfl⟩) ?_
    refine DetK.op rfl (OpA.nc rfl (by with_reducible conv => lhs; whnf) (.inl ⟨_, _, _, _, rfl⟩) ⟨rfl, rfl⟩) ?_
    refine DetK.op rfl (OpA.fieldAddr rfl tf52_1 rfl ⟨rfl, rfl⟩) ?_
    refine DetK.op rfl (OpA.load rfl ti50 rfl .head rfl rfl ⟨rfl, rfl⟩) ?_
    refine DetK.op rfl (OpA.dataT rfl rfl rfl rfl ⟨rfl, rfl⟩) ?_
    refine DetK.op rfl (OpA.mv rfl (by with_reducible conv => lhs; whnf) ⟨rfl, rfl⟩) ?_
    refine DetK.op rfl (OpA.nc rfl (by with_reducible conv => lhs; whnf) (.inl ⟨_, _, _, _, rfl⟩) ⟨rfl, rfl⟩) ?_
    refine DetK.op rfl (OpA.fieldAddr rfl tf52_1 rfl ⟨rfl, rfl⟩) ?_
    refine DetK.op rfl (OpA.load rfl ti50 rfl .head rfl rfl ⟨rfl, rfl⟩) ?_
    refine DetK.op rfl (OpA.lenT rfl rfl rfl rfl ts50.desc rfl ⟨rfl, rfl⟩) ?_
    refine DetK.nil ?_
    refine wpL_op rfl rfl rfl (OpA.strT (xs := x :: l) rfl rfl rfl rfl td72 bldCells rfl rfl .head pull1 (by simp) hl ?_)
    refine wpL_op rfl rfl rfl (OpA.asn rfl (by with_reducible conv => lhs; whnf) ?_)
    refine wpL_nil ?_
    refine wpA_sub (h0 := []) (.cons _ (.refl _)) ?_
    refine wpA_ret ?_
    exact ⟨_, (.tmp (d := D.s (bstr (x :: l))) rfl .nil), (), rfl, rfl⟩


end Go.Proofs.YtciihmjdccecgaaDoor
