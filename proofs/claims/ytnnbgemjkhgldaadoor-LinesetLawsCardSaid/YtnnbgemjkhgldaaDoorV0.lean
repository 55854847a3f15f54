/-
  walks and contracts
-/
import Derived.Test.YtnnbgemjkhgldaaDoorLib
set_option linter.all false
namespace Go.Proofs.YtnnbgemjkhgldaaDoor
open Go Go.Lic Go.Sort Go.Proofs

set_option maxRecDepth 10000
theorem mo : Tryd.prog.follows .mixedOrders = true := by kernel_rfl
theorem ti26 : TI Tryd.prog 26 2 true := .mk' (by kernel_rfl) (by kernel_rfl)
theorem ti29 : TI Tryd.prog 29 1 false := .mk' (by kernel_rfl) (by kernel_rfl)
theorem ti3 : TI Tryd.prog 3 1 false := .mk' (by kernel_rfl) (by kernel_rfl)
theorem ti35 : TI Tryd.prog 35 3 true := .mk' (by kernel_rfl) (by kernel_rfl)
theorem ti4 : TI Tryd.prog 4 1 false := .mk' (by kernel_rfl) (by kernel_rfl)
theorem ti47 : TI Tryd.prog 47 1 false := .mk' (by kernel_rfl) (by kernel_rfl)
theorem ti5 : TI Tryd.prog 5 1 false := .mk' (by kernel_rfl) (by kernel_rfl)
theorem ti63 : TI Tryd.prog 63 1 false := .mk' (by kernel_rfl) (by kernel_rfl)
theorem ti64 : TI Tryd.prog 64 1 false := .mk' (by kernel_rfl) (by kernel_rfl)
theorem ti9 : TI Tryd.prog 9 1 false := .mk' (by kernel_rfl) (by kernel_rfl)
theorem eg35 : Tryd.prog.eqGuardType Tryd.prog.depth 35 = false := by kernel_rfl
theorem en101 : entersB Tryd.prog 101 = true := by kernel_rfl
theorem en11 : entersB Tryd.prog 11 = true := by kernel_rfl
theorem en13 : entersB Tryd.prog 13 = true := by kernel_rfl
theorem en14 : entersB Tryd.prog 14 = true := by kernel_rfl
theorem en15 : entersB Tryd.prog 15 = true := by kernel_rfl
theorem en20 : entersB Tryd.prog 20 = true := by kernel_rfl
theorem en22 : entersB Tryd.prog 22 = true := by kernel_rfl
theorem en24 : entersB Tryd.prog 24 = true := by kernel_rfl
theorem en25 : entersB Tryd.prog 25 = true := by kernel_rfl
theorem en26 : entersB Tryd.prog 26 = true := by kernel_rfl
theorem en27 : entersB Tryd.prog 27 = true := by kernel_rfl
theorem en28 : entersB Tryd.prog 28 = true := by kernel_rfl
theorem en29 : entersB Tryd.prog 29 = true := by kernel_rfl
theorem en30 : entersB Tryd.prog 30 = true := by kernel_rfl
theorem en31 : entersB Tryd.prog 31 = true := by kernel_rfl
theorem en32 : entersB Tryd.prog 32 = true := by kernel_rfl
theorem en34 : entersB Tryd.prog 34 = true := by kernel_rfl
theorem en35 : entersB Tryd.prog 35 = true := by kernel_rfl
theorem en36 : entersB Tryd.prog 36 = true := by kernel_rfl
theorem en41 : entersB Tryd.prog 41 = true := by kernel_rfl
theorem en44 : entersB Tryd.prog 44 = true := by kernel_rfl
theorem en45 : entersB Tryd.prog 45 = true := by kernel_rfl
theorem en46 : entersB Tryd.prog 46 = true := by kernel_rfl
theorem en47 : entersB Tryd.prog 47 = true := by kernel_rfl
theorem en48 : entersB Tryd.prog 48 = true := by kernel_rfl
theorem en49 : entersB Tryd.prog 49 = true := by kernel_rfl
theorem en50 : entersB Tryd.prog 50 = true := by kernel_rfl
theorem en51 : entersB Tryd.prog 51 = true := by kernel_rfl
theorem en52 : entersB Tryd.prog 52 = true := by kernel_rfl
theorem en53 : entersB Tryd.prog 53 = true := by kernel_rfl
theorem en54 : entersB Tryd.prog 54 = true := by kernel_rfl
theorem en55 : entersB Tryd.prog 55 = true := by kernel_rfl
theorem en56 : entersB Tryd.prog 56 = true := by kernel_rfl
theorem en57 : entersB Tryd.prog 57 = true := by kernel_rfl
theorem en58 : entersB Tryd.prog 58 = true := by kernel_rfl
theorem en59 : entersB Tryd.prog 59 = true := by kernel_rfl
theorem en60 : entersB Tryd.prog 60 = true := by kernel_rfl
theorem en63 : entersB Tryd.prog 63 = true := by kernel_rfl
theorem en64 : entersB Tryd.prog 64 = true := by kernel_rfl
theorem en66 : entersB Tryd.prog 66 = true := by kernel_rfl
theorem en68 : entersB Tryd.prog 68 = true := by kernel_rfl
theorem en69 : entersB Tryd.prog 69 = true := by kernel_rfl
theorem en70 : entersB Tryd.prog 70 = true := by kernel_rfl
theorem en71 : entersB Tryd.prog 71 = true := by kernel_rfl
theorem en72 : entersB Tryd.prog 72 = true := by kernel_rfl
theorem en73 : entersB Tryd.prog 73 = true := by kernel_rfl
theorem en79 : entersB Tryd.prog 79 = true := by kernel_rfl
theorem en8 : entersB Tryd.prog 8 = true := by kernel_rfl
theorem en80 : entersB Tryd.prog 80 = true := by kernel_rfl
theorem en81 : entersB Tryd.prog 81 = true := by kernel_rfl
theorem en82 : entersB Tryd.prog 82 = true := by kernel_rfl
theorem su35 : Tryd.prog.underlying 35 = some (.struct (Tryd.prog.fieldsOf 35)) ∧ Tryd.prog.stoodInHeld 35 = false ∧ (Tryd.prog.fieldsOf 35).toList.map (fun f => (f.name == "_", f.offset, f.type)) = ([(0, 9), (1, 3), (2, 3)] : List (Nat × TypeId)).map (fun p => (false, p.1, p.2)) := ⟨by kernel_rfl, by kernel_rfl, by kernel_rfl⟩
theorem td3 : Tryd.prog.underlying 3 = some (.int .i64) := by kernel_rfl
theorem td4 : Tryd.prog.underlying 4 = some (.bool) := by kernel_rfl
theorem td63 : Tryd.prog.underlying 63 = some (.pointer 66) := by kernel_rfl
theorem td84 : Tryd.prog.underlying 84 = some (.pointer 5) := by kernel_rfl
theorem td9 : Tryd.prog.underlying 9 = some (.string) := by kernel_rfl
theorem td91 : Tryd.prog.underlying 91 = some (.int .u64) := by kernel_rfl
theorem td94 : Tryd.prog.underlying 94 = some (.unsafePointer) := by kernel_rfl
theorem tf26_0 : fieldOff Tryd.prog 26 0 = some 0 := by kernel_rfl
theorem tf26_1 : fieldOff Tryd.prog 26 1 = some 1 := by kernel_rfl
theorem tf35_0 : fieldOff Tryd.prog 35 0 = some 0 := by kernel_rfl
theorem tf35_1 : fieldOff Tryd.prog 35 1 = some 1 := by kernel_rfl
theorem tf35_2 : fieldOff Tryd.prog 35 2 = some 2 := by kernel_rfl
theorem tf66_0 : fieldOff Tryd.prog 66 0 = some 0 := by kernel_rfl
theorem tf66_1 : fieldOff Tryd.prog 66 1 = some 1 := by kernel_rfl
theorem tp26 : placesOf Tryd.prog 26 = some [(0, 1), (1, 1)] := by kernel_rfl
theorem tp35 : placesOf Tryd.prog 35 = some [(0, 1), (1, 1), (2, 1)] := by kernel_rfl
theorem ts22 : TS Tryd.prog 22 26 2 24 true := ⟨by kernel_rfl, ti26, by kernel_rfl, by kernel_rfl⟩
theorem ts28 : TS Tryd.prog 28 35 3 32 true := ⟨by kernel_rfl, ti35, by kernel_rfl, by kernel_rfl⟩
theorem ts29 : TS Tryd.prog 29 35 3 32 true := ⟨by kernel_rfl, ti35, by kernel_rfl, by kernel_rfl⟩
theorem ts43 : TS Tryd.prog 43 29 1 24 false := ⟨by kernel_rfl, ti29, by kernel_rfl, by kernel_rfl⟩
theorem ts64 : TS Tryd.prog 64 5 1 1 false := ⟨by kernel_rfl, ti5, by kernel_rfl, by kernel_rfl⟩
theorem ts73 : TS Tryd.prog 73 9 1 16 false := ⟨by kernel_rfl, ti9, by kernel_rfl, by kernel_rfl⟩
theorem ts92 : TS Tryd.prog 92 3 1 8 false := ⟨by kernel_rfl, ti3, by kernel_rfl, by kernel_rfl⟩
theorem tz26 : (Tryd.prog.info? 26).bind (·.zero) = some (.agg #[.string ⟨#[]⟩, .int .i64 0]) := by kernel_rfl
theorem tz35 : (Tryd.prog.info? 35).bind (·.zero) = some (.agg #[.string ⟨#[]⟩, .int .i64 0, .int .i64 0]) := by kernel_rfl
theorem tz4 : (Tryd.prog.info? 4).bind (·.zero) = some (.bool false) := by kernel_rfl
theorem tz47 : (Tryd.prog.info? 47).bind (·.zero) = some (.nilFunc) := by kernel_rfl
theorem tz66 : (Tryd.prog.info? 66).bind (·.zero) = some (.agg #[.pointer none, .slice none 0 0]) := by kernel_rfl
theorem tz9 : (Tryd.prog.info? 9).bind (·.zero) = some (.string ⟨#[]⟩) := by kernel_rfl
theorem bldInfo : (Tryd.prog.info? 66).isSome = true := by kernel_rfl
theorem bldSize : (Tryd.prog.info? 66).any (fun j => j.size != 0) = true := by kernel_rfl
theorem bldLies : liesAt Tryd.prog Tryd.prog.depth 66 (2 / Tryd.prog.cellsOf 66) 0 66 1 = true := by kernel_rfl
theorem bldCells : Tryd.prog.cellsOf 5 = 1 := by kernel_rfl

theorem bldCheck_c (xs : List Int) (c : Nat) (u : Bool) (g : Nat) (post : List D) : CallH Tryd.prog 66 [.ptr c 2 0 0] (bldH 66 5 c u g xs post) (fun d h' => ∃ k : Bool × Nat × List D, d = .tup [] ∧ h' = bldH 66 5 c k.1 k.2.1 xs k.2.2) := by
  refine CallH.of_body Tryd.func66 rfl Tryd.ntmps66 rfl ?_
  cases u
  · refine wpA_seq ?_
    refine wpA_region ?_
    refine wpL_op rfl rfl rfl (OpA.mv rfl (by with_reducible conv => lhs; whnf) ?_)
    refine wpL_op rfl rfl rfl (OpA.nc rfl (by with_reducible conv => lhs; whnf) (.inl ⟨_, _, _, _, rfl⟩) ?_)
    refine wpL_op rfl rfl rfl (OpA.fieldAddr rfl tf66_0 rfl ?_)
    refine wpL_op rfl rfl rfl (OpA.load rfl ti63 rfl .head rfl rfl ?_)
    refine wpL_op rfl rfl rfl (OpA.selfNil rfl td63 rfl rfl ?_)
    refine wpL_nil ?_
    refine wpA_condT rfl ?_
    refine wpA_region ?_
    refine wpL_op rfl rfl rfl (OpA.mv rfl (by with_reducible conv => lhs; whnf) ?_)
    refine wpL_op rfl rfl rfl (OpA.mv rfl (by with_reducible conv => lhs; whnf) ?_)
    refine wpL_op rfl rfl rfl (OpA.toUnsafe rfl td63 td94 bldSize rfl .head ?_)
    refine wpL_op rfl rfl rfl (OpA.callId rfl rfl rfl rfl Tryd.func76 (by kernel_rfl) (by kernel_rfl) (by kernel_rfl) (by kernel_rfl) ?_)
    refine wpL_op rfl rfl rfl (OpA.fromUnsafe rfl td94 td63 bldInfo bldLies rfl .head ?_)
    refine wpL_op rfl rfl rfl (OpA.nc rfl (by with_reducible conv => lhs; whnf) (.inl ⟨_, _, _, _, rfl⟩) ?_)
    refine wpL_op rfl rfl rfl (OpA.fieldAddr rfl tf66_0 rfl ?_)
    refine wpL_eff rfl rfl (OpA.store (e' := bldD 66 5 c true g xs) rfl ti63 rfl (.of rfl) rfl (Nat.le_of_ble_eq_true rfl) rfl .head ?_)
    refine wpL_nil ?_
    exact ⟨_, .nil, (true, g, post), rfl, rfl⟩
  · refine wpA_seq ?_
    refine wpA_region ?_
    refine wpL_op rfl rfl rfl (OpA.mv rfl (by with_reducible conv => lhs; whnf) ?_)
    refine wpL_op rfl rfl rfl (OpA.nc rfl (by with_reducible conv => lhs; whnf) (.inl ⟨_, _, _, _, rfl⟩) ?_)
    refine wpL_op rfl rfl rfl (OpA.fieldAddr rfl tf66_0 rfl ?_)
    refine wpL_op rfl rfl rfl (OpA.load rfl ti63 rfl .head rfl rfl ?_)
    refine wpL_op rfl rfl rfl (OpA.selfNil rfl td63 rfl rfl ?_)
    refine wpL_nil ?_
    refine wpA_condF rfl ?_
    refine wpA_seq ?_
    refine wpA_region ?_
    refine wpL_op rfl rfl rfl (OpA.mv rfl (by with_reducible conv => lhs; whnf) ?_)
    refine wpL_op rfl rfl rfl (OpA.nc rfl (by with_reducible conv => lhs; whnf) (.inl ⟨_, _, _, _, rfl⟩) ?_)
    refine wpL_op rfl rfl rfl (OpA.fieldAddr rfl tf66_0 rfl ?_)
    refine wpL_op rfl rfl rfl (OpA.load rfl ti63 rfl .head rfl rfl ?_)
    refine wpL_op rfl rfl rfl (OpA.mv rfl (by with_reducible conv => lhs; whnf) ?_)
    refine wpL_op rfl rfl rfl (OpA.selfSame rfl td63 bldInfo rfl rfl ?_)
    refine wpL_nil ?_
    refine wpA_condF rfl ?_
    refine wpA_skip ?_
    exact ⟨_, .nil, (true, g, post), rfl, rfl⟩

theorem bldWS_c (xs : List Int) (c : Nat) (u : Bool) (g : Nat) (post : List D) (b : ByteArray) (hb : (xs.length + (sbytes b).length) * 1 ≤ 140737488355328 ∧ xs.length + (sbytes b).length ≤ 9223372036854775807) : CallH Tryd.prog 49 [.ptr c 2 0 0, D.s b] (bldH 66 5 c u g xs post) (fun d h' => ∃ k : Bool × Nat × List D, d = .tup [D.i (b.size : Int), .v .nilIface] ∧ h' = bldH 66 5 c k.1 k.2.1 (xs ++ sbytes b) k.2.2) := by
  refine CallH.of_body Tryd.func49 rfl Tryd.ntmps49 rfl ?_
  refine wpA_seq ?_
  refine wpA_region ?_
  refine wpL_op rfl rfl rfl (OpA.asn rfl (by with_reducible conv => lhs; whnf) ?_)
  refine wpL_op rfl rfl rfl (OpA.asn rfl (by with_reducible conv => lhs; whnf) ?_)
  refine wpL_nil ?_
  refine wpA_seq ?_
  refine wpA_region ?_
  refine wpL_op rfl rfl rfl (OpA.mv rfl (by with_reducible conv => lhs; whnf) ?_)
  refine wpL_op rfl rfl rfl (OpA.callH rfl rfl rfl en66 (h1 := bldH 66 5 c u g xs post) (h2 := []) (.refl _) (bldCheck_c xs c u g post) ?_)
  rintro _ _ ⟨⟨u', g', post'⟩, rfl, rfl⟩
  refine wpL_nil ?_
  refine wpA_seq ?_
  refine wpA_region ?_
  refine wpL_op rfl rfl rfl (OpA.mv rfl (by with_reducible conv => lhs; whnf) ?_)
  refine wpL_op rfl rfl rfl (OpA.mv rfl (by with_reducible conv => lhs; whnf) ?_)
  refine wpL_op rfl rfl rfl (OpA.nc rfl (by with_reducible conv => lhs; whnf) (.inl ⟨_, _, _, _, rfl⟩) ?_)
  refine wpL_op rfl rfl rfl (OpA.fieldAddr rfl tf66_1 rfl ?_)
  refine wpL_op rfl rfl rfl (OpA.load rfl ti64 rfl .head rfl rfl ?_)
  refine wpL_op rfl rfl rfl (OpA.mv rfl (by with_reducible conv => lhs; whnf) ?_)
  refine wpL_op rfl rfl rfl (OpA.appendBS rfl rfl rfl rfl ts64 td9 rfl (fun _ _ => .tail .head) rfl hb (fun g2 => ?_))
  refine wpL_op rfl rfl rfl (OpA.nc rfl (by with_reducible conv => lhs; whnf) (.inl ⟨_, _, _, _, rfl⟩) ?_)
  refine wpL_op rfl rfl rfl (OpA.fieldAddr rfl tf66_1 rfl ?_)
  refine wpL_eff rfl rfl (OpA.store (e := bldD 66 5 c u' g' xs) (e' := bldD 66 5 c u' g2 (xs ++ sbytes b)) rfl ti64 rfl (bufD_ok _ _ _) rfl (Nat.le_of_ble_eq_true rfl) (bld_put _) .head ?_)
  refine wpL_nil ?_
  refine wpA_seq ?_
  refine wpA_region ?_
  refine wpL_op rfl rfl rfl (OpA.mv rfl (by with_reducible conv => lhs; whnf) ?_)
  refine wpL_op rfl rfl rfl (OpA.slen rfl rfl rfl rfl td9 rfl ?_)
  refine wpL_op rfl rfl rfl (OpA.asn rfl (by with_reducible conv => lhs; whnf) ?_)
  refine wpL_op rfl rfl rfl (OpA.asn rfl (by with_reducible conv => lhs; whnf) ?_)
  refine wpL_nil ?_
  refine wpA_ret ?_
  exact ⟨_, (.tmp (d := D.i (b.size : Int)) rfl (.tmp (d := .v .nilIface) rfl .nil)), (u', g2, []), rfl, rfl⟩

theorem bldStr_c (xs : List Int) (c : Nat) (u : Bool) (g : Nat) (post : List D) (hl : xs.length ≤ 9223372036854775807) : CallH Tryd.prog 51 [.ptr c 2 0 0] (bldH 66 5 c u g xs post) (fun d h' => ∃ _ : Unit, d = D.s (bstr xs) ∧ h' = []) := by
  refine CallH.of_body Tryd.func51 rfl Tryd.ntmps51 rfl ?_
  rcases xs with _ | ⟨x, l⟩
  · refine wpA_seq ?_
    refine wpA_region ?_
    refine wpL_op rfl rfl rfl (OpA.asn rfl (by with_reducible conv => lhs; whnf) ?_)
    refine wpL_nil ?_
    refine wpA_seq ?_
    refine wpA_draw (m := 10) mo (by kernel_rfl) rfl ?_
    refine DetK.op rfl (OpA.mv rfl (by with_reducible conv => lhs; whnf) ⟨rfl, rfl⟩) ?_
    refine DetK.op rfl (OpA.nc rfl (by with_reducible conv => lhs; whnf) (.inl ⟨_, _, _, _, rfl⟩) ⟨rfl, rfl⟩) ?_
    refine DetK.op rfl (OpA.fieldAddr rfl tf66_1 rfl ⟨rfl, rfl⟩) ?_
    refine DetK.op rfl (OpA.load rfl ti64 rfl .head rfl rfl ⟨rfl, rfl⟩) ?_
    refine DetK.op rfl (OpA.dataN (t := #[]) rfl rfl rfl rfl ⟨rfl, rfl⟩) ?_
    refine DetK.op rfl (OpA.mv rfl (by with_reducible conv => lhs; whnf) ⟨rfl, rfl⟩) ?_
    refine DetK.op rfl (OpA.nc rfl (by with_reducible conv => lhs; whnf) (.inl ⟨_, _, _, _, rfl⟩) ⟨rfl, rfl⟩) ?_
    refine DetK.op rfl (OpA.fieldAddr rfl tf66_1 rfl ⟨rfl, rfl⟩) ?_
    refine DetK.op rfl (OpA.load rfl ti64 rfl .head rfl rfl ⟨rfl, rfl⟩) ?_
    refine DetK.op rfl (OpA.len (n := 0) rfl rfl rfl rfl ts64.desc (.inr (.inr ⟨rfl, rfl⟩)) ⟨rfl, rfl⟩) ?_
    refine DetK.nil ?_
    refine wpL_op rfl rfl rfl (OpA.strN rfl rfl rfl rfl rfl rfl ?_)
    refine wpL_op rfl rfl rfl (OpA.asn rfl (by with_reducible conv => lhs; whnf) ?_)
    refine wpL_nil ?_
    refine wpA_sub (h0 := []) (.cons _ (.cons _ (.refl _))) ?_
    refine wpA_ret ?_
    exact ⟨_, (.tmp (d := D.s (bstr [])) rfl .nil), (), rfl, rfl⟩
  · refine wpA_seq ?_
    refine wpA_region ?_
    refine wpL_op rfl rfl rfl (OpA.asn rfl (by with_reducible conv => lhs; whnf) ?_)
    refine wpL_nil ?_
    refine wpA_seq ?_
    refine wpA_draw (m := 10) mo (by kernel_rfl) rfl ?_
    refine DetK.op rfl (OpA.mv rfl (by with_reducible conv => lhs; whnf) ⟨rfl, rfl⟩) ?_
    refine DetK.op rfl (OpA.nc rfl (by with_reducible conv => lhs; whnf) (.inl ⟨_, _, _, _, rfl⟩) ⟨rfl, rfl⟩) ?_
    refine DetK.op rfl (OpA.fieldAddr rfl tf66_1 rfl ⟨rfl, rfl⟩) ?_
    refine DetK.op rfl (OpA.load rfl ti64 rfl .head rfl rfl ⟨rfl, rfl⟩) ?_
    refine DetK.op rfl (OpA.dataT rfl rfl rfl rfl ⟨rfl, rfl⟩) ?_
    refine DetK.op rfl (OpA.mv rfl (by with_reducible conv => lhs; whnf) ⟨rfl, rfl⟩) ?_
    refine DetK.op rfl (OpA.nc rfl (by with_reducible conv => lhs; whnf) (.inl ⟨_, _, _, _, rfl⟩) ⟨rfl, rfl⟩) ?_
    refine DetK.op rfl (OpA.fieldAddr rfl tf66_1 rfl ⟨rfl, rfl⟩) ?_
    refine DetK.op rfl (OpA.load rfl ti64 rfl .head rfl rfl ⟨rfl, rfl⟩) ?_
    refine DetK.op rfl (OpA.lenT rfl rfl rfl rfl ts64.desc rfl ⟨rfl, rfl⟩) ?_
    refine DetK.nil ?_
    refine wpL_op rfl rfl rfl (OpA.strT (xs := x :: l) rfl rfl rfl rfl td84 bldCells rfl rfl .head pull1 (by simp) hl ?_)
    refine wpL_op rfl rfl rfl (OpA.asn rfl (by with_reducible conv => lhs; whnf) ?_)
    refine wpL_nil ?_
    refine wpA_sub (h0 := []) (.cons _ (.refl _)) ?_
    refine wpA_ret ?_
    exact ⟨_, (.tmp (d := D.s (bstr (x :: l))) rfl .nil), (), rfl, rfl⟩


end Go.Proofs.YtnnbgemjkhgldaaDoor
