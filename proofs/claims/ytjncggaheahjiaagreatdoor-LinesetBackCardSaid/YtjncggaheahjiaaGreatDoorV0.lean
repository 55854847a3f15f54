/-
  walks and contracts
-/
import Derived.Test.YtjncggaheahjiaaGreatDoorLib
set_option linter.all false
namespace Go.Proofs.YtjncggaheahjiaaGreatDoor
open Go Go.Lic Go.Sort Go.Proofs
variable [Fl]
set_option maxRecDepth 10000
theorem mo : Tryz.prog.follows .mixedOrders = true := by kernel_rfl
theorem ti3 : TI Tryz.prog 3 1 false := .mk' (by kernel_rfl) (by kernel_rfl)
theorem ti33 : TI Tryz.prog 33 3 true := .mk' (by kernel_rfl) (by kernel_rfl)
theorem ti40 : TI Tryz.prog 40 2 true := .mk' (by kernel_rfl) (by kernel_rfl)
theorem ti46 : TI Tryz.prog 46 1 false := .mk' (by kernel_rfl) (by kernel_rfl)
theorem ti47 : TI Tryz.prog 47 1 false := .mk' (by kernel_rfl) (by kernel_rfl)
theorem ti5 : TI Tryz.prog 5 1 false := .mk' (by kernel_rfl) (by kernel_rfl)
theorem ti9 : TI Tryz.prog 9 1 false := .mk' (by kernel_rfl) (by kernel_rfl)
theorem eg33 : Tryz.prog.eqGuardType Tryz.prog.depth 33 = false := by kernel_rfl
theorem en108 : entersB Tryz.prog 108 = true := by kernel_rfl
theorem en11 : entersB Tryz.prog 11 = true := by kernel_rfl
theorem en12 : entersB Tryz.prog 12 = true := by kernel_rfl
theorem en13 : entersB Tryz.prog 13 = true := by kernel_rfl
theorem en14 : entersB Tryz.prog 14 = true := by kernel_rfl
theorem en15 : entersB Tryz.prog 15 = true := by kernel_rfl
theorem en16 : entersB Tryz.prog 16 = true := by kernel_rfl
theorem en17 : entersB Tryz.prog 17 = true := by kernel_rfl
theorem en18 : entersB Tryz.prog 18 = true := by kernel_rfl
theorem en19 : entersB Tryz.prog 19 = true := by kernel_rfl
theorem en20 : entersB Tryz.prog 20 = true := by kernel_rfl
theorem en21 : entersB Tryz.prog 21 = true := by kernel_rfl
theorem en22 : entersB Tryz.prog 22 = true := by kernel_rfl
theorem en25 : entersB Tryz.prog 25 = true := by kernel_rfl
theorem en26 : entersB Tryz.prog 26 = true := by kernel_rfl
theorem en30 : entersB Tryz.prog 30 = true := by kernel_rfl
theorem en31 : entersB Tryz.prog 31 = true := by kernel_rfl
theorem en32 : entersB Tryz.prog 32 = true := by kernel_rfl
theorem en33 : entersB Tryz.prog 33 = true := by kernel_rfl
theorem en34 : entersB Tryz.prog 34 = true := by kernel_rfl
theorem en35 : entersB Tryz.prog 35 = true := by kernel_rfl
theorem en36 : entersB Tryz.prog 36 = true := by kernel_rfl
theorem en37 : entersB Tryz.prog 37 = true := by kernel_rfl
theorem en38 : entersB Tryz.prog 38 = true := by kernel_rfl
theorem en41 : entersB Tryz.prog 41 = true := by kernel_rfl
theorem en42 : entersB Tryz.prog 42 = true := by kernel_rfl
theorem en43 : entersB Tryz.prog 43 = true := by kernel_rfl
theorem en46 : entersB Tryz.prog 46 = true := by kernel_rfl
theorem en47 : entersB Tryz.prog 47 = true := by kernel_rfl
theorem en48 : entersB Tryz.prog 48 = true := by kernel_rfl
theorem en49 : entersB Tryz.prog 49 = true := by kernel_rfl
theorem en5 : entersB Tryz.prog 5 = true := by kernel_rfl
theorem en50 : entersB Tryz.prog 50 = true := by kernel_rfl
theorem en51 : entersB Tryz.prog 51 = true := by kernel_rfl
theorem en52 : entersB Tryz.prog 52 = true := by kernel_rfl
theorem en53 : entersB Tryz.prog 53 = true := by kernel_rfl
theorem en55 : entersB Tryz.prog 55 = true := by kernel_rfl
theorem en58 : entersB Tryz.prog 58 = true := by kernel_rfl
theorem en59 : entersB Tryz.prog 59 = true := by kernel_rfl
theorem en6 : entersB Tryz.prog 6 = true := by kernel_rfl
theorem en62 : entersB Tryz.prog 62 = true := by kernel_rfl
theorem en63 : entersB Tryz.prog 63 = true := by kernel_rfl
theorem en64 : entersB Tryz.prog 64 = true := by kernel_rfl
theorem en65 : entersB Tryz.prog 65 = true := by kernel_rfl
theorem en66 : entersB Tryz.prog 66 = true := by kernel_rfl
theorem en7 : entersB Tryz.prog 7 = true := by kernel_rfl
theorem en78 : entersB Tryz.prog 78 = true := by kernel_rfl
theorem en79 : entersB Tryz.prog 79 = true := by kernel_rfl
theorem en82 : entersB Tryz.prog 82 = true := by kernel_rfl
theorem en83 : entersB Tryz.prog 83 = true := by kernel_rfl
theorem en9 : entersB Tryz.prog 9 = true := by kernel_rfl
theorem su33 : Tryz.prog.underlying 33 = some (.struct (Tryz.prog.fieldsOf 33)) ∧ Tryz.prog.stoodInHeld 33 = false ∧ (Tryz.prog.fieldsOf 33).toList.map (fun f => (f.name == "_", f.offset, f.type)) = ([(0, 9), (1, 3), (2, 3)] : List (Nat × TypeId)).map (fun p => (false, p.1, p.2)) := ⟨by kernel_rfl, by kernel_rfl, by kernel_rfl⟩
theorem td3 : Tryz.prog.underlying 3 = some (.int .i64) := by kernel_rfl
theorem td4 : Tryz.prog.underlying 4 = some (.bool) := by kernel_rfl
theorem td46 : Tryz.prog.underlying 46 = some (.pointer 49) := by kernel_rfl
theorem td70 : Tryz.prog.underlying 70 = some (.pointer 5) := by kernel_rfl
theorem td83 : Tryz.prog.underlying 83 = some (.unsafePointer) := by kernel_rfl
theorem td9 : Tryz.prog.underlying 9 = some (.string) := by kernel_rfl
theorem td92 : Tryz.prog.underlying 92 = some (.int .u64) := by kernel_rfl
theorem tf33_0 : fieldOff Tryz.prog 33 0 = some 0 := by kernel_rfl
theorem tf33_1 : fieldOff Tryz.prog 33 1 = some 1 := by kernel_rfl
theorem tf33_2 : fieldOff Tryz.prog 33 2 = some 2 := by kernel_rfl
theorem tf40_0 : fieldOff Tryz.prog 40 0 = some 0 := by kernel_rfl
theorem tf40_1 : fieldOff Tryz.prog 40 1 = some 1 := by kernel_rfl
theorem tf49_0 : fieldOff Tryz.prog 49 0 = some 0 := by kernel_rfl
theorem tf49_1 : fieldOff Tryz.prog 49 1 = some 1 := by kernel_rfl
theorem tp33 : placesOf Tryz.prog 33 = some [(0, 1), (1, 1), (2, 1)] := by kernel_rfl
theorem tp40 : placesOf Tryz.prog 40 = some [(0, 1), (1, 1)] := by kernel_rfl
theorem ts22 : TS Tryz.prog 22 33 3 32 true := ⟨by kernel_rfl, ti33, by kernel_rfl, by kernel_rfl⟩
theorem ts23 : TS Tryz.prog 23 33 3 32 true := ⟨by kernel_rfl, ti33, by kernel_rfl, by kernel_rfl⟩
theorem ts36 : TS Tryz.prog 36 40 2 24 true := ⟨by kernel_rfl, ti40, by kernel_rfl, by kernel_rfl⟩
theorem ts47 : TS Tryz.prog 47 5 1 1 false := ⟨by kernel_rfl, ti5, by kernel_rfl, by kernel_rfl⟩
theorem ts60 : TS Tryz.prog 60 9 1 16 false := ⟨by kernel_rfl, ti9, by kernel_rfl, by kernel_rfl⟩
theorem ts93 : TS Tryz.prog 93 3 1 8 false := ⟨by kernel_rfl, ti3, by kernel_rfl, by kernel_rfl⟩
theorem tz33 : (Tryz.prog.info? 33).bind (·.zero) = some (.agg #[.string ⟨#[]⟩, .int .i64 0, .int .i64 0]) := by kernel_rfl
theorem tz40 : (Tryz.prog.info? 40).bind (·.zero) = some (.agg #[.string ⟨#[]⟩, .int .i64 0]) := by kernel_rfl
theorem tz49 : (Tryz.prog.info? 49).bind (·.zero) = some (.agg #[.pointer none, .slice none 0 0]) := by kernel_rfl
theorem tz9 : (Tryz.prog.info? 9).bind (·.zero) = some (.string ⟨#[]⟩) := by kernel_rfl
theorem bldInfo : (Tryz.prog.info? 49).isSome = true := by kernel_rfl
theorem bldSize : (Tryz.prog.info? 49).any (fun j => j.size != 0) = true := by kernel_rfl
theorem bldLies : liesAt Tryz.prog Tryz.prog.depth 49 (2 / Tryz.prog.cellsOf 49) 0 49 1 = true := by kernel_rfl
theorem bldCells : Tryz.prog.cellsOf 5 = 1 := by kernel_rfl
theorem bldCheck_c (xs : List Int) (c : Nat) (u : Bool) (g : Nat) (post : List D) : CallH Tryz.prog 38 [.ptr c 2 0 0] (bldH 49 5 c u g xs post) (fun d h' => ∃ k : Bool × Nat × List D, d = .tup [] ∧ h' = bldH 49 5 c k.1 k.2.1 xs k.2.2) := by
 refine CallH.of_body Tryz.func38 rfl Tryz.ntmps38 rfl ?_
 cases u
 · refine wpA_seq ?_
   refine wpA_region ?_
   refine wpL_op rfl rfl rfl (OpA.mv rfl (by with_reducible conv => lhs; whnf) ?_)
   refine wpL_op rfl rfl rfl (OpA.nc rfl (by with_reducible conv => lhs; whnf) (.inl ⟨_, _, _, _, rfl⟩) ?_)
   refine wpL_op rfl rfl rfl (OpA.fieldAddr rfl tf49_0 rfl ?_)
   refine wpL_op rfl rfl rfl (OpA.load rfl ti46 rfl .head rfl rfl ?_)
   refine wpL_op rfl rfl rfl (OpA.selfNil rfl td46 rfl rfl ?_)
   refine wpL_nil ?_
   refine wpA_condT rfl ?_
   refine wpA_region ?_
   refine wpL_op rfl rfl rfl (OpA.mv rfl (by with_reducible conv => lhs; whnf) ?_)
   refine wpL_op rfl rfl rfl (OpA.mv rfl (by with_reducible conv => lhs; whnf) ?_)
   refine wpL_op rfl rfl rfl (OpA.toUnsafe rfl td46 td83 bldSize rfl .head ?_)
   refine wpL_op rfl rfl rfl (OpA.callId rfl rfl rfl rfl Tryz.func56 (by kernel_rfl) (by kernel_rfl) (by kernel_rfl) (by kernel_rfl) ?_)
   refine wpL_op rfl rfl rfl (OpA.fromUnsafe rfl td83 td46 bldInfo bldLies rfl .head ?_)
   refine wpL_op rfl rfl rfl (OpA.nc rfl (by with_reducible conv => lhs; whnf) (.inl ⟨_, _, _, _, rfl⟩) ?_)
   refine wpL_op rfl rfl rfl (OpA.fieldAddr rfl tf49_0 rfl ?_)
   refine wpL_eff rfl rfl (OpA.store (e' := bldD 49 5 c true g xs) rfl ti46 rfl (.of rfl) rfl (Nat.le_of_ble_eq_true rfl) rfl .head ?_)
   refine wpL_nil ?_
   exact ⟨_, .nil, (true, g, post), rfl, rfl⟩
 · refine wpA_seq ?_
   refine wpA_region ?_
   refine wpL_op rfl rfl rfl (OpA.mv rfl (by with_reducible conv => lhs; whnf) ?_)
   refine wpL_op rfl rfl rfl (OpA.nc rfl (by with_reducible conv => lhs; whnf) (.inl ⟨_, _, _, _, rfl⟩) ?_)
   refine wpL_op rfl rfl rfl (OpA.fieldAddr rfl tf49_0 rfl ?_)
   refine wpL_op rfl rfl rfl (OpA.load rfl ti46 rfl .head rfl rfl ?_)
   refine wpL_op rfl rfl rfl (OpA.selfNil rfl td46 rfl rfl ?_)
   refine wpL_nil ?_
   refine wpA_condF rfl ?_
   refine wpA_seq ?_
   refine wpA_region ?_
   refine wpL_op rfl rfl rfl (OpA.mv rfl (by with_reducible conv => lhs; whnf) ?_)
   refine wpL_op rfl rfl rfl (OpA.nc rfl (by with_reducible conv => lhs; whnf) (.inl ⟨_, _, _, _, rfl⟩) ?_)
   refine wpL_op rfl rfl rfl (OpA.fieldAddr rfl tf49_0 rfl ?_)
   refine wpL_op rfl rfl rfl (OpA.load rfl ti46 rfl .head rfl rfl ?_)
   refine wpL_op rfl rfl rfl (OpA.mv rfl (by with_reducible conv => lhs; whnf) ?_)
   refine wpL_op rfl rfl rfl (OpA.selfSame rfl td46 bldInfo rfl rfl ?_)
   refine wpL_nil ?_
   refine wpA_condF rfl ?_
   refine wpA_skip ?_
   exact ⟨_, .nil, (true, g, post), rfl, rfl⟩
theorem bldWS_c (xs : List Int) (c : Nat) (u : Bool) (g : Nat) (post : List D) (b : ByteArray) (hb : (xs.length + (sbytes b).length) * 1 ≤ 140737488355328 ∧ xs.length + (sbytes b).length ≤ 9223372036854775807) : CallH Tryz.prog 20 [.ptr c 2 0 0, D.s b] (bldH 49 5 c u g xs post) (fun d h' => ∃ k : Bool × Nat × List D, d = .tup [D.i (b.size : Int), .v .nilIface] ∧ h' = bldH 49 5 c k.1 k.2.1 (xs ++ sbytes b) k.2.2) := by
 refine CallH.of_body Tryz.func20 rfl Tryz.ntmps20 rfl ?_
 refine wpA_seq ?_
 refine wpA_region ?_
 refine wpL_op rfl rfl rfl (OpA.asn rfl (by with_reducible conv => lhs; whnf) ?_)
 refine wpL_op rfl rfl rfl (OpA.asn rfl (by with_reducible conv => lhs; whnf) ?_)
 refine wpL_nil ?_
 refine wpA_seq ?_
 refine wpA_region ?_
 refine wpL_op rfl rfl rfl (OpA.mv rfl (by with_reducible conv => lhs; whnf) ?_)
 refine wpL_op rfl rfl rfl (OpA.callH rfl rfl rfl en38 (h1 := bldH 49 5 c u g xs post) (h2 := []) (.refl _) (bldCheck_c xs c u g post) ?_)
 rintro _ _ ⟨⟨u', g', post'⟩, rfl, rfl⟩
 refine wpL_nil ?_
 refine wpA_seq ?_
 refine wpA_region ?_
 refine wpL_op rfl rfl rfl (OpA.mv rfl (by with_reducible conv => lhs; whnf) ?_)
 refine wpL_op rfl rfl rfl (OpA.mv rfl (by with_reducible conv => lhs; whnf) ?_)
 refine wpL_op rfl rfl rfl (OpA.nc rfl (by with_reducible conv => lhs; whnf) (.inl ⟨_, _, _, _, rfl⟩) ?_)
 refine wpL_op rfl rfl rfl (OpA.fieldAddr rfl tf49_1 rfl ?_)
 refine wpL_op rfl rfl rfl (OpA.load rfl ti47 rfl .head rfl rfl ?_)
 refine wpL_op rfl rfl rfl (OpA.mv rfl (by with_reducible conv => lhs; whnf) ?_)
 refine wpL_op rfl rfl rfl (OpA.appendBS rfl rfl rfl rfl ts47 td9 rfl (fun _ _ => .tail .head) rfl hb (fun g2 => ?_))
 refine wpL_op rfl rfl rfl (OpA.nc rfl (by with_reducible conv => lhs; whnf) (.inl ⟨_, _, _, _, rfl⟩) ?_)
 refine wpL_op rfl rfl rfl (OpA.fieldAddr rfl tf49_1 rfl ?_)
 refine wpL_eff rfl rfl (OpA.store (e := bldD 49 5 c u' g' xs) (e' := bldD 49 5 c u' g2 (xs ++ sbytes b)) rfl ti47 rfl (bufD_ok _ _ _) rfl (Nat.le_of_ble_eq_true rfl) (bld_put _) .head ?_)
 refine wpL_nil ?_
 refine wpA_seq ?_
 refine wpA_region ?_
 refine wpL_op rfl rfl rfl (OpA.mv rfl (by with_reducible conv => lhs; whnf) ?_)
 refine wpL_op rfl rfl rfl (OpA.slen rfl rfl rfl rfl td9 rfl ?_)
 refine wpL_op rfl rfl rfl (OpA.asn rfl (by with_reducible conv => lhs; whnf) ?_)
 refine wpL_op rfl rfl rfl (OpA.asn rfl (by with_reducible conv => lhs; whnf) ?_)
 refine wpL_nil ?_
 refine wpA_ret ?_
 exact ⟨_, (.tmp (d := D.i (b.size : Int)) rfl (.tmp (d := .v .nilIface) rfl .nil)), (u', g2, []), rfl, rfl⟩
theorem bldStr_c (xs : List Int) (c : Nat) (u : Bool) (g : Nat) (post : List D) (hl : xs.length ≤ 9223372036854775807) : CallH Tryz.prog 22 [.ptr c 2 0 0] (bldH 49 5 c u g xs post) (fun d h' => ∃ _ : Unit, d = D.s (bstr xs) ∧ h' = []) := by
 refine CallH.of_body Tryz.func22 rfl Tryz.ntmps22 rfl ?_
 rcases xs with _ | ⟨x, l⟩
 · refine wpA_seq ?_
   refine wpA_region ?_
   refine wpL_op rfl rfl rfl (OpA.asn rfl (by with_reducible conv => lhs; whnf) ?_)
   refine wpL_nil ?_
   refine wpA_seq ?_
   refine wpA_draw (m := 10) mo (by kernel_rfl) rfl ?_
   refine DetK.op rfl (OpA.mv rfl (by with_reducible conv => lhs; whnf) ⟨rfl, rfl⟩) ?_
   refine DetK.op rfl (OpA.nc rfl (by with_reducible conv => lhs; whnf) (.inl ⟨_, _, _, _, rfl⟩) ⟨rfl, rfl⟩) ?_
   refine DetK.op rfl (OpA.fieldAddr rfl tf49_1 rfl ⟨rfl, rfl⟩) ?_
   refine DetK.op rfl (OpA.load rfl ti47 rfl .head rfl rfl ⟨rfl, rfl⟩) ?_
   refine DetK.op rfl (OpA.dataN (t := #[]) rfl rfl rfl rfl ⟨rfl, rfl⟩) ?_
   refine DetK.op rfl (OpA.mv rfl (by with_reducible conv => lhs; whnf) ⟨rfl, rfl⟩) ?_
   refine DetK.op rfl (OpA.nc rfl (by with_reducible conv => lhs; whnf) (.inl ⟨_, _, _, _, rfl⟩) ⟨rfl, rfl⟩) ?_
   refine DetK.op rfl (OpA.fieldAddr rfl tf49_1 rfl ⟨rfl, rfl⟩) ?_
   refine DetK.op rfl (OpA.load rfl ti47 rfl .head rfl rfl ⟨rfl, rfl⟩) ?_
   refine DetK.op rfl (OpA.len (n := 0) rfl rfl rfl rfl ts47.desc (.inr (.inr ⟨rfl, rfl⟩)) ⟨rfl, rfl⟩) ?_
   refine DetK.nil ?_
   refine wpL_op rfl rfl rfl (OpA.strN rfl rfl rfl rfl rfl rfl ?_)
   refine wpL_op rfl rfl rfl (OpA.asn rfl (by with_reducible conv => lhs; whnf) ?_)
   refine wpL_nil ?_
   refine wpA_sub (h0 := []) (.cons _ (.cons _ (.refl _))) ?_
   refine wpA_ret ?_
   exact ⟨_, (.tmp (d := D.s (bstr [])) rfl .nil), (), rfl, rfl⟩
 · refine wpA_seq ?_
   refine wpA_region ?_
   refine wpL_op rfl rfl rfl (OpA.asn rfl (by with_reducible conv => lhs; whnf) ?_)
   refine wpL_nil ?_
   refine wpA_seq ?_
   refine wpA_draw (m := 10) mo (by kernel_rfl) rfl ?_
   refine DetK.op rfl (OpA.mv rfl (by with_reducible conv => lhs; whnf) ⟨rfl, rfl⟩) ?_
   refine DetK.op rfl (OpA.nc rfl (by with_reducible conv => lhs; whnf) (.inl ⟨_, _, _, _, rfl⟩) ⟨rfl, rfl⟩) ?_
   refine DetK.op rfl (OpA.fieldAddr rfl tf49_1 rfl ⟨rfl, rfl⟩) ?_
   refine DetK.op rfl (OpA.load rfl ti47 rfl .head rfl rfl ⟨rfl, rfl⟩) ?_
   refine DetK.op rfl (OpA.dataT rfl rfl rfl rfl ⟨rfl, rfl⟩) ?_
   refine DetK.op rfl (OpA.mv rfl (by with_reducible conv => lhs; whnf) ⟨rfl, rfl⟩) ?_
   refine DetK.op rfl (OpA.nc rfl (by with_reducible conv => lhs; whnf) (.inl ⟨_, _, _, _, rfl⟩) ⟨rfl, rfl⟩) ?_
   refine DetK.op rfl (OpA.fieldAddr rfl tf49_1 rfl ⟨rfl, rfl⟩) ?_
   refine DetK.op rfl (OpA.load rfl ti47 rfl .head rfl rfl ⟨rfl, rfl⟩) ?_
   refine DetK.op rfl (OpA.lenT rfl rfl rfl rfl ts47.desc rfl ⟨rfl, rfl⟩) ?_
   refine DetK.nil ?_
   refine wpL_op rfl rfl rfl (OpA.strT (xs := x :: l) rfl rfl rfl rfl td70 bldCells rfl rfl .head pull1 (by simp) hl ?_)
   refine wpL_op rfl rfl rfl (OpA.asn rfl (by with_reducible conv => lhs; whnf) ?_)
   refine wpL_nil ?_
   refine wpA_sub (h0 := []) (.cons _ (.refl _)) ?_
   refine wpA_ret ?_
   exact ⟨_, (.tmp (d := D.s (bstr (x :: l))) rfl .nil), (), rfl, rfl⟩
end Go.Proofs.YtjncggaheahjiaaGreatDoor
