/-
  walks and contracts
-/
import Derived.Test.YtnnbgemjkhgldaaGreatDoorLib
set_option linter.all false
namespace Go.Proofs.YtnnbgemjkhgldaaGreatDoor
open Go Go.Lic Go.Sort Go.Proofs

set_option maxRecDepth 10000
theorem mo : Tryz.prog.follows .mixedOrders = true := by kernel_rfl
theorem ti23 : TI Tryz.prog 23 1 false := .mk' (by kernel_rfl) (by kernel_rfl)
theorem ti3 : TI Tryz.prog 3 1 false := .mk' (by kernel_rfl) (by kernel_rfl)
theorem ti32 : TI Tryz.prog 32 3 true := .mk' (by kernel_rfl) (by kernel_rfl)
theorem ti44 : TI Tryz.prog 44 2 true := .mk' (by kernel_rfl) (by kernel_rfl)
theorem ti5 : TI Tryz.prog 5 1 false := .mk' (by kernel_rfl) (by kernel_rfl)
theorem ti54 : TI Tryz.prog 54 1 false := .mk' (by kernel_rfl) (by kernel_rfl)
theorem ti55 : TI Tryz.prog 55 1 false := .mk' (by kernel_rfl) (by kernel_rfl)
theorem ti9 : TI Tryz.prog 9 1 false := .mk' (by kernel_rfl) (by kernel_rfl)
theorem eg32 : Tryz.prog.eqGuardType Tryz.prog.depth 32 = false := by kernel_rfl
theorem en10 : entersB Tryz.prog 10 = true := by kernel_rfl
theorem en100 : entersB Tryz.prog 100 = true := by kernel_rfl
theorem en11 : entersB Tryz.prog 11 = true := by kernel_rfl
theorem en119 : entersB Tryz.prog 119 = true := by kernel_rfl
theorem en12 : entersB Tryz.prog 12 = true := by kernel_rfl
theorem en13 : entersB Tryz.prog 13 = true := by kernel_rfl
theorem en14 : entersB Tryz.prog 14 = true := by kernel_rfl
theorem en15 : entersB Tryz.prog 15 = true := by kernel_rfl
theorem en16 : entersB Tryz.prog 16 = true := by kernel_rfl
theorem en17 : entersB Tryz.prog 17 = true := by kernel_rfl
theorem en21 : entersB Tryz.prog 21 = true := by kernel_rfl
theorem en22 : entersB Tryz.prog 22 = true := by kernel_rfl
theorem en25 : entersB Tryz.prog 25 = true := by kernel_rfl
theorem en26 : entersB Tryz.prog 26 = true := by kernel_rfl
theorem en27 : entersB Tryz.prog 27 = true := by kernel_rfl
theorem en28 : entersB Tryz.prog 28 = true := by kernel_rfl
theorem en29 : entersB Tryz.prog 29 = true := by kernel_rfl
theorem en30 : entersB Tryz.prog 30 = true := by kernel_rfl
theorem en31 : entersB Tryz.prog 31 = true := by kernel_rfl
theorem en32 : entersB Tryz.prog 32 = true := by kernel_rfl
theorem en33 : entersB Tryz.prog 33 = true := by kernel_rfl
theorem en34 : entersB Tryz.prog 34 = true := by kernel_rfl
theorem en35 : entersB Tryz.prog 35 = true := by kernel_rfl
theorem en36 : entersB Tryz.prog 36 = true := by kernel_rfl
theorem en37 : entersB Tryz.prog 37 = true := by kernel_rfl
theorem en38 : entersB Tryz.prog 38 = true := by kernel_rfl
theorem en39 : entersB Tryz.prog 39 = true := by kernel_rfl
theorem en45 : entersB Tryz.prog 45 = true := by kernel_rfl
theorem en46 : entersB Tryz.prog 46 = true := by kernel_rfl
theorem en47 : entersB Tryz.prog 47 = true := by kernel_rfl
theorem en48 : entersB Tryz.prog 48 = true := by kernel_rfl
theorem en49 : entersB Tryz.prog 49 = true := by kernel_rfl
theorem en50 : entersB Tryz.prog 50 = true := by kernel_rfl
theorem en51 : entersB Tryz.prog 51 = true := by kernel_rfl
theorem en52 : entersB Tryz.prog 52 = true := by kernel_rfl
theorem en53 : entersB Tryz.prog 53 = true := by kernel_rfl
theorem en54 : entersB Tryz.prog 54 = true := by kernel_rfl
theorem en55 : entersB Tryz.prog 55 = true := by kernel_rfl
theorem en56 : entersB Tryz.prog 56 = true := by kernel_rfl
theorem en57 : entersB Tryz.prog 57 = true := by kernel_rfl
theorem en58 : entersB Tryz.prog 58 = true := by kernel_rfl
theorem en59 : entersB Tryz.prog 59 = true := by kernel_rfl
theorem en6 : entersB Tryz.prog 6 = true := by kernel_rfl
theorem en61 : entersB Tryz.prog 61 = true := by kernel_rfl
theorem en62 : entersB Tryz.prog 62 = true := by kernel_rfl
theorem en63 : entersB Tryz.prog 63 = true := by kernel_rfl
theorem en64 : entersB Tryz.prog 64 = true := by kernel_rfl
theorem en65 : entersB Tryz.prog 65 = true := by kernel_rfl
theorem en66 : entersB Tryz.prog 66 = true := by kernel_rfl
theorem en67 : entersB Tryz.prog 67 = true := by kernel_rfl
theorem en7 : entersB Tryz.prog 7 = true := by kernel_rfl
theorem en72 : entersB Tryz.prog 72 = true := by kernel_rfl
theorem en73 : entersB Tryz.prog 73 = true := by kernel_rfl
theorem en74 : entersB Tryz.prog 74 = true := by kernel_rfl
theorem en77 : entersB Tryz.prog 77 = true := by kernel_rfl
theorem en78 : entersB Tryz.prog 78 = true := by kernel_rfl
theorem en79 : entersB Tryz.prog 79 = true := by kernel_rfl
theorem en8 : entersB Tryz.prog 8 = true := by kernel_rfl
theorem en80 : entersB Tryz.prog 80 = true := by kernel_rfl
theorem en81 : entersB Tryz.prog 81 = true := by kernel_rfl
theorem en86 : entersB Tryz.prog 86 = true := by kernel_rfl
theorem en9 : entersB Tryz.prog 9 = true := by kernel_rfl
theorem en98 : entersB Tryz.prog 98 = true := by kernel_rfl
theorem en99 : entersB Tryz.prog 99 = true := by kernel_rfl
theorem su32 : Tryz.prog.underlying 32 = some (.struct (Tryz.prog.fieldsOf 32)) ∧ Tryz.prog.stoodInHeld 32 = false ∧ (Tryz.prog.fieldsOf 32).toList.map (fun f => (f.name == "_", f.offset, f.type)) = ([(0, 9), (1, 3), (2, 3)] : List (Nat × TypeId)).map (fun p => (false, p.1, p.2)) := ⟨by kernel_rfl, by kernel_rfl, by kernel_rfl⟩
theorem td100 : Tryz.prog.underlying 100 = some (.unsafePointer) := by kernel_rfl
theorem td3 : Tryz.prog.underlying 3 = some (.int .i64) := by kernel_rfl
theorem td4 : Tryz.prog.underlying 4 = some (.bool) := by kernel_rfl
theorem td54 : Tryz.prog.underlying 54 = some (.pointer 57) := by kernel_rfl
theorem td85 : Tryz.prog.underlying 85 = some (.pointer 5) := by kernel_rfl
theorem td9 : Tryz.prog.underlying 9 = some (.string) := by kernel_rfl
theorem td92 : Tryz.prog.underlying 92 = some (.int .u64) := by kernel_rfl
theorem tf32_0 : fieldOff Tryz.prog 32 0 = some 0 := by kernel_rfl
theorem tf32_1 : fieldOff Tryz.prog 32 1 = some 1 := by kernel_rfl
theorem tf32_2 : fieldOff Tryz.prog 32 2 = some 2 := by kernel_rfl
theorem tf44_0 : fieldOff Tryz.prog 44 0 = some 0 := by kernel_rfl
theorem tf44_1 : fieldOff Tryz.prog 44 1 = some 1 := by kernel_rfl
theorem tf57_0 : fieldOff Tryz.prog 57 0 = some 0 := by kernel_rfl
theorem tf57_1 : fieldOff Tryz.prog 57 1 = some 1 := by kernel_rfl
theorem tp32 : placesOf Tryz.prog 32 = some [(0, 1), (1, 1), (2, 1)] := by kernel_rfl
theorem tp44 : placesOf Tryz.prog 44 = some [(0, 1), (1, 1)] := by kernel_rfl
theorem ts22 : TS Tryz.prog 22 32 3 32 true := ⟨by kernel_rfl, ti32, by kernel_rfl, by kernel_rfl⟩
theorem ts23 : TS Tryz.prog 23 32 3 32 true := ⟨by kernel_rfl, ti32, by kernel_rfl, by kernel_rfl⟩
theorem ts40 : TS Tryz.prog 40 44 2 24 true := ⟨by kernel_rfl, ti44, by kernel_rfl, by kernel_rfl⟩
theorem ts55 : TS Tryz.prog 55 5 1 1 false := ⟨by kernel_rfl, ti5, by kernel_rfl, by kernel_rfl⟩
theorem ts68 : TS Tryz.prog 68 9 1 16 false := ⟨by kernel_rfl, ti9, by kernel_rfl, by kernel_rfl⟩
theorem ts79 : TS Tryz.prog 79 23 1 24 false := ⟨by kernel_rfl, ti23, by kernel_rfl, by kernel_rfl⟩
theorem ts93 : TS Tryz.prog 93 3 1 8 false := ⟨by kernel_rfl, ti3, by kernel_rfl, by kernel_rfl⟩
theorem tz32 : (Tryz.prog.info? 32).bind (·.zero) = some (.agg #[.string ⟨#[]⟩, .int .i64 0, .int .i64 0]) := by kernel_rfl
theorem tz44 : (Tryz.prog.info? 44).bind (·.zero) = some (.agg #[.string ⟨#[]⟩, .int .i64 0]) := by kernel_rfl
theorem tz57 : (Tryz.prog.info? 57).bind (·.zero) = some (.agg #[.pointer none, .slice none 0 0]) := by kernel_rfl
theorem tz9 : (Tryz.prog.info? 9).bind (·.zero) = some (.string ⟨#[]⟩) := by kernel_rfl
theorem bldInfo : (Tryz.prog.info? 57).isSome = true := by kernel_rfl
theorem bldSize : (Tryz.prog.info? 57).any (fun j => j.size != 0) = true := by kernel_rfl
theorem bldLies : liesAt Tryz.prog Tryz.prog.depth 57 (2 / Tryz.prog.cellsOf 57) 0 57 1 = true := by kernel_rfl
theorem bldCells : Tryz.prog.cellsOf 5 = 1 := by kernel_rfl

theorem bldCheck_c (xs : List Int) (c : Nat) (u : Bool) (g : Nat) (post : List D) : CallH Tryz.prog 67 [.ptr c 2 0 0] (bldH 57 5 c u g xs post) (fun d h' => ∃ k : Bool × Nat × List D, d = .tup [] ∧ h' = bldH 57 5 c k.1 k.2.1 xs k.2.2) := by
  refine CallH.of_body Tryz.func67 rfl Tryz.ntmps67 rfl ?_
  cases u
  · refine wpA_seq ?_
    refine wpA_region ?_
    refine wpL_op rfl rfl rfl (OpA.mv rfl (by with_reducible conv => lhs; whnf) ?_)
    refine wpL_op rfl rfl rfl (OpA.nc rfl (by with_reducible conv => lhs; whnf) (.inl ⟨_, _, _, _, rfl⟩) ?_)
    refine wpL_op rfl rfl rfl (OpA.fieldAddr rfl tf57_0 rfl ?_)
    refine wpL_op rfl rfl rfl (OpA.load rfl ti54 rfl .head rfl rfl ?_)
    refine wpL_op rfl rfl rfl (OpA.selfNil rfl td54 rfl rfl ?_)
    refine wpL_nil ?_
    refine wpA_condT rfl ?_
    refine wpA_region ?_
    refine wpL_op rfl rfl rfl (OpA.mv rfl (by with_reducible conv => lhs; whnf) ?_)
    refine wpL_op rfl rfl rfl (OpA.mv rfl (by with_reducible conv => lhs; whnf) ?_)
    refine wpL_op rfl rfl rfl (OpA.toUnsafe rfl td54 td100 bldSize rfl .head ?_)
    refine wpL_op rfl rfl rfl (OpA.callId rfl rfl rfl rfl Tryz.func82 (by kernel_rfl) (by kernel_rfl) (by kernel_rfl) (by kernel_rfl) ?_)
    refine wpL_op rfl rfl rfl (OpA.fromUnsafe rfl td100 td54 bldInfo bldLies rfl .head ?_)
    refine wpL_op rfl rfl rfl (OpA.nc rfl (by with_reducible conv => lhs; whnf) (.inl ⟨_, _, _, _, rfl⟩) ?_)
    refine wpL_op rfl rfl rfl (OpA.fieldAddr rfl tf57_0 rfl ?_)
    refine wpL_eff rfl rfl (OpA.store (e' := bldD 57 5 c true g xs) rfl ti54 rfl (.of rfl) rfl (Nat.le_of_ble_eq_true rfl) rfl .head ?_)
    refine wpL_nil ?_
    exact ⟨_, .nil, (true, g, post), rfl, rfl⟩
  · refine wpA_seq ?_
    refine wpA_region ?_
    refine wpL_op rfl rfl rfl (OpA.mv rfl (by with_reducible conv => lhs; whnf) ?_)
    refine wpL_op rfl rfl rfl (OpA.nc rfl (by with_reducible conv => lhs; whnf) (.inl ⟨_, _, _, _, rfl⟩) ?_)
    refine wpL_op rfl rfl rfl (OpA.fieldAddr rfl tf57_0 rfl ?_)
    refine wpL_op rfl rfl rfl (OpA.load rfl ti54 rfl .head rfl rfl ?_)
    refine wpL_op rfl rfl rfl (OpA.selfNil rfl td54 rfl rfl ?_)
    refine wpL_nil ?_
    refine wpA_condF rfl ?_
    refine wpA_seq ?_
    refine wpA_region ?_
    refine wpL_op rfl rfl rfl (OpA.mv rfl (by with_reducible conv => lhs; whnf) ?_)
    refine wpL_op rfl rfl rfl (OpA.nc rfl (by with_reducible conv => lhs; whnf) (.inl ⟨_, _, _, _, rfl⟩) ?_)
    refine wpL_op rfl rfl rfl (OpA.fieldAddr rfl tf57_0 rfl ?_)
    refine wpL_op rfl rfl rfl (OpA.load rfl ti54 rfl .head rfl rfl ?_)
    refine wpL_op rfl rfl rfl (OpA.mv rfl (by with_reducible conv => lhs; whnf) ?_)
    refine wpL_op rfl rfl rfl (OpA.selfSame rfl td54 bldInfo rfl rfl ?_)
    refine wpL_nil ?_
    refine wpA_condF rfl ?_
    refine wpA_skip ?_
    exact ⟨_, .nil, (true, g, post), rfl, rfl⟩

theorem bldWS_c (xs : List Int) (c : Nat) (u : Bool) (g : Nat) (post : List D) (b : ByteArray) (hb : (xs.length + (sbytes b).length) * 1 ≤ 140737488355328 ∧ xs.length + (sbytes b).length ≤ 9223372036854775807) : CallH Tryz.prog 37 [.ptr c 2 0 0, D.s b] (bldH 57 5 c u g xs post) (fun d h' => ∃ k : Bool × Nat × List D, d = .tup [D.i (b.size : Int), .v .nilIface] ∧ h' = bldH 57 5 c k.1 k.2.1 (xs ++ sbytes b) k.2.2) := by
  refine CallH.of_body Tryz.func37 rfl Tryz.ntmps37 rfl ?_
  refine wpA_seq ?_
  refine wpA_region ?_
  refine wpL_op rfl rfl rfl (OpA.asn rfl (by with_reducible conv => lhs; whnf) ?_)
  refine wpL_op rfl rfl rfl (OpA.asn rfl (by with_reducible conv => lhs; whnf) ?_)
  refine wpL_nil ?_
  refine wpA_seq ?_
  refine wpA_region ?_
  refine wpL_op rfl rfl rfl (OpA.mv rfl (by with_reducible conv => lhs; whnf) ?_)
  refine wpL_op rfl rfl rfl (OpA.callH rfl rfl rfl en67 (h1 := bldH 57 5 c u g xs post) (h2 := []) (.refl _) (bldCheck_c xs c u g post) ?_)
  rintro _ _ ⟨⟨u', g', post'⟩, rfl, rfl⟩
  refine wpL_nil ?_
  refine wpA_seq ?_
  refine wpA_region ?_
  refine wpL_op rfl rfl rfl (OpA.mv rfl (by with_reducible conv => lhs; whnf) ?_)
  refine wpL_op rfl rfl rfl (OpA.mv rfl (by with_reducible conv => lhs; whnf) ?_)
  refine wpL_op rfl rfl rfl (OpA.nc rfl (by with_reducible conv => lhs; whnf) (.inl ⟨_, _, _, _, rfl⟩) ?_)
  refine wpL_op rfl rfl rfl (OpA.fieldAddr rfl tf57_1 rfl ?_)
  refine wpL_op rfl rfl rfl (OpA.load rfl ti55 rfl .head rfl rfl ?_)
  refine wpL_op rfl rfl rfl (OpA.mv rfl (by with_reducible conv => lhs; whnf) ?_)
  refine wpL_op rfl rfl rfl (OpA.appendBS rfl rfl rfl rfl ts55 td9 rfl (fun _ _ => .tail .head) rfl hb (fun g2 => ?_))
  refine wpL_op rfl rfl rfl (OpA.nc rfl (by with_reducible conv => lhs; whnf) (.inl ⟨_, _, _, _, rfl⟩) ?_)
  refine wpL_op rfl rfl rfl (OpA.fieldAddr rfl tf57_1 rfl ?_)
  refine wpL_eff rfl rfl (OpA.store (e := bldD 57 5 c u' g' xs) (e' := bldD 57 5 c u' g2 (xs ++ sbytes b)) rfl ti55 rfl (bufD_ok _ _ _) rfl (Nat.le_of_ble_eq_true rfl) (bld_put _) .head ?_)
  refine wpL_nil ?_
  refine wpA_seq ?_
  refine wpA_region ?_
  refine wpL_op rfl rfl rfl (OpA.mv rfl (by with_reducible conv => lhs; whnf) ?_)
  refine wpL_op rfl rfl rfl (OpA.slen rfl rfl rfl rfl td9 rfl ?_)
  refine wpL_op rfl rfl rfl (OpA.asn rfl (by with_reducible conv => lhs; whnf) ?_)
  refine wpL_op rfl rfl rfl (OpA.asn rfl (by with_reducible conv => lhs; whnf) ?_)
  refine wpL_nil ?_
  refine wpA_ret ?_
  exact ⟨_, (.tmp (d := D.i (b.size : Int)) rfl (.tmp (d := .v .nilIface) rfl .nil)), (u', g2, []), rfl, rfl⟩

theorem bldStr_c (xs : List Int) (c : Nat) (u : Bool) (g : Nat) (post : List D) (hl : xs.length ≤ 9223372036854775807) : CallH Tryz.prog 39 [.ptr c 2 0 0] (bldH 57 5 c u g xs post) (fun d h' => ∃ _ : Unit, d = D.s (bstr xs) ∧ h' = []) := by
  refine CallH.of_body Tryz.func39 rfl Tryz.ntmps39 rfl ?_
  rcases xs with _ | ⟨x, l⟩
  · refine wpA_seq ?_
    refine wpA_region ?_
    refine wpL_op rfl rfl rfl (OpA.asn rfl (by with_reducible conv => lhs; whnf) ?_)
    refine wpL_nil ?_
    refine wpA_seq ?_
    refine wpA_draw (m := 10) mo (by kernel_rfl) rfl ?_
    refine DetK.op rfl (OpA.mv rfl (by with_reducible conv => lhs; whnf) ⟨rfl, rfl⟩) ?_
    refine DetK.op rfl (OpA.nc rfl (by with_reducible conv => lhs; whnf) (.inl ⟨_, _, _, _, rfl⟩) ⟨rfl, rfl⟩) ?_
    refine DetK.op rfl (OpA.fieldAddr rfl tf57_1 rfl ⟨rfl, rfl⟩) ?_
    refine DetK.op rfl (OpA.load rfl ti55 rfl .head rfl rfl ⟨rfl, rfl⟩) ?_
    refine DetK.op rfl (OpA.dataN (t := #[]) rfl rfl rfl rfl ⟨rfl, rfl⟩) ?_
    refine DetK.op rfl (OpA.mv rfl (by with_reducible conv => lhs; whnf) ⟨rfl, rfl⟩) ?_
    refine DetK.op rfl (OpA.nc rfl (by with_reducible conv => lhs; whnf) (.inl ⟨_, _, _, _, rfl⟩) ⟨rfl, rfl⟩) ?_
    refine DetK.op rfl (OpA.fieldAddr rfl tf57_1 rfl ⟨rfl, rfl⟩) ?_
    refine DetK.op rfl (OpA.load rfl ti55 rfl .head rfl rfl ⟨rfl, rfl⟩) ?_
    refine DetK.op rfl (OpA.len (n := 0) rfl rfl rfl rfl ts55.desc (.inr (.inr ⟨rfl, rfl⟩)) ⟨rfl, rfl⟩) ?_
    refine DetK.nil ?_
    refine wpL_op rfl rfl rfl (OpA.strN rfl rfl rfl rfl rfl rfl ?_)
    refine wpL_op rfl rfl rfl (OpA.asn rfl (by with_reducible conv => lhs; whnf) ?_)
    refine wpL_nil ?_
    refine wpA_sub (h0 := []) (.cons _ (.cons _ (.refl _))) ?_
    refine wpA_ret ?_
    exact ⟨_, (.tmp (d := D.s (bstr [])) rfl .nil), (), rfl, rfl⟩
  · refine wpA_seq ?_
    refine wpA_region ?_
    refine wpL_op rfl rfl rfl (OpA.asn rfl (by with_reducible conv => lhs; whnf) ?_)
    refine wpL_nil ?_
    refine wpA_seq ?_
    refine wpA_draw (m := 10) mo (by kernel_rfl) rfl ?_
    refine DetK.op rfl (OpA.mv rfl (by with_reducible conv => lhs; whnf) ⟨rfl, rfl⟩) ?_
    refine DetK.op rfl (OpA.nc rfl (by with_reducible conv => lhs; whnf) (.inl ⟨_, _, _, _, rfl⟩) ⟨rfl, rfl⟩) ?_
    refine DetK.op rfl (OpA.fieldAddr rfl tf57_1 rfl ⟨rfl, rfl⟩) ?_
    refine DetK.op rfl (OpA.load rfl ti55 rfl .head rfl rfl ⟨rfl, rfl⟩) ?_
    refine DetK.op rfl (OpA.dataT rfl rfl rfl rfl ⟨rfl, rfl⟩) ?_
    refine DetK.op rfl (OpA.mv rfl (by with_reducible conv => lhs; whnf) ⟨rfl, rfl⟩) ?_
    refine DetK.op rfl (OpA.nc rfl (by with_reducible conv => lhs; whnf) (.inl ⟨_, _, _, _, rfl⟩) ⟨rfl, rfl⟩) ?_
    refine DetK.op rfl (OpA.fieldAddr rfl tf57_1 rfl ⟨rfl, rfl⟩) ?_
    refine DetK.op rfl (OpA.load rfl ti55 rfl .head rfl rfl ⟨rfl, rfl⟩) ?_
    refine DetK.op rfl (OpA.lenT rfl rfl rfl rfl ts55.desc rfl ⟨rfl, rfl⟩) ?_
    refine DetK.nil ?_
    refine wpL_op rfl rfl rfl (OpA.strT (xs := x :: l) rfl rfl rfl rfl td85 bldCells rfl rfl .head pull1 (by simp) hl ?_)
    refine wpL_op rfl rfl rfl (OpA.asn rfl (by with_reducible conv => lhs; whnf) ?_)
    refine wpL_nil ?_
    refine wpA_sub (h0 := []) (.cons _ (.refl _)) ?_
    refine wpA_ret ?_
    exact ⟨_, (.tmp (d := D.s (bstr (x :: l))) rfl .nil), (), rfl, rfl⟩


end Go.Proofs.YtnnbgemjkhgldaaGreatDoor
