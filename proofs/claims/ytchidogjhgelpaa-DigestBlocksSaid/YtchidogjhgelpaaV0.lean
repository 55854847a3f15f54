/-
  walks and contracts
-/
import Derived.Test.YtchidogjhgelpaaBld
import Derived.Test.YtchidogjhgelpaaChecked
set_option linter.all false
namespace Go.Proofs.Ytchidogjhgelpaa
open Go Go.Lic

theorem mo : Try.prog.follows .mixedOrders = true := by kernel_rfl
theorem ti25 : TI Try.prog 25 1 false := .mk' (by kernel_rfl) (by kernel_rfl)
theorem ti26 : TI Try.prog 26 25 true := .mk' (by kernel_rfl) (by kernel_rfl)
theorem ti3 : TI Try.prog 3 1 false := .mk' (by kernel_rfl) (by kernel_rfl)
theorem ti33 : TI Try.prog 33 1 false := .mk' (by kernel_rfl) (by kernel_rfl)
theorem ti42 : TI Try.prog 42 1 false := .mk' (by kernel_rfl) (by kernel_rfl)
theorem ti44 : TI Try.prog 44 25 true := .mk' (by kernel_rfl) (by kernel_rfl)
theorem ti46 : TI Try.prog 46 24 true := .mk' (by kernel_rfl) (by kernel_rfl)
theorem ti5 : TI Try.prog 5 1 false := .mk' (by kernel_rfl) (by kernel_rfl)
theorem ti52 : TI Try.prog 52 54 true := .mk' (by kernel_rfl) (by kernel_rfl)
theorem ti54 : TI Try.prog 54 1 false := .mk' (by kernel_rfl) (by kernel_rfl)
theorem ti9 : TI Try.prog 9 1 false := .mk' (by kernel_rfl) (by kernel_rfl)
theorem eg26 : Try.prog.eqGuardType Try.prog.depth 26 = false := by kernel_rfl
theorem en10 : entersB Try.prog 10 = true := by kernel_rfl
theorem en11 : entersB Try.prog 11 = true := by kernel_rfl
theorem en12 : entersB Try.prog 12 = true := by kernel_rfl
theorem en13 : entersB Try.prog 13 = true := by kernel_rfl
theorem en14 : entersB Try.prog 14 = true := by kernel_rfl
theorem en15 : entersB Try.prog 15 = true := by kernel_rfl
theorem en16 : entersB Try.prog 16 = true := by kernel_rfl
theorem en17 : entersB Try.prog 17 = true := by kernel_rfl
theorem en18 : entersB Try.prog 18 = true := by kernel_rfl
theorem en19 : entersB Try.prog 19 = true := by kernel_rfl
theorem en20 : entersB Try.prog 20 = true := by kernel_rfl
theorem en21 : entersB Try.prog 21 = true := by kernel_rfl
theorem en22 : entersB Try.prog 22 = true := by kernel_rfl
theorem en23 : entersB Try.prog 23 = true := by kernel_rfl
theorem en24 : entersB Try.prog 24 = true := by kernel_rfl
theorem en25 : entersB Try.prog 25 = true := by kernel_rfl
theorem en26 : entersB Try.prog 26 = true := by kernel_rfl
theorem en27 : entersB Try.prog 27 = true := by kernel_rfl
theorem en28 : entersB Try.prog 28 = true := by kernel_rfl
theorem en29 : entersB Try.prog 29 = true := by kernel_rfl
theorem en30 : entersB Try.prog 30 = true := by kernel_rfl
theorem en31 : entersB Try.prog 31 = true := by kernel_rfl
theorem en32 : entersB Try.prog 32 = true := by kernel_rfl
theorem en33 : entersB Try.prog 33 = true := by kernel_rfl
theorem en34 : entersB Try.prog 34 = true := by kernel_rfl
theorem en35 : entersB Try.prog 35 = true := by kernel_rfl
theorem en36 : entersB Try.prog 36 = true := by kernel_rfl
theorem en37 : entersB Try.prog 37 = true := by kernel_rfl
theorem en38 : entersB Try.prog 38 = true := by kernel_rfl
theorem td25 : Try.prog.underlying 25 = some (.int .u64) := by kernel_rfl
theorem td26 : Try.prog.underlying 26 = some (.array 25 25) := by kernel_rfl
theorem td3 : Try.prog.underlying 3 = some (.int .i64) := by kernel_rfl
theorem td31 : Try.prog.underlying 31 = some (.pointer 52) := by kernel_rfl
theorem td4 : Try.prog.underlying 4 = some (.bool) := by kernel_rfl
theorem td43 : Try.prog.underlying 43 = some (.int .u64) := by kernel_rfl
theorem td44 : Try.prog.underlying 44 = some (.array 25 3) := by kernel_rfl
theorem td46 : Try.prog.underlying 46 = some (.array 24 25) := by kernel_rfl
theorem td5 : Try.prog.underlying 5 = some (.int .u8) := by kernel_rfl
theorem td54 : Try.prog.underlying 54 = some (.pointer 56) := by kernel_rfl
theorem td63 : Try.prog.underlying 63 = some (.array 5 25) := by kernel_rfl
theorem td67 : Try.prog.underlying 67 = some (.pointer 5) := by kernel_rfl
theorem td69 : Try.prog.underlying 69 = some (.unsafePointer) := by kernel_rfl
theorem td9 : Try.prog.underlying 9 = some (.string) := by kernel_rfl
theorem tf52_0 : fieldOff Try.prog 52 0 = some 0 := by kernel_rfl
theorem tf52_1 : fieldOff Try.prog 52 1 = some 25 := by kernel_rfl
theorem tf52_2 : fieldOff Try.prog 52 2 = some 26 := by kernel_rfl
theorem tf52_3 : fieldOff Try.prog 52 3 = some 27 := by kernel_rfl
theorem tf52_4 : fieldOff Try.prog 52 4 = some 52 := by kernel_rfl
theorem tf52_5 : fieldOff Try.prog 52 5 = some 53 := by kernel_rfl
theorem tf56_0 : fieldOff Try.prog 56 0 = some 0 := by kernel_rfl
theorem tf56_1 : fieldOff Try.prog 56 1 = some 1 := by kernel_rfl
theorem tp52 : placesOf Try.prog 52 = some [(0, 25), (25, 1), (26, 1), (27, 25), (52, 1), (53, 1)] := by kernel_rfl
theorem ts30 : TS Try.prog 30 33 1 24 false := ⟨by kernel_rfl, ti33, by kernel_rfl, by kernel_rfl⟩
theorem ts33 : TS Try.prog 33 9 1 16 false := ⟨by kernel_rfl, ti9, by kernel_rfl, by kernel_rfl⟩
theorem ts42 : TS Try.prog 42 5 1 1 false := ⟨by kernel_rfl, ti5, by kernel_rfl, by kernel_rfl⟩
theorem ts66 : TS Try.prog 66 25 1 8 false := ⟨by kernel_rfl, ti25, by kernel_rfl, by kernel_rfl⟩
theorem ts68 : TS Try.prog 68 3 1 8 false := ⟨by kernel_rfl, ti3, by kernel_rfl, by kernel_rfl⟩
theorem tz26 : (Try.prog.info? 26).bind (·.zero) = some (.agg #[.int .u64 0, .int .u64 0, .int .u64 0, .int .u64 0, .int .u64 0, .int .u64 0, .int .u64 0, .int .u64 0, .int .u64 0, .int .u64 0, .int .u64 0, .int .u64 0, .int .u64 0, .int .u64 0, .int .u64 0, .int .u64 0, .int .u64 0, .int .u64 0, .int .u64 0, .int .u64 0, .int .u64 0, .int .u64 0, .int .u64 0, .int .u64 0, .int .u64 0]) := by kernel_rfl
theorem tz44 : (Try.prog.info? 44).bind (·.zero) = some (.agg #[.int .i64 0, .int .i64 0, .int .i64 0, .int .i64 0, .int .i64 0, .int .i64 0, .int .i64 0, .int .i64 0, .int .i64 0, .int .i64 0, .int .i64 0, .int .i64 0, .int .i64 0, .int .i64 0, .int .i64 0, .int .i64 0, .int .i64 0, .int .i64 0, .int .i64 0, .int .i64 0, .int .i64 0, .int .i64 0, .int .i64 0, .int .i64 0, .int .i64 0]) := by kernel_rfl
theorem tz46 : (Try.prog.info? 46).bind (·.zero) = some (.agg #[.int .u64 0, .int .u64 0, .int .u64 0, .int .u64 0, .int .u64 0, .int .u64 0, .int .u64 0, .int .u64 0, .int .u64 0, .int .u64 0, .int .u64 0, .int .u64 0, .int .u64 0, .int .u64 0, .int .u64 0, .int .u64 0, .int .u64 0, .int .u64 0, .int .u64 0, .int .u64 0, .int .u64 0, .int .u64 0, .int .u64 0, .int .u64 0]) := by kernel_rfl
theorem tz5 : (Try.prog.info? 5).bind (·.zero) = some (.int .u8 0) := by kernel_rfl
theorem tz52 : (Try.prog.info? 52).bind (·.zero) = some (.agg #[.int .u64 0, .int .u64 0, .int .u64 0, .int .u64 0, .int .u64 0, .int .u64 0, .int .u64 0, .int .u64 0, .int .u64 0, .int .u64 0, .int .u64 0, .int .u64 0, .int .u64 0, .int .u64 0, .int .u64 0, .int .u64 0, .int .u64 0, .int .u64 0, .int .u64 0, .int .u64 0, .int .u64 0, .int .u64 0, .int .u64 0, .int .u64 0, .int .u64 0, .slice none 0 0, .int .i64 0, .int .u64 0, .int .u64 0, .int .u64 0, .int .u64 0, .int .u64 0, .int .u64 0, .int .u64 0, .int .u64 0, .int .u64 0, .int .u64 0, .int .u64 0, .int .u64 0, .int .u64 0, .int .u64 0, .int .u64 0, .int .u64 0, .int .u64 0, .int .u64 0, .int .u64 0, .int .u64 0, .int .u64 0, .int .u64 0, .int .u64 0, .int .u64 0, .int .u64 0, .string ⟨#[]⟩, .string ⟨#[]⟩]) := by kernel_rfl
theorem tz56 : (Try.prog.info? 56).bind (·.zero) = some (.agg #[.pointer none, .slice none 0 0]) := by kernel_rfl
theorem tz63 : (Try.prog.info? 63).bind (·.zero) = some (.agg #[.int .u64 0, .int .u64 0, .int .u64 0, .int .u64 0, .int .u64 0]) := by kernel_rfl
theorem bldInfo : (Try.prog.info? 56).isSome = true := by kernel_rfl
theorem bldSize : (Try.prog.info? 56).any (fun j => j.size != 0) = true := by kernel_rfl
theorem bldLies : liesAt Try.prog Try.prog.depth 56 (2 / Try.prog.cellsOf 56) 0 56 1 = true := by kernel_rfl
theorem bldCells : Try.prog.cellsOf 5 = 1 := by kernel_rfl

theorem bldCheck_c (xs : List Int) (c : Nat) (u : Bool) (g : Nat) (post : List D) : CallH Try.prog 37 [.ptr c 2 0 0] (bldH 56 5 c u g xs post) (fun d h' => ∃ k : Bool × Nat × List D, d = .tup [] ∧ h' = bldH 56 5 c k.1 k.2.1 xs k.2.2) := by
  refine CallH.of_body Try.func37 rfl Try.ntmps37 rfl ?_
  cases u
  · refine wpA_seq ?_
    refine wpA_region ?_
    refine wpL_op rfl rfl rfl (OpA.mv rfl (by with_reducible conv => lhs; whnf) ?_)
    refine wpL_op rfl rfl rfl (OpA.nc rfl (by with_reducible conv => lhs; whnf) (.inl ⟨_, _, _, _, rfl⟩) ?_)
    refine wpL_op rfl rfl rfl (OpA.fieldAddr rfl tf56_0 rfl ?_)
    refine wpL_op rfl rfl rfl (OpA.load rfl ti54 rfl .head rfl rfl ?_)
    refine wpL_op rfl rfl rfl (OpA.selfNil rfl td54 rfl rfl ?_)
    refine wpL_nil ?_
    refine wpA_condT rfl ?_
    refine wpA_region ?_
    refine wpL_op rfl rfl rfl (OpA.mv rfl (by with_reducible conv => lhs; whnf) ?_)
    refine wpL_op rfl rfl rfl (OpA.mv rfl (by with_reducible conv => lhs; whnf) ?_)
    refine wpL_op rfl rfl rfl (OpA.toUnsafe rfl td54 td69 bldSize rfl .head ?_)
    refine wpL_op rfl rfl rfl (OpA.callId rfl rfl rfl rfl Try.func39 (by kernel_rfl) (by kernel_rfl) (by kernel_rfl) (by kernel_rfl) ?_)
    refine wpL_op rfl rfl rfl (OpA.fromUnsafe rfl td69 td54 bldInfo bldLies rfl .head ?_)
    refine wpL_op rfl rfl rfl (OpA.nc rfl (by with_reducible conv => lhs; whnf) (.inl ⟨_, _, _, _, rfl⟩) ?_)
    refine wpL_op rfl rfl rfl (OpA.fieldAddr rfl tf56_0 rfl ?_)
    refine wpL_eff rfl rfl (OpA.store (e' := bldD 56 5 c true g xs) rfl ti54 rfl (.of rfl) rfl (Nat.le_of_ble_eq_true rfl) rfl .head ?_)
    refine wpL_nil ?_
    exact ⟨_, .nil, (true, g, post), rfl, rfl⟩
  · refine wpA_seq ?_
    refine wpA_region ?_
    refine wpL_op rfl rfl rfl (OpA.mv rfl (by with_reducible conv => lhs; whnf) ?_)
    refine wpL_op rfl rfl rfl (OpA.nc rfl (by with_reducible conv => lhs; whnf) (.inl ⟨_, _, _, _, rfl⟩) ?_)
    refine wpL_op rfl rfl rfl (OpA.fieldAddr rfl tf56_0 rfl ?_)
    refine wpL_op rfl rfl rfl (OpA.load rfl ti54 rfl .head rfl rfl ?_)
    refine wpL_op rfl rfl rfl (OpA.selfNil rfl td54 rfl rfl ?_)
    refine wpL_nil ?_
    refine wpA_condF rfl ?_
    refine wpA_seq ?_
    refine wpA_region ?_
    refine wpL_op rfl rfl rfl (OpA.mv rfl (by with_reducible conv => lhs; whnf) ?_)
    refine wpL_op rfl rfl rfl (OpA.nc rfl (by with_reducible conv => lhs; whnf) (.inl ⟨_, _, _, _, rfl⟩) ?_)
    refine wpL_op rfl rfl rfl (OpA.fieldAddr rfl tf56_0 rfl ?_)
    refine wpL_op rfl rfl rfl (OpA.load rfl ti54 rfl .head rfl rfl ?_)
    refine wpL_op rfl rfl rfl (OpA.mv rfl (by with_reducible conv => lhs; whnf) ?_)
    refine wpL_op rfl rfl rfl (OpA.selfSame rfl td54 bldInfo rfl rfl ?_)
    refine wpL_nil ?_
    refine wpA_condF rfl ?_
    refine wpA_skip ?_
    exact ⟨_, .nil, (true, g, post), rfl, rfl⟩

theorem bldWB_c (xs : List Int) (c : Nat) (u : Bool) (g : Nat) (post : List D) (b : Int) (hb : (xs.length + ([b]).length) * 1 ≤ 140737488355328 ∧ xs.length + ([b]).length ≤ 9223372036854775807) : CallH Try.prog 30 [.ptr c 2 0 0, D.k .u8 b] (bldH 56 5 c u g xs post) (fun d h' => ∃ k : Bool × Nat × List D, d = .v .nilIface ∧ h' = bldH 56 5 c k.1 k.2.1 (xs ++ [b]) k.2.2) := by
  refine CallH.of_body Try.func30 rfl Try.ntmps30 rfl ?_
  refine wpA_seq ?_
  refine wpA_region ?_
  refine wpL_op rfl rfl rfl (OpA.asn rfl (by with_reducible conv => lhs; whnf) ?_)
  refine wpL_nil ?_
  refine wpA_seq ?_
  refine wpA_region ?_
  refine wpL_op rfl rfl rfl (OpA.mv rfl (by with_reducible conv => lhs; whnf) ?_)
  refine wpL_op rfl rfl rfl (OpA.callH rfl rfl rfl en37 (h1 := bldH 56 5 c u g xs post) (h2 := []) (.refl _) (bldCheck_c xs c u g post) ?_)
  rintro _ _ ⟨⟨u', g', post'⟩, rfl, rfl⟩
  refine wpL_nil ?_
  refine wpA_seq ?_
  refine wpA_region ?_
  refine wpL_op rfl rfl rfl (OpA.mv rfl (by with_reducible conv => lhs; whnf) ?_)
  refine wpL_op rfl rfl rfl (OpA.mv rfl (by with_reducible conv => lhs; whnf) ?_)
  refine wpL_op rfl rfl rfl (OpA.nc rfl (by with_reducible conv => lhs; whnf) (.inl ⟨_, _, _, _, rfl⟩) ?_)
  refine wpL_op rfl rfl rfl (OpA.fieldAddr rfl tf56_1 rfl ?_)
  refine wpL_op rfl rfl rfl (OpA.load rfl ti42 rfl .head rfl rfl ?_)
  refine wpL_op rfl rfl rfl (OpA.mv rfl (by with_reducible conv => lhs; whnf) ?_)
  refine wpL_op rfl rfl rfl (OpA.ibuildSliceO rfl ts42 rfl (.cons (.of (sz := 1) rfl) .nil) (by decide) ?_)
  refine wpL_op rfl rfl rfl (OpA.appendB rfl rfl rfl rfl ts42 rfl (fun _ _ => .tail .head) (.list (ys := [b])) hb (fun g2 => ?_))
  refine wpL_op rfl rfl rfl (OpA.nc rfl (by with_reducible conv => lhs; whnf) (.inl ⟨_, _, _, _, rfl⟩) ?_)
  refine wpL_op rfl rfl rfl (OpA.fieldAddr rfl tf56_1 rfl ?_)
  refine wpL_eff rfl rfl (OpA.store (e := bldD 56 5 c u' g' xs) (e' := bldD 56 5 c u' g2 (xs ++ [b])) rfl ti42 rfl (bufD_ok _ _ _) rfl (Nat.le_of_ble_eq_true rfl) (bld_put _) .head ?_)
  refine wpL_nil ?_
  refine wpA_seq ?_
  refine wpA_region ?_
  refine wpL_op rfl rfl rfl (OpA.asn rfl (by with_reducible conv => lhs; whnf) ?_)
  refine wpL_nil ?_
  refine wpA_ret ?_
  exact ⟨_, (.tmp (d := .v .nilIface) rfl .nil), (u', g2, []), rfl, rfl⟩

theorem bldStr_c (xs : List Int) (c : Nat) (u : Bool) (g : Nat) (post : List D) (hl : xs.length ≤ 9223372036854775807) : CallH Try.prog 31 [.ptr c 2 0 0] (bldH 56 5 c u g xs post) (fun d h' => ∃ _ : Unit, d = D.s (bstr xs) ∧ h' = []) := by
  refine CallH.of_body Try.func31 rfl Try.ntmps31 rfl ?_
  rcases xs with _ | ⟨x, l⟩
  · refine wpA_seq ?_
    refine wpA_region ?_
    refine wpL_op rfl rfl rfl (OpA.asn rfl (by with_reducible conv => lhs; whnf) ?_)
    refine wpL_nil ?_
    refine wpA_seq ?_
    refine wpA_draw (m := 10) mo (by kernel_rfl) rfl ?_
    refine DetK.op rfl (OpA.mv rfl (by with_reducible conv => lhs; whnf) ⟨rfl, rfl⟩) ?_
    refine DetK.op rfl (OpA.nc rfl (by with_reducible conv => lhs; whnf) (.inl ⟨_, _, _, _, rfl⟩) ⟨rfl, rfl⟩) ?_
    refine DetK.op rfl (OpA.fieldAddr rfl tf56_1 rfl ⟨rfl, rfl⟩) ?_
    refine DetK.op rfl (OpA.load rfl ti42 rfl .head rfl rfl ⟨rfl, rfl⟩) ?_
    refine DetK.op rfl (OpA.dataN (t := #[]) rfl rfl rfl rfl ⟨rfl, rfl⟩) ?_
    refine DetK.op rfl (OpA.mv rfl (by with_reducible conv => lhs; whnf) ⟨rfl, rfl⟩) ?_
    refine DetK.op rfl (OpA.nc rfl (by with_reducible conv => lhs; whnf) (.inl ⟨_, _, _, _, rfl⟩) ⟨rfl, rfl⟩) ?_
    refine DetK.op rfl (OpA.fieldAddr rfl tf56_1 rfl ⟨rfl, rfl⟩) ?_
    refine DetK.op rfl (OpA.load rfl ti42 rfl .head rfl rfl ⟨rfl, rfl⟩) ?_
    refine DetK.op rfl (OpA.len (n := 0) rfl rfl rfl rfl ts42.desc (.inr (.inr ⟨rfl, rfl⟩)) ⟨rfl, rfl⟩) ?_
    refine DetK.nil ?_
    refine wpL_op rfl rfl rfl (OpA.strN rfl rfl rfl rfl rfl rfl ?_)
    refine wpL_op rfl rfl rfl (OpA.asn rfl (by with_reducible conv => lhs; whnf) ?_)
    refine wpL_nil ?_
    refine wpA_sub (h0 := []) (.cons _ (.cons _ (.refl _))) ?_
    refine wpA_ret ?_
    exact ⟨_, (.tmp (d := D.s (bstr [])) rfl .nil), (), rfl, rfl⟩
  · refine wpA_seq ?_
    refine wpA_region ?_
    refine wpL_op rfl rfl rfl (OpA.asn rfl (by with_reducible conv => lhs; whnf) ?_)
    refine wpL_nil ?_
    refine wpA_seq ?_
    refine wpA_draw (m := 10) mo (by kernel_rfl) rfl ?_
    refine DetK.op rfl (OpA.mv rfl (by with_reducible conv => lhs; whnf) ⟨rfl, rfl⟩) ?_
    refine DetK.op rfl (OpA.nc rfl (by with_reducible conv => lhs; whnf) (.inl ⟨_, _, _, _, rfl⟩) ⟨rfl, rfl⟩) ?_
    refine DetK.op rfl (OpA.fieldAddr rfl tf56_1 rfl ⟨rfl, rfl⟩) ?_
    refine DetK.op rfl (OpA.load rfl ti42 rfl .head rfl rfl ⟨rfl, rfl⟩) ?_
    refine DetK.op rfl (OpA.dataT rfl rfl rfl rfl ⟨rfl, rfl⟩) ?_
    refine DetK.op rfl (OpA.mv rfl (by with_reducible conv => lhs; whnf) ⟨rfl, rfl⟩) ?_
    refine DetK.op rfl (OpA.nc rfl (by with_reducible conv => lhs; whnf) (.inl ⟨_, _, _, _, rfl⟩) ⟨rfl, rfl⟩) ?_
    refine DetK.op rfl (OpA.fieldAddr rfl tf56_1 rfl ⟨rfl, rfl⟩) ?_
    refine DetK.op rfl (OpA.load rfl ti42 rfl .head rfl rfl ⟨rfl, rfl⟩) ?_
    refine DetK.op rfl (OpA.lenT rfl rfl rfl rfl ts42.desc rfl ⟨rfl, rfl⟩) ?_
    refine DetK.nil ?_
    refine wpL_op rfl rfl rfl (OpA.strT (xs := x :: l) rfl rfl rfl rfl td67 bldCells rfl rfl .head pull1 (by simp) hl ?_)
    refine wpL_op rfl rfl rfl (OpA.asn rfl (by with_reducible conv => lhs; whnf) ?_)
    refine wpL_nil ?_
    refine wpA_sub (h0 := []) (.cons _ (.refl _)) ?_
    refine wpA_ret ?_
    exact ⟨_, (.tmp (d := D.s (bstr (x :: l))) rfl .nil), (), rfl, rfl⟩


end Go.Proofs.Ytchidogjhgelpaa
