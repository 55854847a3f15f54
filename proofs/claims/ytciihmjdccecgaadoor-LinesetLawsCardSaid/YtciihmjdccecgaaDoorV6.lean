/-
  walks and contracts
-/
import Derived.Test.YtciihmjdccecgaaDoorV5
set_option linter.all false
namespace Go.Proofs.YtciihmjdccecgaaDoor
open Go Go.Lic Go.Sort Go.Proofs
attribute [local irreducible] badR behindF cmpB cmpI countF countL fewF growF has1F hasF hasPrefF indexF insideF itoaF lenF meetF mergeF minusF ofF orF partF pathF printF spanCmp splitF splitG underF unionF validF



set_option maxHeartbeats 2000000 in
set_option maxRecDepth 10000 in
theorem awake_w   (Q : Bool → Prop) (h : awake_vc  Q) : Fun false Tryd.prog 4 [] (fun d => ∃ r, d = D.b r ∧ Q r) := by
  unfold awake_vc at h
  refine Fun.of_body Tryd.func4 rfl Tryd.ntmps4 rfl ?_
  refine wpA_seq ?_
  refine wpA_region ?_
  refine wpL_op rfl rfl rfl (OpA.asn rfl (by with_reducible conv => lhs; whnf) ?_)
  refine wpL_nil ?_
  refine wpA_seq ?_
  obtain ⟨q1, q2, h⟩ := h
  refine wpA_region ?_
  refine wpL_op rfl rfl rfl (OpA.buildO (zs := [.v (.string ⟨#[]⟩), .v (.int .i64 0)]) rfl tp37 tz37 (fun _ _ => (.cons (.v _) (.cons (.v _) .nil))) (.cons (.of (sz := 1) rfl) (.cons (.of (sz := 1) rfl) .nil)) rfl ?_)
  refine wpL_op rfl rfl rfl (OpA.buildO (zs := [.v (.string ⟨#[]⟩), .v (.int .i64 0)]) rfl tp37 tz37 (fun _ _ => (.cons (.v _) (.cons (.v _) .nil))) (.cons (.of (sz := 1) rfl) .nil) rfl ?_)
  refine wpL_op rfl rfl rfl (OpA.buildO (zs := [.v (.string ⟨#[]⟩), .v (.int .i64 0)]) rfl tp37 tz37 (fun _ _ => (.cons (.v _) (.cons (.v _) .nil))) (.cons (.of (sz := 1) rfl) (.cons (.of (sz := 1) rfl) .nil)) rfl ?_)
  refine wpL_op rfl rfl rfl (OpA.buildO (zs := [.v (.string ⟨#[]⟩), .v (.int .i64 0)]) rfl tp37 tz37 (fun _ _ => (.cons (.v _) (.cons (.v _) .nil))) (.cons (.of (sz := 1) rfl) (.cons (.of (sz := 1) rfl) .nil)) rfl ?_)
  refine wpL_op rfl rfl rfl (OpA.ibuildSliceO rfl ts38 rfl (.cons (.of (sz := 2) rfl) (.cons (.of (sz := 2) rfl) (.cons (.of (sz := 2) rfl) (.cons (.of (sz := 2) rfl) .nil)))) (by decide) ?_)
  refine wpL_op rfl rfl rfl (OpA.call rfl rfl rfl en15 (of_c ([(Line.mk (⟨#[97, 47, 120]⟩ : ByteArray) 3), (Line.mk (⟨#[97, 47, 121]⟩ : ByteArray) 0), (Line.mk (⟨#[97, 47, 120]⟩ : ByteArray) 1), (Line.mk (⟨#[97, 47, 120]⟩ : ByteArray) 2)] : List Line) q1 q2) ?_)
  rintro _ rfl
  refine wpL_op rfl rfl rfl (OpA.mv rfl (by with_reducible conv => lhs; whnf) ?_)
  refine wpL_op rfl rfl rfl (OpA.extract rfl rfl rfl ?_)
  refine wpL_op rfl rfl rfl (OpA.extract rfl rfl rfl ?_)
  refine wpL_op rfl rfl rfl (OpA.asn rfl (by with_reducible conv => lhs; whnf) ?_)
  refine wpL_op rfl rfl rfl (OpA.asn rfl (by with_reducible conv => lhs; whnf) ?_)
  refine wpL_nil ?_
  refine wpA_seq ?_
  obtain ⟨q1, q2, q3, q4, h⟩ := h
  refine wpA_region ?_
  refine wpL_op rfl rfl rfl (OpA.mv rfl (by with_reducible conv => lhs; whnf) ?_)
  refine wpL_op rfl rfl rfl (OpA.buildO (zs := [.v (.string ⟨#[]⟩), .v (.int .i64 0), .v (.int .i64 0)]) rfl tp33 tz33 (fun _ _ => (.cons (.v _) (.cons (.v _) (.cons (.v _) .nil)))) (.cons (.of (sz := 1) rfl) (.cons (.of (sz := 1) rfl) (.cons (.of (sz := 1) rfl) .nil))) rfl ?_)
  refine wpL_op rfl rfl rfl (OpA.ibuildSliceO rfl ts23 rfl (.cons (.of (sz := 3) rfl) .nil) (by decide) ?_)
  refine wpL_op rfl rfl rfl (OpA.call rfl rfl rfl en13 (minus_c ((ofF ([(Line.mk (⟨#[97, 47, 120]⟩ : ByteArray) 3), (Line.mk (⟨#[97, 47, 121]⟩ : ByteArray) 0), (Line.mk (⟨#[97, 47, 120]⟩ : ByteArray) 1), (Line.mk (⟨#[97, 47, 120]⟩ : ByteArray) 2)] : List Line)).1) ([(Span.mk (⟨#[97, 47, 120]⟩ : ByteArray) 2 3)] : List Span) q1 q2 q3 q4) ?_)
  rintro _ rfl
  refine wpL_op rfl rfl rfl (OpA.mv rfl (by with_reducible conv => lhs; whnf) ?_)
  refine wpL_op rfl rfl rfl (OpA.extract rfl rfl rfl ?_)
  refine wpL_op rfl rfl rfl (OpA.extract rfl rfl rfl ?_)
  refine wpL_op rfl rfl rfl (OpA.asn rfl (by with_reducible conv => lhs; whnf) ?_)
  refine wpL_op rfl rfl rfl (OpA.asn rfl (by with_reducible conv => lhs; whnf) ?_)
  refine wpL_nil ?_
  refine wpA_seq ?_
  obtain ⟨q1, q2, h⟩ := h
  refine wpA_region ?_
  refine wpL_op rfl rfl rfl (OpA.mv rfl (by with_reducible conv => lhs; whnf) ?_)
  refine wpL_op rfl rfl rfl (OpA.call rfl rfl rfl en16 (print_c ((ofF ([(Line.mk (⟨#[97, 47, 120]⟩ : ByteArray) 3), (Line.mk (⟨#[97, 47, 121]⟩ : ByteArray) 0), (Line.mk (⟨#[97, 47, 120]⟩ : ByteArray) 1), (Line.mk (⟨#[97, 47, 120]⟩ : ByteArray) 2)] : List Line)).1) q1 q2) ?_)
  rintro _ rfl
  refine wpL_op rfl rfl rfl (OpA.mv rfl (by with_reducible conv => lhs; whnf) ?_)
  refine wpL_op rfl rfl rfl (OpA.extract rfl rfl rfl ?_)
  refine wpL_op rfl rfl rfl (OpA.extract rfl rfl rfl ?_)
  refine wpL_op rfl rfl rfl (OpA.asn rfl (by with_reducible conv => lhs; whnf) ?_)
  refine wpL_op rfl rfl rfl (OpA.asn rfl (by with_reducible conv => lhs; whnf) ?_)
  refine wpL_nil ?_
  refine wpA_seq ?_
  obtain ⟨q1, q2, q3, h⟩ := h
  refine wpA_region ?_
  refine wpL_op rfl rfl rfl (OpA.mv rfl (by with_reducible conv => lhs; whnf) ?_)
  refine wpL_op rfl rfl rfl (OpA.call rfl rfl rfl en17 (under_c ((ofF ([(Line.mk (⟨#[97, 47, 120]⟩ : ByteArray) 3), (Line.mk (⟨#[97, 47, 121]⟩ : ByteArray) 0), (Line.mk (⟨#[97, 47, 120]⟩ : ByteArray) 1), (Line.mk (⟨#[97, 47, 120]⟩ : ByteArray) 2)] : List Line)).1) (⟨#[97, 47, 120]⟩ : ByteArray) q1 q2 q3) ?_)
  rintro _ rfl
  refine wpL_op rfl rfl rfl (OpA.mv rfl (by with_reducible conv => lhs; whnf) ?_)
  refine wpL_op rfl rfl rfl (OpA.extract rfl rfl rfl ?_)
  refine wpL_op rfl rfl rfl (OpA.extract rfl rfl rfl ?_)
  refine wpL_op rfl rfl rfl (OpA.asn rfl (by with_reducible conv => lhs; whnf) ?_)
  refine wpL_op rfl rfl rfl (OpA.asn rfl (by with_reducible conv => lhs; whnf) ?_)
  refine wpL_nil ?_
  refine wpA_seq ?_
  obtain ⟨q1, q2, q3, h⟩ := h
  refine wpA_mid (asg [(0, D.b ((((((((((((ofF ([(Line.mk (⟨#[97, 47, 120]⟩ : ByteArray) 3), (Line.mk (⟨#[97, 47, 121]⟩ : ByteArray) 0), (Line.mk (⟨#[97, 47, 120]⟩ : ByteArray) 1), (Line.mk (⟨#[97, 47, 120]⟩ : ByteArray) 2)] : List Line)).2) == 0) && (((minusF ((ofF ([(Line.mk (⟨#[97, 47, 120]⟩ : ByteArray) 3), (Line.mk (⟨#[97, 47, 121]⟩ : ByteArray) 0), (Line.mk (⟨#[97, 47, 120]⟩ : ByteArray) 1), (Line.mk (⟨#[97, 47, 120]⟩ : ByteArray) 2)] : List Line)).1) ([(Span.mk (⟨#[97, 47, 120]⟩ : ByteArray) 2 3)] : List Span)).2) == 0)) && (((printF ((ofF ([(Line.mk (⟨#[97, 47, 120]⟩ : ByteArray) 3), (Line.mk (⟨#[97, 47, 121]⟩ : ByteArray) 0), (Line.mk (⟨#[97, 47, 120]⟩ : ByteArray) 1), (Line.mk (⟨#[97, 47, 120]⟩ : ByteArray) 2)] : List Line)).1)).2) == 0)) && (((underF ((ofF ([(Line.mk (⟨#[97, 47, 120]⟩ : ByteArray) 3), (Line.mk (⟨#[97, 47, 121]⟩ : ByteArray) 0), (Line.mk (⟨#[97, 47, 120]⟩ : ByteArray) 1), (Line.mk (⟨#[97, 47, 120]⟩ : ByteArray) 2)] : List Line)).1) (⟨#[97, 47, 120]⟩ : ByteArray)).2) == 0)) && ((((underF ((ofF ([(Line.mk (⟨#[97, 47, 120]⟩ : ByteArray) 3), (Line.mk (⟨#[97, 47, 121]⟩ : ByteArray) 0), (Line.mk (⟨#[97, 47, 120]⟩ : ByteArray) 1), (Line.mk (⟨#[97, 47, 120]⟩ : ByteArray) 2)] : List Line)).1) (⟨#[97, 47, 120]⟩ : ByteArray)).1).length : Int) == 0)) && ((countL ((ofF ([(Line.mk (⟨#[97, 47, 120]⟩ : ByteArray) 3), (Line.mk (⟨#[97, 47, 121]⟩ : ByteArray) 0), (Line.mk (⟨#[97, 47, 120]⟩ : ByteArray) 1), (Line.mk (⟨#[97, 47, 120]⟩ : ByteArray) 2)] : List Line)).1)) == 4)) && (decide ((printF ((ofF ([(Line.mk (⟨#[97, 47, 120]⟩ : ByteArray) 3), (Line.mk (⟨#[97, 47, 121]⟩ : ByteArray) 0), (Line.mk (⟨#[97, 47, 120]⟩ : ByteArray) 1), (Line.mk (⟨#[97, 47, 120]⟩ : ByteArray) 2)] : List Line)).1)).1 = (⟨#[97, 47, 120, 32, 49, 32, 52, 10, 97, 47, 121, 32, 48, 32, 49, 10]⟩ : ByteArray)))) && ((((minusF ((ofF ([(Line.mk (⟨#[97, 47, 120]⟩ : ByteArray) 3), (Line.mk (⟨#[97, 47, 121]⟩ : ByteArray) 0), (Line.mk (⟨#[97, 47, 120]⟩ : ByteArray) 1), (Line.mk (⟨#[97, 47, 120]⟩ : ByteArray) 2)] : List Line)).1) ([(Span.mk (⟨#[97, 47, 120]⟩ : ByteArray) 2 3)] : List Span)).1).length : Int) == 3)) && (eqSpan (gi ((minusF ((ofF ([(Line.mk (⟨#[97, 47, 120]⟩ : ByteArray) 3), (Line.mk (⟨#[97, 47, 121]⟩ : ByteArray) 0), (Line.mk (⟨#[97, 47, 120]⟩ : ByteArray) 1), (Line.mk (⟨#[97, 47, 120]⟩ : ByteArray) 2)] : List Line)).1) ([(Span.mk (⟨#[97, 47, 120]⟩ : ByteArray) 2 3)] : List Span)).1) 1) (Span.mk (⟨#[97, 47, 120]⟩ : ByteArray) 3 4))) && (hasF ((ofF ([(Line.mk (⟨#[97, 47, 120]⟩ : ByteArray) 3), (Line.mk (⟨#[97, 47, 121]⟩ : ByteArray) 0), (Line.mk (⟨#[97, 47, 120]⟩ : ByteArray) 1), (Line.mk (⟨#[97, 47, 120]⟩ : ByteArray) 2)] : List Line)).1) (Line.mk (⟨#[97, 47, 121]⟩ : ByteArray) 0))))]) [] ?_ ?_
  refine wpA_region ?_
  refine wpL_op rfl rfl rfl (OpA.mv rfl (by with_reducible conv => lhs; whnf) ?_)
  refine wpL_op rfl rfl rfl (OpA.eql rfl rfl rfl ?_)
  refine wpL_op rfl rfl rfl (OpA.mv rfl (by with_reducible conv => lhs; whnf) ?_)
  refine wpL_split (s := 37) rfl (fun b1 => ?_) (fun b1 => ?_)
  refine wpL_opg rfl rfl rfl rfl rfl rfl (OpA.mv rfl (by with_reducible conv => lhs; whnf) ?_)
  refine wpL_opg rfl rfl rfl rfl rfl rfl (OpA.eql rfl rfl rfl ?_)
  refine wpL_op rfl rfl rfl (OpA.pck rfl rfl (by with_reducible conv => lhs; whnf) ?_)
  refine wpL_op rfl rfl rfl (OpA.mv rfl (by with_reducible conv => lhs; whnf) ?_)
  refine wpL_split (s := 41) rfl (fun b2 => ?_) (fun b2 => ?_)
  refine wpL_opg rfl rfl rfl rfl rfl rfl (OpA.mv rfl (by with_reducible conv => lhs; whnf) ?_)
  refine wpL_opg rfl rfl rfl rfl rfl rfl (OpA.eql rfl rfl rfl ?_)
  refine wpL_op rfl rfl rfl (OpA.pck rfl rfl (by with_reducible conv => lhs; whnf) ?_)
  refine wpL_op rfl rfl rfl (OpA.mv rfl (by with_reducible conv => lhs; whnf) ?_)
  refine wpL_split (s := 45) rfl (fun b3 => ?_) (fun b3 => ?_)
  refine wpL_opg rfl rfl rfl rfl rfl rfl (OpA.mv rfl (by with_reducible conv => lhs; whnf) ?_)
  refine wpL_opg rfl rfl rfl rfl rfl rfl (OpA.eql rfl rfl rfl ?_)
  refine wpL_op rfl rfl rfl (OpA.pck rfl rfl (by with_reducible conv => lhs; whnf) ?_)
  refine wpL_op rfl rfl rfl (OpA.mv rfl (by with_reducible conv => lhs; whnf) ?_)
  refine wpL_split (s := 49) rfl (fun b4 => ?_) (fun b4 => ?_)
  refine wpL_opg rfl rfl rfl rfl rfl rfl (OpA.mv rfl (by with_reducible conv => lhs; whnf) ?_)
  refine wpL_opg rfl rfl rfl rfl rfl rfl (OpA.len rfl rfl rfl rfl ts23.desc (.inl ⟨_, _, rfl, (List.length_map _).symm⟩) ?_)
  refine wpL_opg rfl rfl rfl rfl rfl rfl (OpA.eql rfl rfl rfl ?_)
  refine wpL_op rfl rfl rfl (OpA.pck rfl rfl (by with_reducible conv => lhs; whnf) ?_)
  refine wpL_op rfl rfl rfl (OpA.mv rfl (by with_reducible conv => lhs; whnf) ?_)
  refine wpL_split (s := 54) rfl (fun b5 => ?_) (fun b5 => ?_)
  refine wpL_opg rfl rfl rfl rfl rfl rfl (OpA.mv rfl (by with_reducible conv => lhs; whnf) ?_)
  refine wpL_opg rfl rfl rfl rfl rfl rfl (OpA.call rfl rfl rfl en18 (count_c ((ofF ([(Line.mk (⟨#[97, 47, 120]⟩ : ByteArray) 3), (Line.mk (⟨#[97, 47, 121]⟩ : ByteArray) 0), (Line.mk (⟨#[97, 47, 120]⟩ : ByteArray) 1), (Line.mk (⟨#[97, 47, 120]⟩ : ByteArray) 2)] : List Line)).1) (q1 ⟨⟨⟨⟨(beqT b1), (beqT b2)⟩, (beqT b3)⟩, (beqT b4)⟩, (beqT b5)⟩).1 (q1 ⟨⟨⟨⟨(beqT b1), (beqT b2)⟩, (beqT b3)⟩, (beqT b4)⟩, (beqT b5)⟩).2) ?_)
  rintro _ rfl
  refine wpL_opg rfl rfl rfl rfl rfl rfl (OpA.eql rfl rfl rfl ?_)
  refine wpL_op rfl rfl rfl (OpA.pck rfl rfl (by with_reducible conv => lhs; whnf) ?_)
  refine wpL_op rfl rfl rfl (OpA.mv rfl (by with_reducible conv => lhs; whnf) ?_)
  refine wpL_split (s := 59) rfl (fun b6 => ?_) (fun b6 => ?_)
  refine wpL_opg rfl rfl rfl rfl rfl rfl (OpA.mv rfl (by with_reducible conv => lhs; whnf) ?_)
  refine wpL_opg rfl rfl rfl rfl rfl rfl (OpA.seql rfl rfl rfl ?_)
  refine wpL_op rfl rfl rfl (OpA.pck rfl rfl (by with_reducible conv => lhs; whnf) ?_)
  refine wpL_op rfl rfl rfl (OpA.mv rfl (by with_reducible conv => lhs; whnf) ?_)
  refine wpL_split (s := 63) rfl (fun b7 => ?_) (fun b7 => ?_)
  refine wpL_opg rfl rfl rfl rfl rfl rfl (OpA.mv rfl (by with_reducible conv => lhs; whnf) ?_)
  refine wpL_opg rfl rfl rfl rfl rfl rfl (OpA.len rfl rfl rfl rfl ts23.desc (.inl ⟨_, _, rfl, (List.length_map _).symm⟩) ?_)
  refine wpL_opg rfl rfl rfl rfl rfl rfl (OpA.eql rfl rfl rfl ?_)
  refine wpL_op rfl rfl rfl (OpA.pck rfl rfl (by with_reducible conv => lhs; whnf) ?_)
  refine wpL_op rfl rfl rfl (OpA.mv rfl (by with_reducible conv => lhs; whnf) ?_)
  refine wpL_split (s := 68) rfl (fun b8 => ?_) (fun b8 => ?_)
  refine wpL_opg rfl rfl rfl rfl rfl rfl (OpA.mv rfl (by with_reducible conv => lhs; whnf) ?_)
  refine wpL_opg rfl rfl rfl rfl rfl rfl (OpA.iixV (enc := encSpan) rfl ts23 rfl rfl rfl (q2 ⟨⟨⟨⟨⟨⟨⟨(beqT b1), (beqT b2)⟩, (beqT b3)⟩, (beqT b4)⟩, (beqT b5)⟩, (beqT b6)⟩, (decT b7)⟩, (beqT b8)⟩) ?_)
  refine wpL_opg rfl rfl rfl rfl rfl rfl (OpA.iload_whole rfl ti33 rfl ⟨_, rfl, rfl⟩ ?_)
  refine wpL_opg rfl rfl rfl rfl rfl rfl (OpA.buildO (zs := [.v (.string ⟨#[]⟩), .v (.int .i64 0), .v (.int .i64 0)]) rfl tp33 tz33 (fun _ _ => (.cons (.v _) (.cons (.v _) (.cons (.v _) .nil)))) (.cons (.of (sz := 1) rfl) (.cons (.of (sz := 1) rfl) (.cons (.of (sz := 1) rfl) .nil))) rfl ?_)
  refine wpL_opg rfl rfl rfl rfl rfl rfl (OpA.structcmp (xs := [.string ((gi ((minusF ((ofF ([(Line.mk (⟨#[97, 47, 120]⟩ : ByteArray) 3), (Line.mk (⟨#[97, 47, 121]⟩ : ByteArray) 0), (Line.mk (⟨#[97, 47, 120]⟩ : ByteArray) 1), (Line.mk (⟨#[97, 47, 120]⟩ : ByteArray) 2)] : List Line)).1) ([(Span.mk (⟨#[97, 47, 120]⟩ : ByteArray) 2 3)] : List Span)).1) 1).path), .int .i64 ((gi ((minusF ((ofF ([(Line.mk (⟨#[97, 47, 120]⟩ : ByteArray) 3), (Line.mk (⟨#[97, 47, 121]⟩ : ByteArray) 0), (Line.mk (⟨#[97, 47, 120]⟩ : ByteArray) 1), (Line.mk (⟨#[97, 47, 120]⟩ : ByteArray) 2)] : List Line)).1) ([(Span.mk (⟨#[97, 47, 120]⟩ : ByteArray) 2 3)] : List Span)).1) 1).from_), .int .i64 ((gi ((minusF ((ofF ([(Line.mk (⟨#[97, 47, 120]⟩ : ByteArray) 3), (Line.mk (⟨#[97, 47, 121]⟩ : ByteArray) 0), (Line.mk (⟨#[97, 47, 120]⟩ : ByteArray) 1), (Line.mk (⟨#[97, 47, 120]⟩ : ByteArray) 2)] : List Line)).1) ([(Span.mk (⟨#[97, 47, 120]⟩ : ByteArray) 2 3)] : List Span)).1) 1).to)]) (ys := [.string (⟨#[97, 47, 120]⟩ : ByteArray), .int .i64 3, .int .i64 4]) (r := (eqSpan (gi ((minusF ((ofF ([(Line.mk (⟨#[97, 47, 120]⟩ : ByteArray) 3), (Line.mk (⟨#[97, 47, 121]⟩ : ByteArray) 0), (Line.mk (⟨#[97, 47, 120]⟩ : ByteArray) 1), (Line.mk (⟨#[97, 47, 120]⟩ : ByteArray) 2)] : List Line)).1) ([(Span.mk (⟨#[97, 47, 120]⟩ : ByteArray) 2 3)] : List Span)).1) 1) (Span.mk (⟨#[97, 47, 120]⟩ : ByteArray) 3 4))) rfl eg33 su33.1 su33.2.1 su33.2.2 rfl rfl (.str td9 ti9 rfl rfl (.int td3 ti3 rfl rfl (.int td3 ti3 rfl rfl .nil))) (.inl ⟨rfl, rfl⟩) ?_)
  refine wpL_op rfl rfl rfl (OpA.pck rfl rfl (by with_reducible conv => lhs; whnf) ?_)
  refine wpL_op rfl rfl rfl (OpA.mv rfl (by with_reducible conv => lhs; whnf) ?_)
  refine wpL_split (s := 75) rfl (fun b9 => ?_) (fun b9 => ?_)
  refine wpL_opg rfl rfl rfl rfl rfl rfl (OpA.mv rfl (by with_reducible conv => lhs; whnf) ?_)
  refine wpL_opg rfl rfl rfl rfl rfl rfl (OpA.buildO (zs := [.v (.string ⟨#[]⟩), .v (.int .i64 0)]) rfl tp37 tz37 (fun _ _ => (.cons (.v _) (.cons (.v _) .nil))) (.cons (.of (sz := 1) rfl) .nil) rfl ?_)
  refine wpL_opg rfl rfl rfl rfl rfl rfl (OpA.call rfl rfl rfl en19 (has_c ((ofF ([(Line.mk (⟨#[97, 47, 120]⟩ : ByteArray) 3), (Line.mk (⟨#[97, 47, 121]⟩ : ByteArray) 0), (Line.mk (⟨#[97, 47, 120]⟩ : ByteArray) 1), (Line.mk (⟨#[97, 47, 120]⟩ : ByteArray) 2)] : List Line)).1) (Line.mk (⟨#[97, 47, 121]⟩ : ByteArray) 0) (q3 ⟨⟨⟨⟨⟨⟨⟨⟨(beqT b1), (beqT b2)⟩, (beqT b3)⟩, (beqT b4)⟩, (beqT b5)⟩, (beqT b6)⟩, (decT b7)⟩, (beqT b8)⟩, b9⟩).1 (q3 ⟨⟨⟨⟨⟨⟨⟨⟨(beqT b1), (beqT b2)⟩, (beqT b3)⟩, (beqT b4)⟩, (beqT b5)⟩, (beqT b6)⟩, (decT b7)⟩, (beqT b8)⟩, b9⟩).2) ?_)
  rintro _ rfl
  refine wpL_op rfl rfl rfl (OpA.pck rfl rfl (by with_reducible conv => lhs; whnf) ?_)
  refine wpL_op rfl rfl rfl (OpA.asn rfl (by with_reducible conv => lhs; whnf) ?_)
  refine wpL_nil ?_
  exact ⟨(Cov.asg ⟨(congrArg D.b (Eq.symm (andN (andN (andN (andN (andN (andN (andN (andN (andN b1 b2) b3) b4) b5) b6) b7) b8) b9) rfl))), trivial⟩), (.refl _)⟩
  iterate 3 refine wpL_skip rfl rfl rfl rfl rfl rfl ?_
  refine wpL_op rfl rfl rfl (OpA.pck rfl rfl (by with_reducible conv => lhs; whnf) ?_)
  refine wpL_op rfl rfl rfl (OpA.asn rfl (by with_reducible conv => lhs; whnf) ?_)
  refine wpL_nil ?_
  exact ⟨(Cov.asg ⟨(congrArg D.b (Eq.symm (andS (andN (andN (andN (andN (andN (andN (andN (andN b1 b2) b3) b4) b5) b6) b7) b8) b9)))), trivial⟩), (.refl _)⟩
  iterate 5 refine wpL_skip rfl rfl rfl rfl rfl rfl ?_
  refine wpL_op rfl rfl rfl (OpA.pck rfl rfl (by with_reducible conv => lhs; whnf) ?_)
  refine wpL_op rfl rfl rfl (OpA.mv rfl (by with_reducible conv => lhs; whnf) ?_)
  iterate 3 refine wpL_skip rfl rfl rfl rfl rfl rfl ?_
  refine wpL_op rfl rfl rfl (OpA.pck rfl rfl (by with_reducible conv => lhs; whnf) ?_)
  refine wpL_op rfl rfl rfl (OpA.asn rfl (by with_reducible conv => lhs; whnf) ?_)
  refine wpL_nil ?_
  exact ⟨(Cov.asg ⟨(congrArg D.b (Eq.symm (andS (andS (andN (andN (andN (andN (andN (andN (andN b1 b2) b3) b4) b5) b6) b7) b8))))), trivial⟩), (.refl _)⟩
  iterate 3 refine wpL_skip rfl rfl rfl rfl rfl rfl ?_
  refine wpL_op rfl rfl rfl (OpA.pck rfl rfl (by with_reducible conv => lhs; whnf) ?_)
  refine wpL_op rfl rfl rfl (OpA.mv rfl (by with_reducible conv => lhs; whnf) ?_)
  iterate 5 refine wpL_skip rfl rfl rfl rfl rfl rfl ?_
  refine wpL_op rfl rfl rfl (OpA.pck rfl rfl (by with_reducible conv => lhs; whnf) ?_)
  refine wpL_op rfl rfl rfl (OpA.mv rfl (by with_reducible conv => lhs; whnf) ?_)
  iterate 3 refine wpL_skip rfl rfl rfl rfl rfl rfl ?_
  refine wpL_op rfl rfl rfl (OpA.pck rfl rfl (by with_reducible conv => lhs; whnf) ?_)
  refine wpL_op rfl rfl rfl (OpA.asn rfl (by with_reducible conv => lhs; whnf) ?_)
  refine wpL_nil ?_
  exact ⟨(Cov.asg ⟨(congrArg D.b (Eq.symm (andS (andS (andS (andN (andN (andN (andN (andN (andN b1 b2) b3) b4) b5) b6) b7)))))), trivial⟩), (.refl _)⟩
  iterate 2 refine wpL_skip rfl rfl rfl rfl rfl rfl ?_
  refine wpL_op rfl rfl rfl (OpA.pck rfl rfl (by with_reducible conv => lhs; whnf) ?_)
  refine wpL_op rfl rfl rfl (OpA.mv rfl (by with_reducible conv => lhs; whnf) ?_)
  iterate 3 refine wpL_skip rfl rfl rfl rfl rfl rfl ?_
  refine wpL_op rfl rfl rfl (OpA.pck rfl rfl (by with_reducible conv => lhs; whnf) ?_)
  refine wpL_op rfl rfl rfl (OpA.mv rfl (by with_reducible conv => lhs; whnf) ?_)
  iterate 5 refine wpL_skip rfl rfl rfl rfl rfl rfl ?_
  refine wpL_op rfl rfl rfl (OpA.pck rfl rfl (by with_reducible conv => lhs; whnf) ?_)
  refine wpL_op rfl rfl rfl (OpA.mv rfl (by with_reducible conv => lhs; whnf) ?_)
  iterate 3 refine wpL_skip rfl rfl rfl rfl rfl rfl ?_
  refine wpL_op rfl rfl rfl (OpA.pck rfl rfl (by with_reducible conv => lhs; whnf) ?_)
  refine wpL_op rfl rfl rfl (OpA.asn rfl (by with_reducible conv => lhs; whnf) ?_)
  refine wpL_nil ?_
  exact ⟨(Cov.asg ⟨(congrArg D.b (Eq.symm (andS (andS (andS (andS (andN (andN (andN (andN (andN b1 b2) b3) b4) b5) b6))))))), trivial⟩), (.refl _)⟩
  iterate 3 refine wpL_skip rfl rfl rfl rfl rfl rfl ?_
  refine wpL_op rfl rfl rfl (OpA.pck rfl rfl (by with_reducible conv => lhs; whnf) ?_)
  refine wpL_op rfl rfl rfl (OpA.mv rfl (by with_reducible conv => lhs; whnf) ?_)
  iterate 2 refine wpL_skip rfl rfl rfl rfl rfl rfl ?_
  refine wpL_op rfl rfl rfl (OpA.pck rfl rfl (by with_reducible conv => lhs; whnf) ?_)
  refine wpL_op rfl rfl rfl (OpA.mv rfl (by with_reducible conv => lhs; whnf) ?_)
  iterate 3 refine wpL_skip rfl rfl rfl rfl rfl rfl ?_
  refine wpL_op rfl rfl rfl (OpA.pck rfl rfl (by with_reducible conv => lhs; whnf) ?_)
  refine wpL_op rfl rfl rfl (OpA.mv rfl (by with_reducible conv => lhs; whnf) ?_)
  iterate 5 refine wpL_skip rfl rfl rfl rfl rfl rfl ?_
  refine wpL_op rfl rfl rfl (OpA.pck rfl rfl (by with_reducible conv => lhs; whnf) ?_)
  refine wpL_op rfl rfl rfl (OpA.mv rfl (by with_reducible conv => lhs; whnf) ?_)
  iterate 3 refine wpL_skip rfl rfl rfl rfl rfl rfl ?_
  refine wpL_op rfl rfl rfl (OpA.pck rfl rfl (by with_reducible conv => lhs; whnf) ?_)
  refine wpL_op rfl rfl rfl (OpA.asn rfl (by with_reducible conv => lhs; whnf) ?_)
  refine wpL_nil ?_
  exact ⟨(Cov.asg ⟨(congrArg D.b (Eq.symm (andS (andS (andS (andS (andS (andN (andN (andN (andN b1 b2) b3) b4) b5)))))))), trivial⟩), (.refl _)⟩
  iterate 3 refine wpL_skip rfl rfl rfl rfl rfl rfl ?_
  refine wpL_op rfl rfl rfl (OpA.pck rfl rfl (by with_reducible conv => lhs; whnf) ?_)
  refine wpL_op rfl rfl rfl (OpA.mv rfl (by with_reducible conv => lhs; whnf) ?_)
  iterate 3 refine wpL_skip rfl rfl rfl rfl rfl rfl ?_
  refine wpL_op rfl rfl rfl (OpA.pck rfl rfl (by with_reducible conv => lhs; whnf) ?_)
  refine wpL_op rfl rfl rfl (OpA.mv rfl (by with_reducible conv => lhs; whnf) ?_)
  iterate 2 refine wpL_skip rfl rfl rfl rfl rfl rfl ?_
  refine wpL_op rfl rfl rfl (OpA.pck rfl rfl (by with_reducible conv => lhs; whnf) ?_)
  refine wpL_op rfl rfl rfl (OpA.mv rfl (by with_reducible conv => lhs; whnf) ?_)
  iterate 3 refine wpL_skip rfl rfl rfl rfl rfl rfl ?_
  refine wpL_op rfl rfl rfl (OpA.pck rfl rfl (by with_reducible conv => lhs; whnf) ?_)
  refine wpL_op rfl rfl rfl (OpA.mv rfl (by with_reducible conv => lhs; whnf) ?_)
  iterate 5 refine wpL_skip rfl rfl rfl rfl rfl rfl ?_
  refine wpL_op rfl rfl rfl (OpA.pck rfl rfl (by with_reducible conv => lhs; whnf) ?_)
  refine wpL_op rfl rfl rfl (OpA.mv rfl (by with_reducible conv => lhs; whnf) ?_)
  iterate 3 refine wpL_skip rfl rfl rfl rfl rfl rfl ?_
  refine wpL_op rfl rfl rfl (OpA.pck rfl rfl (by with_reducible conv => lhs; whnf) ?_)
  refine wpL_op rfl rfl rfl (OpA.asn rfl (by with_reducible conv => lhs; whnf) ?_)
  refine wpL_nil ?_
  exact ⟨(Cov.asg ⟨(congrArg D.b (Eq.symm (andS (andS (andS (andS (andS (andS (andN (andN (andN b1 b2) b3) b4))))))))), trivial⟩), (.refl _)⟩
  iterate 2 refine wpL_skip rfl rfl rfl rfl rfl rfl ?_
  refine wpL_op rfl rfl rfl (OpA.pck rfl rfl (by with_reducible conv => lhs; whnf) ?_)
  refine wpL_op rfl rfl rfl (OpA.mv rfl (by with_reducible conv => lhs; whnf) ?_)
  iterate 3 refine wpL_skip rfl rfl rfl rfl rfl rfl ?_
  refine wpL_op rfl rfl rfl (OpA.pck rfl rfl (by with_reducible conv => lhs; whnf) ?_)
  refine wpL_op rfl rfl rfl (OpA.mv rfl (by with_reducible conv => lhs; whnf) ?_)
  iterate 3 refine wpL_skip rfl rfl rfl rfl rfl rfl ?_
  refine wpL_op rfl rfl rfl (OpA.pck rfl rfl (by with_reducible conv => lhs; whnf) ?_)
  refine wpL_op rfl rfl rfl (OpA.mv rfl (by with_reducible conv => lhs; whnf) ?_)
  iterate 2 refine wpL_skip rfl rfl rfl rfl rfl rfl ?_
  refine wpL_op rfl rfl rfl (OpA.pck rfl rfl (by with_reducible conv => lhs; whnf) ?_)
  refine wpL_op rfl rfl rfl (OpA.mv rfl (by with_reducible conv => lhs; whnf) ?_)
  iterate 3 refine wpL_skip rfl rfl rfl rfl rfl rfl ?_
  refine wpL_op rfl rfl rfl (OpA.pck rfl rfl (by with_reducible conv => lhs; whnf) ?_)
  refine wpL_op rfl rfl rfl (OpA.mv rfl (by with_reducible conv => lhs; whnf) ?_)
  iterate 5 refine wpL_skip rfl rfl rfl rfl rfl rfl ?_
  refine wpL_op rfl rfl rfl (OpA.pck rfl rfl (by with_reducible conv => lhs; whnf) ?_)
  refine wpL_op rfl rfl rfl (OpA.mv rfl (by with_reducible conv => lhs; whnf) ?_)
  iterate 3 refine wpL_skip rfl rfl rfl rfl rfl rfl ?_
  refine wpL_op rfl rfl rfl (OpA.pck rfl rfl (by with_reducible conv => lhs; whnf) ?_)
  refine wpL_op rfl rfl rfl (OpA.asn rfl (by with_reducible conv => lhs; whnf) ?_)
  refine wpL_nil ?_
  exact ⟨(Cov.asg ⟨(congrArg D.b (Eq.symm (andS (andS (andS (andS (andS (andS (andS (andN (andN b1 b2) b3)))))))))), trivial⟩), (.refl _)⟩
  iterate 2 refine wpL_skip rfl rfl rfl rfl rfl rfl ?_
  refine wpL_op rfl rfl rfl (OpA.pck rfl rfl (by with_reducible conv => lhs; whnf) ?_)
  refine wpL_op rfl rfl rfl (OpA.mv rfl (by with_reducible conv => lhs; whnf) ?_)
  iterate 2 refine wpL_skip rfl rfl rfl rfl rfl rfl ?_
  refine wpL_op rfl rfl rfl (OpA.pck rfl rfl (by with_reducible conv => lhs; whnf) ?_)
  refine wpL_op rfl rfl rfl (OpA.mv rfl (by with_reducible conv => lhs; whnf) ?_)
  iterate 3 refine wpL_skip rfl rfl rfl rfl rfl rfl ?_
  refine wpL_op rfl rfl rfl (OpA.pck rfl rfl (by with_reducible conv => lhs; whnf) ?_)
  refine wpL_op rfl rfl rfl (OpA.mv rfl (by with_reducible conv => lhs; whnf) ?_)
  iterate 3 refine wpL_skip rfl rfl rfl rfl rfl rfl ?_
  refine wpL_op rfl rfl rfl (OpA.pck rfl rfl (by with_reducible conv => lhs; whnf) ?_)
  refine wpL_op rfl rfl rfl (OpA.mv rfl (by with_reducible conv => lhs; whnf) ?_)
  iterate 2 refine wpL_skip rfl rfl rfl rfl rfl rfl ?_
  refine wpL_op rfl rfl rfl (OpA.pck rfl rfl (by with_reducible conv => lhs; whnf) ?_)
  refine wpL_op rfl rfl rfl (OpA.mv rfl (by with_reducible conv => lhs; whnf) ?_)
  iterate 3 refine wpL_skip rfl rfl rfl rfl rfl rfl ?_
  refine wpL_op rfl rfl rfl (OpA.pck rfl rfl (by with_reducible conv => lhs; whnf) ?_)
  refine wpL_op rfl rfl rfl (OpA.mv rfl (by with_reducible conv => lhs; whnf) ?_)
  iterate 5 refine wpL_skip rfl rfl rfl rfl rfl rfl ?_
  refine wpL_op rfl rfl rfl (OpA.pck rfl rfl (by with_reducible conv => lhs; whnf) ?_)
  refine wpL_op rfl rfl rfl (OpA.mv rfl (by with_reducible conv => lhs; whnf) ?_)
  iterate 3 refine wpL_skip rfl rfl rfl rfl rfl rfl ?_
  refine wpL_op rfl rfl rfl (OpA.pck rfl rfl (by with_reducible conv => lhs; whnf) ?_)
  refine wpL_op rfl rfl rfl (OpA.asn rfl (by with_reducible conv => lhs; whnf) ?_)
  refine wpL_nil ?_
  exact ⟨(Cov.asg ⟨(congrArg D.b (Eq.symm (andS (andS (andS (andS (andS (andS (andS (andS (andN b1 b2))))))))))), trivial⟩), (.refl _)⟩
  iterate 2 refine wpL_skip rfl rfl rfl rfl rfl rfl ?_
  refine wpL_op rfl rfl rfl (OpA.pck rfl rfl (by with_reducible conv => lhs; whnf) ?_)
  refine wpL_op rfl rfl rfl (OpA.mv rfl (by with_reducible conv => lhs; whnf) ?_)
  iterate 2 refine wpL_skip rfl rfl rfl rfl rfl rfl ?_
  refine wpL_op rfl rfl rfl (OpA.pck rfl rfl (by with_reducible conv => lhs; whnf) ?_)
  refine wpL_op rfl rfl rfl (OpA.mv rfl (by with_reducible conv => lhs; whnf) ?_)
  iterate 2 refine wpL_skip rfl rfl rfl rfl rfl rfl ?_
  refine wpL_op rfl rfl rfl (OpA.pck rfl rfl (by with_reducible conv => lhs; whnf) ?_)
  refine wpL_op rfl rfl rfl (OpA.mv rfl (by with_reducible conv => lhs; whnf) ?_)
  iterate 3 refine wpL_skip rfl rfl rfl rfl rfl rfl ?_
  refine wpL_op rfl rfl rfl (OpA.pck rfl rfl (by with_reducible conv => lhs; whnf) ?_)
  refine wpL_op rfl rfl rfl (OpA.mv rfl (by with_reducible conv => lhs; whnf) ?_)
  iterate 3 refine wpL_skip rfl rfl rfl rfl rfl rfl ?_
  refine wpL_op rfl rfl rfl (OpA.pck rfl rfl (by with_reducible conv => lhs; whnf) ?_)
  refine wpL_op rfl rfl rfl (OpA.mv rfl (by with_reducible conv => lhs; whnf) ?_)
  iterate 2 refine wpL_skip rfl rfl rfl rfl rfl rfl ?_
  refine wpL_op rfl rfl rfl (OpA.pck rfl rfl (by with_reducible conv => lhs; whnf) ?_)
  refine wpL_op rfl rfl rfl (OpA.mv rfl (by with_reducible conv => lhs; whnf) ?_)
  iterate 3 refine wpL_skip rfl rfl rfl rfl rfl rfl ?_
  refine wpL_op rfl rfl rfl (OpA.pck rfl rfl (by with_reducible conv => lhs; whnf) ?_)
  refine wpL_op rfl rfl rfl (OpA.mv rfl (by with_reducible conv => lhs; whnf) ?_)
  iterate 5 refine wpL_skip rfl rfl rfl rfl rfl rfl ?_
  refine wpL_op rfl rfl rfl (OpA.pck rfl rfl (by with_reducible conv => lhs; whnf) ?_)
  refine wpL_op rfl rfl rfl (OpA.mv rfl (by with_reducible conv => lhs; whnf) ?_)
  iterate 3 refine wpL_skip rfl rfl rfl rfl rfl rfl ?_
  refine wpL_op rfl rfl rfl (OpA.pck rfl rfl (by with_reducible conv => lhs; whnf) ?_)
  refine wpL_op rfl rfl rfl (OpA.asn rfl (by with_reducible conv => lhs; whnf) ?_)
  refine wpL_nil ?_
  exact ⟨(Cov.asg ⟨(congrArg D.b (Eq.symm (andS (andS (andS (andS (andS (andS (andS (andS (andS b1))))))))))), trivial⟩), (.refl _)⟩
  show wpA _ _ _ _ (asg [(0, D.b ((((((((((((ofF ([(Line.mk (⟨#[97, 47, 120]⟩ : ByteArray) 3), (Line.mk (⟨#[97, 47, 121]⟩ : ByteArray) 0), (Line.mk (⟨#[97, 47, 120]⟩ : ByteArray) 1), (Line.mk (⟨#[97, 47, 120]⟩ : ByteArray) 2)] : List Line)).2) == 0) && (((minusF ((ofF ([(Line.mk (⟨#[97, 47, 120]⟩ : ByteArray) 3), (Line.mk (⟨#[97, 47, 121]⟩ : ByteArray) 0), (Line.mk (⟨#[97, 47, 120]⟩ : ByteArray) 1), (Line.mk (⟨#[97, 47, 120]⟩ : ByteArray) 2)] : List Line)).1) ([(Span.mk (⟨#[97, 47, 120]⟩ : ByteArray) 2 3)] : List Span)).2) == 0)) && (((printF ((ofF ([(Line.mk (⟨#[97, 47, 120]⟩ : ByteArray) 3), (Line.mk (⟨#[97, 47, 121]⟩ : ByteArray) 0), (Line.mk (⟨#[97, 47, 120]⟩ : ByteArray) 1), (Line.mk (⟨#[97, 47, 120]⟩ : ByteArray) 2)] : List Line)).1)).2) == 0)) && (((underF ((ofF ([(Line.mk (⟨#[97, 47, 120]⟩ : ByteArray) 3), (Line.mk (⟨#[97, 47, 121]⟩ : ByteArray) 0), (Line.mk (⟨#[97, 47, 120]⟩ : ByteArray) 1), (Line.mk (⟨#[97, 47, 120]⟩ : ByteArray) 2)] : List Line)).1) (⟨#[97, 47, 120]⟩ : ByteArray)).2) == 0)) && ((((underF ((ofF ([(Line.mk (⟨#[97, 47, 120]⟩ : ByteArray) 3), (Line.mk (⟨#[97, 47, 121]⟩ : ByteArray) 0), (Line.mk (⟨#[97, 47, 120]⟩ : ByteArray) 1), (Line.mk (⟨#[97, 47, 120]⟩ : ByteArray) 2)] : List Line)).1) (⟨#[97, 47, 120]⟩ : ByteArray)).1).length : Int) == 0)) && ((countL ((ofF ([(Line.mk (⟨#[97, 47, 120]⟩ : ByteArray) 3), (Line.mk (⟨#[97, 47, 121]⟩ : ByteArray) 0), (Line.mk (⟨#[97, 47, 120]⟩ : ByteArray) 1), (Line.mk (⟨#[97, 47, 120]⟩ : ByteArray) 2)] : List Line)).1)) == 4)) && (decide ((printF ((ofF ([(Line.mk (⟨#[97, 47, 120]⟩ : ByteArray) 3), (Line.mk (⟨#[97, 47, 121]⟩ : ByteArray) 0), (Line.mk (⟨#[97, 47, 120]⟩ : ByteArray) 1), (Line.mk (⟨#[97, 47, 120]⟩ : ByteArray) 2)] : List Line)).1)).1 = (⟨#[97, 47, 120, 32, 49, 32, 52, 10, 97, 47, 121, 32, 48, 32, 49, 10]⟩ : ByteArray)))) && ((((minusF ((ofF ([(Line.mk (⟨#[97, 47, 120]⟩ : ByteArray) 3), (Line.mk (⟨#[97, 47, 121]⟩ : ByteArray) 0), (Line.mk (⟨#[97, 47, 120]⟩ : ByteArray) 1), (Line.mk (⟨#[97, 47, 120]⟩ : ByteArray) 2)] : List Line)).1) ([(Span.mk (⟨#[97, 47, 120]⟩ : ByteArray) 2 3)] : List Span)).1).length : Int) == 3)) && (eqSpan (gi ((minusF ((ofF ([(Line.mk (⟨#[97, 47, 120]⟩ : ByteArray) 3), (Line.mk (⟨#[97, 47, 121]⟩ : ByteArray) 0), (Line.mk (⟨#[97, 47, 120]⟩ : ByteArray) 1), (Line.mk (⟨#[97, 47, 120]⟩ : ByteArray) 2)] : List Line)).1) ([(Span.mk (⟨#[97, 47, 120]⟩ : ByteArray) 2 3)] : List Span)).1) 1) (Span.mk (⟨#[97, 47, 120]⟩ : ByteArray) 3 4))) && (hasF ((ofF ([(Line.mk (⟨#[97, 47, 120]⟩ : ByteArray) 3), (Line.mk (⟨#[97, 47, 121]⟩ : ByteArray) 0), (Line.mk (⟨#[97, 47, 120]⟩ : ByteArray) 1), (Line.mk (⟨#[97, 47, 120]⟩ : ByteArray) 2)] : List Line)).1) (Line.mk (⟨#[97, 47, 121]⟩ : ByteArray) 0))))]) []
  refine wpA_ret ?_
  exact ⟨_, (.tmp (d := D.b ((((((((((((ofF ([(Line.mk (⟨#[97, 47, 120]⟩ : ByteArray) 3), (Line.mk (⟨#[97, 47, 121]⟩ : ByteArray) 0), (Line.mk (⟨#[97, 47, 120]⟩ : ByteArray) 1), (Line.mk (⟨#[97, 47, 120]⟩ : ByteArray) 2)] : List Line)).2) == 0) && (((minusF ((ofF ([(Line.mk (⟨#[97, 47, 120]⟩ : ByteArray) 3), (Line.mk (⟨#[97, 47, 121]⟩ : ByteArray) 0), (Line.mk (⟨#[97, 47, 120]⟩ : ByteArray) 1), (Line.mk (⟨#[97, 47, 120]⟩ : ByteArray) 2)] : List Line)).1) ([(Span.mk (⟨#[97, 47, 120]⟩ : ByteArray) 2 3)] : List Span)).2) == 0)) && (((printF ((ofF ([(Line.mk (⟨#[97, 47, 120]⟩ : ByteArray) 3), (Line.mk (⟨#[97, 47, 121]⟩ : ByteArray) 0), (Line.mk (⟨#[97, 47, 120]⟩ : ByteArray) 1), (Line.mk (⟨#[97, 47, 120]⟩ : ByteArray) 2)] : List Line)).1)).2) == 0)) && (((underF ((ofF ([(Line.mk (⟨#[97, 47, 120]⟩ : ByteArray) 3), (Line.mk (⟨#[97, 47, 121]⟩ : ByteArray) 0), (Line.mk (⟨#[97, 47, 120]⟩ : ByteArray) 1), (Line.mk (⟨#[97, 47, 120]⟩ : ByteArray) 2)] : List Line)).1) (⟨#[97, 47, 120]⟩ : ByteArray)).2) == 0)) && ((((underF ((ofF ([(Line.mk (⟨#[97, 47, 120]⟩ : ByteArray) 3), (Line.mk (⟨#[97, 47, 121]⟩ : ByteArray) 0), (Line.mk (⟨#[97, 47, 120]⟩ : ByteArray) 1), (Line.mk (⟨#[97, 47, 120]⟩ : ByteArray) 2)] : List Line)).1) (⟨#[97, 47, 120]⟩ : ByteArray)).1).length : Int) == 0)) && ((countL ((ofF ([(Line.mk (⟨#[97, 47, 120]⟩ : ByteArray) 3), (Line.mk (⟨#[97, 47, 121]⟩ : ByteArray) 0), (Line.mk (⟨#[97, 47, 120]⟩ : ByteArray) 1), (Line.mk (⟨#[97, 47, 120]⟩ : ByteArray) 2)] : List Line)).1)) == 4)) && (decide ((printF ((ofF ([(Line.mk (⟨#[97, 47, 120]⟩ : ByteArray) 3), (Line.mk (⟨#[97, 47, 121]⟩ : ByteArray) 0), (Line.mk (⟨#[97, 47, 120]⟩ : ByteArray) 1), (Line.mk (⟨#[97, 47, 120]⟩ : ByteArray) 2)] : List Line)).1)).1 = (⟨#[97, 47, 120, 32, 49, 32, 52, 10, 97, 47, 121, 32, 48, 32, 49, 10]⟩ : ByteArray)))) && ((((minusF ((ofF ([(Line.mk (⟨#[97, 47, 120]⟩ : ByteArray) 3), (Line.mk (⟨#[97, 47, 121]⟩ : ByteArray) 0), (Line.mk (⟨#[97, 47, 120]⟩ : ByteArray) 1), (Line.mk (⟨#[97, 47, 120]⟩ : ByteArray) 2)] : List Line)).1) ([(Span.mk (⟨#[97, 47, 120]⟩ : ByteArray) 2 3)] : List Span)).1).length : Int) == 3)) && (eqSpan (gi ((minusF ((ofF ([(Line.mk (⟨#[97, 47, 120]⟩ : ByteArray) 3), (Line.mk (⟨#[97, 47, 121]⟩ : ByteArray) 0), (Line.mk (⟨#[97, 47, 120]⟩ : ByteArray) 1), (Line.mk (⟨#[97, 47, 120]⟩ : ByteArray) 2)] : List Line)).1) ([(Span.mk (⟨#[97, 47, 120]⟩ : ByteArray) 2 3)] : List Span)).1) 1) (Span.mk (⟨#[97, 47, 120]⟩ : ByteArray) 3 4))) && (hasF ((ofF ([(Line.mk (⟨#[97, 47, 120]⟩ : ByteArray) 3), (Line.mk (⟨#[97, 47, 121]⟩ : ByteArray) 0), (Line.mk (⟨#[97, 47, 120]⟩ : ByteArray) 1), (Line.mk (⟨#[97, 47, 120]⟩ : ByteArray) 2)] : List Line)).1) (Line.mk (⟨#[97, 47, 121]⟩ : ByteArray) 0)))) rfl .nil), _, (.same rfl .nil), ⟨((((((((((((ofF ([(Line.mk (⟨#[97, 47, 120]⟩ : ByteArray) 3), (Line.mk (⟨#[97, 47, 121]⟩ : ByteArray) 0), (Line.mk (⟨#[97, 47, 120]⟩ : ByteArray) 1), (Line.mk (⟨#[97, 47, 120]⟩ : ByteArray) 2)] : List Line)).2) == 0) && (((minusF ((ofF ([(Line.mk (⟨#[97, 47, 120]⟩ : ByteArray) 3), (Line.mk (⟨#[97, 47, 121]⟩ : ByteArray) 0), (Line.mk (⟨#[97, 47, 120]⟩ : ByteArray) 1), (Line.mk (⟨#[97, 47, 120]⟩ : ByteArray) 2)] : List Line)).1) ([(Span.mk (⟨#[97, 47, 120]⟩ : ByteArray) 2 3)] : List Span)).2) == 0)) && (((printF ((ofF ([(Line.mk (⟨#[97, 47, 120]⟩ : ByteArray) 3), (Line.mk (⟨#[97, 47, 121]⟩ : ByteArray) 0), (Line.mk (⟨#[97, 47, 120]⟩ : ByteArray) 1), (Line.mk (⟨#[97, 47, 120]⟩ : ByteArray) 2)] : List Line)).1)).2) == 0)) && (((underF ((ofF ([(Line.mk (⟨#[97, 47, 120]⟩ : ByteArray) 3), (Line.mk (⟨#[97, 47, 121]⟩ : ByteArray) 0), (Line.mk (⟨#[97, 47, 120]⟩ : ByteArray) 1), (Line.mk (⟨#[97, 47, 120]⟩ : ByteArray) 2)] : List Line)).1) (⟨#[97, 47, 120]⟩ : ByteArray)).2) == 0)) && ((((underF ((ofF ([(Line.mk (⟨#[97, 47, 120]⟩ : ByteArray) 3), (Line.mk (⟨#[97, 47, 121]⟩ : ByteArray) 0), (Line.mk (⟨#[97, 47, 120]⟩ : ByteArray) 1), (Line.mk (⟨#[97, 47, 120]⟩ : ByteArray) 2)] : List Line)).1) (⟨#[97, 47, 120]⟩ : ByteArray)).1).length : Int) == 0)) && ((countL ((ofF ([(Line.mk (⟨#[97, 47, 120]⟩ : ByteArray) 3), (Line.mk (⟨#[97, 47, 121]⟩ : ByteArray) 0), (Line.mk (⟨#[97, 47, 120]⟩ : ByteArray) 1), (Line.mk (⟨#[97, 47, 120]⟩ : ByteArray) 2)] : List Line)).1)) == 4)) && (decide ((printF ((ofF ([(Line.mk (⟨#[97, 47, 120]⟩ : ByteArray) 3), (Line.mk (⟨#[97, 47, 121]⟩ : ByteArray) 0), (Line.mk (⟨#[97, 47, 120]⟩ : ByteArray) 1), (Line.mk (⟨#[97, 47, 120]⟩ : ByteArray) 2)] : List Line)).1)).1 = (⟨#[97, 47, 120, 32, 49, 32, 52, 10, 97, 47, 121, 32, 48, 32, 49, 10]⟩ : ByteArray)))) && ((((minusF ((ofF ([(Line.mk (⟨#[97, 47, 120]⟩ : ByteArray) 3), (Line.mk (⟨#[97, 47, 121]⟩ : ByteArray) 0), (Line.mk (⟨#[97, 47, 120]⟩ : ByteArray) 1), (Line.mk (⟨#[97, 47, 120]⟩ : ByteArray) 2)] : List Line)).1) ([(Span.mk (⟨#[97, 47, 120]⟩ : ByteArray) 2 3)] : List Span)).1).length : Int) == 3)) && (eqSpan (gi ((minusF ((ofF ([(Line.mk (⟨#[97, 47, 120]⟩ : ByteArray) 3), (Line.mk (⟨#[97, 47, 121]⟩ : ByteArray) 0), (Line.mk (⟨#[97, 47, 120]⟩ : ByteArray) 1), (Line.mk (⟨#[97, 47, 120]⟩ : ByteArray) 2)] : List Line)).1) ([(Span.mk (⟨#[97, 47, 120]⟩ : ByteArray) 2 3)] : List Span)).1) 1) (Span.mk (⟨#[97, 47, 120]⟩ : ByteArray) 3 4))) && (hasF ((ofF ([(Line.mk (⟨#[97, 47, 120]⟩ : ByteArray) 3), (Line.mk (⟨#[97, 47, 121]⟩ : ByteArray) 0), (Line.mk (⟨#[97, 47, 120]⟩ : ByteArray) 1), (Line.mk (⟨#[97, 47, 120]⟩ : ByteArray) 2)] : List Line)).1) (Line.mk (⟨#[97, 47, 121]⟩ : ByteArray) 0))), rfl, h⟩⟩
theorem awake_c    : Fun false Tryd.prog 4 [] (fun d => d = D.b (true)) :=
  Fun.at (enc := fun r => D.b r) (v := true) (awake_w   (fun r => r = true) (awake_ok  _  rfl))
end Go.Proofs.YtciihmjdccecgaaDoor
