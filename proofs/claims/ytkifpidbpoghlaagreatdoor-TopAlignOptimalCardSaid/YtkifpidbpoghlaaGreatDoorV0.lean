/-
  Errors of the library: interface values that are nil or not.
-/
import Derived.Test.YtkifpidbpoghlaaGreatDoorVr
import Derived.Shelf.Strconv.AtoiAll
import Derived.Test.YtkifpidbpoghlaaGreatDoorMapK
import Derived.Test.YtkifpidbpoghlaaGreatDoorSort
import Derived.Test.YtkifpidbpoghlaaGreatDoorKm
import Derived.Test.YtkifpidbpoghlaaGreatDoorSm
import Derived.Test.YtkifpidbpoghlaaGreatDoorQW1
import Derived.Test.YtkifpidbpoghlaaGreatDoorMat
import Derived.Test.YtkifpidbpoghlaaGreatDoorStates
set_option linter.all false
namespace Go.Lic
variable [Fl]
variable {P : Program} {o : Oper} {fr : Nat → D} {h : Heap} {K : D → Heap → Prop}
theorem run_equal_nil0 {w : World} {t : TypeId} {ms : Array (String × TypeId)} (ht : P.underlying t = some (.interface ms)) : (Op.equal t .nilIface .nilIface).run P w = .ok true w := by
 have h : ∀ d : Nat, (Op.equalIn (d + 1) t .nilIface .nilIface).run P w = .ok true w := fun d => by simp [Op.equalIn, run_underlying ht]
 simp only [Op.equal, Op.maxDepth]; exact h 9999
theorem run_equal_nil1 {w : World} {t u : TypeId} {v : Value} {ms : Array (String × TypeId)} (ht : P.underlying t = some (.interface ms)) : (Op.equal t (.iface u v) .nilIface).run P w = .ok false w := by
 have h : ∀ d : Nat, (Op.equalIn (d + 1) t (.iface u v) .nilIface).run P w = .ok false w := fun d => by simp [Op.equalIn, run_underlying ht]
 simp only [Op.equal, Op.maxDepth]; exact h 9999
theorem run_neq_nil0 {w : World} {t : TypeId} {ms : Array (String × TypeId)} (ht : P.underlying t = some (.interface ms)) : (binOp .neq t .nilIface .nilIface).run P w = .ok (.bool false) w := by
 simp only [binOp]; simp [run_equal_nil0 ht]
theorem run_neq_nil1 {w : World} {t u : TypeId} {v : Value} {ms : Array (String × TypeId)} (ht : P.underlying t = some (.interface ms)) : (binOp .neq t (.iface u v) .nilIface).run P w = .ok (.bool true) w := by
 simp only [binOp]; simp [run_equal_nil1 ht]
theorem OpA.neqNil0 {t t2 : TypeId} {x y : Operand} {ms : Array (String × TypeId)} (ho : o.op = .binOp .neq t x y t2) (ht : P.underlying t = some (.interface ms)) (hx : ev fr x = .v .nilIface) (hy : y = .const .nilIface) (hk : K (.b false) h) : OpA P o fr h K :=
 .of_quiet (fun A M w0 ac w _ hv => by
   have h1 := hv x (by simp [ho, Op.operands])
   subst hy
   rw [hx] at h1
   generalize hu : ac.eval x = v1 at h1
   cases h1
   have hu2 : ac.eval (.const .nilIface) = .nilIface := rfl
   refine ⟨.bool false, ?_, .v _⟩
   simp [execOp, ho, hu, hu2, eqGuard, run_neq_nil0 ht]) hk
theorem OpA.neqNil1 {t t2 u : TypeId} {v : Value} {x y : Operand} {ms : Array (String × TypeId)} (ho : o.op = .binOp .neq t x y t2) (ht : P.underlying t = some (.interface ms)) (hx : ev fr x = .v (.iface u v)) (hy : y = .const .nilIface) (hk : K (.b true) h) : OpA P o fr h K :=
 .of_quiet (fun A M w0 ac w _ hv => by
   have h1 := hv x (by simp [ho, Op.operands])
   subst hy
   rw [hx] at h1
   generalize hu : ac.eval x = v1 at h1
   cases h1
   have hu2 : ac.eval (.const .nilIface) = .nilIface := rfl
   refine ⟨.bool true, ?_, .v _⟩
   simp [execOp, ho, hu, hu2, eqGuard, run_neq_nil1 ht]) hk
theorem below_ext {w w' : World} (h : RowKit.Below w.heap.size w w') : @Ext flNo (fun _ => False) w w' :=
 @Ext.mk flNo _ _ _ h.os h.tape h.output h.size (fun b hb _ => h.block b hb) (fun b hb => shape_of_heap (h.block b hb)) (fun hh => hh.elim)
end Go.Lic
set_option linter.all false
namespace Go.Proofs.YtkifpidbpoghlaaGreatDoor
open Go Go.Lic Go.Sort Go.Proofs
variable [Fl]
set_option maxRecDepth 10000
theorem ti118 : TI Tryz.prog 118 3 true := .mk' zK zK
theorem ti195 : TI Tryz.prog 195 1 false := .mk' zK zK
theorem ti196 : TI Tryz.prog 196 1 false := .mk' zK zK
theorem ti201 : TI Tryz.prog 201 1 false := .mk' zK zK
theorem ti205 : TI Tryz.prog 205 2 true := .mk' zK zK
theorem ti208 : TI Tryz.prog 208 2 true := .mk' zK zK
theorem ti24 : TI Tryz.prog 24 1 false := .mk' zK zK
theorem ti241 : TI Tryz.prog 241 3 true := .mk' zK zK
theorem ti25 : TI Tryz.prog 25 1 false := .mk' zK zK
theorem ti32 : TI Tryz.prog 32 1 false := .mk' zK zK
theorem ti34 : TI Tryz.prog 34 2 true := .mk' zK zK
theorem ti4 : TI Tryz.prog 4 1 false := .mk' zK zK
theorem ti5 : TI Tryz.prog 5 1 false := .mk' zK zK
theorem ti57 : TI Tryz.prog 57 2 true := .mk' zK zK
theorem ti61 : TI Tryz.prog 61 1 false := .mk' zK zK
theorem ti84 : TI Tryz.prog 84 5 true := .mk' zK zK
theorem eg208 : Tryz.prog.eqGuardType Tryz.prog.depth 208 = false := by kernel_rfl
theorem eg84 : Tryz.prog.eqGuardType Tryz.prog.depth 84 = false := by kernel_rfl
theorem en10 : entersB Tryz.prog 10 = true := by kernel_rfl
theorem en100 : entersB Tryz.prog 100 = true := by kernel_rfl
theorem en101 : entersB Tryz.prog 101 = true := by kernel_rfl
theorem en102 : entersB Tryz.prog 102 = true := by kernel_rfl
theorem en103 : entersB Tryz.prog 103 = true := by kernel_rfl
theorem en104 : entersB Tryz.prog 104 = true := by kernel_rfl
theorem en107 : entersB Tryz.prog 107 = true := by kernel_rfl
theorem en11 : entersB Tryz.prog 11 = true := by kernel_rfl
theorem en117 : entersB Tryz.prog 117 = true := by kernel_rfl
theorem en118 : entersB Tryz.prog 118 = true := by kernel_rfl
theorem en119 : entersB Tryz.prog 119 = true := by kernel_rfl
theorem en12 : entersB Tryz.prog 12 = true := by kernel_rfl
theorem en120 : entersB Tryz.prog 120 = true := by kernel_rfl
theorem en121 : entersB Tryz.prog 121 = true := by kernel_rfl
theorem en127 : entersB Tryz.prog 127 = true := by kernel_rfl
theorem en128 : entersB Tryz.prog 128 = true := by kernel_rfl
theorem en129 : entersB Tryz.prog 129 = true := by kernel_rfl
theorem en13 : entersB Tryz.prog 13 = true := by kernel_rfl
theorem en130 : entersB Tryz.prog 130 = true := by kernel_rfl
theorem en14 : entersB Tryz.prog 14 = true := by kernel_rfl
theorem en142 : entersB Tryz.prog 142 = true := by kernel_rfl
theorem en143 : entersB Tryz.prog 143 = true := by kernel_rfl
theorem en144 : entersB Tryz.prog 144 = true := by kernel_rfl
theorem en145 : entersB Tryz.prog 145 = true := by kernel_rfl
theorem en147 : entersB Tryz.prog 147 = true := by kernel_rfl
theorem en15 : entersB Tryz.prog 15 = true := by kernel_rfl
theorem en151 : entersB Tryz.prog 151 = true := by kernel_rfl
theorem en153 : entersB Tryz.prog 153 = true := by kernel_rfl
theorem en156 : entersB Tryz.prog 156 = true := by kernel_rfl
theorem en158 : entersB Tryz.prog 158 = true := by kernel_rfl
theorem en159 : entersB Tryz.prog 159 = true := by kernel_rfl
theorem en16 : entersB Tryz.prog 16 = true := by kernel_rfl
theorem en160 : entersB Tryz.prog 160 = true := by kernel_rfl
theorem en161 : entersB Tryz.prog 161 = true := by kernel_rfl
theorem en179 : entersB Tryz.prog 179 = true := by kernel_rfl
theorem en18 : entersB Tryz.prog 18 = true := by kernel_rfl
theorem en180 : entersB Tryz.prog 180 = true := by kernel_rfl
theorem en181 : entersB Tryz.prog 181 = true := by kernel_rfl
theorem en182 : entersB Tryz.prog 182 = true := by kernel_rfl
theorem en215 : entersB Tryz.prog 215 = true := by kernel_rfl
theorem en216 : entersB Tryz.prog 216 = true := by kernel_rfl
theorem en217 : entersB Tryz.prog 217 = true := by kernel_rfl
theorem en218 : entersB Tryz.prog 218 = true := by kernel_rfl
theorem en237 : entersB Tryz.prog 237 = true := by kernel_rfl
theorem en28 : entersB Tryz.prog 28 = true := by kernel_rfl
theorem en29 : entersB Tryz.prog 29 = true := by kernel_rfl
theorem en32 : entersB Tryz.prog 32 = true := by kernel_rfl
theorem en33 : entersB Tryz.prog 33 = true := by kernel_rfl
theorem en34 : entersB Tryz.prog 34 = true := by kernel_rfl
theorem en35 : entersB Tryz.prog 35 = true := by kernel_rfl
theorem en36 : entersB Tryz.prog 36 = true := by kernel_rfl
theorem en37 : entersB Tryz.prog 37 = true := by kernel_rfl
theorem en38 : entersB Tryz.prog 38 = true := by kernel_rfl
theorem en42 : entersB Tryz.prog 42 = true := by kernel_rfl
theorem en43 : entersB Tryz.prog 43 = true := by kernel_rfl
theorem en44 : entersB Tryz.prog 44 = true := by kernel_rfl
theorem en48 : entersB Tryz.prog 48 = true := by kernel_rfl
theorem en5 : entersB Tryz.prog 5 = true := by kernel_rfl
theorem en50 : entersB Tryz.prog 50 = true := by kernel_rfl
theorem en51 : entersB Tryz.prog 51 = true := by kernel_rfl
theorem en52 : entersB Tryz.prog 52 = true := by kernel_rfl
theorem en53 : entersB Tryz.prog 53 = true := by kernel_rfl
theorem en54 : entersB Tryz.prog 54 = true := by kernel_rfl
theorem en58 : entersB Tryz.prog 58 = true := by kernel_rfl
theorem en6 : entersB Tryz.prog 6 = true := by kernel_rfl
theorem en7 : entersB Tryz.prog 7 = true := by kernel_rfl
theorem en72 : entersB Tryz.prog 72 = true := by kernel_rfl
theorem en76 : entersB Tryz.prog 76 = true := by kernel_rfl
theorem en77 : entersB Tryz.prog 77 = true := by kernel_rfl
theorem en79 : entersB Tryz.prog 79 = true := by kernel_rfl
theorem en8 : entersB Tryz.prog 8 = true := by kernel_rfl
theorem en80 : entersB Tryz.prog 80 = true := by kernel_rfl
theorem en81 : entersB Tryz.prog 81 = true := by kernel_rfl
theorem en82 : entersB Tryz.prog 82 = true := by kernel_rfl
theorem en83 : entersB Tryz.prog 83 = true := by kernel_rfl
theorem en86 : entersB Tryz.prog 86 = true := by kernel_rfl
theorem en9 : entersB Tryz.prog 9 = true := by kernel_rfl
theorem en95 : entersB Tryz.prog 95 = true := by kernel_rfl
theorem en96 : entersB Tryz.prog 96 = true := by kernel_rfl
theorem en97 : entersB Tryz.prog 97 = true := by kernel_rfl
theorem en99 : entersB Tryz.prog 99 = true := by kernel_rfl
theorem errD : Tryz.prog.underlying 114 = some (.interface (msOf Tryz.prog 114)) := by kernel_rfl
theorem su208 : Tryz.prog.underlying 208 = some (.struct (Tryz.prog.fieldsOf 208)) ∧ Tryz.prog.stoodInHeld 208 = false ∧ (Tryz.prog.fieldsOf 208).toList.map (fun f => (f.name == "_", f.offset, f.type)) = ([(0, 3), (1, 3)] : List (Nat × TypeId)).map (fun p => (false, p.1, p.2)) := ⟨by kernel_rfl, by kernel_rfl, by kernel_rfl⟩
theorem su84 : Tryz.prog.underlying 84 = some (.struct (Tryz.prog.fieldsOf 84)) ∧ Tryz.prog.stoodInHeld 84 = false ∧ (Tryz.prog.fieldsOf 84).toList.map (fun f => (f.name == "_", f.offset, f.type)) = ([(0, 3), (1, 3), (2, 3), (3, 3), (4, 3)] : List (Nat × TypeId)).map (fun p => (false, p.1, p.2)) := ⟨by kernel_rfl, by kernel_rfl, by kernel_rfl⟩
theorem td169 : Tryz.prog.underlying 169 = some (.int .u64) := by kernel_rfl
theorem td195 : Tryz.prog.underlying 195 = some (.map 241 3) := by kernel_rfl
theorem td196 : Tryz.prog.underlying 196 = some (.map 84 242) := by kernel_rfl
theorem td199 : Tryz.prog.underlying 199 = some (.map 3 206) := by kernel_rfl
theorem td21 : Tryz.prog.underlying 21 = some (.int .i32) := by kernel_rfl
theorem td250 : Tryz.prog.underlying 250 = some (.int .u64) := by kernel_rfl
theorem td3 : Tryz.prog.underlying 3 = some (.int .i64) := by kernel_rfl
theorem td4 : Tryz.prog.underlying 4 = some (.bool) := by kernel_rfl
theorem td5 : Tryz.prog.underlying 5 = some (.int .u8) := by kernel_rfl
theorem td9 : Tryz.prog.underlying 9 = some (.string) := by kernel_rfl
theorem tf118_0 : fieldOff Tryz.prog 118 0 = some 0 := by kernel_rfl
theorem tf118_1 : fieldOff Tryz.prog 118 1 = some 1 := by kernel_rfl
theorem tf118_2 : fieldOff Tryz.prog 118 2 = some 2 := by kernel_rfl
theorem tf198_0 : fieldOff Tryz.prog 198 0 = some 0 := by kernel_rfl
theorem tf198_1 : fieldOff Tryz.prog 198 1 = some 1 := by kernel_rfl
theorem tf198_2 : fieldOff Tryz.prog 198 2 = some 2 := by kernel_rfl
theorem tf198_3 : fieldOff Tryz.prog 198 3 = some 3 := by kernel_rfl
theorem tf205_0 : fieldOff Tryz.prog 205 0 = some 0 := by kernel_rfl
theorem tf205_1 : fieldOff Tryz.prog 205 1 = some 1 := by kernel_rfl
theorem tf208_0 : fieldOff Tryz.prog 208 0 = some 0 := by kernel_rfl
theorem tf208_1 : fieldOff Tryz.prog 208 1 = some 1 := by kernel_rfl
theorem tf30_1 : fieldOff Tryz.prog 30 1 = some 1 := by kernel_rfl
theorem tf34_0 : fieldOff Tryz.prog 34 0 = some 0 := by kernel_rfl
theorem tf34_1 : fieldOff Tryz.prog 34 1 = some 1 := by kernel_rfl
theorem tf43_0 : fieldOff Tryz.prog 43 0 = some 0 := by kernel_rfl
theorem tf57_0 : fieldOff Tryz.prog 57 0 = some 0 := by kernel_rfl
theorem tf57_1 : fieldOff Tryz.prog 57 1 = some 1 := by kernel_rfl
theorem tf84_0 : fieldOff Tryz.prog 84 0 = some 0 := by kernel_rfl
theorem tf84_1 : fieldOff Tryz.prog 84 1 = some 1 := by kernel_rfl
theorem tf84_2 : fieldOff Tryz.prog 84 2 = some 2 := by kernel_rfl
theorem tf84_3 : fieldOff Tryz.prog 84 3 = some 3 := by kernel_rfl
theorem tf96_0 : fieldOff Tryz.prog 96 0 = some 0 := by kernel_rfl
theorem tf96_1 : fieldOff Tryz.prog 96 1 = some 1 := by kernel_rfl
theorem tf96_2 : fieldOff Tryz.prog 96 2 = some 2 := by kernel_rfl
theorem tp118 : placesOf Tryz.prog 118 = some [(0, 1), (1, 1), (2, 1)] := by kernel_rfl
theorem tp198 : placesOf Tryz.prog 198 = some [(0, 1), (1, 1), (2, 1), (3, 1)] := by kernel_rfl
theorem tp205 : placesOf Tryz.prog 205 = some [(0, 1), (1, 1)] := by kernel_rfl
theorem tp208 : placesOf Tryz.prog 208 = some [(0, 1), (1, 1)] := by kernel_rfl
theorem tp241 : placesOf Tryz.prog 241 = some [(0, 1), (1, 1), (2, 1)] := by kernel_rfl
theorem tp242 : placesOf Tryz.prog 242 = some [] := by kernel_rfl
theorem tp30 : placesOf Tryz.prog 30 = some [(0, 1), (1, 1)] := by kernel_rfl
theorem tp34 : placesOf Tryz.prog 34 = some [(0, 1), (1, 1)] := by kernel_rfl
theorem tp40 : placesOf Tryz.prog 40 = some [(0, 1), (1, 1), (2, 1)] := by kernel_rfl
theorem tp57 : placesOf Tryz.prog 57 = some [(0, 1), (1, 1)] := by kernel_rfl
theorem tp84 : placesOf Tryz.prog 84 = some [(0, 1), (1, 1), (2, 1), (3, 1), (4, 1)] := by kernel_rfl
theorem ts165 : TS Tryz.prog 165 5 1 1 false := ⟨by kernel_rfl, ti5, by kernel_rfl, by kernel_rfl⟩
theorem ts200 : TS Tryz.prog 200 201 1 24 false := ⟨by kernel_rfl, ti201, by kernel_rfl, by kernel_rfl⟩
theorem ts201 : TS Tryz.prog 201 205 2 16 true := ⟨by kernel_rfl, ti205, by kernel_rfl, by kernel_rfl⟩
theorem ts206 : TS Tryz.prog 206 208 2 16 true := ⟨by kernel_rfl, ti208, by kernel_rfl, by kernel_rfl⟩
theorem ts25 : TS Tryz.prog 25 9 1 16 false := ⟨by kernel_rfl, ti9, by kernel_rfl, by kernel_rfl⟩
theorem ts32 : TS Tryz.prog 32 118 3 40 true := ⟨by kernel_rfl, ti118, by kernel_rfl, by kernel_rfl⟩
theorem ts61 : TS Tryz.prog 61 57 2 40 true := ⟨by kernel_rfl, ti57, by kernel_rfl, by kernel_rfl⟩
theorem ts77 : TS Tryz.prog 77 84 5 40 true := ⟨by kernel_rfl, ti84, by kernel_rfl, by kernel_rfl⟩
theorem tz118 : (Tryz.prog.info? 118).bind (·.zero) = some (.agg #[.int .i64 0, .int .i64 0, .slice none 0 0]) := by kernel_rfl
theorem tz198 : (Tryz.prog.info? 198).bind (·.zero) = some (.agg #[.slice none 0 0, .int .i64 0, .map none, .map none]) := by kernel_rfl
theorem tz201 : (Tryz.prog.info? 201).bind (·.zero) = some (.slice none 0 0) := by kernel_rfl
theorem tz205 : (Tryz.prog.info? 205).bind (·.zero) = some (.agg #[.int .i64 0, .int .i64 0]) := by kernel_rfl
theorem tz206 : (Tryz.prog.info? 206).bind (·.zero) = some (.slice none 0 0) := by kernel_rfl
theorem tz208 : (Tryz.prog.info? 208).bind (·.zero) = some (.agg #[.int .i64 0, .int .i64 0]) := by kernel_rfl
theorem tz241 : (Tryz.prog.info? 241).bind (·.zero) = some (.agg #[.int .i64 0, .int .i64 0, .int .i64 0]) := by kernel_rfl
theorem tz242 : (Tryz.prog.info? 242).bind (·.zero) = some (.agg #[]) := by kernel_rfl
theorem tz25 : (Tryz.prog.info? 25).bind (·.zero) = some (.slice none 0 0) := by kernel_rfl
theorem tz30 : (Tryz.prog.info? 30).bind (·.zero) = some (.agg #[.string ⟨#[]⟩, .int .i64 0]) := by kernel_rfl
theorem tz34 : (Tryz.prog.info? 34).bind (·.zero) = some (.agg #[.string ⟨#[]⟩, .slice none 0 0]) := by kernel_rfl
theorem tz40 : (Tryz.prog.info? 40).bind (·.zero) = some (.agg #[.int .i64 0, .int .i64 0, .int .i64 0]) := by kernel_rfl
theorem tz57 : (Tryz.prog.info? 57).bind (·.zero) = some (.agg #[.string ⟨#[]⟩, .slice none 0 0]) := by kernel_rfl
theorem tz84 : (Tryz.prog.info? 84).bind (·.zero) = some (.agg #[.int .i64 0, .int .i64 0, .int .i64 0, .int .i64 0, .int .i64 0]) := by kernel_rfl
theorem tz9 : (Tryz.prog.info? 9).bind (·.zero) = some (.string ⟨#[]⟩) := by kernel_rfl
theorem tz96 : (Tryz.prog.info? 96).bind (·.zero) = some (.agg #[.slice none 0 0, .int .i64 0, .slice none 0 0]) := by kernel_rfl
abbrev vs241 (u : CloneDiagonal) : List Value := [Value.int .i64 u.a, Value.int .i64 u.b, Value.int .i64 u.by_]
abbrev kf241 (u : CloneDiagonal) : Value := .agg (vs241 u).toArray
theorem kt241 : KeyT Tryz.prog 241 kf241 :=
 .struct (l := [(0, 3), (1, 3), (2, 3)]) zK zK zK (fun a b => ⟨_, (.int (show Tryz.prog.underlying 3 = some (.int .i64) by kernel_rfl) (TI.mk' (P := Tryz.prog) (t := 3) (n := 1) (agg := false) zK zK) rfl rfl (.int (show Tryz.prog.underlying 3 = some (.int .i64) by kernel_rfl) (TI.mk' (P := Tryz.prog) (t := 3) (n := 1) (agg := false) zK zK) rfl rfl (.int (show Tryz.prog.underlying 3 = some (.int .i64) by kernel_rfl) (TI.mk' (P := Tryz.prog) (t := 3) (n := 1) (agg := false) zK zK) rfl rfl .nil))), by cases a; cases b; simp⟩) (fun a => (.cons (show Tryz.prog.underlying 3 = some (.int .i64) by kernel_rfl) (.inl ⟨_, rfl⟩) (TI.mk' (P := Tryz.prog) (t := 3) (n := 1) (agg := false) zK zK) rfl (.cons (show Tryz.prog.underlying 3 = some (.int .i64) by kernel_rfl) (.inl ⟨_, rfl⟩) (TI.mk' (P := Tryz.prog) (t := 3) (n := 1) (agg := false) zK zK) rfl (.cons (show Tryz.prog.underlying 3 = some (.int .i64) by kernel_rfl) (.inl ⟨_, rfl⟩) (TI.mk' (P := Tryz.prog) (t := 3) (n := 1) (agg := false) zK zK) rfl .nil)))) (fun k => by simp [Instr.sameBits])
theorem pk241 : PlainK encCloneDiagonal kf241 := plain_agg (vs := vs241) (fun _ => rfl)
abbrev vs84 (u : Clone) : List Value := [Value.int .i64 u.a, Value.int .i64 u.atA, Value.int .i64 u.b, Value.int .i64 u.atB, Value.int .i64 u.len]
abbrev kf84 (u : Clone) : Value := .agg (vs84 u).toArray
theorem kt84 : KeyT Tryz.prog 84 kf84 :=
 .struct (l := [(0, 3), (1, 3), (2, 3), (3, 3), (4, 3)]) zK zK zK (fun a b => ⟨_, (.int (show Tryz.prog.underlying 3 = some (.int .i64) by kernel_rfl) (TI.mk' (P := Tryz.prog) (t := 3) (n := 1) (agg := false) zK zK) rfl rfl (.int (show Tryz.prog.underlying 3 = some (.int .i64) by kernel_rfl) (TI.mk' (P := Tryz.prog) (t := 3) (n := 1) (agg := false) zK zK) rfl rfl (.int (show Tryz.prog.underlying 3 = some (.int .i64) by kernel_rfl) (TI.mk' (P := Tryz.prog) (t := 3) (n := 1) (agg := false) zK zK) rfl rfl (.int (show Tryz.prog.underlying 3 = some (.int .i64) by kernel_rfl) (TI.mk' (P := Tryz.prog) (t := 3) (n := 1) (agg := false) zK zK) rfl rfl (.int (show Tryz.prog.underlying 3 = some (.int .i64) by kernel_rfl) (TI.mk' (P := Tryz.prog) (t := 3) (n := 1) (agg := false) zK zK) rfl rfl .nil))))), by cases a; cases b; simp⟩) (fun a => (.cons (show Tryz.prog.underlying 3 = some (.int .i64) by kernel_rfl) (.inl ⟨_, rfl⟩) (TI.mk' (P := Tryz.prog) (t := 3) (n := 1) (agg := false) zK zK) rfl (.cons (show Tryz.prog.underlying 3 = some (.int .i64) by kernel_rfl) (.inl ⟨_, rfl⟩) (TI.mk' (P := Tryz.prog) (t := 3) (n := 1) (agg := false) zK zK) rfl (.cons (show Tryz.prog.underlying 3 = some (.int .i64) by kernel_rfl) (.inl ⟨_, rfl⟩) (TI.mk' (P := Tryz.prog) (t := 3) (n := 1) (agg := false) zK zK) rfl (.cons (show Tryz.prog.underlying 3 = some (.int .i64) by kernel_rfl) (.inl ⟨_, rfl⟩) (TI.mk' (P := Tryz.prog) (t := 3) (n := 1) (agg := false) zK zK) rfl (.cons (show Tryz.prog.underlying 3 = some (.int .i64) by kernel_rfl) (.inl ⟨_, rfl⟩) (TI.mk' (P := Tryz.prog) (t := 3) (n := 1) (agg := false) zK zK) rfl .nil)))))) (fun k => by simp [Instr.sameBits])
theorem pk84 : PlainK encClone kf84 := plain_agg (vs := vs84) (fun _ => rfl)
end Go.Proofs.YtkifpidbpoghlaaGreatDoor
