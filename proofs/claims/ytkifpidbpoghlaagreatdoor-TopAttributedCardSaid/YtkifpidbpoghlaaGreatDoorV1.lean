/-
  Errors of the library: interface values that are nil or not.
-/
import Derived.Test.YtkifpidbpoghlaaGreatDoorRead
import Derived.Shelf.Strconv.AtoiAll
import Derived.Test.YtkifpidbpoghlaaGreatDoorChecked
import Derived.Test.YtkifpidbpoghlaaGreatDoorMapK
import Derived.Test.YtkifpidbpoghlaaGreatDoorTl
import Derived.Test.YtkifpidbpoghlaaGreatDoorCo0
import Derived.Test.YtkifpidbpoghlaaGreatDoorStates
import Derived.Test.YtkifpidbpoghlaaGreatDoorKv
set_option maxRecDepth 10000
set_option maxHeartbeats 2000000
set_option linter.all false
namespace Go.Lic
variable [Fl]
variable {P:Program}{o:Oper}{fr:Nat->D}{h:zbb}{K:D->zbb->Prop}
theorem run_equal_nil0 {w:World}{t:TypeId}{ms:Array (String×TypeId)}(ht:P.underlying t=some (.interface ms)):(Op.equal t .nilIface .nilIface).run P w= .ok true w:=by
 have h:∀ d:Nat,(Op.equalIn (d+1) t .nilIface .nilIface).run P w= .ok true w:=fun d=>by simp [Op.equalIn,run_underlying ht]
 simp only [Op.equal,Op.maxDepth]; exact h 9999
theorem run_equal_nil1 {w:World}{t u:TypeId}{v:Value}{ms:Array (String×TypeId)}(ht:P.underlying t=some (.interface ms)):(Op.equal t (.iface u v) .nilIface).run P w= .ok false w:=by
 have h:∀ d:Nat,(Op.equalIn (d+1) t (.iface u v) .nilIface).run P w= .ok false w:=fun d=>by simp [Op.equalIn,run_underlying ht]
 simp only [Op.equal,Op.maxDepth]; exact h 9999
theorem run_neq_nil0 {w:World}{t:TypeId}{ms:Array (String×TypeId)}(ht:P.underlying t=some (.interface ms)):(binOp .neq t .nilIface .nilIface).run P w= .ok (.bool false) w:=by
 simp only [binOp]; simp [run_equal_nil0 ht]
theorem run_neq_nil1 {w:World}{t u:TypeId}{v:Value}{ms:Array (String×TypeId)}(ht:P.underlying t=some (.interface ms)):(binOp .neq t (.iface u v) .nilIface).run P w= .ok (.bool true) w:=by
 simp only [binOp]; simp [run_equal_nil1 ht]
theorem OpA.neqNil0 {t t2:TypeId}{x y:Operand}{ms:Array (String×TypeId)}(ho:o.op= .binOp .neq t x y t2)(ht:P.underlying t=some (.interface ms))(hx:ev fr x= .v .nilIface)(hy:y= .const .nilIface)(hk:K (.b false) h):OpA P o fr h K:=
 .of_quiet (fun A M w0 ac w _ hv=>by
   have h1:=hv x (by simp [ho,Op.operands])
   subst hy
   rw [hx]at h1
   generalize hu:ac.eval x=v1 at h1
   cases h1
   have hu2:ac.eval (.const .nilIface)= .nilIface:=rfl
   refine⟨.bool false,?_,.v _⟩
   simp [execOp,ho,hu,hu2,eqGuard,run_neq_nil0 ht]) hk
theorem OpA.neqNil1 {t t2 u:TypeId}{v:Value}{x y:Operand}{ms:Array (String×TypeId)}(ho:o.op= .binOp .neq t x y t2)(ht:P.underlying t=some (.interface ms))(hx:ev fr x= .v (.iface u v))(hy:y= .const .nilIface)(hk:K (.b true) h):OpA P o fr h K:=
 .of_quiet (fun A M w0 ac w _ hv=>by
   have h1:=hv x (by simp [ho,Op.operands])
   subst hy
   rw [hx]at h1
   generalize hu:ac.eval x=v1 at h1
   cases h1
   have hu2:ac.eval (.const .nilIface)= .nilIface:=rfl
   refine⟨.bool true,?_,.v _⟩
   simp [execOp,ho,hu,hu2,eqGuard,run_neq_nil1 ht]) hk
theorem below_ext {w w':World}(h:RowKit.Below w.heap.size w w'): @Ext flNo (fun _=>False) w w':=
 @Ext.mk flNo _ _ _ h.os h.tape h.output h.size (fun b hb _=>h.block b hb) (fun b hb=>zax (h.block b hb)) (fun hh=>hh.elim)
end Go.Lic
set_option linter.all false
namespace Go.Proofs.YtkifpidbpoghlaaGreatDoor
open Go Go.Lic
theorem mo :Tryz.prog.follows .mixedOrders=true:=by kernel_rfl
theorem ti3 :TI Tryz.prog 3 1 false:= .mk' zK zK
theorem ti30 :TI Tryz.prog 30 2 true:= .mk' zK zK
theorem ti41 :TI Tryz.prog 41 1 false:= .mk' zK zK
theorem ti9 :TI Tryz.prog 9 1 false:= .mk' zK zK
theorem tf30_0 :zat Tryz.prog 30 0=some 0:=by kernel_rfl
theorem ts24 :TS Tryz.prog 24 30 2 24 true:=⟨by kernel_rfl,ti30,by kernel_rfl,by kernel_rfl⟩
theorem ts41 :TS Tryz.prog 41 3 1 8 false:=⟨by kernel_rfl,ti3,by kernel_rfl,by kernel_rfl⟩
theorem tz3 :(Tryz.prog.info? 3).bind (·.zero)=some (.int .i64 0):=by kernel_rfl
theorem tz41 :(Tryz.prog.info? 41).bind (·.zero)=some (.slice none 0 0):=by kernel_rfl
end Go.Proofs.YtkifpidbpoghlaaGreatDoor
set_option linter.all false
namespace Go.Proofs.YtkifpidbpoghlaaGreatDoor
open Go Go.Lic Go.Sort Go.Proofs
variable [Fl]
set_option maxRecDepth 10000
theorem ti118 :TI Tryz.prog 118 3 true:= .mk' zK zK
theorem ti149 :TI Tryz.prog 149 2 true:= .mk' zK zK
theorem ti164 :TI Tryz.prog 164 1 false:= .mk' zK zK
theorem ti165 :TI Tryz.prog 165 1 false:= .mk' zK zK
theorem ti180 :TI Tryz.prog 180 3 true:= .mk' zK zK
theorem ti191 :TI Tryz.prog 191 3 true:= .mk' zK zK
theorem ti195 :TI Tryz.prog 195 1 false:= .mk' zK zK
theorem ti196 :TI Tryz.prog 196 1 false:= .mk' zK zK
theorem ti201 :TI Tryz.prog 201 1 false:= .mk' zK zK
theorem ti205 :TI Tryz.prog 205 2 true:= .mk' zK zK
theorem ti208 :TI Tryz.prog 208 2 true:= .mk' zK zK
theorem ti24 :TI Tryz.prog 24 1 false:= .mk' zK zK
theorem ti241 :TI Tryz.prog 241 3 true:= .mk' zK zK
theorem ti25 :TI Tryz.prog 25 1 false:= .mk' zK zK
theorem ti32 :TI Tryz.prog 32 1 false:= .mk' zK zK
theorem ti34 :TI Tryz.prog 34 2 true:= .mk' zK zK
theorem ti4 :TI Tryz.prog 4 1 false:= .mk' zK zK
theorem ti5 :TI Tryz.prog 5 1 false:= .mk' zK zK
theorem ti57 :TI Tryz.prog 57 2 true:= .mk' zK zK
theorem ti61 :TI Tryz.prog 61 1 false:= .mk' zK zK
theorem ti62 :TI Tryz.prog 62 1 false:= .mk' zK zK
theorem ti64 :TI Tryz.prog 64 4 true:= .mk' zK zK
theorem ti84 :TI Tryz.prog 84 5 true:= .mk' zK zK
theorem eg180 :Tryz.prog.eqGuardType Tryz.prog.depth 180=false:=by kernel_rfl
theorem eg208 :Tryz.prog.eqGuardType Tryz.prog.depth 208=false:=by kernel_rfl
theorem eg84 :Tryz.prog.eqGuardType Tryz.prog.depth 84=false:=by kernel_rfl
theorem errD :Tryz.prog.underlying 114=some (.interface (msOf Tryz.prog 114)):=by kernel_rfl
theorem su180 : Tryz.prog.underlying 180 = some (.struct (Tryz.prog.fieldsOf 180)) ∧ Tryz.prog.stoodInHeld 180 = false ∧ (Tryz.prog.fieldsOf 180).toList.map (fun f => (f.name == "_", f.offset, f.type)) = ([(0, 3), (1, 3), (2, 3)] : List (Nat × TypeId)).map (fun p => (false, p.1, p.2)) := ⟨by kernel_rfl, by kernel_rfl, by kernel_rfl⟩
theorem su208 : Tryz.prog.underlying 208 = some (.struct (Tryz.prog.fieldsOf 208)) ∧ Tryz.prog.stoodInHeld 208 = false ∧ (Tryz.prog.fieldsOf 208).toList.map (fun f => (f.name == "_", f.offset, f.type)) = ([(0, 3), (1, 3)] : List (Nat × TypeId)).map (fun p => (false, p.1, p.2)) := ⟨by kernel_rfl, by kernel_rfl, by kernel_rfl⟩
theorem su84 : Tryz.prog.underlying 84 = some (.struct (Tryz.prog.fieldsOf 84)) ∧ Tryz.prog.stoodInHeld 84 = false ∧ (Tryz.prog.fieldsOf 84).toList.map (fun f => (f.name == "_", f.offset, f.type)) = ([(0, 3), (1, 3), (2, 3), (3, 3), (4, 3)] : List (Nat × TypeId)).map (fun p => (false, p.1, p.2)) := ⟨by kernel_rfl, by kernel_rfl, by kernel_rfl⟩
theorem td164 :Tryz.prog.underlying 164=some (.pointer 167):=by kernel_rfl
theorem td169 :Tryz.prog.underlying 169=some (.int .u64):=by kernel_rfl
theorem td195 :Tryz.prog.underlying 195=some (.map 241 3):=by kernel_rfl
theorem td196 :Tryz.prog.underlying 196=some (.map 84 242):=by kernel_rfl
theorem td199 :Tryz.prog.underlying 199=some (.map 3 206):=by kernel_rfl
theorem td21 :Tryz.prog.underlying 21=some (.int .i32):=by kernel_rfl
theorem td218 :Tryz.prog.underlying 218=some (.pointer 5):=by kernel_rfl
theorem td250 :Tryz.prog.underlying 250=some (.int .u64):=by kernel_rfl
theorem td255 :Tryz.prog.underlying 255=some (.unsafePointer):=by kernel_rfl
theorem td3 :Tryz.prog.underlying 3=some (.int .i64):=by kernel_rfl
theorem td4 :Tryz.prog.underlying 4=some (.bool):=by kernel_rfl
theorem td5 :Tryz.prog.underlying 5=some (.int .u8):=by kernel_rfl
theorem td9 :Tryz.prog.underlying 9=some (.string):=by kernel_rfl
theorem tf118_0 :zat Tryz.prog 118 0=some 0:=by kernel_rfl
theorem tf118_1 :zat Tryz.prog 118 1=some 1:=by kernel_rfl
theorem tf118_2 :zat Tryz.prog 118 2=some 2:=by kernel_rfl
theorem tf149_0 :zat Tryz.prog 149 0=some 0:=by kernel_rfl
theorem tf149_1 :zat Tryz.prog 149 1=some 1:=by kernel_rfl
theorem tf167_0 :zat Tryz.prog 167 0=some 0:=by kernel_rfl
theorem tf167_1 :zat Tryz.prog 167 1=some 1:=by kernel_rfl
theorem tf180_0 :zat Tryz.prog 180 0=some 0:=by kernel_rfl
theorem tf180_1 :zat Tryz.prog 180 1=some 1:=by kernel_rfl
theorem tf180_2 :zat Tryz.prog 180 2=some 2:=by kernel_rfl
theorem tf191_0 :zat Tryz.prog 191 0=some 0:=by kernel_rfl
theorem tf191_1 :zat Tryz.prog 191 1=some 1:=by kernel_rfl
theorem tf191_2 :zat Tryz.prog 191 2=some 2:=by kernel_rfl
theorem tf198_0 :zat Tryz.prog 198 0=some 0:=by kernel_rfl
theorem tf198_1 :zat Tryz.prog 198 1=some 1:=by kernel_rfl
theorem tf198_2 :zat Tryz.prog 198 2=some 2:=by kernel_rfl
theorem tf198_3 :zat Tryz.prog 198 3=some 3:=by kernel_rfl
theorem tf205_0 :zat Tryz.prog 205 0=some 0:=by kernel_rfl
theorem tf205_1 :zat Tryz.prog 205 1=some 1:=by kernel_rfl
theorem tf208_0 :zat Tryz.prog 208 0=some 0:=by kernel_rfl
theorem tf208_1 :zat Tryz.prog 208 1=some 1:=by kernel_rfl
theorem tf30_1 :zat Tryz.prog 30 1=some 1:=by kernel_rfl
theorem tf34_0 :zat Tryz.prog 34 0=some 0:=by kernel_rfl
theorem tf34_1 :zat Tryz.prog 34 1=some 1:=by kernel_rfl
theorem tf57_0 :zat Tryz.prog 57 0=some 0:=by kernel_rfl
theorem tf57_1 :zat Tryz.prog 57 1=some 1:=by kernel_rfl
theorem tf64_0 :zat Tryz.prog 64 0=some 0:=by kernel_rfl
theorem tf64_1 :zat Tryz.prog 64 1=some 1:=by kernel_rfl
theorem tf64_2 :zat Tryz.prog 64 2=some 2:=by kernel_rfl
theorem tf64_3 :zat Tryz.prog 64 3=some 3:=by kernel_rfl
theorem tf84_0 :zat Tryz.prog 84 0=some 0:=by kernel_rfl
theorem tf84_1 :zat Tryz.prog 84 1=some 1:=by kernel_rfl
theorem tf84_2 :zat Tryz.prog 84 2=some 2:=by kernel_rfl
theorem tf84_3 :zat Tryz.prog 84 3=some 3:=by kernel_rfl
theorem tp118 :placesOf Tryz.prog 118=some [(0,1),(1,1),(2,1)]:=by kernel_rfl
theorem tp180 :placesOf Tryz.prog 180=some [(0,1),(1,1),(2,1)]:=by kernel_rfl
theorem tp191 :placesOf Tryz.prog 191=some [(0,1),(1,1),(2,1)]:=by kernel_rfl
theorem tp198 :placesOf Tryz.prog 198=some [(0,1),(1,1),(2,1),(3,1)]:=by kernel_rfl
theorem tp205 :placesOf Tryz.prog 205=some [(0,1),(1,1)]:=by kernel_rfl
theorem tp208 :placesOf Tryz.prog 208=some [(0,1),(1,1)]:=by kernel_rfl
theorem tp241 :placesOf Tryz.prog 241=some [(0,1),(1,1),(2,1)]:=by kernel_rfl
theorem tp242 :placesOf Tryz.prog 242=some []:=by kernel_rfl
theorem tp30 :placesOf Tryz.prog 30=some [(0,1),(1,1)]:=by kernel_rfl
theorem tp34 :placesOf Tryz.prog 34=some [(0,1),(1,1)]:=by kernel_rfl
theorem tp57 :placesOf Tryz.prog 57=some [(0,1),(1,1)]:=by kernel_rfl
theorem tp64 :placesOf Tryz.prog 64=some [(0,1),(1,1),(2,1),(3,1)]:=by kernel_rfl
theorem tp84 :placesOf Tryz.prog 84=some [(0,1),(1,1),(2,1),(3,1),(4,1)]:=by kernel_rfl
theorem ts147 :TS Tryz.prog 147 149 2 24 true:=⟨by kernel_rfl,ti149,by kernel_rfl,by kernel_rfl⟩
theorem ts165 :TS Tryz.prog 165 5 1 1 false:=⟨by kernel_rfl,ti5,by kernel_rfl,by kernel_rfl⟩
theorem ts185 :TS Tryz.prog 185 61 1 24 false:=⟨by kernel_rfl,ti61,by kernel_rfl,by kernel_rfl⟩
theorem ts200 :TS Tryz.prog 200 201 1 24 false:=⟨by kernel_rfl,ti201,by kernel_rfl,by kernel_rfl⟩
theorem ts201 :TS Tryz.prog 201 205 2 16 true:=⟨by kernel_rfl,ti205,by kernel_rfl,by kernel_rfl⟩
theorem ts206 :TS Tryz.prog 206 208 2 16 true:=⟨by kernel_rfl,ti208,by kernel_rfl,by kernel_rfl⟩
theorem ts25 :TS Tryz.prog 25 9 1 16 false:=⟨by kernel_rfl,ti9,by kernel_rfl,by kernel_rfl⟩
theorem ts32 :TS Tryz.prog 32 118 3 40 true:=⟨by kernel_rfl,ti118,by kernel_rfl,by kernel_rfl⟩
theorem ts61 :TS Tryz.prog 61 57 2 40 true:=⟨by kernel_rfl,ti57,by kernel_rfl,by kernel_rfl⟩
theorem ts62 :TS Tryz.prog 62 180 3 24 true:=⟨by kernel_rfl,ti180,by kernel_rfl,by kernel_rfl⟩
theorem ts73 :TS Tryz.prog 73 191 3 32 true:=⟨by kernel_rfl,ti191,by kernel_rfl,by kernel_rfl⟩
theorem ts74 :TS Tryz.prog 74 191 3 32 true:=⟨by kernel_rfl,ti191,by kernel_rfl,by kernel_rfl⟩
theorem ts77 :TS Tryz.prog 77 84 5 40 true:=⟨by kernel_rfl,ti84,by kernel_rfl,by kernel_rfl⟩
theorem tz118 :(Tryz.prog.info? 118).bind (·.zero)=some (.agg #[.int .i64 0,.int .i64 0,.slice none 0 0]):=by kernel_rfl
theorem tz149 :(Tryz.prog.info? 149).bind (·.zero)=some (.agg #[.string ⟨#[]⟩,.int .i64 0]):=by kernel_rfl
theorem tz180 :(Tryz.prog.info? 180).bind (·.zero)=some (.agg #[.int .i64 0,.int .i64 0,.int .i64 0]):=by kernel_rfl
theorem tz191 :(Tryz.prog.info? 191).bind (·.zero)=some (.agg #[.string ⟨#[]⟩,.int .i64 0,.int .i64 0]):=by kernel_rfl
theorem tz198 :(Tryz.prog.info? 198).bind (·.zero)=some (.agg #[.slice none 0 0,.int .i64 0,.map none,.map none]):=by kernel_rfl
theorem tz201 :(Tryz.prog.info? 201).bind (·.zero)=some (.slice none 0 0):=by kernel_rfl
theorem tz205 :(Tryz.prog.info? 205).bind (·.zero)=some (.agg #[.int .i64 0,.int .i64 0]):=by kernel_rfl
theorem tz206 :(Tryz.prog.info? 206).bind (·.zero)=some (.slice none 0 0):=by kernel_rfl
theorem tz208 :(Tryz.prog.info? 208).bind (·.zero)=some (.agg #[.int .i64 0,.int .i64 0]):=by kernel_rfl
theorem tz241 :(Tryz.prog.info? 241).bind (·.zero)=some (.agg #[.int .i64 0,.int .i64 0,.int .i64 0]):=by kernel_rfl
theorem tz242 :(Tryz.prog.info? 242).bind (·.zero)=some (.agg #[]):=by kernel_rfl
theorem tz25 :(Tryz.prog.info? 25).bind (·.zero)=some (.slice none 0 0):=by kernel_rfl
theorem tz30 :(Tryz.prog.info? 30).bind (·.zero)=some (.agg #[.string ⟨#[]⟩,.int .i64 0]):=by kernel_rfl
theorem tz34 :(Tryz.prog.info? 34).bind (·.zero)=some (.agg #[.string ⟨#[]⟩,.slice none 0 0]):=by kernel_rfl
theorem tz57 :(Tryz.prog.info? 57).bind (·.zero)=some (.agg #[.string ⟨#[]⟩,.slice none 0 0]):=by kernel_rfl
theorem tz64 :(Tryz.prog.info? 64).bind (·.zero)=some (.agg #[.int .i64 0,.int .i64 0,.slice none 0 0,.slice none 0 0]):=by kernel_rfl
theorem tz84 :(Tryz.prog.info? 84).bind (·.zero)=some (.agg #[.int .i64 0,.int .i64 0,.int .i64 0,.int .i64 0,.int .i64 0]):=by kernel_rfl
theorem tz9 :(Tryz.prog.info? 9).bind (·.zero)=some (.string ⟨#[]⟩):=by kernel_rfl
abbrev vs241 (u:CloneDiagonal):List Value:= [Value.int .i64 u.a,Value.int .i64 u.b,Value.int .i64 u.by_]
abbrev kf241 (u:CloneDiagonal):Value:= .agg (vs241 u).toArray
theorem kt241 :KeyT Tryz.prog 241 kf241:=
 .struct (l:= [(0,3),(1,3),(2,3)]) zK zK zK (fun a b=>⟨_,(.int (show Tryz.prog.underlying 3=some (.int .i64) by kernel_rfl) (TI.mk' (P:=Tryz.prog) (t:=3) (n:=1) (agg:=false) zK zK) rfl rfl (.int (show Tryz.prog.underlying 3=some (.int .i64) by kernel_rfl) (TI.mk' (P:=Tryz.prog) (t:=3) (n:=1) (agg:=false) zK zK) rfl rfl (.int (show Tryz.prog.underlying 3=some (.int .i64) by kernel_rfl) (TI.mk' (P:=Tryz.prog) (t:=3) (n:=1) (agg:=false) zK zK) rfl rfl .nil))),by cases a; cases b; simp⟩) (fun a=>(.cons (show Tryz.prog.underlying 3=some (.int .i64) by kernel_rfl) (.inl ⟨_,rfl⟩) (TI.mk' (P:=Tryz.prog) (t:=3) (n:=1) (agg:=false) zK zK) rfl (.cons (show Tryz.prog.underlying 3=some (.int .i64) by kernel_rfl) (.inl ⟨_,rfl⟩) (TI.mk' (P:=Tryz.prog) (t:=3) (n:=1) (agg:=false) zK zK) rfl (.cons (show Tryz.prog.underlying 3=some (.int .i64) by kernel_rfl) (.inl ⟨_,rfl⟩) (TI.mk' (P:=Tryz.prog) (t:=3) (n:=1) (agg:=false) zK zK) rfl .nil)))) (fun k=>by simp [Instr.sameBits])
theorem pk241 :PlainK zbz kf241:=plain_agg (vs:=vs241) (fun _=>rfl)
abbrev vs84 (u:Clone):List Value:= [Value.int .i64 u.a,Value.int .i64 u.atA,Value.int .i64 u.b,Value.int .i64 u.atB,Value.int .i64 u.len]
abbrev kf84 (u:Clone):Value:= .agg (vs84 u).toArray
theorem kt84 :KeyT Tryz.prog 84 kf84:=
 .struct (l:= [(0,3),(1,3),(2,3),(3,3),(4,3)]) zK zK zK (fun a b=>⟨_,(.int (show Tryz.prog.underlying 3=some (.int .i64) by kernel_rfl) (TI.mk' (P:=Tryz.prog) (t:=3) (n:=1) (agg:=false) zK zK) rfl rfl (.int (show Tryz.prog.underlying 3=some (.int .i64) by kernel_rfl) (TI.mk' (P:=Tryz.prog) (t:=3) (n:=1) (agg:=false) zK zK) rfl rfl (.int (show Tryz.prog.underlying 3=some (.int .i64) by kernel_rfl) (TI.mk' (P:=Tryz.prog) (t:=3) (n:=1) (agg:=false) zK zK) rfl rfl (.int (show Tryz.prog.underlying 3=some (.int .i64) by kernel_rfl) (TI.mk' (P:=Tryz.prog) (t:=3) (n:=1) (agg:=false) zK zK) rfl rfl (.int (show Tryz.prog.underlying 3=some (.int .i64) by kernel_rfl) (TI.mk' (P:=Tryz.prog) (t:=3) (n:=1) (agg:=false) zK zK) rfl rfl .nil))))),by cases a; cases b; simp⟩) (fun a=>(.cons (show Tryz.prog.underlying 3=some (.int .i64) by kernel_rfl) (.inl ⟨_,rfl⟩) (TI.mk' (P:=Tryz.prog) (t:=3) (n:=1) (agg:=false) zK zK) rfl (.cons (show Tryz.prog.underlying 3=some (.int .i64) by kernel_rfl) (.inl ⟨_,rfl⟩) (TI.mk' (P:=Tryz.prog) (t:=3) (n:=1) (agg:=false) zK zK) rfl (.cons (show Tryz.prog.underlying 3=some (.int .i64) by kernel_rfl) (.inl ⟨_,rfl⟩) (TI.mk' (P:=Tryz.prog) (t:=3) (n:=1) (agg:=false) zK zK) rfl (.cons (show Tryz.prog.underlying 3=some (.int .i64) by kernel_rfl) (.inl ⟨_,rfl⟩) (TI.mk' (P:=Tryz.prog) (t:=3) (n:=1) (agg:=false) zK zK) rfl (.cons (show Tryz.prog.underlying 3=some (.int .i64) by kernel_rfl) (.inl ⟨_,rfl⟩) (TI.mk' (P:=Tryz.prog) (t:=3) (n:=1) (agg:=false) zK zK) rfl .nil)))))) (fun k=>by simp [Instr.sameBits])
theorem pk84 :PlainK zap kf84:=plain_agg (vs:=vs84) (fun _=>rfl)
theorem bldInfo :(Tryz.prog.info? 167).isSome=true:=by kernel_rfl
theorem bldSize :(Tryz.prog.info? 167).any (fun j=>j.size != 0)=true:=by kernel_rfl
theorem bldLies :liesAt Tryz.prog Tryz.prog.depth 167 (2 / Tryz.prog.cellsOf 167) 0 167 1=true:=by kernel_rfl
theorem bldCells :Tryz.prog.cellsOf 5=1:=by kernel_rfl
theorem bldCheck_c (xs:List Int)(c:Nat)(u:Bool)(g:Nat)(post:List D):CallH Tryz.prog 134 [.ptr c 2 0 0] (bldH 167 5 c u g xs post) (fun d h'=>∃ k:Bool×Nat×List D,d= .tup []/\h'=bldH 167 5 c k.1 k.2.1 xs k.2.2):=by
 refine CallH.of_body Tryz.func134 rfl Tryz.ntmps134 rfl ?_
 cases u
 · refine wpA_seq ?_
   refine zbo ?_
   refine wpL_op rfl rfl rfl (OpA.mv rfl zW ?_)
   refine wpL_op rfl rfl rfl (OpA.nc rfl zW (.inl ⟨_,_,_,_,rfl⟩) ?_)
   refine wpL_op rfl rfl rfl (oFa tf167_0 ?_)
   refine wpL_op rfl rfl rfl (oLd ti164 ?_)
   refine wpL_op rfl rfl rfl (OpA.selfNil rfl td164 rfl rfl ?_)
   refine wpL_nil ?_
   refine wpA_condT rfl ?_
   refine zbo ?_
   refine wpL_op rfl rfl rfl (OpA.mv rfl zW ?_)
   refine wpL_op rfl rfl rfl (OpA.mv rfl zW ?_)
   refine wpL_op rfl rfl rfl (OpA.toUnsafe rfl td164 td255 bldSize rfl .head ?_)
   refine wpL_op rfl rfl rfl (OpA.callId rfl rfl rfl rfl Tryz.func168 zK zK zK zK ?_)
   refine wpL_op rfl rfl rfl (OpA.fromUnsafe rfl td255 td164 bldInfo bldLies rfl .head ?_)
   refine wpL_op rfl rfl rfl (OpA.nc rfl zW (.inl ⟨_,_,_,_,rfl⟩) ?_)
   refine wpL_op rfl rfl rfl (oFa tf167_0 ?_)
   refine wpL_eff rfl rfl (OpA.store (e':=bldD 167 5 c true g xs) rfl ti164 rfl (.of rfl) rfl (Nat.le_of_ble_eq_true rfl) rfl .head ?_)
   refine wpL_nil ?_
   exact⟨_,.nil,(true,g,post),rfl,rfl⟩
 · refine wpA_seq ?_
   refine zbo ?_
   refine wpL_op rfl rfl rfl (OpA.mv rfl zW ?_)
   refine wpL_op rfl rfl rfl (OpA.nc rfl zW (.inl ⟨_,_,_,_,rfl⟩) ?_)
   refine wpL_op rfl rfl rfl (oFa tf167_0 ?_)
   refine wpL_op rfl rfl rfl (oLd ti164 ?_)
   refine wpL_op rfl rfl rfl (OpA.selfNil rfl td164 rfl rfl ?_)
   refine wpL_nil ?_
   refine wpA_condF rfl ?_
   refine wpA_seq ?_
   refine zbo ?_
   refine wpL_op rfl rfl rfl (OpA.mv rfl zW ?_)
   refine wpL_op rfl rfl rfl (OpA.nc rfl zW (.inl ⟨_,_,_,_,rfl⟩) ?_)
   refine wpL_op rfl rfl rfl (oFa tf167_0 ?_)
   refine wpL_op rfl rfl rfl (oLd ti164 ?_)
   refine wpL_op rfl rfl rfl (OpA.mv rfl zW ?_)
   refine wpL_op rfl rfl rfl (OpA.selfSame rfl td164 bldInfo rfl rfl ?_)
   refine wpL_nil ?_
   refine wpA_condF rfl ?_
   refine wpA_skip ?_
   exact⟨_,.nil,(true,g,post),rfl,rfl⟩
theorem bldWB_c (xs:List Int)(c:Nat)(u:Bool)(g:Nat)(post:List D)(b:Int)(hb:(xs.length+([b]).length)*1<=140737488355328/\xs.length+([b]).length<=9223372036854775807):CallH Tryz.prog 165 [.ptr c 2 0 0,D.k .u8 b] (bldH 167 5 c u g xs post) (fun d h'=>∃ k:Bool×Nat×List D,d= .v .nilIface/\h'=bldH 167 5 c k.1 k.2.1 (xs++ [b]) k.2.2):=by
 refine CallH.of_body Tryz.func165 rfl Tryz.ntmps165 rfl ?_
 refine wpA_seq ?_
 refine zbo ?_
 refine wpL_op rfl rfl rfl (OpA.asn rfl zW ?_)
 refine wpL_nil ?_
 refine wpA_seq ?_
 refine zbo ?_
 refine wpL_op rfl rfl rfl (OpA.mv rfl zW ?_)
 refine wpL_op rfl rfl rfl (OpA.callH rfl rfl rfl zK (h1:=bldH 167 5 c u g xs post) (h2:= []) (.refl _) (bldCheck_c xs c u g post) ?_)
 rintro _ _ ⟨⟨u',g',post'⟩,rfl,rfl⟩
 refine wpL_nil ?_
 refine wpA_seq ?_
 refine zbo ?_
 refine wpL_op rfl rfl rfl (OpA.mv rfl zW ?_)
 refine wpL_op rfl rfl rfl (OpA.mv rfl zW ?_)
 refine wpL_op rfl rfl rfl (OpA.nc rfl zW (.inl ⟨_,_,_,_,rfl⟩) ?_)
 refine wpL_op rfl rfl rfl (oFa tf167_1 ?_)
 refine wpL_op rfl rfl rfl (oLd ti165 ?_)
 refine wpL_op rfl rfl rfl (OpA.mv rfl zW ?_)
 refine wpL_op rfl rfl rfl (OpA.ibuildSliceO rfl ts165 rfl (.cons (.of (sz:=1) rfl) .nil) (by decide) ?_)
 refine wpL_op rfl rfl rfl (OpA.appendB rfl rfl rfl rfl ts165 rfl (fun _ _=> .tail .head) (.list (ys:= [b])) hb (fun g2=>?_))
 refine wpL_op rfl rfl rfl (OpA.nc rfl zW (.inl ⟨_,_,_,_,rfl⟩) ?_)
 refine wpL_op rfl rfl rfl (oFa tf167_1 ?_)
 refine wpL_eff rfl rfl (OpA.store (e:=bldD 167 5 c u' g' xs) (e':=bldD 167 5 c u' g2 (xs++ [b])) rfl ti165 rfl (bufD_ok _ _ _) rfl (Nat.le_of_ble_eq_true rfl) (bld_put _) .head ?_)
 refine wpL_nil ?_
 refine wpA_seq ?_
 refine zbo ?_
 refine wpL_op rfl rfl rfl (OpA.asn rfl zW ?_)
 refine wpL_nil ?_
 refine wpA_ret ?_
 exact⟨_,(.tmp (d:= .v .nilIface) rfl .nil),(u',g2,[]),rfl,rfl⟩
theorem bldStr_c (xs:List Int)(c:Nat)(u:Bool)(g:Nat)(post:List D)(hl:xs.length<=9223372036854775807):CallH Tryz.prog 89 [.ptr c 2 0 0] (bldH 167 5 c u g xs post) (fun d h'=>∃ _:Unit,d=D.s (bstr xs)/\h'= []):=by
 refine CallH.of_body Tryz.func89 rfl Tryz.ntmps89 rfl ?_
 rcases xs with _|⟨x,l⟩
 · refine wpA_seq ?_
   refine zbo ?_
   refine wpL_op rfl rfl rfl (OpA.asn rfl zW ?_)
   refine wpL_nil ?_
   refine wpA_seq ?_
   refine zbf (m:=10) mo zK rfl ?_
   refine DetK.op rfl (OpA.mv rfl zW ⟨rfl,rfl⟩) ?_
   refine DetK.op rfl (OpA.nc rfl zW (.inl ⟨_,_,_,_,rfl⟩) ⟨rfl,rfl⟩) ?_
   refine DetK.op rfl (oFa tf167_1 ⟨rfl,rfl⟩) ?_
   refine DetK.op rfl (oLd ti165 ⟨rfl,rfl⟩) ?_
   refine DetK.op rfl (OpA.dataN (t:= #[]) rfl rfl rfl rfl ⟨rfl,rfl⟩) ?_
   refine DetK.op rfl (OpA.mv rfl zW ⟨rfl,rfl⟩) ?_
   refine DetK.op rfl (OpA.nc rfl zW (.inl ⟨_,_,_,_,rfl⟩) ⟨rfl,rfl⟩) ?_
   refine DetK.op rfl (oFa tf167_1 ⟨rfl,rfl⟩) ?_
   refine DetK.op rfl (oLd ti165 ⟨rfl,rfl⟩) ?_
   refine DetK.op rfl (OpA.len (n:=0) rfl rfl rfl rfl ts165.desc (.inr (.inr ⟨rfl,rfl⟩)) ⟨rfl,rfl⟩) ?_
   refine DetK.nil ?_
   refine wpL_op rfl rfl rfl (OpA.strN rfl rfl rfl rfl rfl rfl ?_)
   refine wpL_op rfl rfl rfl (OpA.asn rfl zW ?_)
   refine wpL_nil ?_
   refine wpA_sub (h0:= []) (.cons _ (.cons _ (.refl _))) ?_
   refine wpA_ret ?_
   exact⟨_,(.tmp (d:=D.s (bstr [])) rfl .nil),(),rfl,rfl⟩
 · refine wpA_seq ?_
   refine zbo ?_
   refine wpL_op rfl rfl rfl (OpA.asn rfl zW ?_)
   refine wpL_nil ?_
   refine wpA_seq ?_
   refine zbf (m:=10) mo zK rfl ?_
   refine DetK.op rfl (OpA.mv rfl zW ⟨rfl,rfl⟩) ?_
   refine DetK.op rfl (OpA.nc rfl zW (.inl ⟨_,_,_,_,rfl⟩) ⟨rfl,rfl⟩) ?_
   refine DetK.op rfl (oFa tf167_1 ⟨rfl,rfl⟩) ?_
   refine DetK.op rfl (oLd ti165 ⟨rfl,rfl⟩) ?_
   refine DetK.op rfl (OpA.dataT rfl rfl rfl rfl ⟨rfl,rfl⟩) ?_
   refine DetK.op rfl (OpA.mv rfl zW ⟨rfl,rfl⟩) ?_
   refine DetK.op rfl (OpA.nc rfl zW (.inl ⟨_,_,_,_,rfl⟩) ⟨rfl,rfl⟩) ?_
   refine DetK.op rfl (oFa tf167_1 ⟨rfl,rfl⟩) ?_
   refine DetK.op rfl (oLd ti165 ⟨rfl,rfl⟩) ?_
   refine DetK.op rfl (OpA.lenT rfl rfl rfl rfl ts165.desc rfl ⟨rfl,rfl⟩) ?_
   refine DetK.nil ?_
   refine wpL_op rfl rfl rfl (OpA.strT (xs:=x::l) rfl rfl rfl rfl td218 bldCells rfl rfl .head pull1 (by simp) hl ?_)
   refine wpL_op rfl rfl rfl (OpA.asn rfl zW ?_)
   refine wpL_nil ?_
   refine wpA_sub (h0:= []) (.cons _ (.refl _)) ?_
   refine wpA_ret ?_
   exact⟨_,(.tmp (d:=D.s (bstr (x::l))) rfl .nil),(),rfl,rfl⟩
set_option maxRecDepth 10000
theorem ti138 :TI Tryz.prog 138 1 false:= .mk' zK zK
theorem ti142 :TI Tryz.prog 142 2 true:= .mk' zK zK
theorem ti147 :TI Tryz.prog 147 1 false:= .mk' zK zK
theorem ti250 :TI Tryz.prog 250 1 false:= .mk' zK zK
theorem ti251 :TI Tryz.prog 251 25 true:= .mk' zK zK
theorem ti253 :TI Tryz.prog 253 54 true:= .mk' zK zK
theorem ti307 :TI Tryz.prog 307 25 true:= .mk' zK zK
theorem ti309 :TI Tryz.prog 309 24 true:= .mk' zK zK
theorem ti68 :TI Tryz.prog 68 1 false:= .mk' zK zK
theorem ti70 :TI Tryz.prog 70 2 true:= .mk' zK zK
theorem ti81 :TI Tryz.prog 81 4 true:= .mk' zK zK
theorem eg142 :Tryz.prog.eqGuardType Tryz.prog.depth 142=false:=by kernel_rfl
theorem eg251 :Tryz.prog.eqGuardType Tryz.prog.depth 251=false:=by kernel_rfl
theorem td142 :Tryz.prog.underlying 142=some (.array 2 3):=by kernel_rfl
theorem td251 :Tryz.prog.underlying 251=some (.array 25 250):=by kernel_rfl
theorem td307 :Tryz.prog.underlying 307=some (.array 25 3):=by kernel_rfl
theorem td309 :Tryz.prog.underlying 309=some (.array 24 250):=by kernel_rfl
theorem td323 :Tryz.prog.underlying 323=some (.array 5 250):=by kernel_rfl
theorem tf253_0 :zat Tryz.prog 253 0=some 0:=by kernel_rfl
theorem tf253_1 :zat Tryz.prog 253 1=some 25:=by kernel_rfl
theorem tf253_2 :zat Tryz.prog 253 2=some 26:=by kernel_rfl
theorem tf253_3 :zat Tryz.prog 253 3=some 27:=by kernel_rfl
theorem tf253_4 :zat Tryz.prog 253 4=some 52:=by kernel_rfl
theorem tf253_5 :zat Tryz.prog 253 5=some 53:=by kernel_rfl
theorem tf70_0 :zat Tryz.prog 70 0=some 0:=by kernel_rfl
theorem tf70_1 :zat Tryz.prog 70 1=some 1:=by kernel_rfl
theorem tf81_0 :zat Tryz.prog 81 0=some 0:=by kernel_rfl
theorem tf81_1 :zat Tryz.prog 81 1=some 1:=by kernel_rfl
theorem tf81_2 :zat Tryz.prog 81 2=some 2:=by kernel_rfl
theorem tf81_3 :zat Tryz.prog 81 3=some 3:=by kernel_rfl
theorem tf84_4 :zat Tryz.prog 84 4=some 4:=by kernel_rfl
theorem tp149 :placesOf Tryz.prog 149=some [(0,1),(1,1)]:=by kernel_rfl
theorem tp253 :placesOf Tryz.prog 253=some [(0,25),(25,1),(26,1),(27,25),(52,1),(53,1)]:=by kernel_rfl
theorem tp70 :placesOf Tryz.prog 70=some [(0,1),(1,1)]:=by kernel_rfl
theorem tp81 :placesOf Tryz.prog 81=some [(0,1),(1,1),(2,1),(3,1)]:=by kernel_rfl
theorem ts138 :TS Tryz.prog 138 142 2 16 true:=⟨by kernel_rfl,ti142,by kernel_rfl,by kernel_rfl⟩
theorem ts68 :TS Tryz.prog 68 81 4 32 true:=⟨by kernel_rfl,ti81,by kernel_rfl,by kernel_rfl⟩
theorem tz138 :(Tryz.prog.info? 138).bind (·.zero)=some (.slice none 0 0):=by kernel_rfl
theorem tz142 :(Tryz.prog.info? 142).bind (·.zero)=some (.agg #[.int .i64 0,.int .i64 0]):=by kernel_rfl
theorem tz147 :(Tryz.prog.info? 147).bind (·.zero)=some (.slice none 0 0):=by kernel_rfl
theorem tz167 :(Tryz.prog.info? 167).bind (·.zero)=some (.agg #[.pointer none,.slice none 0 0]):=by kernel_rfl
theorem tz251 :(Tryz.prog.info? 251).bind (·.zero)=some (.agg #[.int .u64 0,.int .u64 0,.int .u64 0,.int .u64 0,.int .u64 0,.int .u64 0,.int .u64 0,.int .u64 0,.int .u64 0,.int .u64 0,.int .u64 0,.int .u64 0,.int .u64 0,.int .u64 0,.int .u64 0,.int .u64 0,.int .u64 0,.int .u64 0,.int .u64 0,.int .u64 0,.int .u64 0,.int .u64 0,.int .u64 0,.int .u64 0,.int .u64 0]):=by kernel_rfl
theorem tz253 :(Tryz.prog.info? 253).bind (·.zero)=some (.agg #[.int .u64 0,.int .u64 0,.int .u64 0,.int .u64 0,.int .u64 0,.int .u64 0,.int .u64 0,.int .u64 0,.int .u64 0,.int .u64 0,.int .u64 0,.int .u64 0,.int .u64 0,.int .u64 0,.int .u64 0,.int .u64 0,.int .u64 0,.int .u64 0,.int .u64 0,.int .u64 0,.int .u64 0,.int .u64 0,.int .u64 0,.int .u64 0,.int .u64 0,.slice none 0 0,.int .i64 0,.int .u64 0,.int .u64 0,.int .u64 0,.int .u64 0,.int .u64 0,.int .u64 0,.int .u64 0,.int .u64 0,.int .u64 0,.int .u64 0,.int .u64 0,.int .u64 0,.int .u64 0,.int .u64 0,.int .u64 0,.int .u64 0,.int .u64 0,.int .u64 0,.int .u64 0,.int .u64 0,.int .u64 0,.int .u64 0,.int .u64 0,.int .u64 0,.int .u64 0,.string ⟨#[]⟩,.string ⟨#[]⟩]):=by kernel_rfl
theorem tz307 :(Tryz.prog.info? 307).bind (·.zero)=some (.agg #[.int .i64 0,.int .i64 0,.int .i64 0,.int .i64 0,.int .i64 0,.int .i64 0,.int .i64 0,.int .i64 0,.int .i64 0,.int .i64 0,.int .i64 0,.int .i64 0,.int .i64 0,.int .i64 0,.int .i64 0,.int .i64 0,.int .i64 0,.int .i64 0,.int .i64 0,.int .i64 0,.int .i64 0,.int .i64 0,.int .i64 0,.int .i64 0,.int .i64 0]):=by kernel_rfl
theorem tz309 :(Tryz.prog.info? 309).bind (·.zero)=some (.agg #[.int .u64 0,.int .u64 0,.int .u64 0,.int .u64 0,.int .u64 0,.int .u64 0,.int .u64 0,.int .u64 0,.int .u64 0,.int .u64 0,.int .u64 0,.int .u64 0,.int .u64 0,.int .u64 0,.int .u64 0,.int .u64 0,.int .u64 0,.int .u64 0,.int .u64 0,.int .u64 0,.int .u64 0,.int .u64 0,.int .u64 0,.int .u64 0]):=by kernel_rfl
theorem tz323 :(Tryz.prog.info? 323).bind (·.zero)=some (.agg #[.int .u64 0,.int .u64 0,.int .u64 0,.int .u64 0,.int .u64 0]):=by kernel_rfl
theorem tz5 :(Tryz.prog.info? 5).bind (·.zero)=some (.int .u8 0):=by kernel_rfl
theorem tz70 :(Tryz.prog.info? 70).bind (·.zero)=some (.agg #[.string ⟨#[]⟩,.slice none 0 0]):=by kernel_rfl
theorem tz81 :(Tryz.prog.info? 81).bind (·.zero)=some (.agg #[.int .i64 0,.int .i64 0,.int .i64 0,.int .i64 0]):=by kernel_rfl
structure Hq (q:Prop):Prop where
 k:q
theorem fI {p:Prop}(h:p:=by first|exact ti118|exact ti149|exact ti164|exact ti165|exact ti180|exact ti191|exact ti195|exact ti196|exact ti201|exact ti205|exact ti208|exact ti24|exact ti241|exact ti25|exact ti32|exact ti34|exact ti4|exact ti5|exact ti57|exact ti61|exact ti62|exact ti64|exact ti84|exact ti138|exact ti142|exact ti147|exact ti250|exact ti251|exact ti253|exact ti307|exact ti309|exact ti68|exact ti70|exact ti81|exact ti3|exact ti30|exact ti41|exact ti9):p:=h
theorem fF {p:Prop}(h:p:=by first|exact tf118_0|exact tf118_1|exact tf118_2|exact tf149_0|exact tf149_1|exact tf167_0|exact tf167_1|exact tf180_0|exact tf180_1|exact tf180_2|exact tf191_0|exact tf191_1|exact tf191_2|exact tf198_0|exact tf198_1|exact tf198_2|exact tf198_3|exact tf205_0|exact tf205_1|exact tf208_0|exact tf208_1|exact tf30_1|exact tf34_0|exact tf34_1|exact tf57_0|exact tf57_1|exact tf64_0|exact tf64_1|exact tf64_2|exact tf64_3|exact tf84_0|exact tf84_1|exact tf84_2|exact tf84_3|exact tf253_0|exact tf253_1|exact tf253_2|exact tf253_3|exact tf253_4|exact tf253_5|exact tf70_0|exact tf70_1|exact tf81_0|exact tf81_1|exact tf81_2|exact tf81_3|exact tf84_4|exact tf30_0):p:=h
theorem fD {p:Prop}(h:p:=by first|exact td164|exact td169|exact td195|exact td196|exact td199|exact td21|exact td218|exact td250|exact td255|exact td3|exact td4|exact td5|exact td9|exact td142|exact td251|exact td307|exact td309|exact td323):p:=h
theorem fS {p:Prop}(h:p:=by first|exact ts147.desc|exact ts165.desc|exact ts185.desc|exact ts200.desc|exact ts201.desc|exact ts206.desc|exact ts25.desc|exact ts32.desc|exact ts61.desc|exact ts62.desc|exact ts73.desc|exact ts74.desc|exact ts77.desc|exact ts138.desc|exact ts68.desc|exact ts24.desc|exact ts41.desc):p:=h
theorem g {p q:Prop}(k:q)(h:Hq q->p:=by(intro k; first|(refine wpL_nil ?_; exact k.1)|(refine wpA_seq ?_; exact k.1)|(refine zbo ?_; exact k.1)|(refine wpA_block ?_; exact k.1)|(refine wpA_skip ?_; exact k.1)|(refine wpA_ret ?_; exact k.1)|(refine wpA_exit ?_; exact k.1)|(refine wL ?_; (first|refine OpA.m ?_|refine OpA.p ?_|refine OpA.a ?_|refine oEq ?_|refine pLd ?_ (ht:=fI)|refine pFa ?_ (hf:=fF)|refine oLt ?_|refine oGt ?_|refine pLn ?_ (ht:=fS)|refine pIl ?_ (ht:=fI)|refine pLw ?_ (ht:=fI)|refine oNe ?_|refine oEx ?_|refine pAd ?_ (hb:=by assumption)|refine pSb ?_ (hb:=by assumption)|refine oGe ?_|refine oLe ?_|refine oNt ?_|refine pFi ?_ (hf:=fF)|refine pIw ?_ (ht:=fI)|refine pSl ?_ (ht:=fD)); exact k.1)|(refine wE (oSt ?_ (ht:=fI)); exact k.1)|(refine wS ?_; exact k.1)|(refine wG ?_; (first|refine OpA.m ?_|refine OpA.p ?_|refine OpA.a ?_|refine oEq ?_|refine pLd ?_ (ht:=fI)|refine pFa ?_ (hf:=fF)|refine oLt ?_|refine oGt ?_|refine pLn ?_ (ht:=fS)|refine pIl ?_ (ht:=fI)|refine pLw ?_ (ht:=fI)|refine oNe ?_|refine oEx ?_|refine pAd ?_ (hb:=by assumption)|refine pSb ?_ (hb:=by assumption)|refine oGe ?_|refine oLe ?_|refine oNt ?_|refine pFi ?_ (hf:=fF)|refine pIw ?_ (ht:=fI)|refine pSl ?_ (ht:=fD)); exact k.1)|(refine dS ?_; exact k.1)|((first|refine dL (OpA.m oR) ?_|refine dL (OpA.p oR) ?_|refine dL (OpA.a oR) ?_|refine dL (oEq oR) ?_|refine dL (pLd oR (ht:=fI)) ?_|refine dL (pFa oR (hf:=fF)) ?_|refine dL (oLt oR) ?_|refine dL (oGt oR) ?_|refine dL (pLn oR (ht:=fS)) ?_|refine dL (pIl oR (ht:=fI)) ?_|refine dL (pLw oR (ht:=fI)) ?_|refine dL (oNe oR) ?_|refine dL (oEx oR) ?_|refine dL (pAd oR (hb:=by assumption)) ?_|refine dL (pSb oR (hb:=by assumption)) ?_|refine dL (oGe oR) ?_|refine dL (oLe oR) ?_|refine dL (oNt oR) ?_|refine dL (pFi oR (hf:=fF)) ?_|refine dL (pIw oR (ht:=fI)) ?_|refine dL (pSl oR (ht:=fD)) ?_); exact k.1)|((first|refine dG (OpA.m oR) ?_|refine dG (OpA.p oR) ?_|refine dG (OpA.a oR) ?_|refine dG (oEq oR) ?_|refine dG (pLd oR (ht:=fI)) ?_|refine dG (pFa oR (hf:=fF)) ?_|refine dG (oLt oR) ?_|refine dG (oGt oR) ?_|refine dG (pLn oR (ht:=fS)) ?_|refine dG (pIl oR (ht:=fI)) ?_|refine dG (pLw oR (ht:=fI)) ?_|refine dG (oNe oR) ?_|refine dG (oEx oR) ?_|refine dG (pAd oR (hb:=by assumption)) ?_|refine dG (pSb oR (hb:=by assumption)) ?_|refine dG (oGe oR) ?_|refine dG (oLe oR) ?_|refine dG (oNt oR) ?_|refine dG (pFi oR (hf:=fF)) ?_|refine dG (pIw oR (ht:=fI)) ?_|refine dG (pSl oR (ht:=fD)) ?_); exact k.1))):p:=h ⟨k⟩
theorem G {p q:Prop}(k:q)(h:Hq q->p:=by(intro k; (repeat refine g ?_); exact k.1)):p:=h ⟨k⟩
end Go.Proofs.YtkifpidbpoghlaaGreatDoor
set_option linter.all false
namespace Go.Lic
open Go.Proofs Go.Sort Go.Shelf
section
variable {texts:List Text}{least only:Int}{p q:CPr}
theorem run_of (h:OkP texts p)(ht:0<toP texts p):∃ a x b y:Nat,p=(⟨a,x⟩,⟨b,y⟩)/\a<texts.length/\b<texts.length/\x<(gi texts (a:Nat)).words.length/\y<(gi texts (b:Nat)).words.length/\backP texts p<=x/\backP texts p<=y/\
   ¬preN (gi texts (a:Nat)).words (gi texts (b:Nat)).words (x-backP texts p) (y-backP texts p)/\toN (gi texts (a:Nat)).words (gi texts (b:Nat)).words (x-backP texts p) (y-backP texts p)=backP texts p+toP texts p/\cloneP texts p=⟨a,(x-backP texts p:Nat),b,(y-backP texts p:Nat),(backP texts p+toP texts p:Nat)⟩:=by
 obtain⟨⟨pa,px⟩,pb,py⟩:=p
 obtain⟨h1,h2,h3,h4,h5,h6⟩:=h
 simp only at h1 h2 h3 h4 h5 h6
 obtain⟨a,rfl⟩:=Int.eq_ofNat_of_zero_le h1.1
 obtain⟨b,rfl⟩:=Int.eq_ofNat_of_zero_le h2.1
 obtain⟨x,rfl⟩:=Int.eq_ofNat_of_zero_le h3
 obtain⟨y,rfl⟩:=Int.eq_ofNat_of_zero_le h5
 have ht':0<toN (gi texts (a:Nat)).words (gi texts (b:Nat)).words x y:=by simpa [toP]using ht
 have eb:backP texts (⟨(a:Nat),(x:Nat)⟩,⟨(b:Nat),(y:Nat)⟩)=backN (gi texts (a:Nat)).words (gi texts (b:Nat)).words x y:=by simp [backP]
 have et:toP texts (⟨(a:Nat),(x:Nat)⟩,⟨(b:Nat),(y:Nat)⟩)=toN (gi texts (a:Nat)).words (gi texts (b:Nat)).words x y:=by simp [toP]
 obtain⟨r1,r2,r3,r4,r5,r6⟩:=run_start ht'
 refine⟨a,x,b,y,rfl,by have:=h1.2; omega,by have:=h2.2; omega,r1,r2,?_⟩
 unfold cloneP
 rw [eb,et]
 refine⟨r3,r4,r5,r6,?_⟩
 have e1:((x-backN (gi texts (a:Nat)).words (gi texts (b:Nat)).words x y:Nat):Int)=(x:Int)-(backN (gi texts (a:Nat)).words (gi texts (b:Nat)).words x y:Nat):=by omega
 have e2:((y-backN (gi texts (a:Nat)).words (gi texts (b:Nat)).words x y:Nat):Int)=(y:Int)-(backN (gi texts (a:Nat)).words (gi texts (b:Nat)).words x y:Nat):=by omega
 rw [e1,e2]
 rfl
theorem clone_mem (h:OkP texts p)(hsk:skipF only p.1 p.2=false)(ht:0<toP texts p)(hn:least<=(backP texts p:Int)+toP texts p):cloneP texts p∈refL texts least only:=by
 obtain⟨a,x,b,y,rfl,h1,h2,h3,h4,h5,h6,h7,h8,h9⟩:=run_of h ht
 rw [h9,mem_ref]
 simp only [skipF,Bool.or_eq_false_iff,Bool.and_eq_false_iff,decide_eq_false_iff_not,ClonePlace.mk.injEq]at hsk
 obtain⟨⟨⟨s1,s2⟩,s3⟩,s4⟩:=hsk
 have hl:=lenC_of h7
 rw [h8]at hl
 generalize hf:backP texts (⟨(a:Int),(x:Int)⟩,⟨(b:Int),(y:Int)⟩)=f at*
 refine⟨a,x-f,b,y-f,h1,by omega,h2,?_,by omega,?_,?_,?_⟩
 · simp only [okB,Bool.and_eq_true,Bool.or_eq_true,decide_eq_true_eq]
   omega
 · by_cases e:a=b
   · subst e; right; omega
   · exact .inl e
 · rw [hl]; push_cast; omega
 · rw [hl]
theorem clone_at {a i b j d:Nat}(h1:a<texts.length)(h2:b<texts.length)(hp:¬preN (gi texts (a:Nat)).words (gi texts (b:Nat)).words i j)(hd:d<toN (gi texts (a:Nat)).words (gi texts (b:Nat)).words i j):
   cloneP texts (⟨a,((i+d:Nat):Int)⟩,⟨b,((j+d:Nat):Int)⟩)=⟨a,i,b,j,(toN (gi texts (a:Nat)).words (gi texts (b:Nat)).words i j:Nat)⟩/\0<toP texts (⟨a,((i+d:Nat):Int)⟩,⟨b,((j+d:Nat):Int)⟩)/\
     backP texts (⟨a,((i+d:Nat):Int)⟩,⟨b,((j+d:Nat):Int)⟩)+toP texts (⟨a,((i+d:Nat):Int)⟩,⟨b,((j+d:Nat):Int)⟩)=toN (gi texts (a:Nat)).words (gi texts (b:Nat)).words i j:=by
 obtain⟨e1,e2⟩:=run_at hp hd
 have eb:backP texts (⟨(a:Nat),((i+d:Nat):Int)⟩,⟨(b:Nat),((j+d:Nat):Int)⟩)=d:=by simp only [backP,Int.toNat_natCast]; exact e2
 have et:toP texts (⟨(a:Nat),((i+d:Nat):Int)⟩,⟨(b:Nat),((j+d:Nat):Int)⟩)=toN (gi texts (a:Nat)).words (gi texts (b:Nat)).words i j-d:=by simp only [toP,Int.toNat_natCast]; exact e1
 unfold cloneP
 rw [eb,et]
 refine⟨?_,by omega,by omega⟩
 have e1:((i+d:Nat):Int)-(d:Nat)=i:=by omega
 have e2:((j+d:Nat):Int)-(d:Nat)=j:=by omega
 have e3:((d:Nat):Int)+(toN (gi texts (a:Nat)).words (gi texts (b:Nat)).words i j-d:Nat)=(toN (gi texts (a:Nat)).words (gi texts (b:Nat)).words i j:Nat):=by omega
 simp only [e1,e2,e3]
theorem same_run (hp:OkP texts p)(hq:OkP texts q)(hd:diagP q=diagP p)(ht:0<toP texts q)(h1:q.1.at_<=p.1.at_)(h2:p.1.at_<q.1.at_+toP texts q):cloneP texts p=cloneP texts q/\backP texts p+toP texts p=backP texts q+toP texts q:=by
 obtain⟨a,x,b,y,eq,g1,g2,g3,g4,g5,g6,g7,g8,g9⟩:=run_of hq ht
 obtain⟨⟨pa,px⟩,pb,py⟩:=p
 subst eq
 simp only [diagP,CloneDiagonal.mk.injEq]at hd h1 h2
 obtain⟨d1,d2,d3⟩:=hd
 subst d1; subst d2
 obtain⟨e,rfl⟩:∃ e:Nat,px=(x:Int)+e:=⟨(px-x).toNat,by omega⟩
 have hy:py=(y:Int)+e:=by omega
 subst hy
 generalize hf:backP texts (⟨(a:Int),(x:Int)⟩,⟨(b:Int),(y:Int)⟩)=f at*
 have:=clone_at (texts:=texts) (d:=f+e) g1 g2 g7 (by rw [g8]; omega)
 rw [show x-f+(f+e)=x+e by omega,show y-f+(f+e)=y+e by omega]at this
 push_cast at this
 obtain⟨c1,c2,c3⟩:=this
 refine⟨?_,by rw [c3,g8]⟩
 rw [c1,g9,g8]
structure JJ (texts:List Text)(least only:Int)(done:List CPr)(s:CSt):Prop where
 mem:∀ c∈s.2.map (·.1),c∈refL texts least only
 nd:(s.2.map (·.1)).Nodup
 cov:∀ p∈done,skipF only p.1 p.2=false->0<toP texts p->least<=(backP texts p:Int)+toP texts p->cloneP texts p∈s.2.map (·.1)
 seen:∀ d,kget 0 s.1 d≠0->∃ p∈done,diagP p=d/\skipF only p.1 p.2=false/\kget 0 s.1 d=p.1.at_+((max (toP texts p) 1:Nat):Int)
theorem JJ.start :JJ texts least only [] ([],[]):=⟨by simp,by simp,by simp,fun d h=>absurd rfl h⟩
theorem JJ.skip {done:List CPr}{s:CSt}(J:JJ texts least only done s)(hsk:skipF only p.1 p.2=true):JJ texts least only (done++ [p]) s:=by
 refine⟨J.mem,J.nd,fun q hq hs=>?_,fun d hd=>?_⟩
 · rcases List.mem_append.1 hq with hq|hq
   · exact J.cov q hq hs
   · simp at hq; subst hq; rw [hsk]at hs; cases hs
 · obtain⟨q,h1,h2⟩:=J.seen d hd
   exact⟨q,List.mem_append_left _ h1,h2⟩
theorem JJ.step {done:List CPr}{s:CSt}(J:JJ texts least only done s)(hok:OkP texts p)(hokd:∀ q∈done,OkP texts q)(hord:∀ q∈done,diagP q=diagP p->q.1.at_<=p.1.at_)(hsk:skipF only p.1 p.2=false):JJ texts least only (done++ [p]) (lookF texts least s.1 s.2 p.1 p.2):=by
 unfold lookF
 split
 · next hgt=>
   have hx0:=hok.x0
   obtain⟨q,q1,q2,q3,q4⟩:=J.seen (diagP p) (by
     have:kget 0 s.1 (diagP (p.1,p.2))>p.1.at_:=hgt
     have e:diagP (p.1,p.2)=diagP p:=rfl
     rw [e]at this; omega)
   have hgt':kget 0 s.1 (diagP p)>p.1.at_:=hgt
   have hle:=hord q q1 q2
   refine⟨J.mem,J.nd,fun r hr hs ht hn=>?_,fun d hd=>?_⟩
   · rcases List.mem_append.1 hr with hr|hr
     · exact J.cov r hr hs ht hn
     · simp at hr; subst hr
       rcases Nat.eq_zero_or_pos (toP texts q)with hz|hz
       · exfalso
         rw [hz]at q4
         have e:r.1.at_=q.1.at_:=by simp at q4; omega
         have:r=q:=by
           simp only [diagP,CloneDiagonal.mk.injEq]at q2
           obtain⟨⟨ra,rx⟩,rb,ry⟩:=r
           obtain⟨⟨qa,qx⟩,qb,qy⟩:=q
           simp only at q2 e
           obtain⟨e1,e2,e3⟩:=q2
           subst e1; subst e2; subst e
           have:ry=qy:=by omega
           subst this; rfl
         rw [this,hz]at ht; omega
       · obtain⟨r1,r2⟩:=same_run hok (hokd q q1) q2 hz hle (by rw [Nat.max_eq_left hz]at q4; omega)
         rw [r1]
         exact J.cov q q1 q3 hz (by omega)
   · obtain⟨q,h1,h2⟩:=J.seen d hd
     exact⟨q,List.mem_append_left _ h1,h2⟩
 · next hgt=>
   have old:∀ c,c∈s.2.map (·.1)->c∈(if least<=(backP texts (p.1,p.2):Int)+toP texts (p.1,p.2)/\0<toP texts (p.1,p.2)then kset s.2 (cloneP texts (p.1,p.2)) ()else s.2).map (·.1):=fun c hc=>by
     split
     · exact kset_mem.2 (.inl hc)
     · exact hc
   refine⟨fun c hc=>?_,?_,fun r hr hs ht hn=>?_,fun d hd=>?_⟩
   · simp only at hc
     split at hc
     · next hcnd=>
       rcases kset_mem.1 hc with hc|hc
       · exact J.mem c hc
       · rw [hc]; exact clone_mem hok hsk hcnd.2 hcnd.1
     · exact J.mem c hc
   · simp only
     split
     · exact kset_nd J.nd
     · exact J.nd
   · rcases List.mem_append.1 hr with hr|hr
     · exact old _ (J.cov r hr hs ht hn)
     · simp at hr; subst hr
       simp only
       rw [if_pos ⟨hn,ht⟩]
       exact kset_mem.2 (.inr rfl)
   · simp only [kget_set]at hd ⊢
     split at hd
     · next e=>exact⟨p,by simp,e,hsk,by rw [if_pos e]⟩
     · next e=>
       obtain⟨q,h1,h2,h3,h4⟩:=J.seen d hd
       exact⟨q,List.mem_append_left _ h1,h2,h3,by rw [if_neg e]; exact h4⟩
theorem JJ.len {done:List CPr}{s:CSt}(J:JJ texts least only done s):s.2.length<=(refL texts least only).length:=by
 have:=nodup_leK J.nd J.mem
 simpa using this
theorem scan_JJ :∀(rest done:List CPr) (s:CSt),JJ texts least only done s->(∀ p∈done++rest,OkP texts p)->(done++rest).Pairwise (fun q p=>diagP q=diagP p->q.1.at_<=p.1.at_)->s.2.length<=1024->
   (scanF texts least only rest s=none/\1024<(refL texts least only).length)\/(∃ s',scanF texts least only rest s=some s'/\JJ texts least only (done++rest) s'/\s'.2.length<=1024)
 | [],done,s,J,_,_,hl=> .inr ⟨s,rfl,by simpa using J,hl⟩
 | p ::rest,done,s,J,hok,hord,hl=>by
   have e:done++p::rest=(done++ [p])++rest:=by simp
   simp only [scanF,stepF]
   by_cases hsk:skipF only p.1 p.2=true
   · rw [if_pos hsk]
     have:=scan_JJ rest (done++ [p]) s (J.skip hsk) (by rw [<- e]; exact hok) (by rw [<- e]; exact hord) hl
     rw [<- e]at this
     simpa using this
   · rw [if_neg hsk]
     have hskf:skipF only p.1 p.2=false:=by simpa using hsk
     have hord':=hord
     rw [List.pairwise_append]at hord'
     have J':=J.step (hok p (by simp)) (fun q hq=>hok q (by simp [hq])) (fun q hq=>hord'.2.2 q hq p (by simp)) hskf
     by_cases hlen:1024<(lookF texts least s.1 s.2 p.1 p.2).2.length
     · rw [if_pos hlen]
       exact .inl ⟨rfl,Nat.lt_of_lt_of_le hlen J'.len⟩
     · rw [if_neg hlen]
       have:=scan_JJ rest (done++ [p]) _ J' (by rw [<- e]; exact hok) (by rw [<- e]; exact hord) (by omega)
       rw [<- e]at this
       simpa using this
end
theorem gi_consK {α:Type} [Inhabited α](t:α)(l:List α)(j:Nat):gi (t::l) ((j+1:Nat):Int)=gi l (j:Int):=by
 unfold gi
 rw [show(((j+1:Nat):Int)).toNat=j+1 by omega,show((j:Int)).toNat=j by omega]
 simp
theorem flatP_memK {p:Pst}{k w:Int}:∀(l:List Text) (i:Nat),p∈flatP i l k w↔∃ j:Nat,j<l.length/\∃ x∈(zak (gi l (j:Int)) k w).1,p=⟨x.hash,((i+j:Nat):Int),x.at_⟩
 | [],i=>by simp [flatP]
 | t ::l,i=>by
   rw [flatP,List.mem_append,flatP_memK l (i+1)]
   constructor
   · rintro(h|⟨j,hj,x,hx,e⟩)
     · obtain⟨x,hx,e⟩:=List.mem_map.1 h
       exact⟨0,by simp,x,hx,by rw [<- e]; simp⟩
     · exact⟨j+1,by simpa using hj,x,by rw [gi_consK]; exact hx,by rw [e]; congr 1; omega⟩
   · rintro⟨j,hj,x,hx,e⟩
     cases j with
     | zero=>
       left
       exact List.mem_map.2 ⟨x,hx,by rw [e]; simp⟩
     | succ j=>
       right
       rw [gi_consK]at hx
       exact⟨j,by simpa using hj,x,hx,by rw [e]; congr 1; omega⟩
theorem printsF_validK {t:Text}{k w:Int}(hv:zbi t=true)(hk:zbs k=true)(hw:zbs w=true):zak t k w=(printsL t.words k.toNat w.toNat,0):=by
 unfold zak
 rw [if_pos hv,if_pos (by rw [hk,hw]; rfl)]
theorem sizeF_pos {k:Int}(h:zbs k=true):1<=k/\k<=1024:=by simpa [zbs]using h
section
variable {texts:List Text}{k w:Int}(hv:∀ t∈texts,zbi t=true)(hk:zbs k=true)(hw:zbs w=true)
include hv hk hw
theorem all_mem {p:Pst}:p∈flatP 0 texts k w↔∃ j:Nat,j<texts.length/\∃ x∈printsL (gi texts (j:Nat)).words k.toNat w.toNat,p=⟨x.hash,(j:Int),x.at_⟩:=by
 rw [flatP_memK]
 constructor
 · rintro⟨j,hj,x,hx,e⟩
   rw [printsF_validK (hv _ (gi_mem ⟨by omega,by omega⟩)) hk hw]at hx
   exact⟨j,hj,x,hx,by rw [e]; simp⟩
 · rintro⟨j,hj,x,hx,e⟩
   exact⟨j,hj,x,by rw [printsF_validK (hv _ (gi_mem ⟨by omega,by omega⟩)) hk hw]; exact hx,by rw [e]; simp⟩
theorem all_bd {p:Pst}(h:p∈flatP 0 texts k w):inL p.text texts.length/\0<=p.at_/\p.at_<(gi texts p.text).words.length:=by
 obtain⟨j,hj,x,hx,rfl⟩:=(all_mem hv hk hw).1 h
 have hw1:=sizeF_pos hw; have hk1:=sizeF_pos hk
 unfold printsL at hx
 obtain⟨a,ha,rfl⟩:=List.mem_map.1 hx
 have:=selL_bd (by omega) ha
 rw [grams_len]at this
 refine⟨⟨by simp,by simp; omega⟩,this.1,?_⟩
 have h2:=this.2
 simp only
 omega
theorem pairs_ok :∀ p∈pairsF (flatP 0 texts k w),OkP texts p:=by
 intro p hp
 simp only [pairsF,List.mem_flatMap,pairsX,places_get,List.mem_map,List.mem_filter]at hp
 obtain⟨x,hx,y',⟨y,⟨hy,_⟩,rfl⟩,rfl⟩:=hp
 obtain⟨a1,a2,a3⟩:=all_bd hv hk hw hx
 obtain⟨b1,b2,b3⟩:=all_bd hv hk hw hy
 exact⟨a1,b1,a2,by simp only [plOf]; omega,b2,by simp only [plOf]; omega⟩
theorem all_order :∀(l:List Text) (i:Nat),(∀ t∈l,zbi t=true)->(flatP i l k w).Pairwise (fun x y=>x.text<y.text\/(x.text=y.text/\x.at_<=y.at_))/\∀ x∈flatP i l k w,(i:Int)<=x.text
 | [],i,_=>⟨.nil,by simp [flatP]⟩
 | t ::l,i,h=>by
   obtain⟨h1,h2⟩:=all_order l (i+1) (fun t ht=>h t (List.mem_cons_of_mem _ ht))
   have hw1:=sizeF_pos hw
   have hp:(postsOf i (zak t k w).1).Pairwise (fun x y=>x.text<y.text\/(x.text=y.text/\x.at_<=y.at_)):=by
     rw [printsF_validK (h t (by simp)) hk hw]
     unfold postsOf printsL
     rw [List.pairwise_map,List.pairwise_map]
     exact(selL_sorted _ (by omega)).imp fun {x y} hxy=> .inr ⟨rfl,by simp; omega⟩
   have ht:∀ x∈postsOf i (zak t k w).1,x.text=(i:Int):=fun x hx=>by
     obtain⟨y,_,rfl⟩:=List.mem_map.1 hx; rfl
   rw [flatP]
   refine⟨List.pairwise_append.2 ⟨hp,h1,fun x hx y hy=>?_⟩,fun x hx=>?_⟩
   · left; rw [ht x hx]; have:=h2 y hy; omega
   · rcases List.mem_append.1 hx with hx|hx
     · rw [ht x hx]; omega
     · have:=h2 x hx; omega
theorem pairs_order :(pairsF (flatP 0 texts k w)).Pairwise (fun q p=>diagP q=diagP p->q.1.at_<=p.1.at_):=by
 unfold pairsF
 rw [List.pairwise_flatMap]
 refine⟨fun x _=>?_,(all_order hv hk hw texts 0 hv).1.imp fun {x y} hxy u hu v hv' hd=>?_⟩
 · unfold pairsX
   rw [List.pairwise_map,List.pairwise_iff_forall_sublist]
   intro a b _ _
   exact Int.le_refl _
 · simp only [pairsX,List.mem_map]at hu hv'
   obtain⟨u',_,rfl⟩:=hu; obtain⟨v',_,rfl⟩:=hv'
   simp only [diagP,plOf,CloneDiagonal.mk.injEq]at hd ⊢
   omega
theorem pairs_cover {only:Int}{c:Clone}(h:c∈refL texts (k+w-1) only):∃ p∈pairsF (flatP 0 texts k w),skipF only p.1 p.2=false/\0<toP texts p/\k+w-1<=(backP texts p:Int)+toP texts p/\cloneP texts p=c:=by
 obtain⟨a,i,b,j,h1,h2,h3,h4,h5,h6,h7,rfl⟩:=mem_ref.1 h
 have hw1:=sizeF_pos hw; have hk1:=sizeF_pos hk
 obtain⟨n1,n2⟩:=lenC_pos (a:=gi texts (a:Nat)) (b:=gi texts (b:Nat)) (i:=i) (j:=j) (by omega)
 rw [n2]at h7
 obtain⟨d,g,d1,d2,d3⟩:=guarantee (a:=(gi texts (a:Nat)).words) (b:=(gi texts (b:Nat)).words) (k:=k.toNat) (w:=w.toNat) (i:=i) (j:=j) (by omega) (by omega) (by omega) (by omega) (by
   show k.toNat+w.toNat-1<=toN _ _ i j
   omega)
 obtain⟨c1,c2,c3⟩:=clone_at (texts:=texts) (d:=d) h1 h3 n1 (by omega)
 have m1:(⟨g,(a:Int),(i:Int)+d⟩:Pst)∈flatP 0 texts k w:=(all_mem hv hk hw).2 ⟨a,h1,_,d2,rfl⟩
 have m2:(⟨g,(b:Int),(j:Int)+d⟩:Pst)∈flatP 0 texts k w:=(all_mem hv hk hw).2 ⟨b,h3,_,d3,rfl⟩
 push_cast at c1 c2 c3
 refine⟨(⟨a,(i:Int)+d⟩,⟨b,(j:Int)+d⟩),?_,?_,c2,by omega,?_⟩
 · simp only [pairsF,List.mem_flatMap,pairsX,places_get,List.mem_map,List.mem_filter]
   exact⟨_,m1,⟨b,(j:Int)+d⟩,⟨_,⟨m2,decide_eq_true rfl⟩,rfl⟩,rfl⟩
 · simp only [okB,Bool.and_eq_true,Bool.or_eq_true,decide_eq_true_eq]at h4
   simp only [skipF,Bool.or_eq_false_iff,Bool.and_eq_false_iff,decide_eq_false_iff_not,ClonePlace.mk.injEq]
   omega
 · rw [c1,n2]
theorem scan_all (only:Int):(scanF texts (k+w-1) only (pairsF (flatP 0 texts k w)) ([],[])=none/\1024<(refL texts (k+w-1) only).length)\/
   (∃ s,scanF texts (k+w-1) only (pairsF (flatP 0 texts k w)) ([],[])=some s/\¬1024<(refL texts (k+w-1) only).length/\∀ m:List Clone,m.Perm (s.2.map (·.1))->sortF zbp m=refL texts (k+w-1) only):=by
 rcases scan_JJ (texts:=texts) (least:=k+w-1) (only:=only) (pairsF (flatP 0 texts k w)) [] ([],[]) JJ.start (by simpa using pairs_ok hv hk hw) (by simpa using pairs_order hv hk hw) (by simp)with h|⟨s,h1,J,h2⟩
 · exact .inl h
 · right
   have hmem:∀ c,c∈s.2.map (·.1)↔c∈refL texts (k+w-1) only:=fun c=>⟨J.mem c,fun hc=>by
     obtain⟨p,p1,p2,p3,p4,rfl⟩:=pairs_cover hv hk hw hc
     exact J.cov p (by simpa using p1) p2 p3 p4⟩
   refine⟨s,h1,?_,fun m hm=>found_sorted (hm.nodup_iff.2 J.nd) (fun c=>hm.mem_iff.trans (hmem c))⟩
   have:=nodup_leK (ref_nodup texts (k+w-1) only) (fun c hc=>(hmem c).2 hc)
   simp at this; omega
end
end Go.Lic
set_option linter.all false
namespace Go.Proofs.YtkifpidbpoghlaaGreatDoor
open Go Go.Lic Go.Sort Go.Proofs
variable [Fl]
attribute [local irreducible] addF addP zaw badR behindF blankF checkF zbp zbx cmpB cmpI cmpL codeF countF fewTs fewW findC findT zbt growTF guarF hashF zbj insideF itoaF lenF lookF mergeF mul64F mulP newF ofF orF partF pathF postCmp postsF powF zak pushF rightL rollF zbu zbs zbh zad splitG zbi
theorem gsplit_c (s_:ByteArray)(sep:ByteArray)(sepSave:Int)(n:Int)(hp0:s_.size<=1000000)(hp1:sep.size=1)(hp2:sepSave=(0:Int))(hp3:n=(-1:Int)):Fun false Tryz.prog 79 [D.s s_,D.s sep,D.i sepSave,D.i n] (fun d=>d=(zai 1 D.s) (splitG s_ sep sepSave n)):=by
 refine fB Tryz.func79 Tryz.ntmps79 (gsplit_ok s_ sep sepSave n _ hp0 hp1 hp2 hp3 rfl) fun Q h=>?_
 unfold gsplit_vc at h
 refine G ?_
 refine zc h (fun _ h=>G ?_) (fun _ h=>G ?_)
 exact⟨_,(.tmp (d:= .v (.slice none 0 0)) rfl .nil),_,(.nilv (sz:=1) .nil),⟨[],rfl,h⟩⟩
 refine wL (OpA.seql rfl rfl rfl ?_)
 refine G ?_
 refine zc h (fun _ h=>?_) (fun _ h=>?_)
 exact h.elim
 iterate 7 refine g ?_
 refine wpA_join (S:=Int) (G:=Unit) (fun gg ss=>asg [(0,D.s s_),(1,D.s sep),(2,D.i sepSave),(3,D.i ss),(8,.v (.slice none 0 0))]) (fun gg ss=> []) (fun ss=>gsplit_J1 s_ sep sepSave Q ss) ?_ ?_
 refine zc h (fun _ h=>?_) (fun _ h=>G ?_)
 obtain⟨q1,q2,h⟩:=h
 refine G ?_
 refine wL (oC (count_c s_ sep q1) ?_)
 refine G ?_
 exact⟨(),((countF s_ sep)+1),h,cvZ,(.refl _)⟩
 exact⟨(),n,h,cvZ,(.refl _)⟩
 rintro _ n1 h
 have h:gsplit_J1 s_ sep sepSave Q n1:=h
 unfold gsplit_J1 at h
 obtain⟨q1,h⟩:=h
 refine G ?_
 refine wL (OpA.min (l:= [_]) rfl rfl rfl rfl ?_)
 obtain⟨q1,h⟩:=h
 refine G ?_
 refine wL (OpA.makeSliceV (enc:=D.s) (v0:=ByteArray.empty) rfl ts25 rfl rfl tz9 (fun _ _=> .v _) (.of rfl) q1 (fun c3=>?_))
 obtain⟨q1,h⟩:=h
 refine G ?_
 refine zl h (c3,([]:List D),([]:List D)) (fun gg ss=> [(0,D.s ss.2.1),(1,D.s sep),(2,D.i sepSave),(3,D.i ((gmin n1 [((s_.size:Int)+1)])-1)),(8,.v (.slice none 0 0)),(9,.own gg.1 1 gg.2.1.length ss.1.length),(10,D.i ss.2.2)]) (fun gg ss=> [(gg.1,.cells 1 (zas D.s gg.2.1 ss.1 gg.2.2))]) ?_
 rintro again4 ⟨cb31,pre31,post31⟩ ⟨a,s_1,i⟩ h
 dsimp only at h
 unfold gsplit_L1 at h
 refine G ?_
 refine zc h (fun _ h=>?_) (fun _ h=>?_)
 obtain⟨q1,h⟩:=h
 refine G ?_
 refine wL (oC (index_c s_1 sep q1) ?_)
 refine G ?_
 refine zc h (fun _ h=>?_) (fun _ h=>?_)
 obtain⟨q1,h⟩:=h
 refine G ?_
 refine wL (oIv ts25 q1 ?_)
 refine wE (OpA.storeV (enc:=D.s) (v:=s_1) rfl ti9 rfl rfl (.of rfl) rfl q1 .head ?_)
 iterate 2 refine g ?_
 refine wpA_cov (fr0:=asg [(0,D.s s_1),(1,D.s sep),(2,D.i sepSave),(3,D.i ((gmin n1 [((s_.size:Int)+1)])-1)),(8,.v (.slice none 0 0)),(9,.own cb31 1 pre31.length (si a i s_1).length),(10,D.i i),(11,D.i (zbj s_1 sep)),(34,D.i i),(35,D.i ((gmin n1 [((s_.size:Int)+1)])-1)),(36,D.b (decide (i<((gmin n1 [((s_.size:Int)+1)])-1)))),(37,D.s s_1),(38,D.s sep),(39,D.i (zbj s_1 sep)),(40,D.i (zbj s_1 sep)),(41,D.b (decide ((zbj s_1 sep)<0))),(58,.own cb31 1 pre31.length (si a i s_1).length),(59,D.i i),(60,D.s s_1),(61,.ptr cb31 1 (pre31.length+(Int.toNat i)) 0)]) (Cov.asg ⟨rfl,rfl,rfl,rfl,rfl,(congrArg (D.own cb31 1 pre31.length) (by simp only [zan,zah,zac zam,zac zaf,zac zal]<;>rfl)),rfl,rfl,rfl,rfl,rfl,rfl,rfl,rfl,rfl,rfl,(congrArg (D.own cb31 1 pre31.length) (by simp only [zan,zah,zac zam,zac zaf,zac zal]<;>rfl)),rfl,rfl,rfl,trivial⟩) ?_
 obtain⟨q1,q2,h⟩:=h
 refine G ?_
 refine wL (OpA.sliceV (enc:=D.s) rfl ts25 rfl (.none _) (.some rfl) q2 .head ?_)
 refine G ?_
 exact⟨_,(.tmp (d:= .own cb31 1 (pre31++((si a i s_1).take (Int.toNat 0)).map D.s).length (zbc (si a i s_1) 0 (i+1)).length) rfl .nil),_,(.win .head (by intro hf; cases hf) .nil),⟨(zbc (si a i s_1) 0 (i+1)),rfl,h⟩⟩
 obtain⟨q1,q2,q3,h⟩:=h
 refine G ?_
 refine wL (OpA.ssliceV rfl td9 rfl (.none _) (.some rfl) q2 ?_)
 refine wL (oIv ts25 q3 ?_)
 refine wE (OpA.storeV (enc:=D.s) (v:=(ssub s_1 0 ((zbj s_1 sep)+sepSave))) rfl ti9 rfl rfl (.of rfl) rfl q3 .head ?_)
 iterate 2 refine g ?_
 refine wpA_cov (fr0:=asg [(0,D.s s_1),(1,D.s sep),(2,D.i sepSave),(3,D.i ((gmin n1 [((s_.size:Int)+1)])-1)),(8,.v (.slice none 0 0)),(9,.own cb31 1 pre31.length (si a i (ssub s_1 0 ((zbj s_1 sep)+sepSave))).length),(10,D.i i),(11,D.i (zbj s_1 sep)),(34,D.i i),(35,D.i ((gmin n1 [((s_.size:Int)+1)])-1)),(36,D.b (decide (i<((gmin n1 [((s_.size:Int)+1)])-1)))),(37,D.s s_1),(38,D.s sep),(39,D.i (zbj s_1 sep)),(40,D.i (zbj s_1 sep)),(41,D.b (decide ((zbj s_1 sep)<0))),(42,.own cb31 1 pre31.length (si a i (ssub s_1 0 ((zbj s_1 sep)+sepSave))).length),(43,D.i i),(44,D.s s_1),(45,D.i (zbj s_1 sep)),(46,D.i sepSave),(47,D.i ((zbj s_1 sep)+sepSave)),(48,D.s (ssub s_1 0 ((zbj s_1 sep)+sepSave))),(49,.ptr cb31 1 (pre31.length+(Int.toNat i)) 0)]) (Cov.asg ⟨rfl,rfl,rfl,rfl,rfl,(congrArg (D.own cb31 1 pre31.length) (by simp only [zan,zah,zac zam,zac zaf,zac zal]<;>rfl)),rfl,rfl,rfl,rfl,rfl,rfl,rfl,rfl,rfl,rfl,(congrArg (D.own cb31 1 pre31.length) (by simp only [zan,zah,zac zam,zac zaf,zac zal]<;>rfl)),rfl,rfl,rfl,rfl,rfl,rfl,rfl,trivial⟩) ?_
 obtain⟨q1,q2,h⟩:=h
 refine G ?_
 refine wL (OpA.ssliceV rfl td9 rfl (.some rfl) (.none _) q2 ?_)
 obtain⟨q1,h⟩:=h
 refine G ?_
 exact⟨(cb31,pre31,post31),((si a i (ssub s_1 0 ((zbj s_1 sep)+sepSave))),(ssub s_1 ((zbj s_1 sep)+(sep.size:Int)) (s_1.size:Int)),(i+1)),h,cvZ,(.refl _)⟩
 obtain⟨q1,h⟩:=h
 refine G ?_
 refine wL (oIv ts25 q1 ?_)
 refine wE (OpA.storeV (enc:=D.s) (v:=s_1) rfl ti9 rfl rfl (.of rfl) rfl q1 .head ?_)
 iterate 2 refine g ?_
 refine wpA_cov (fr0:=asg [(0,D.s s_1),(1,D.s sep),(2,D.i sepSave),(3,D.i ((gmin n1 [((s_.size:Int)+1)])-1)),(8,.v (.slice none 0 0)),(9,.own cb31 1 pre31.length (si a i s_1).length),(10,D.i i),(34,D.i i),(35,D.i ((gmin n1 [((s_.size:Int)+1)])-1)),(36,D.b (decide (i<((gmin n1 [((s_.size:Int)+1)])-1)))),(58,.own cb31 1 pre31.length (si a i s_1).length),(59,D.i i),(60,D.s s_1),(61,.ptr cb31 1 (pre31.length+(Int.toNat i)) 0)]) (Cov.asg ⟨rfl,rfl,rfl,rfl,rfl,(congrArg (D.own cb31 1 pre31.length) (by simp only [zan,zah,zac zam,zac zaf,zac zal]<;>rfl)),rfl,rfl,rfl,rfl,(congrArg (D.own cb31 1 pre31.length) (by simp only [zan,zah,zac zam,zac zaf,zac zal]<;>rfl)),rfl,rfl,rfl,trivial⟩) ?_
 obtain⟨q1,q2,h⟩:=h
 refine G ?_
 refine wL (OpA.sliceV (enc:=D.s) rfl ts25 rfl (.none _) (.some rfl) q2 .head ?_)
 refine G ?_
 exact⟨_,(.tmp (d:= .own cb31 1 (pre31++((si a i s_1).take (Int.toNat 0)).map D.s).length (zbc (si a i s_1) 0 (i+1)).length) rfl .nil),_,(.win .head (by intro hf; cases hf) .nil),⟨(zbc (si a i s_1) 0 (i+1)),rfl,h⟩⟩
theorem split_c (s_:ByteArray)(sep:ByteArray)(hp0:s_.size<=1000000)(hp1:sep.size=1):Fun false Tryz.prog 33 [D.s s_,D.s sep] (fun d=>d=(zai 1 D.s) (zad s_ sep)):=by
 refine fB Tryz.func33 Tryz.ntmps33 (split_ok s_ sep _ hp0 hp1 rfl) fun Q h=>?_
 unfold split_vc at h
 iterate 2 refine g ?_
 refine wL (OpA.asnN (T:=ByteArray) (enc:=D.s) (sz:=1) rfl rfl ?_)
 obtain⟨q1,q2,q3,q4,h⟩:=h
 refine G ?_
 refine wL (oC (gsplit_c s_ sep 0 (-1) q1 q2 q3 q4) ?_)
 refine G ?_
 exact zr h
theorem sixf_c (s_:ByteArray)(g_p:Nat)(fs_p cs_p:List D)(p:Int->Bool)(pD:Int->Prop)(truth:Bool)(hen_p:entersB Tryz.prog g_p=true)(hg_p:∀ x0_,pD x0_->Fun false Tryz.prog g_p (fs_p++ [(D.k .i32) x0_]++cs_p) (fun d=>d=D.b (p x0_)))(hp0:∀ z_,pD z_):Fun false Tryz.prog 147 [D.s s_,.fn (.func g_p) fs_p cs_p,D.b truth] (fun d=>d=D.i ((runeIx p s_ truth))):=by
 refine fB Tryz.func147 Tryz.ntmps147 (sixf_ok s_ p pD truth _ hp0 rfl) fun Q h=>?_
 unfold sixf_vc at h
 refine G ?_
 refine wL (OpA.rangeStr rfl td9 rfl (fun c1=>?_))
 refine G ?_
 refine zl h () (fun gg ss=> [(1,.fn (.func g_p) fs_p cs_p),(2,D.b truth),(6,D.i 0),(10,.ptr c1 1 0 0)]) (fun gg ss=> [(c1,.raw (.stringIter s_ (Int.toNat ss)))]) ?_
 rintro again2 _ pos h
 unfold sixf_L1 at h
 refine G ?_
 refine em_split (p:=pos<(s_.size:Int)) (fun b3=>?_) (fun b3=>?_)
 obtain⟨q1,h⟩:=h.1 b3
 refine wL (OpA.nextStr rfl rfl ⟨q1,b3⟩ .head ?_)
 refine G ?_
 refine wpA_condT rfl ?_
 obtain⟨q1,h⟩:=h
 refine G ?_
 refine wL (OpA.call rfl rfl rfl hen_p (hg_p (runeAt s_ pos) q1) ?_)
 rintro _ rfl
 refine G ?_
 refine wL (OpA.bcmp rfl td4 rfl rfl (.inl ⟨rfl,rfl⟩) ?_)
 refine G ?_
 refine zc h (fun _ h=>G ?_) (fun _ h=>G ?_)
 exact zr h
 exact⟨(),(pos+runeW s_ pos),h,cvZ,(.refl _)⟩
 have h:=h.2 b3
 refine wL (OpA.overStr rfl rfl b3 .head ?_)
 refine G ?_
 refine wpA_condF rfl ?_
 refine G ?_
 exact zr h
theorem sixF_c (s_:ByteArray)(g_p:Nat)(fs_p cs_p:List D)(p:Int->Bool)(pD:Int->Prop)(hen_p:entersB Tryz.prog g_p=true)(hg_p:∀ x0_,pD x0_->Fun false Tryz.prog g_p (fs_p++ [(D.k .i32) x0_]++cs_p) (fun d=>d=D.b (p x0_)))(hp0:∀ z_,pD z_):Fun false Tryz.prog 101 [D.s s_,.fn (.func g_p) fs_p cs_p] (fun d=>d=D.i ((runeIx p s_ true))):=by
 refine fB Tryz.func101 Tryz.ntmps101 (sixF_ok s_ p pD _ hp0 rfl) fun Q h=>?_
 unfold sixF_vc at h
 obtain⟨q1,h⟩:=h
 refine G ?_
 refine wL (oC (sixf_c s_ g_p fs_p cs_p p pD true hen_p hg_p q1) ?_)
 refine G ?_
 exact zr h
theorem scf_c (s_:ByteArray)(g_p:Nat)(fs_p cs_p:List D)(p:Int->Bool)(pD:Int->Prop)(hen_p:entersB Tryz.prog g_p=true)(hg_p:∀ x0_,pD x0_->Fun false Tryz.prog g_p (fs_p++ [(D.k .i32) x0_]++cs_p) (fun d=>d=D.b (p x0_)))(hp0:∀ z_,pD z_):Fun false Tryz.prog 143 [D.s s_,.fn (.func g_p) fs_p cs_p] (fun d=>d=D.b ((decide (0<=runeIx p s_ true)))):=by
 refine fB Tryz.func143 Tryz.ntmps143 (scf_ok s_ p pD _ hp0 rfl) fun Q h=>?_
 unfold scf_vc at h
 obtain⟨q1,h⟩:=h
 refine G ?_
 refine wL (oC (sixF_c s_ g_p fs_p cs_p p pD hen_p hg_p q1) ?_)
 refine G ?_
 exact zr h
theorem ixStr_c (s_:(List ByteArray))(g_p:Nat)(fs_p cs_p:List D)(p:ByteArray->Bool)(pD:ByteArray->Prop)(hen_p:entersB Tryz.prog g_p=true)(hg_p:∀ x0_,pD x0_->Fun false Tryz.prog g_p (fs_p++ [D.s x0_]++cs_p) (fun d=>d=D.b (p x0_)))(hp0:s_.length<=9223372036854775807)(hp1:∀ z_∈s_,pD z_):Fun false Tryz.prog 142 [(zai 1 D.s) s_,.fn (.func g_p) fs_p cs_p] (fun d=>d=D.i ((idxOf p s_))):=by
 refine fB Tryz.func142 Tryz.ntmps142 (ixStr_ok s_ p pD _ hp0 hp1 rfl) fun Q h=>?_
 unfold ixStr_vc at h
 refine G ?_
 refine zl h () (fun gg ss=> [(0,(zai 1 D.s) s_),(1,.fn (.func g_p) fs_p cs_p),(4,D.i 0),(7,D.i (s_.length:Int)),(8,D.i ss)]) (fun gg ss=> []) ?_
 rintro again1 _ x h
 unfold ixStr_L1 at h
 refine G ?_
 refine zc h (fun _ h=>?_) (fun _ h=>G ?_)
 obtain⟨q1,q2,h⟩:=h
 refine G ?_
 refine wL (oIx (enc:=D.s) ts25 q1 ?_)
 refine G ?_
 refine wL (OpA.call rfl rfl rfl hen_p (hg_p (gi s_ x) q2) ?_)
 rintro _ rfl
 refine G ?_
 refine zc h (fun _ h=>G ?_) (fun _ h=>?_)
 exact zr h
 obtain⟨q1,h⟩:=h
 refine G ?_
 exact⟨(),(x+1),h,cvZ,(.refl _)⟩
 exact zr h
theorem cfStr_c (s_:(List ByteArray))(g_p:Nat)(fs_p cs_p:List D)(p:ByteArray->Bool)(pD:ByteArray->Prop)(hen_p:entersB Tryz.prog g_p=true)(hg_p:∀ x0_,pD x0_->Fun false Tryz.prog g_p (fs_p++ [D.s x0_]++cs_p) (fun d=>d=D.b (p x0_)))(hp0:s_.length<=9223372036854775807)(hp1:∀ z_∈s_,pD z_):Fun false Tryz.prog 95 [(zai 1 D.s) s_,.fn (.func g_p) fs_p cs_p] (fun d=>d=D.b ((s_.any p))):=by
 refine fB Tryz.func95 Tryz.ntmps95 (cfStr_ok s_ p pD _ hp0 hp1 rfl) fun Q h=>?_
 unfold cfStr_vc at h
 obtain⟨q1,q2,h⟩:=h
 refine G ?_
 refine wL (oC (ixStr_c s_ g_p fs_p cs_p p pD hen_p hg_p q1 q2) ?_)
 refine G ?_
 exact zr h
theorem part1_c (c:Int) :Fun false Tryz.prog 144 [(D.k .i32) c] (fun d=>d=D.b (badR c)):=by
 refine fB Tryz.func144 Tryz.ntmps144 (part1_ok c _  rfl) fun Q h=>?_
 unfold part1_vc at h
 iterate 5 refine g ?_
 refine zav (asg [(2,D.b (!((((((decide (c>=97))&&(decide (c<=122)))||((decide (c>=48))&&(decide (c<=57))))||(c==46))||(c==95))||(c==45))))]) [] ?_ ?_
 refine G ?_
 refine zp 5 (fun b1=>G ?_) (fun b1=>?_)
 refine zp 9 (fun b2=>G ?_) (fun b2=>?_)
 iterate 2 refine wpL_skipU rfl rfl rfl rfl rfl ?_
 refine G ?_
 exact⟨(cvB (notFt (orS (orS (orS (orS (andN b1 b2))))))),(.refl _)⟩
 refine G ?_
 refine zp 12 (fun b3=>G ?_) (fun b3=>?_)
 refine zp 17 (fun b4=>G ?_) (fun b4=>?_)
 exact⟨(cvB (notFt (orS (orS (orS (orN (andN b1 b2) (andN b3 b4))))))),(.refl _)⟩
 refine G ?_
 refine zp 21 (fun b5=>G ?_) (fun b5=>?_)
 exact⟨(cvB (notFt (orS (orS (orN (orN (andN b1 b2) (andN b3 b4)) b5))))),(.refl _)⟩
 refine G ?_
 refine zp 25 (fun b6=>G ?_) (fun b6=>?_)
 exact⟨(cvB (notFt (orS (orN (orN (orN (andN b1 b2) (andN b3 b4)) b5) b6)))),(.refl _)⟩
 refine G ?_
 exact⟨(cvB (congrArg Bool.not (orN (orN (orN (orN (andN b1 b2) (andN b3 b4)) b5) b6) rfl))),(.refl _)⟩
 refine G ?_
 refine zp 21 (fun b7=>G ?_) (fun b7=>?_)
 exact⟨(cvB (notFt (orS (orS (orN (orN (andN b1 b2) (andS b3)) b7))))),(.refl _)⟩
 refine G ?_
 refine zp 25 (fun b8=>G ?_) (fun b8=>?_)
 exact⟨(cvB (notFt (orS (orN (orN (orN (andN b1 b2) (andS b3)) b7) b8)))),(.refl _)⟩
 refine G ?_
 exact⟨(cvB (congrArg Bool.not (orN (orN (orN (orN (andN b1 b2) (andS b3)) b7) b8) rfl))),(.refl _)⟩
 refine G ?_
 refine zp 12 (fun b9=>G ?_) (fun b9=>?_)
 refine zp 17 (fun b10=>G ?_) (fun b10=>?_)
 exact⟨(cvB (notFt (orS (orS (orS (orN (andS b1) (andN b9 b10))))))),(.refl _)⟩
 refine G ?_
 refine zp 21 (fun b11=>G ?_) (fun b11=>?_)
 exact⟨(cvB (notFt (orS (orS (orN (orN (andS b1) (andN b9 b10)) b11))))),(.refl _)⟩
 refine G ?_
 refine zp 25 (fun b12=>G ?_) (fun b12=>?_)
 exact⟨(cvB (notFt (orS (orN (orN (orN (andS b1) (andN b9 b10)) b11) b12)))),(.refl _)⟩
 refine G ?_
 exact⟨(cvB (congrArg Bool.not (orN (orN (orN (orN (andS b1) (andN b9 b10)) b11) b12) rfl))),(.refl _)⟩
 refine G ?_
 refine zp 21 (fun b13=>G ?_) (fun b13=>?_)
 exact⟨(cvB (notFt (orS (orS (orN (orN (andS b1) (andS b9)) b13))))),(.refl _)⟩
 refine G ?_
 refine zp 25 (fun b14=>G ?_) (fun b14=>?_)
 exact⟨(cvB (notFt (orS (orN (orN (orN (andS b1) (andS b9)) b13) b14)))),(.refl _)⟩
 refine G ?_
 exact⟨(cvB (congrArg Bool.not (orN (orN (orN (orN (andS b1) (andS b9)) b13) b14) rfl))),(.refl _)⟩
 refine G ?_
 exact zr h
theorem part_c (s_:ByteArray)(hp0:s_.size<=1000000):Fun false Tryz.prog 97 [D.s s_] (fun d=>d=D.b (partF s_)):=by
 refine fB Tryz.func97 Tryz.ntmps97 (part_ok s_ _ hp0 rfl) fun Q h=>?_
 unfold part_vc at h
 obtain⟨q1,q2,h⟩:=h
 iterate 6 refine g ?_
 refine zav (asg [(0,D.s s_),(2,D.b false),(19,D.b ((((decide (s_=(⟨#[]⟩:ByteArray)))||(decide ((s_.size:Int)>32)))||((sgi s_ 0)==46))||((sgi s_ 0)==45)))]) [] ?_ ?_
 refine G ?_
 refine wL (OpA.seql rfl rfl rfl ?_)
 refine G ?_
 refine zp 5 (fun b2=>G ?_) (fun b2=>?_)
 exact⟨(cvB (orS (orS (orS b2)))),(.refl _)⟩
 refine G ?_
 refine zp 10 (fun b3=>G ?_) (fun b3=>?_)
 exact⟨(cvB (orS (orS (orN b2 b3)))),(.refl _)⟩
 refine G ?_
 refine wG (OpA.sixV rfl td9 rfl rfl (q1 ⟨(decF b2),(decF b3)⟩) ?_)
 refine G ?_
 refine zp 15 (fun b4=>G ?_) (fun b4=>?_)
 exact⟨(cvB (orS (orN (orN b2 b3) b4))),(.refl _)⟩
 refine G ?_
 refine wG (OpA.sixV rfl td9 rfl rfl (q2 ⟨⟨(decF b2),(decF b3)⟩,(beqF b4)⟩) ?_)
 refine G ?_
 exact⟨(cvB (orN (orN (orN b2 b3) b4) rfl)),(.refl _)⟩
 refine zc h (fun _ h=>G ?_) (fun _ h=>?_)
 exact zr h
 obtain⟨q1,h⟩:=h
 refine G ?_
 refine wL (oC (scf_c s_ 144 [] [] (fun(x0_:Int)=>badR x0_) (fun(x0_:Int)=>True) zK (fun x0_ _=>part1_c x0_) q1) ?_)
 refine G ?_
 exact zr h
theorem path1_c (s_:ByteArray)(hp0:s_.size<=1000000):Fun false Tryz.prog 96 [D.s s_] (fun d=>d=D.b ((!partF s_))):=by
 refine fB Tryz.func96 Tryz.ntmps96 (path1_ok s_ _ hp0 rfl) fun Q h=>?_
 unfold path1_vc at h
 obtain⟨q1,h⟩:=h
 refine G ?_
 refine wL (oC (part_c s_ q1) ?_)
 refine G ?_
 exact zr h
theorem path_c (path:ByteArray)(hp0:path.size<=1000000):Fun false Tryz.prog 50 [D.s path] (fun d=>d=D.i (pathF path)):=by
 refine fB Tryz.func50 Tryz.ntmps50 (path_ok path _ hp0 rfl) fun Q h=>?_
 unfold path_vc at h
 obtain⟨q1,q2,h⟩:=h
 refine G ?_
 refine wL (oC (split_c path (⟨#[47]⟩:ByteArray) q1 q2) ?_)
 obtain⟨q1,h⟩:=h
 iterate 4 refine g ?_
 refine zav (asg [(2,D.i 0),(17,D.b (((decide ((path.size:Int)>128))||(decide (((zad path (⟨#[47]⟩:ByteArray)).length:Int)>8)))||((zad path (⟨#[47]⟩:ByteArray)).any (fun(x0_:ByteArray)=>(!partF x0_)))))]) [] ?_ ?_
 refine G ?_
 refine zp 9 (fun b2=>G ?_) (fun b2=>?_)
 exact⟨(cvB (orS (orS b2))),(.refl _)⟩
 refine G ?_
 refine zp 14 (fun b3=>G ?_) (fun b3=>?_)
 exact⟨(cvB (orS (orN b2 b3))),(.refl _)⟩
 refine G ?_
 refine wG (oC (cfStr_c (zad path (⟨#[47]⟩:ByteArray)) 96 [] [] (fun(x0_:ByteArray)=>(!partF x0_)) (fun(x0_:ByteArray)=>x0_.size<=1000000) zK (fun x0_ hh=>path1_c x0_ hh) (q1 ⟨(decF b2),(decF b3)⟩).1 (q1 ⟨(decF b2),(decF b3)⟩).2) ?_)
 refine G ?_
 exact⟨(cvB (orN (orN b2 b3) rfl)),(.refl _)⟩
 refine zc h (fun _ h=>G ?_) (fun _ h=>G ?_)
 exact zr h
 exact zr h
theorem or_c (vals:(List Int))(hp0:vals.length<=9223372036854775807):Fun false Tryz.prog 156 [(zai 1 D.i) vals] (fun d=>d=D.i (orF vals)):=by
 refine fB Tryz.func156 Tryz.ntmps156 (or_ok vals _ hp0 rfl) fun Q h=>?_
 unfold or_vc at h
 refine G ?_
 refine zl h () (fun gg ss=> [(2,D.i 0),(3,D.i 0),(6,(zai 1 D.i) vals),(7,D.i (vals.length:Int)),(8,D.i ss)]) (fun gg ss=> []) ?_
 rintro again1 _ x h
 unfold or_L1 at h
 refine G ?_
 refine zc h (fun _ h=>?_) (fun _ h=>G ?_)
 obtain⟨q1,h⟩:=h
 refine G ?_
 refine wL (oIx (enc:=D.i) ts41 q1 ?_)
 refine G ?_
 refine zc h (fun _ h=>G ?_) (fun _ h=>?_)
 exact zr h
 obtain⟨q1,h⟩:=h
 refine G ?_
 exact⟨(),(x+1),h,cvZ,(.refl _)⟩
 exact zr h
theorem blank_c (c:Int) :Fun false Tryz.prog 99 [(D.k .u8) c] (fun d=>d=D.b (blankF c)):=by
 refine fB Tryz.func99 Tryz.ntmps99 (blank_ok c _  rfl) fun Q h=>?_
 unfold blank_vc at h
 iterate 5 refine g ?_
 refine zav (asg [(2,D.b ((decide (c<=32))||(c==127)))]) [] ?_ ?_
 refine G ?_
 refine zp 5 (fun b1=>G ?_) (fun b1=>?_)
 exact⟨(cvB (orS b1)),(.refl _)⟩
 refine G ?_
 exact⟨(cvB (orN b1 rfl)),(.refl _)⟩
 refine G ?_
 exact zr h
theorem ixB_c (s_:(List Int))(g_p:Nat)(fs_p cs_p:List D)(p:Int->Bool)(pD:Int->Prop)(hen_p:entersB Tryz.prog g_p=true)(hg_p:∀ x0_,pD x0_->Fun false Tryz.prog g_p (fs_p++ [(D.k .u8) x0_]++cs_p) (fun d=>d=D.b (p x0_)))(hp0:s_.length<=9223372036854775807)(hp1:∀ z_∈s_,pD z_):Fun false Tryz.prog 151 [(zai 1 (D.k .u8)) s_,.fn (.func g_p) fs_p cs_p] (fun d=>d=D.i ((idxOf p s_))):=by
 refine fB Tryz.func151 Tryz.ntmps151 (ixB_ok s_ p pD _ hp0 hp1 rfl) fun Q h=>?_
 unfold ixB_vc at h
 refine G ?_
 refine zl h () (fun gg ss=> [(0,(zai 1 (D.k .u8)) s_),(1,.fn (.func g_p) fs_p cs_p),(4,D.i 0),(7,D.i (s_.length:Int)),(8,D.i ss)]) (fun gg ss=> []) ?_
 rintro again1 _ x h
 unfold ixB_L1 at h
 refine G ?_
 refine zc h (fun _ h=>?_) (fun _ h=>G ?_)
 obtain⟨q1,q2,h⟩:=h
 refine G ?_
 refine wL (oIx (enc:=(D.k .u8)) ts165 q1 ?_)
 refine G ?_
 refine wL (OpA.call rfl rfl rfl hen_p (hg_p (gi s_ x) q2) ?_)
 rintro _ rfl
 refine G ?_
 refine zc h (fun _ h=>G ?_) (fun _ h=>?_)
 exact zr h
 obtain⟨q1,h⟩:=h
 refine G ?_
 exact⟨(),(x+1),h,cvZ,(.refl _)⟩
 exact zr h
theorem cfB_c (s_:(List Int))(g_p:Nat)(fs_p cs_p:List D)(p:Int->Bool)(pD:Int->Prop)(hen_p:entersB Tryz.prog g_p=true)(hg_p:∀ x0_,pD x0_->Fun false Tryz.prog g_p (fs_p++ [(D.k .u8) x0_]++cs_p) (fun d=>d=D.b (p x0_)))(hp0:s_.length<=9223372036854775807)(hp1:∀ z_∈s_,pD z_):Fun false Tryz.prog 107 [(zai 1 (D.k .u8)) s_,.fn (.func g_p) fs_p cs_p] (fun d=>d=D.b ((s_.any p))):=by
 refine fB Tryz.func107 Tryz.ntmps107 (cfB_ok s_ p pD _ hp0 hp1 rfl) fun Q h=>?_
 unfold cfB_vc at h
 obtain⟨q1,q2,h⟩:=h
 refine G ?_
 refine wL (oC (ixB_c s_ g_p fs_p cs_p p pD hen_p hg_p q1 q2) ?_)
 refine G ?_
 exact zr h
theorem nvalid_c (t:Text)(hp0:okT t):Fun false Tryz.prog 58 [zaa t] (fun d=>d=D.b (zbi t)):=by
 refine fB Tryz.func58 Tryz.ntmps58 (nvalid_ok t _ hp0 rfl) fun Q h=>?_
 unfold nvalid_vc at h
 refine G ?_
 refine wL (oB 2 (fun c1 _=>?_))
 obtain⟨q1,h⟩:=h
 iterate 4 refine g ?_
 refine zav (asg [(1,.ptr c1 2 0 0),(2,D.b false),(15,D.b ((decide ((t.words.length:Int)>8192))||((pathF t.path) != 0)))]) [(c1,.cells 2 [zaa t])] ?_ ?_
 refine G ?_
 refine zp 10 (fun b11=>G ?_) (fun b11=>?_)
 exact⟨(cvB (orS b11)),(.refl _)⟩
 refine G ?_
 refine wG (oC (path_c t.path (q1 (decF b11))) ?_)
 refine G ?_
 exact⟨(cvB (orN b11 rfl)),(.refl _)⟩
 refine zc h (fun _ h=>G ?_) (fun _ h=>G ?_)
 exact zr h
 refine zl h () (fun gg ss=> [(2,D.b false),(3,D.i ss.1),(17,(zai 2 zau) t.words),(18,D.i (t.words.length:Int)),(19,D.i ss.2)]) (fun gg ss=> [(c1,.cells 2 [zaa t])]) ?_
 rintro again3 _ ⟨least,x⟩ h
 dsimp only at h
 unfold nvalid_L1 at h
 refine G ?_
 refine zc h (fun _ h=>?_) (fun _ h=>G ?_)
 obtain⟨q1,h⟩:=h
 refine G ?_
 refine wL (oIx (enc:=zau) ts24 q1 ?_)
 refine G ?_
 refine wL (oA 2 (zau (Lexeme.mk ByteArray.empty 0)) tz30 (fun c5 _=>?_))
 refine g ?_
 obtain⟨q1,h⟩:=h
 iterate 3 refine g ?_
 refine zav (asg [(2,D.b false),(3,D.i least),(5,.ptr c5 2 0 0),(17,(zai 2 zau) t.words),(18,D.i (t.words.length:Int)),(19,D.i x),(42,D.b ((((decide ((gi t.words x).text=(⟨#[]⟩:ByteArray)))||((zbl ((gi t.words x).text)).any (fun(x0_:Int)=>blankF x0_)))||(decide ((gi t.words x).line<least)))||(decide ((gi t.words x).line>=1024))))]) [(c5,.cells 2 [zau (gi t.words x)]),(c1,.cells 2 [zaa t])] ?_ ?_
 refine G ?_
 refine wL (OpA.seql rfl rfl rfl ?_)
 refine G ?_
 refine zp 26 (fun b8=>G ?_) (fun b8=>?_)
 exact⟨(cvB (orS (orS (orS b8)))),(.refl _)⟩
 refine G ?_
 refine wG (OpA.istrBytes rfl td9 ts165.desc td5 rfl ?_)
 refine wG (oC (cfB_c (zbl ((gi t.words x).text)) 99 [] [] (fun(x0_:Int)=>blankF x0_) (fun(x0_:Int)=>True) zK (fun x0_ _=>blank_c x0_) (q1 (decF b8)).1 (q1 (decF b8)).2) ?_)
 refine G ?_
 refine zp 32 (fun b9=>G ?_) (fun b9=>?_)
 exact⟨(cvB (orS (orS (orN b8 b9)))),(.refl _)⟩
 refine G ?_
 refine zp 38 (fun b10=>G ?_) (fun b10=>?_)
 exact⟨(cvB (orS (orN (orN b8 b9) b10))),(.refl _)⟩
 refine G ?_
 exact⟨(cvB (orN (orN (orN b8 b9) b10) rfl)),(.refl _)⟩
 refine zc h (fun _ h=>G ?_) (fun _ h=>?_)
 exact zr h
 obtain⟨q1,h⟩:=h
 refine G ?_
 exact⟨(),((gi t.words x).line,(x+1)),h,cvZ,(.cons _ (.refl _))⟩
 exact zr h
end Go.Proofs.YtkifpidbpoghlaaGreatDoor
