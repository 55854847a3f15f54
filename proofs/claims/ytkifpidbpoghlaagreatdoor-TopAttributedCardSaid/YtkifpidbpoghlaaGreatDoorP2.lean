/- The law TopAttributed returns true whatever its arguments are, and each argument reads behind the call as it read before; the listed variables are tied to the program's text. -/
import Derived.Test.YtkifpidbpoghlaaGreatDoorA9
import Derived.Test.YtkifpidbpoghlaaGreatDoorWr
import Derived.Test.YtkifpidbpoghlaaGreatDoorRead
import Derived.Test.YtkifpidbpoghlaaGreatDoorMapK
import Derived.Test.YtkifpidbpoghlaaGreatDoorRows
import Derived.Test.YtkifpidbpoghlaaGreatDoorCards
import Derived.Test.YtkifpidbpoghlaaGreatDoorTie
import Derived.KernelRfl
import Derived.SevenTiedAt
import Derived.Lay
set_option linter.all false
namespace Go.Proofs.YtkifpidbpoghlaaGreatDoor.LawP2
open Go Go.Proofs.YtkifpidbpoghlaaGreatDoor Go.Lic Go.ChangeShapes Go.WideShapes Go.ChangeAt Go.RowKit

theorem rd9 :Reads Tryz.prog 9 1 D.s:= .string (by kernel_rfl)
theorem und9 :Tryz.prog.underlying 9=some .string:=by kernel_rfl
theorem und5 :Tryz.prog.underlying 5=some (.int .u8):=by kernel_rfl
theorem und4 :Tryz.prog.underlying 4=some .bool:=by kernel_rfl
theorem rdr5 :Reads Tryz.prog 5 1 (fun n: {n:Int // inK .u8 n}=> .v (.int .u8 n.1)):= .intR (by kernel_rfl)
theorem u8range {n:Int}(h:inK .u8 n):inL n 256:=by
  have:(0:Int)<=n/\n<=255:=h
  omega
theorem laidOut :laidOutB Tryz.prog=true:=by kernel_rfl
theorem ownK :ownKnob Tryz.prog.godebug=none:=by kernel_rfl

set_option maxRecDepth 100000 in
theorem topAttributed_lifted (os:Os)(started:os.Started)(H:Type)(enc:TypeId×Value->H):
    ReturnsInHanded {} Tryz.checked os 4 .any (fun w args=>(Rows.topAttributedSpec.pre enc Tryz.prog Tryz.f4 [] false w args/\laidMetH Tryz.prog Rows.topAttributedRow.laid w)/\sizedMet enc Tryz.prog Tryz.f4 (OpenSpec.ofChange Rows.topAttributedSpec) false w args)
      (Rows.topAttributedSpec.post enc Tryz.prog Tryz.f4 false true false false):=by
  refine wrapS (C:=Tryz.checked) (X:=fun w _=>laidMetH Tryz.prog Rows.topAttributedRow.laid w) (fun _ _ _ hh h=>h.of_heap hh) ownK started (by kernel_rfl) Tryz.func4
    (ChangeSpec.witness_shaped (enc:=enc) (C:=Tryz.checked) (os:=os) (X:=fun w _=>laidMetH Tryz.prog Rows.topAttributedRow.laid w) false (World.laidAll Tryz.prog os Rows.topAttributedRow.laid) #[.string ⟨#[]⟩,.string ⟨#[]⟩,.int .u8 0] 8 (World.laidAll_os _ _ _)
      (World.shaped_of_ZipB (by kernel_rfl) (by kernel_rfl)) (by kernel_rfl) (by kernel_rfl) (by kernel_rfl)
      (by rw [MakeChecks.laidMetH_plain _ _ _ (by kernel_rfl)]; exact laidMet_laidAll _ (by kernel_rfl) (by kernel_rfl))) ?_
  intro W base args ds gs before hval0 hW _ _ hL hS _
  have hval:∀(j:Nat) t v,Tryz.f4.params[j]? =some t->args[j]? =some v->Value.okWide Tryz.prog W .any base t v:=hval0
  have hW':=hW
  obtain⟨p,q,hA0,hV,rfl,hfz,hnd⟩:=hW
  have hA:DataW.TrodAll enc Tryz.prog W 0 (fun _=>true) true Tryz.f4.params.toList args.toList ds p:=hA0
  rw [Tryz.params4]at hA hval
  obtain⟨v0,vs0,d0,ds0,p0,q0,hargs,rfl,rfl,h0,r0⟩:=trodAll_cons hA
  obtain⟨v1,vs1,d1,ds1,p1,q1,rfl,rfl,rfl,h1,r1⟩:=trodAll_cons r0
  obtain⟨v2,vs2,d2,ds2,p2,q2,rfl,rfl,rfl,h2,r2⟩:=trodAll_cons r1
  obtain⟨rfl,rfl,rfl⟩:=trodAll_nil r2
  obtain rfl:args= #[v0,v1,v2]:=by cases args; simp_all
  obtain⟨rfl,rfl⟩:=trodVars_none hV
  obtain⟨a0,e0⟩:=rd9.arg1 (fun _=>rfl) (by intro cs hc; simp [Value.okWide,und9,Cell.okWide,Cell.ok]at hc) (hval 0 9 v0 rfl rfl) h0
  obtain⟨a1,e1⟩:=rd9.arg1 (fun _=>rfl) (by intro cs hc; simp [Value.okWide,und9,Cell.okWide,Cell.ok]at hc) (hval 1 9 v1 rfl rfl) h1
  obtain⟨a2,e2⟩:=rdr5.arg1 (fun _=>rfl) (by intro cs hc; simp [Value.okWide,und5,Cell.okWide,Cell.ok]at hc) (hval 2 5 v2 rfl rfl) h2
  clear hA0 hval0
  rw [MakeChecks.laidMetH_plain _ _ _ (by kernel_rfl)]at hL
  refine(lawAttr_c a0 a1 a2.1 (u8range a2.2) (fun _=>False) W [v0,v1,v2] ⟨0,fun _ h=>h.elim⟩ (fun _ h=>h.elim) (glob_of_laid (by repeat (first|exact List.Mem.head _|apply List.Mem.tail)) (by repeat (first|exact List.Mem.head _|apply List.Mem.tail)) (by repeat (first|exact List.Mem.head _|apply List.Mem.tail)) hL (cell_of_shapedOpen_int (P:=Tryz.prog) (g:=0) (t:=3) (zero:= #[.int .i64 0]) hS (of_decide_eq_true (by kernel_rfl)) (by kernel_rfl) rfl (by kernel_rfl) (by kernel_rfl) Tryz.underlying3)) (.cons e0 (.cons e1 (.cons e2 .nil)))).mono fun e W' h=>?_
  obtain⟨v,d,he,hd,hv,hx⟩:=h
  subst hd
  cases hv
  exact⟨_,he,post_law (bt:=4) laidOut (by rw [Tryz.params4]; decide +kernel) rfl und4 rfl (by simp [Rows.topAttributedSpec]) hW' hx⟩

theorem topAttributed_over :Rows.topAttributedRow.holds Tryz.pinned (OpenSpec.ofChange Rows.topAttributedSpec):=
  OpenClaim.holds_of_wide 4 Tryz.f4 rfl rfl rfl rfl rfl rfl rfl ⟨rfl,rfl,rfl,rfl,rfl⟩ rfl rfl rfl rfl rfl (by kernel_rfl) Tryz.func4 (by kernel_rfl)
    (of_decide_eq_true (by kernel_rfl)) (by unfold Func.isWrapper; first|(rw [if_pos (by decide +kernel)]; kernel_rfl)|(rw [if_neg (by decide +kernel)]; exact⟨rfl,rfl⟩))
    (fun os started H enc _=>topAttributed_lifted os started H enc)

/-- The given statement: the tied card. -/
theorem topAttributed_proved :Rows.TopAttributedCardSaid:=
  Claim7.holds_tied_plain_at .later [] [.data, .data, .data, .data, .sentinel, .sentinel, .pinned] true (true, "78bd7a859c214e79cc61c171726bc5ce7fe51d972040986304935e3f95a5b7d7") true topAttributed_over (fun _ h => by cases h) (by kernel_rfl) (fun _ h => by cases h) topAttributed_row_tie rfl ⟨rfl, rfl⟩ (by kernel_rfl) rfl
    (fun f fn hf hfn=>by
      obtain rfl:f=4:=Option.some.inj ((show Tryz.prog.funcNamed _=some 4 by kernel_rfl).symm.trans hf) |>.symm
      obtain rfl:fn=Tryz.f4:=(Option.some.inj (Tryz.func4.symm.trans hfn)).symm
      exact⟨by kernel_rfl,fun j t ht=>by
        rw [Tryz.params4]at ht
        have hm:t∈ [9,9,5]:=by
          have:=Array.mem_of_getElem? ht
          simpa using this
        have hall:([9,9,5].all fun u=> !Tryz.prog.wantsStandIn u)=true:=by kernel_rfl
        exact(show Tryz.prog.wantsStandIn t=false by simpa using List.all_eq_true.1 hall t hm)⟩)
    (by kernel_rfl)

#print axioms topAttributed_proved
end Go.Proofs.YtkifpidbpoghlaaGreatDoor.LawP2
