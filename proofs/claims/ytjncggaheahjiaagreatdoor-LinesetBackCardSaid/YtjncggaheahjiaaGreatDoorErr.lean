/-
  Errors of the library: interface values that are nil or not.
-/
import Derived.Test.YtjncggaheahjiaaGreatDoorVr
import Derived.Shelf.Strconv.AtoiAll
set_option linter.all false
namespace Go.Lic
variable [Fl]
variable {P : Program} {o : Oper} {fr : Nat → D} {h : Heap} {K : D → Heap → Prop}
theorem run_equal_nil0 {w : World} {t : TypeId} {ms : Array (String × TypeId)} (ht : P.underlying t = some (.interface ms)) : (Op.equal t .nilIface .nilIface).run P w = .ok true w := by
 have h : ∀ d : Nat, (Op.equalIn (d + 1) t .nilIface .nilIface).run P w = .ok true w := fun d => by simp [Op.equalIn, run_underlying ht]
 simp only [Op.equal, Op.maxDepth]; exact h 9999
theorem run_equal_nil1 {w : World} {t u : TypeId} {v : Value} {ms : Array (String × TypeId)} (ht : P.underlying t = some (.interface ms)) : (Op.equal t (.iface u v) .nilIface).run P w = .ok false w := by
 have h : ∀ d : Nat, (Op.equalIn (d + 1) t (.iface u v) .nilIface).run P w = .ok false w := fun d => by simp [Op.equalIn, run_underlying ht]
 simp only [Op.equal, Op.maxDepth]; exact h 9999
theorem run_neq_nil0 {w : World} {t : TypeId} {ms : Array (String × TypeId)} (ht : P.underlying t = some (.interface ms)) : (binOp .neq t .nilIface .nilIface).run P w = .ok (.bool false) w := by
 simp only [binOp]; simp [run_equal_nil0 ht]
theorem run_neq_nil1 {w : World} {t u : TypeId} {v : Value} {ms : Array (String × TypeId)} (ht : P.underlying t = some (.interface ms)) : (binOp .neq t (.iface u v) .nilIface).run P w = .ok (.bool true) w := by
 simp only [binOp]; simp [run_equal_nil1 ht]
theorem OpA.neqNil0 {t t2 : TypeId} {x y : Operand} {ms : Array (String × TypeId)} (ho : o.op = .binOp .neq t x y t2) (ht : P.underlying t = some (.interface ms)) (hx : ev fr x = .v .nilIface) (hy : y = .const .nilIface) (hk : K (.b false) h) : OpA P o fr h K :=
 .of_quiet (fun A M w0 ac w _ hv => by
   have h1 := hv x (by simp [ho, Op.operands])
   subst hy
   rw [hx] at h1
   generalize hu : ac.eval x = v1 at h1
   cases h1
   have hu2 : ac.eval (.const .nilIface) = .nilIface := rfl
   refine ⟨.bool false, ?_, .v _⟩
   simp [execOp, ho, hu, hu2, eqGuard, run_neq_nil0 ht]) hk
theorem OpA.neqNil1 {t t2 u : TypeId} {v : Value} {x y : Operand} {ms : Array (String × TypeId)} (ho : o.op = .binOp .neq t x y t2) (ht : P.underlying t = some (.interface ms)) (hx : ev fr x = .v (.iface u v)) (hy : y = .const .nilIface) (hk : K (.b true) h) : OpA P o fr h K :=
 .of_quiet (fun A M w0 ac w _ hv => by
   have h1 := hv x (by simp [ho, Op.operands])
   subst hy
   rw [hx] at h1
   generalize hu : ac.eval x = v1 at h1
   cases h1
   have hu2 : ac.eval (.const .nilIface) = .nilIface := rfl
   refine ⟨.bool true, ?_, .v _⟩
   simp [execOp, ho, hu, hu2, eqGuard, run_neq_nil1 ht]) hk
theorem below_ext {w w' : World} (h : RowKit.Below w.heap.size w w') : @Ext flNo (fun _ => False) w w' :=
 @Ext.mk flNo _ _ _ h.os h.tape h.output h.size (fun b hb _ => h.block b hb) (fun b hb => shape_of_heap (h.block b hb)) (fun hh => hh.elim)
end Go.Lic
