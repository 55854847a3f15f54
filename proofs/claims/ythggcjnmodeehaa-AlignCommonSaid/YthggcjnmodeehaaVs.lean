/-
  More rules for printed walks: division, bits, shifts, conversions, arrays.
-/
import Derived.Test.YthggcjnmodeehaaVr
set_option linter.all false
namespace Go.Lic

section
variable {P : Program} {o : Oper} {fr : Nat → D} {h : Heap} {K : D → Heap → Prop}

theorem OpA.int2 {op : BinOp} {t t2 : TypeId} {x y : Operand} {k k2 : IntKind} {a b r : Int} (ho : o.op = .binOp op t x y t2) (hx : ev fr x = .v (.int k a)) (hy : ev fr y = .v (.int k2 b))
    (hr : ∀ w, (binOp op t (.int k a) (.int k2 b)).run P w = .ok (.int k r) w) (hg : ∀ (ax ay : Operand) w, (eqGuard op t ax ay (.int k a) (.int k2 b)).run P w = .ok () w) (hk : K (.v (.int k r)) h) : OpA P o fr h K :=
  .of_quiet (fun A M w0 ac w _ hv => by
    have h1 := hv x (by simp [ho, Op.operands])
    have h2 := hv y (by simp [ho, Op.operands])
    rw [hx] at h1; rw [hy] at h2
    generalize hu : ac.eval x = u at h1
    generalize hu2 : ac.eval y = u2 at h2
    cases h1; cases h2
    exact ⟨_, by simp only [execOp, ho, hu, hu2, Sem.run_bind, hg, hr, Result.andThen_ok, Sem.run_pure], .v _⟩) hk

theorem OpA.quoN {t t2 : TypeId} {x y : Operand} {a b : Int} (ho : o.op = .binOp .quo t x y t2) (hx : ev fr x = .i a) (hy : ev fr y = .i b) (hb : (0 ≤ a ∧ 0 < b) ∧ a ≤ 9223372036854775807) (hk : K (.i (a / b)) h) : OpA P o fr h K :=
  .int2 ho hx hy (by
    intro w
    have h1 : b ≠ 0 := by omega
    have h2 : a.tdiv b = a / b := Int.tdiv_eq_ediv_of_nonneg hb.1.1
    have h3 : 0 ≤ a / b := Int.ediv_nonneg hb.1.1 (by omega)
    have h4 : a / b ≤ a := Int.ediv_le_self _ hb.1.1
    have h5 : IntKind.i64.wrap (a / b) = a / b := wrap64_in (by omega)
    simp [binOp, Op.intDiv, h1, h2, h5]) (by intro ax ay w; simp [eqGuard_at_int]) hk
theorem OpA.remN {t t2 : TypeId} {x y : Operand} {k : IntKind} {a b : Int} (ho : o.op = .binOp .rem t x y t2) (hx : ev fr x = .v (.int k a)) (hy : ev fr y = .v (.int k b)) (hb : 0 ≤ a ∧ 0 < b) (hk : K (.v (.int k (a % b))) h) : OpA P o fr h K :=
  .int2 ho hx hy (by
    intro w
    have h1 : b ≠ 0 := by omega
    have h2 : a.tmod b = a % b := Int.tmod_eq_emod_of_nonneg hb.1
    simp [binOp, Op.intDiv, h1, h2]) (by intro ax ay w; simp [eqGuard_at_int]) hk

theorem OpA.band {t t2 : TypeId} {x y : Operand} {k : IntKind} {a b : Int} (ho : o.op = .binOp .and t x y t2) (hx : ev fr x = .v (.int k a)) (hy : ev fr y = .v (.int k b)) (hk : K (.v (.int k (gand k a b))) h) : OpA P o fr h K :=
  .int2 ho hx hy (by intro w; simp [binOp, Op.intBits, gand]) (by intro ax ay w; simp [eqGuard_at_int]) hk
theorem OpA.bor {t t2 : TypeId} {x y : Operand} {k : IntKind} {a b : Int} (ho : o.op = .binOp .or t x y t2) (hx : ev fr x = .v (.int k a)) (hy : ev fr y = .v (.int k b)) (hk : K (.v (.int k (gor k a b))) h) : OpA P o fr h K :=
  .int2 ho hx hy (by intro w; simp [binOp, Op.intBits, gor]) (by intro ax ay w; simp [eqGuard_at_int]) hk
theorem OpA.bxor {t t2 : TypeId} {x y : Operand} {k : IntKind} {a b : Int} (ho : o.op = .binOp .xor t x y t2) (hx : ev fr x = .v (.int k a)) (hy : ev fr y = .v (.int k b)) (hk : K (.v (.int k (gxor k a b))) h) : OpA P o fr h K :=
  .int2 ho hx hy (by intro w; simp [binOp, Op.intBits, gxor]) (by intro ax ay w; simp [eqGuard_at_int]) hk
theorem OpA.bandn {t t2 : TypeId} {x y : Operand} {k : IntKind} {a b : Int} (ho : o.op = .binOp .andNot t x y t2) (hx : ev fr x = .v (.int k a)) (hy : ev fr y = .v (.int k b)) (hk : K (.v (.int k (gandn k a b))) h) : OpA P o fr h K :=
  .int2 ho hx hy (by intro w; simp [binOp, Op.intBits, gandn]) (by intro ax ay w; simp [eqGuard_at_int]) hk
theorem OpA.shl {t t2 : TypeId} {x y : Operand} {k k2 : IntKind} {a b : Int} (ho : o.op = .binOp .shl t x y t2) (hx : ev fr x = .v (.int k a)) (hy : ev fr y = .v (.int k2 b)) (hb : 0 ≤ b) (hk : K (.v (.int k (gshl k a b))) h) : OpA P o fr h K :=
  .int2 ho hx hy (by intro w; simp [binOp, Op.shift, gshl, show ¬ b < 0 by omega]) (by intro ax ay w; simp [eqGuard]) hk
theorem OpA.shr {t t2 : TypeId} {x y : Operand} {k k2 : IntKind} {a b : Int} (ho : o.op = .binOp .shr t x y t2) (hx : ev fr x = .v (.int k a)) (hy : ev fr y = .v (.int k2 b)) (hb : 0 ≤ b) (hk : K (.v (.int k (gshr k a b))) h) : OpA P o fr h K :=
  .int2 ho hx hy (by intro w; simp [binOp, Op.shift, gshr, show ¬ b < 0 by omega]) (by intro ax ay w; simp [eqGuard]) hk

theorem OpA.unot {t : TypeId} {x : Operand} {k : IntKind} {a : Int} (ho : o.op = .unOp .xor t x) (hx : ev fr x = .v (.int k a)) (hk : K (.v (.int k (gnot k a))) h) : OpA P o fr h K :=
  .of_quiet (fun A M w0 ac w _ hv => by
    have h1 := hv x (by simp [ho, Op.operands])
    rw [hx] at h1
    generalize hu : ac.eval x = u at h1
    cases h1
    exact ⟨_, by simp [execOp, ho, hu, Op.unary, Op.intBits, gnot, gxor], .v _⟩) hk

theorem OpA.conv {s d : TypeId} {x : Operand} {k1 k2 : IntKind} {a : Int} (ho : o.op = .convert s d x) (hs : P.underlying s = some (.int k1)) (hd : P.underlying d = some (.int k2)) (hx : ev fr x = .v (.int k1 a)) (hk : K (.v (.int k2 (k2.wrap a))) h) : OpA P o fr h K :=
  .of_quiet (fun A M w0 ac w _ hv => by
    have h1 := hv x (by simp [ho, Op.operands])
    rw [hx] at h1
    generalize hu : ac.eval x = u at h1
    cases h1
    exact ⟨.int k2 (k2.wrap a), by simp [execOp, ho, hu, convert, run_underlying hs, run_underlying hd, Conv.intToInt], .v _⟩) hk
end
end Go.Lic
