/-
  Operations, third part: slices, arithmetic, strings, literals, the builtins.
-/
import Derived.Test.YthggcjnmodeehaaOps2
set_option linter.all false
namespace Go.Lic

section
variable {P : Program} {o : Oper} {fr : Nat → D} {h : Heap} {K : D → Heap → Prop}

theorem OpA.arith {op : BinOp} {t t2 : TypeId} {x y : Operand} {k : IntKind} {a b r : Int} (ho : o.op = .binOp op t x y t2) (hx : ev fr x = .v (.int k a)) (hy : ev fr y = .v (.int k b))
    (hop : (op = .add ∧ r = k.wrap (a + b)) ∨ (op = .sub ∧ r = k.wrap (a - b)) ∨ (op = .mul ∧ r = k.wrap (a * b))) (hk : K (.v (.int k r)) h) : OpA P o fr h K :=
  .of_quiet (fun A M w0 ac w _ hv => by
    have h1 := hv x (by simp [ho, Op.operands])
    have h2 := hv y (by simp [ho, Op.operands])
    rw [hx] at h1; rw [hy] at h2
    generalize hu : ac.eval x = u at h1
    generalize hu2 : ac.eval y = u2 at h2
    cases h1; cases h2
    refine ⟨_, ?_, .v _⟩
    rcases hop with ⟨rfl, rfl⟩ | ⟨rfl, rfl⟩ | ⟨rfl, rfl⟩
    · simp [execOp, ho, hu, hu2, eqGuard_at_int, binOp_add, Op.intArith]
    · simp [execOp, ho, hu, hu2, eqGuard_at_int, binOp_sub, Op.intArith]
    · simp [execOp, ho, hu, hu2, eqGuard_at_int, binOp_mul, Op.intArith]) hk

theorem OpA.add {t t2 : TypeId} {x y : Operand} {k : IntKind} {a b : Int} (ho : o.op = .binOp .add t x y t2) (hx : ev fr x = .v (.int k a)) (hy : ev fr y = .v (.int k b)) (hk : K (.v (.int k (k.wrap (a + b)))) h) : OpA P o fr h K :=
  .arith ho hx hy (.inl ⟨rfl, rfl⟩) hk
theorem OpA.sub {t t2 : TypeId} {x y : Operand} {k : IntKind} {a b : Int} (ho : o.op = .binOp .sub t x y t2) (hx : ev fr x = .v (.int k a)) (hy : ev fr y = .v (.int k b)) (hk : K (.v (.int k (k.wrap (a - b)))) h) : OpA P o fr h K :=
  .arith ho hx hy (.inr (.inl ⟨rfl, rfl⟩)) hk
theorem OpA.mul {t t2 : TypeId} {x y : Operand} {k : IntKind} {a b : Int} (ho : o.op = .binOp .mul t x y t2) (hx : ev fr x = .v (.int k a)) (hy : ev fr y = .v (.int k b)) (hk : K (.v (.int k (k.wrap (a * b)))) h) : OpA P o fr h K :=
  .arith ho hx hy (.inr (.inr ⟨rfl, rfl⟩)) hk

theorem wrap64_in {x : Int} (h : -9223372036854775808 ≤ x ∧ x ≤ 9223372036854775807) : IntKind.i64.wrap x = x := by
  rw [IntKind.wrap_i64]; omega

/-- Sums that fit an int. -/
theorem OpA.addi {t t2 : TypeId} {x y : Operand} {a b : Int} (ho : o.op = .binOp .add t x y t2) (hx : ev fr x = .i a) (hy : ev fr y = .i b) (hb : -9223372036854775808 ≤ a + b ∧ a + b ≤ 9223372036854775807) (hk : K (.i (a + b)) h) : OpA P o fr h K :=
  .add ho hx hy (by rw [wrap64_in hb]; exact hk)
theorem OpA.subi {t t2 : TypeId} {x y : Operand} {a b : Int} (ho : o.op = .binOp .sub t x y t2) (hx : ev fr x = .i a) (hy : ev fr y = .i b) (hb : -9223372036854775808 ≤ a - b ∧ a - b ≤ 9223372036854775807) (hk : K (.i (a - b)) h) : OpA P o fr h K :=
  .sub ho hx hy (by rw [wrap64_in hb]; exact hk)
theorem OpA.muli {t t2 : TypeId} {x y : Operand} {a b : Int} (ho : o.op = .binOp .mul t x y t2) (hx : ev fr x = .i a) (hy : ev fr y = .i b) (hb : -9223372036854775808 ≤ a * b ∧ a * b ≤ 9223372036854775807) (hk : K (.i (a * b)) h) : OpA P o fr h K :=
  .mul ho hx hy (by rw [wrap64_in hb]; exact hk)

theorem OpA.cmp {op : BinOp} {t t2 : TypeId} {x y : Operand} {k : IntKind} {a b : Int} {r : Bool} (ho : o.op = .binOp op t x y t2) (hx : ev fr x = .v (.int k a)) (hy : ev fr y = .v (.int k b))
    (hop : (op = .eql ∧ r = (a == b)) ∨ (op = .neq ∧ r = (a != b)) ∨ (op = .lss ∧ r = decide (a < b)) ∨ (op = .leq ∧ r = decide (a ≤ b)) ∨ (op = .gtr ∧ r = decide (a > b)) ∨ (op = .geq ∧ r = decide (a ≥ b))) (hk : K (.b r) h) : OpA P o fr h K :=
  .of_quiet (fun A M w0 ac w _ hv => by
    have h1 := hv x (by simp [ho, Op.operands])
    have h2 := hv y (by simp [ho, Op.operands])
    rw [hx] at h1; rw [hy] at h2
    generalize hu : ac.eval x = u at h1
    generalize hu2 : ac.eval y = u2 at h2
    cases h1; cases h2
    refine ⟨_, ?_, .v _⟩
    rcases hop with ⟨rfl, rfl⟩ | ⟨rfl, rfl⟩ | ⟨rfl, rfl⟩ | ⟨rfl, rfl⟩ | ⟨rfl, rfl⟩ | ⟨rfl, rfl⟩
    · simp only [execOp, ho, hu, hu2, eqGuard_at_int, binOp_eql, Sem.run_bind, Sem.run_pure, Result.andThen_ok]
    · simp only [execOp, ho, hu, hu2, eqGuard_at_int, binOp_neq, Sem.run_bind, Sem.run_pure, Result.andThen_ok]
    · simp only [execOp, ho, hu, hu2, eqGuard_at_int, binOp_lss, Sem.run_bind, Sem.run_pure, Result.andThen_ok]
    · simp only [execOp, ho, hu, hu2, eqGuard_at_int, binOp_leq, Sem.run_bind, Sem.run_pure, Result.andThen_ok]
    · simp only [execOp, ho, hu, hu2, eqGuard_at_int, binOp_gtr, Sem.run_bind, Sem.run_pure, Result.andThen_ok]
    · simp only [execOp, ho, hu, hu2, eqGuard_at_int, binOp_geq, Sem.run_bind, Sem.run_pure, Result.andThen_ok]) hk

section
variable {t t2 : TypeId} {x y : Operand} {k : IntKind} {a b : Int} (hx : ev fr x = .v (.int k a)) (hy : ev fr y = .v (.int k b))
include hx hy
theorem OpA.eql (ho : o.op = .binOp .eql t x y t2) (hk : K (.b (a == b)) h) : OpA P o fr h K := .cmp ho hx hy (.inl ⟨rfl, rfl⟩) hk
theorem OpA.neq (ho : o.op = .binOp .neq t x y t2) (hk : K (.b (a != b)) h) : OpA P o fr h K := .cmp ho hx hy (.inr (.inl ⟨rfl, rfl⟩)) hk
theorem OpA.lss (ho : o.op = .binOp .lss t x y t2) (hk : K (.b (decide (a < b))) h) : OpA P o fr h K := .cmp ho hx hy (.inr (.inr (.inl ⟨rfl, rfl⟩))) hk
theorem OpA.leq (ho : o.op = .binOp .leq t x y t2) (hk : K (.b (decide (a ≤ b))) h) : OpA P o fr h K := .cmp ho hx hy (.inr (.inr (.inr (.inl ⟨rfl, rfl⟩)))) hk
theorem OpA.gtr (ho : o.op = .binOp .gtr t x y t2) (hk : K (.b (decide (a > b))) h) : OpA P o fr h K := .cmp ho hx hy (.inr (.inr (.inr (.inr (.inl ⟨rfl, rfl⟩))))) hk
theorem OpA.geq (ho : o.op = .binOp .geq t x y t2) (hk : K (.b (decide (a ≥ b))) h) : OpA P o fr h K := .cmp ho hx hy (.inr (.inr (.inr (.inr (.inr ⟨rfl, rfl⟩))))) hk
end

theorem OpA.not {t : TypeId} {x : Operand} {b : Bool} (ho : o.op = .unOp .not t x) (hx : ev fr x = .b b) (hk : K (.b (!b)) h) : OpA P o fr h K :=
  .of_quiet (fun A M w0 ac w _ hv => by
    have h1 := hv x (by simp [ho, Op.operands])
    rw [hx] at h1
    generalize hu : ac.eval x = u at h1
    cases h1
    exact ⟨.bool !b, by simp [execOp, ho, hu, Op.unary], .v _⟩) hk

theorem OpA.neg {t : TypeId} {x : Operand} {k : IntKind} {a : Int} (ho : o.op = .unOp .neg t x) (hx : ev fr x = .v (.int k a)) (hk : K (.v (.int k (k.wrap (0 - a)))) h) : OpA P o fr h K :=
  .of_quiet (fun A M w0 ac w _ hv => by
    have h1 := hv x (by simp [ho, Op.operands])
    rw [hx] at h1
    generalize hu : ac.eval x = u at h1
    cases h1
    exact ⟨_, by simp only [execOp, ho, hu, Op.unary, Op.intArith, Sem.run_bind, Sem.run_pure, Result.andThen_ok], .v _⟩) hk

theorem str_beq (a b : ByteArray) : (a.toList == b.toList) = decide (a = b) := by
  rw [Bool.eq_iff_iff]; simp only [beq_iff_eq, decide_eq_true_eq, ByteArray.toList_eq]
  constructor
  · intro hab; cases a; cases b; simpa using hab
  · intro hab; rw [hab]

/-- The order of strings. -/
def sless (a b : ByteArray) : Bool := Op.bytesLess a.data.toList b.data.toList

theorem OpA.strop {op : BinOp} {t t2 : TypeId} {x y : Operand} {a b : ByteArray} {r : Value} (ho : o.op = .binOp op t x y t2) (hx : ev fr x = .s a) (hy : ev fr y = .s b)
    (hop : (op = .eql ∧ r = .bool (decide (a = b))) ∨ (op = .neq ∧ r = .bool (!decide (a = b))) ∨ (op = .lss ∧ r = .bool (sless a b)) ∨ (op = .leq ∧ r = .bool (sless a b || decide (a = b))) ∨
      (op = .gtr ∧ r = .bool (!(sless a b || decide (a = b)))) ∨ (op = .geq ∧ r = .bool (!sless a b)) ∨ (op = .add ∧ a.size + b.size ≤ 9223372036854775807 ∧ r = .string (a ++ b))) (hk : K (.v r) h) : OpA P o fr h K :=
  .of_quiet (fun A M w0 ac w _ hv => by
    have h1 := hv x (by simp [ho, Op.operands])
    have h2 := hv y (by simp [ho, Op.operands])
    rw [hx] at h1; rw [hy] at h2
    generalize hu : ac.eval x = u at h1
    generalize hu2 : ac.eval y = u2 at h2
    cases h1; cases h2
    refine ⟨_, ?_, .v _⟩
    have e1 := str_beq a b
    have e2 : Op.bytesLess a.toList b.toList = sless a b := by simp only [sless, ByteArray.toList_eq]
    rcases hop with ⟨rfl, rfl⟩ | ⟨rfl, rfl⟩ | ⟨rfl, rfl⟩ | ⟨rfl, rfl⟩ | ⟨rfl, rfl⟩ | ⟨rfl, rfl⟩ | ⟨rfl, hs, rfl⟩
    · simp only [execOp, ho, hu, hu2, eqGuard_at_string, binOp, Op.stringOp, Sem.run_bind, Sem.run_pure, Result.andThen_ok, e1]
    · simp only [execOp, ho, hu, hu2, eqGuard_at_string, binOp, Op.stringOp, Sem.run_bind, Sem.run_pure, Result.andThen_ok, e1]
    · simp only [execOp, ho, hu, hu2, eqGuard_at_string, binOp, Op.stringOp, Sem.run_bind, Sem.run_pure, Result.andThen_ok, e2]
    · simp only [execOp, ho, hu, hu2, eqGuard_at_string, binOp, Op.stringOp, Sem.run_bind, Sem.run_pure, Result.andThen_ok, e1, e2]
    · simp only [execOp, ho, hu, hu2, eqGuard_at_string, binOp, Op.stringOp, Sem.run_bind, Sem.run_pure, Result.andThen_ok, e1, e2]
    · simp only [execOp, ho, hu, hu2, eqGuard_at_string, binOp, Op.stringOp, Sem.run_bind, Sem.run_pure, Result.andThen_ok, e2]
    · have hn : ¬ ((a.size + b.size : Nat) : Int) > IntKind.i64.max := by rw [IntKind.max_i64]; omega
      simp only [execOp, ho, hu, hu2, eqGuard_at_string, binOp, Op.stringOp, Sem.run_bind, Sem.run_pure, Result.andThen_ok, if_neg hn]) hk

section
variable {t t2 : TypeId} {x y : Operand} {a b : ByteArray} (hx : ev fr x = .s a) (hy : ev fr y = .s b)
include hx hy
theorem OpA.seql (ho : o.op = .binOp .eql t x y t2) (hk : K (.b (decide (a = b))) h) : OpA P o fr h K := .strop ho hx hy (.inl ⟨rfl, rfl⟩) hk
theorem OpA.sneq (ho : o.op = .binOp .neq t x y t2) (hk : K (.b (!decide (a = b))) h) : OpA P o fr h K := .strop ho hx hy (.inr (.inl ⟨rfl, rfl⟩)) hk
theorem OpA.slss (ho : o.op = .binOp .lss t x y t2) (hk : K (.b (sless a b)) h) : OpA P o fr h K := .strop ho hx hy (.inr (.inr (.inl ⟨rfl, rfl⟩))) hk
theorem OpA.sleq (ho : o.op = .binOp .leq t x y t2) (hk : K (.b (sless a b || decide (a = b))) h) : OpA P o fr h K := .strop ho hx hy (.inr (.inr (.inr (.inl ⟨rfl, rfl⟩)))) hk
theorem OpA.sgtr (ho : o.op = .binOp .gtr t x y t2) (hk : K (.b (!(sless a b || decide (a = b)))) h) : OpA P o fr h K := .strop ho hx hy (.inr (.inr (.inr (.inr (.inl ⟨rfl, rfl⟩))))) hk
theorem OpA.sgeq (ho : o.op = .binOp .geq t x y t2) (hk : K (.b (!sless a b)) h) : OpA P o fr h K := .strop ho hx hy (.inr (.inr (.inr (.inr (.inr (.inl ⟨rfl, rfl⟩)))))) hk
theorem OpA.sadd (ho : o.op = .binOp .add t x y t2) (hs : a.size + b.size ≤ 9223372036854775807) (hk : K (.s (a ++ b)) h) : OpA P o fr h K := .strop ho hx hy (.inr (.inr (.inr (.inr (.inr (.inr ⟨rfl, hs, rfl⟩)))))) hk
end

/-- Bools: equal or not. -/
theorem OpA.bcmp {op : BinOp} {t t2 : TypeId} {x y : Operand} {a b r : Bool} (ho : o.op = .binOp op t x y t2) (ht : P.underlying t = some .bool) (hx : ev fr x = .b a) (hy : ev fr y = .b b)
    (hop : (op = .eql ∧ r = (a == b)) ∨ (op = .neq ∧ r = (a != b))) (hk : K (.b r) h) : OpA P o fr h K :=
  .of_quiet (fun A M w0 ac w _ hv => by
    have h1 := hv x (by simp [ho, Op.operands])
    have h2 := hv y (by simp [ho, Op.operands])
    rw [hx] at h1; rw [hy] at h2
    generalize hu : ac.eval x = u at h1
    generalize hu2 : ac.eval y = u2 at h2
    cases h1; cases h2
    refine ⟨.bool r, ?_, .v _⟩
    rcases hop with ⟨rfl, rfl⟩ | ⟨rfl, rfl⟩
    · simp only [execOp, ho, hu, hu2, eqGuard_at_bool, Sem.run_bind, Sem.run_pure, Result.andThen_ok, run_eql_bool w t a b ht]
    · simp only [execOp, ho, hu, hu2, eqGuard_at_bool, Sem.run_bind, Sem.run_pure, Result.andThen_ok, run_neq_bool w t a b ht]; rfl) hk

/-- A byte of a string. -/
theorem OpA.sindex {t : TypeId} {x ix : Operand} {k : IntKind} {j : Int} {s : ByteArray} {u : UInt8} (ho : o.op = .index t x ix) (ht : P.underlying t = some .string) (hx : ev fr x = .s s) (hi : ev fr ix = .v (.int k j)) (h0 : 0 ≤ j)
    (hu : s.data.toList[j.toNat]? = some u) (hk : K (.v (.int .u8 u.toNat)) h) : OpA P o fr h K :=
  .of_quiet (fun A M w0 ac w _ hv => by
    have h1 := hv x (by simp [ho, Op.operands])
    have h2 := hv ix (by simp [ho, Op.operands])
    rw [hx] at h1; rw [hi] at h2
    generalize hu1 : ac.eval x = u1 at h1
    generalize hu2 : ac.eval ix = u2 at h2
    cases h1; cases h2
    have hs : s[j.toNat]? = some u := by
      have hlt := (List.getElem?_eq_some_iff.1 hu).1
      have hlt' : j.toNat < s.size := by simpa using hlt
      rw [getElem?_pos s j.toNat hlt']
      have := (List.getElem?_eq_some_iff.1 hu).2
      simp at this
      rw [← this]; rfl
    exact ⟨.int .u8 u.toNat, by simp [execOp, ho, hu1, hu2, Instr.index, asIntOf, run_underlying ht, if_pos h0, hs], .v _⟩) hk

theorem OpA.len {t : TypeId} {c : Call} {x : Operand} {e : TypeId} {n : Nat} (ho : o.op = .call c) (hc : c.callee = .builtin .len) (ha : c.args = #[x]) (hty : c.argTypes = #[t]) (ht : P.underlying t = some (.slice e))
    (hx : (∃ sz ds, ev fr x = .list sz ds ∧ n = ds.length) ∨ (∃ c sz i, ev fr x = .own c sz i n) ∨ (ev fr x = .v (.slice none 0 0) ∧ n = 0)) (hk : K (.i n) h) : OpA P o fr h K :=
  .of_quiet (fun A M w0 ac w _ hv => by
    have h1 := hv x (by simp [ho, Op.operands, Call.operands, hc, ha])
    generalize hu : ac.eval x = u at h1
    have key : ∃ a cap, u = .slice a n cap := by
      rcases hx with ⟨sz, ds, hx, rfl⟩ | ⟨c, sz, i, hx⟩ | ⟨hx, rfl⟩ <;> rw [hx] at h1 <;> cases h1 <;> exact ⟨_, _, rfl⟩
    obtain ⟨a, cap, rfl⟩ := key
    exact ⟨.int .i64 n, by simp [execOp, ho, hc, resolve, invoke, builtin, Builtin.len_, hty, ha, hu, run_underlying ht, goInt], .v _⟩) hk

theorem OpA.slen {t : TypeId} {c : Call} {x : Operand} {s : ByteArray} (ho : o.op = .call c) (hc : c.callee = .builtin .len) (ha : c.args = #[x]) (hty : c.argTypes = #[t]) (ht : P.underlying t = some .string)
    (hx : ev fr x = .s s) (hk : K (.i s.size) h) : OpA P o fr h K :=
  .of_quiet (fun A M w0 ac w _ hv => by
    have h1 := hv x (by simp [ho, Op.operands, Call.operands, hc, ha])
    rw [hx] at h1
    generalize hu : ac.eval x = u at h1
    cases h1
    exact ⟨.int .i64 s.size, by simp [execOp, ho, hc, resolve, invoke, builtin, Builtin.len_, hty, ha, hu, run_underlying ht, goInt], .v _⟩) hk

theorem foldlM_min {w : World} {k : IntKind} : ∀ (l : List Int) (z : Int), ((l.map (Value.int k)).foldlM Builtin.min2 (.int k z)).run P w = .ok (.int k (l.foldl (fun x y => if y < x then y else x) z)) w
  | [], z => by simp
  | y :: l, z => by simp only [List.map_cons, List.foldlM_cons, Sem.run_bind, Builtin.min2, Sem.run_pure, Result.andThen_ok, List.foldl_cons]; exact foldlM_min l _

theorem foldlM_max {w : World} {k : IntKind} : ∀ (l : List Int) (z : Int), ((l.map (Value.int k)).foldlM Builtin.max2 (.int k z)).run P w = .ok (.int k (l.foldl (fun x y => if x < y then y else x) z)) w
  | [], z => by simp
  | y :: l, z => by simp only [List.map_cons, List.foldlM_cons, Sem.run_bind, Builtin.max2, Sem.run_pure, Result.andThen_ok, List.foldl_cons]; exact foldlM_max l _

theorem ev_ints {w : World} {X : Nat → Prop} {k : IntKind} {ac : Act} : ∀ (xs : List Operand) (l : List Int), (∀ x ∈ xs, V w X (ev fr x) (ac.eval x)) → xs.map (ev fr) = l.map (fun n => .v (.int k n)) → xs.map ac.eval = l.map (Value.int k)
  | [], [], _, _ => rfl
  | [], _ :: _, _, h => by simp at h
  | _ :: _, [], _, h => by simp at h
  | x :: xs, n :: l, hv, h => by
    simp only [List.map_cons, List.cons.injEq] at h
    have h1 := hv x (by simp)
    rw [h.1] at h1
    generalize hu : ac.eval x = u at h1
    cases h1
    simp only [List.map_cons, hu, ev_ints xs l (fun y hy => hv y (List.mem_cons_of_mem _ hy)) h.2]

theorem OpA.min {c : Call} {xs : List Operand} {k : IntKind} {z : Int} {l : List Int} (ho : o.op = .call c) (hc : c.callee = .builtin .min) (ha : c.args.toList = xs) (hx : xs.map (ev fr) = (z :: l).map (fun n => .v (.int k n)))
    (hk : K (.v (.int k (l.foldl (fun x y => if y < x then y else x) z))) h) : OpA P o fr h K :=
  .of_quiet (fun A M w0 ac w _ hv => by
    have h1 := ev_ints (ac := ac) xs (z :: l) (fun x hx => hv x (by rw [← ha] at hx; simp [ho, Op.operands, Call.operands, hc]; simpa using hx)) hx
    have h2 : (c.args.map ac.eval).toList = .int k z :: l.map (Value.int k) := by rw [Array.toList_map, ha, h1]; rfl
    exact ⟨_, by simp only [execOp, ho, hc, resolve, invoke, builtin, Builtin.min_, Sem.run_bind, Sem.run_pure, Result.andThen_ok, h2, foldlM_min], .v _⟩) hk

theorem OpA.max {c : Call} {xs : List Operand} {k : IntKind} {z : Int} {l : List Int} (ho : o.op = .call c) (hc : c.callee = .builtin .max) (ha : c.args.toList = xs) (hx : xs.map (ev fr) = (z :: l).map (fun n => .v (.int k n)))
    (hk : K (.v (.int k (l.foldl (fun x y => if x < y then y else x) z))) h) : OpA P o fr h K :=
  .of_quiet (fun A M w0 ac w _ hv => by
    have h1 := ev_ints (ac := ac) xs (z :: l) (fun x hx => hv x (by rw [← ha] at hx; simp [ho, Op.operands, Call.operands, hc]; simpa using hx)) hx
    have h2 : (c.args.map ac.eval).toList = .int k z :: l.map (Value.int k) := by rw [Array.toList_map, ha, h1]; rfl
    exact ⟨_, by simp only [execOp, ho, hc, resolve, invoke, builtin, Builtin.max_, Sem.run_bind, Sem.run_pure, Result.andThen_ok, h2, foldlM_max], .v _⟩) hk
end
end Go.Lic
