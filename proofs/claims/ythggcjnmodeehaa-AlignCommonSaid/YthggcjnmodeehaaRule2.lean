/-
  More rules, in the forms in which the scripts use them.
-/
import Derived.Test.YthggcjnmodeehaaRule
import Derived.ChangeKeysEq
set_option linter.all false
namespace Go.Lic

theorem nat_add (a b : Nat) : (a : Int) + (b : Int) = ((a + b : Nat) : Int) := rfl
theorem nat_add1 (a : Nat) : (a : Int) + 1 = ((a + 1 : Nat) : Int) := rfl
theorem nat_sub1 {a : Nat} (h : 1 ≤ a) : (a : Int) - 1 = ((a - 1 : Nat) : Int) := by omega
theorem nat_sub {a b : Nat} (h : b ≤ a) : (a : Int) - (b : Int) = ((a - b : Nat) : Int) := by omega
theorem natp1 {a : Int} {n : Nat} (h : a = (n : Int)) : a + 1 = ((n + 1 : Nat) : Int) := by omega
theorem nat_lit0 : (0 : Int) = ((0 : Nat) : Int) := rfl
theorem nat_lit1 : (1 : Int) = ((1 : Nat) : Int) := rfl
theorem nat_lit2 : (2 : Int) = ((2 : Nat) : Int) := rfl
theorem nat_of {a : Int} (h : 0 ≤ a) : a = ((a.toNat : Nat) : Int) := by omega

theorem getO {pre xs : List D} {i : Nat} (h : i < xs.length) : (pre ++ xs)[pre.length + i]? = some xs[i] := by
  rw [List.getElem?_append_right (by omega)]
  simp [h]

theorem Snap.vec {f : Bool} {h : Heap} {c sz n : Nat} {pre xs ds ds' : List D} (hh : Has c (.cells sz (pre ++ xs)) h) (hn : xs.length = n) (hp : f = true → ∀ d ∈ D.flats xs, Plain d) (hs : Snap f h ds ds') : Snap f h (.own c sz pre.length n :: ds) (.list sz xs :: ds') := by
  have e1 : ((pre ++ xs).drop pre.length).take n = xs := by rw [List.drop_left]; exact List.take_of_length_le (by omega)
  have := Snap.ownp (f := f) (ds := ds) (ds' := ds') (i := pre.length) (len := n) hh (by simp; omega) (by rw [e1]; exact hp) hs
  rwa [e1] at this

inductive OkL (fr : Nat → D) (sz : Nat) : List (Nat × Operand) → Prop
  | nil : OkL fr sz []
  | cons {p : Nat × Operand} {l : List (Nat × Operand)} (h : (ev fr p.2).ok sz) (hs : OkL fr sz l) : OkL fr sz (p :: l)

inductive OkE (fr : Nat → D) : List (Nat × Operand) → Prop
  | nil : OkE fr []
  | cons {sz : Nat} {p : Nat × Operand} {l : List (Nat × Operand)} (h : (ev fr p.2).ok sz) (hs : OkE fr l) : OkE fr (p :: l)

theorem OkL.all {fr : Nat → D} {sz : Nat} : ∀ {l : List (Nat × Operand)}, OkL fr sz l → ∀ p ∈ l, (ev fr p.2).ok sz
  | _, .nil, _, h => by simp at h
  | _, .cons h hs, p, hp => by
    rcases List.mem_cons.1 hp with rfl | hp
    · exact h
    · exact hs.all p hp

theorem OkE.all {fr : Nat → D} : ∀ {l : List (Nat × Operand)}, OkE fr l → ∀ p ∈ l, ∃ sz, (ev fr p.2).ok sz
  | _, .nil, _, h => by simp at h
  | _, .cons h hs, p, hp => by
    rcases List.mem_cons.1 hp with rfl | hp
    · exact ⟨_, h⟩
    · exact hs.all p hp

section
variable {P : Program} {o : Oper} {fr : Nat → D} {h : Heap} {K : D → Heap → Prop}

theorem OpA.mv {x : Operand} {d : D} (ho : o.op = .move x) (hd : ev fr x = d) (hk : K d h) : OpA P o fr h K := .move ho (by rw [hd]; exact hk)
theorem OpA.asn {x : Operand} {d : D} (ho : o.op = .assign x) (hd : ev fr x = d) (hk : K d h) : OpA P o fr h K := .assign ho (by rw [hd]; exact hk)
theorem OpA.pck {c x y : Operand} {b : Bool} {d : D} (ho : o.op = .pick c x y) (hc : ev fr c = .b b) (hd : sel b (ev fr x) (ev fr y) = d) (hk : K d h) : OpA P o fr h K :=
  .pick ho hc (by cases b <;> (simp only [sel] at hd; subst hd; exact hk))
theorem OpA.bx {e : TypeId} {x : Operand} {sz : Nat} {d : D} (ho : o.op = .box e x) (hd : ev fr x = d) (hx : d.ok sz) (hk : ∀ c, c ∉ keys h → K (.ptr c sz 0 0) ((c, .cells sz [d]) :: h)) : OpA P o fr h K :=
  .box ho (by rw [hd]; exact hx) (by rw [hd]; exact hk)
theorem OpA.nc {x : Operand} {d : D} (ho : o.op = .nilCheck x) (hd : ev fr x = d) (hx : (∃ c sz i k, d = .ptr c sz i k) ∨ (∃ e k, d = .iptr e k) ∨ (∃ f cs, d = .fn (.func f) [] cs)) (hk : K d h) : OpA P o fr h K :=
  .nilCheck ho (by rw [hd]; exact hx) (by rw [hd]; exact hk)

theorem OpA.iixN {t et : TypeId} {bytes : Nat} {agg : Bool} {x ix : Operand} {kd : IntKind} {j : Int} {sz n : Nat} {ds : List D} {e : D} (ho : o.op = .indexAddr t x ix) (ht : TS P t et sz bytes agg) (hsz : Nat.blt 0 sz = true) (hx : ev fr x = .list sz ds)
    (hi : ev fr ix = .v (.int kd j)) (hj : j = (n : Int)) (he : ds[n]? = some e) (hk : K (.iptr e 0) h) : OpA P o fr h K :=
  .iindexAddr ho ht hsz hx hi (by omega) (by subst hj; simpa using he) hk
theorem OpA.ixN {t et : TypeId} {bytes : Nat} {agg : Bool} {x ix : Operand} {kd : IntKind} {j : Int} {c sz i len n : Nat} (ho : o.op = .indexAddr t x ix) (ht : TS P t et sz bytes agg) (hx : ev fr x = .own c sz i len)
    (hi : ev fr ix = .v (.int kd j)) (hj : j = (n : Int)) (hl : n < len) (hk : K (.ptr c sz (i + n) 0) h) : OpA P o fr h K :=
  .indexAddr ho ht hx hi (by omega) (by omega) (by subst hj; simpa using hk)
theorem OpA.aixN {t et : TypeId} {len esz : Nat} {agg : Bool} {x ix : Operand} {kd : IntKind} {j : Int} {c sz i k n : Nat} (ho : o.op = .indexAddr t x ix) (ht : P.underlying t = some (.array len et)) (hte : TI P et esz agg) (hx : ev fr x = .ptr c sz i k)
    (hi : ev fr ix = .v (.int kd j)) (hj : j = (n : Int)) (hl : n < len) (hk : K (.ptr c sz i (k + n * esz)) h) : OpA P o fr h K :=
  .aindexAddr ho ht hte hx hi (by omega) (by omega) (by subst hj; simpa using hk)
theorem OpA.iaixN {t et : TypeId} {len esz : Nat} {agg : Bool} {x ix : Operand} {kd : IntKind} {j : Int} {k n : Nat} {e : D} (ho : o.op = .indexAddr t x ix) (ht : P.underlying t = some (.array len et)) (hte : TI P et esz agg) (hx : ev fr x = .iptr e k)
    (hi : ev fr ix = .v (.int kd j)) (hj : j = (n : Int)) (hl : n < len) (hk : K (.iptr e (k + n * esz)) h) : OpA P o fr h K :=
  .iaindexAddr ho ht hte hx hi (by omega) (by omega) (by subst hj; simpa using hk)
theorem OpA.sixN {t : TypeId} {x ix : Operand} {k : IntKind} {j : Int} {n : Nat} {s : ByteArray} {u : UInt8} (ho : o.op = .index t x ix) (ht : P.underlying t = some .string) (hx : ev fr x = .s s) (hi : ev fr ix = .v (.int k j)) (hj : j = (n : Int))
    (hu : s.data.toList[n]? = some u) (hk : K (.v (.int .u8 u.toNat)) h) : OpA P o fr h K := .sindex ho ht hx hi (by omega) (by subst hj; simpa using hu) hk

theorem vl_vals {w : World} {X : Nat → Prop} : ∀ (xs ys : List Value), VL w X (xs.map D.v) ys → ys = xs
  | [], ys, h => by cases h; rfl
  | x :: xs, ys, h => by
    cases h with
    | cons h1 h2 => cases h1; rw [vl_vals xs _ h2]

/-- Structs and arrays of plain values: equal or not. -/
theorem OpA.aggcmp {op : BinOp} {t t2 : TypeId} {x y : Operand} {xs ys : List Value} {r : Bool} (ho : o.op = .binOp op t x y t2) (hm : P.eqGuardType P.depth t = false) (hx : ev fr x = .agg (xs.map D.v)) (hy : ev fr y = .agg (ys.map D.v))
    (he : ∀ w, (Op.equalIn 10000 t (.agg xs.toArray) (.agg ys.toArray)).run P w = .ok r w) {b : Bool} (hop : (op = .eql ∧ b = r) ∨ (op = .neq ∧ b = !r)) (hk : K (.b b) h) : OpA P o fr h K :=
  .of_quiet (fun A M w0 ac w _ hv => by
    have h1 := hv x (by simp [ho, Op.operands])
    have h2 := hv y (by simp [ho, Op.operands])
    rw [hx] at h1; rw [hy] at h2
    generalize hu : ac.eval x = u at h1
    generalize hu2 : ac.eval y = u2 at h2
    cases h1 with
    | agg h1 =>
      cases h2 with
      | agg h2 =>
        have e1 := vl_vals _ _ h1
        have e2 := vl_vals _ _ h2
        subst e1; subst e2
        refine ⟨.bool b, ?_, .v _⟩
        have hg : ∀ op (xs ys : Array Value), (eqGuard op t x y (.agg xs) (.agg ys)).run P w = .ok () w := fun op xs ys => run_eqGuard_agg w op t x y xs ys hm
        rcases hop with ⟨rfl, rfl⟩ | ⟨rfl, rfl⟩
        · simp only [execOp, ho, hu, hu2, Sem.run_bind, hg, Result.andThen_ok, run_eql_struct, he, Sem.run_pure]
        · simp only [execOp, ho, hu, hu2, Sem.run_bind, hg, Result.andThen_ok, run_neq_struct, he, Sem.run_pure]) hk

/-- append to a slice of our own, told as a list xs behind something. -/
theorem OpA.appendV {t e : TypeId} {sz bytes : Nat} {agg : Bool} {cl : Call} {s x : Operand} {c n : Nat} {pre xs ds : List D} {hf : Nat → Blk → Heap} (ho : o.op = .call cl) (hc : cl.callee = .builtin .append) (ha : cl.args = #[s, x]) (hty : cl.argTypes = #[t, t])
    (ht : TS P t e sz bytes agg) (hs : ev fr s = .own c sz pre.length n) (hrepl : ∀ c' b', Repl c (.cells sz (pre ++ xs)) c' b' h (hf c' b')) (hx : SrcIs h sz (ev fr x) ds) (hxs : xs.length = n)
    (hbytes : (n + ds.length) * bytes ≤ 140737488355328) (hmax : n + ds.length ≤ 9223372036854775807) (hk : ∀ c' pre', K (.own c' sz pre'.length (n + ds.length)) (hf c' (.cells sz (pre' ++ (xs ++ ds))))) : OpA P o fr h K :=
  .append ho hc ha hty ht hs hrepl hx (by simp; omega) hbytes hmax (fun c' pre' => by
    have e1 : ((pre ++ xs).drop pre.length).take n = xs := by rw [List.drop_left]; exact List.take_of_length_le (by omega)
    rw [e1, List.append_assoc]; exact hk c' pre')

theorem OpA.ibuildSliceO {t e : TypeId} {sz bytes len : Nat} {agg : Bool} {parts : Array (Nat × Operand)} (ho : o.op = .buildSlice t len parts) (ht : TS P t e sz bytes agg) (hidx : parts.toList.map (·.1) = List.range len)
    (hok : OkL fr sz parts.toList) (hb : len * sz ≤ 16777216) (hk : K (.list sz (parts.toList.map fun p => ev fr p.2)) h) : OpA P o fr h K := .ibuildSlice ho ht hidx hok.all hb hk

theorem OpA.buildSliceO {t e : TypeId} {sz bytes len : Nat} {agg : Bool} {parts : Array (Nat × Operand)} (ho : o.op = .buildSlice t len parts) (ht : TS P t e sz bytes agg) (hidx : parts.toList.map (·.1) = List.range len)
    (hok : OkL fr sz parts.toList) (hb : len * sz ≤ 16777216) (hk : ∀ c, K (.own c sz 0 len) ((c, .cells sz (parts.toList.map fun p => ev fr p.2)) :: h)) : OpA P o fr h K := .buildSlice ho ht hidx hok.all hb hk

theorem OpA.buildO {t : TypeId} {parts : Array (Nat × Operand)} {pl : List (Nat × Nat)} {zc : Array Value} {zs ds : List D} (ho : o.op = .build t parts) (hp : placesOf P t = some pl) (hz : (P.info? t).bind (·.zero) = some (.agg zc))
    (hzs : ∀ w X, VL w X zs zc.toList) (hok : OkE fr parts.toList) (hd : fillD (pl[·]?) zs (parts.toList.map fun p => (p.1, ev fr p.2)) = some ds) (hk : K (.agg ds) h) : OpA P o fr h K := .build ho hp hz hzs hok.all hd hk

/-- A new variable that nobody will write. -/
theorem OpA.ibox {e : TypeId} {x : Operand} {sz : Nat} (ho : o.op = .box e x) {d : D} (hd : ev fr x = d) (hx : d.ok sz) (hk : K (.iptr d 0) h) : OpA P o fr h K :=
  .of_run fun A M w0 a w hr hv => by
    have h1 := hv x (by simp [ho, Op.operands])
    rw [hd] at h1
    obtain ⟨h3, h4⟩ := hr.allocOut (.cells (a.eval x).cells e)
    refine ⟨.pointer (some ⟨w.heap.size, 0, none⟩), _, _, _, by simp [execOp, ho, Instr.box, newVar, newRow], hk, h3, h4, ?_⟩
    refine .iptr (b := w.heap.size) (o := 0) (k := 0) (cs := (a.eval x).cells.toList) hx.2 ((h1.cells hx).mono h4) (.inr ⟨fun hxx => by have := hr.xlt hxx; omega, fun j c hj => ?_⟩)
    simpa using hj

/-- An array literal. -/
theorem OpA.buildArr {t et : TypeId} {len esz : Nat} {agg : Bool} {parts : Array (Nat × Operand)} {zc : Array Value} {zs ds : List D} (ho : o.op = .build t parts) (ht : P.underlying t = some (.array len et)) (hte : TI P et esz agg) (hz : (P.info? t).bind (·.zero) = some (.agg zc))
    (hzs : ∀ w X, VL w X zs zc.toList) (hok : OkL fr esz parts.toList) (hd : fillD (fun i => some (i * esz, esz)) zs (parts.toList.map fun p => (p.1, ev fr p.2)) = some ds) (hk : K (.agg ds) h) : OpA P o fr h K :=
  .of_quiet (fun A M w0 ac w _ hv => by
    have hvs := parts_VL (ac := ac) parts.toList (fun p hp => hv p.2 (by simp [ho, Op.operands]; exact ⟨p.1, by simpa using hp⟩))
    obtain ⟨cs', h1, h2⟩ := fill_of_fillD (place := fun i => some (i * esz, esz)) (parts.toList.map fun p => (p.1, ev fr p.2)) (parts.toList.map fun p => (p.1, ac.eval p.2)) zs ds zc (hzs w _) (by simp) (by rw [List.map_map, List.map_map]; exact hvs)
      (by intro p hp; obtain ⟨q, hq, rfl⟩ := List.mem_map.1 hp; exact ⟨esz, hok.all q hq⟩) hd
    refine ⟨.agg cs', ?_, .agg (vs := cs'.toList) h2⟩
    have hzr : (zeroValue t).run P w = .ok (.agg zc) w := by
      obtain ⟨i, hi, hi2⟩ := Option.bind_eq_some_iff.1 hz
      simp [zeroValue, typeInfo, hi, hi2]
    have hpt : (parts.map fun (x : Nat × Operand) => (x.1, ac.eval x.2)).toList = parts.toList.map fun p => (p.1, ac.eval p.2) := by simp
    simp only [execOp, ho, Instr.build, Sem.run_bind, hzr, Result.andThen_ok, run_underlying ht, hte.size, Value.cells, hpt, h1]
    rfl) hk

/-- s[l:r:m], s of the call's own. -/
theorem OpA.slice3 {t et : TypeId} {bytes : Nat} {agg : Bool} {x yr ym : Operand} {lo : Option Operand} {c sz i len l : Nat} {kr km : IntKind} {r m : Int} (ho : o.op = .slice t x lo (some yr) (some ym)) (ht : TS P t et sz bytes agg) (hx : ev fr x = .own c sz i len)
    (hl : Bd fr lo 0 l) (hr : ev fr yr = .v (.int kr r) ∧ 0 ≤ r) (hm : ev fr ym = .v (.int km m) ∧ 0 ≤ m) (h1 : l ≤ r.toNat) (h2 : r.toNat ≤ m.toNat) (h3 : m.toNat ≤ len) (hk : K (.own c sz (i + l) (r.toNat - l)) h) : OpA P o fr h K :=
  .of_quiet (fun A M w0 ac w _ hv => by
    have hxo : x ∈ o.op.operands := by simp [ho, Op.operands]
    have hro : yr ∈ o.op.operands := by simp [ho, Op.operands]
    have hmo : ym ∈ o.op.operands := by simp [ho, Op.operands]
    have hvx := hv x hxo
    have hvr := hv yr hro
    have hvm := hv ym hmo
    rw [hx] at hvx; rw [hr.1] at hvr; rw [hm.1] at hvm
    generalize hu : ac.eval x = u at hvx
    generalize hur : ac.eval yr = ur at hvr
    generalize hum : ac.eval ym = um at hvm
    cases hvr; cases hvm
    cases hvx with
    | @own _ _ _ _ cap a hc hd =>
      have hb : (Instr.sliceBounds true len cap (lo.map ac.eval) (some (.int kr r)) (some (.int km m))).run P w = .ok (l, r.toNat, m.toNat) w := by
        cases hl with
        | none => simp [Instr.sliceBounds, run_sliceBound' hm.2 (show m.toNat ≤ cap by omega), run_sliceBound' hr.2 h2]
        | some hlx hl0 =>
          rename_i lx lk li
          have hlo : lx ∈ o.op.operands := by simp [ho, Op.operands]
          have hvl := hv lx hlo
          rw [hlx] at hvl
          generalize hul : ac.eval lx = ul at hvl
          cases hvl
          simp [Instr.sliceBounds, hul, run_sliceBound' hm.2 (show m.toNat ≤ cap by omega), run_sliceBound' hr.2 h2, run_sliceBound' hl0 h1]
      refine ⟨.slice (if m.toNat = l then a else a.map (·.add (l * sz))) (r.toNat - l) (m.toNat - l), ?_, .own (by omega) ?_⟩
      · simp [execOp, ho, hu, hur, hum, Instr.sliceAt, Instr.slice, run_underlying ht.desc, hb, ht.elem.size]
      · rcases hd with ⟨hc2, rfl, e, n, hs, hn⟩ | ⟨hz, hz2⟩
        · by_cases hcl : m.toNat = l
          · exact .inr ⟨by omega, by omega⟩
          · refine .inl ⟨hc2, by simp [if_neg hcl, Addr.add_lit, Nat.add_mul], e, n, hs, Nat.le_trans (Nat.mul_le_mul_right _ (by omega)) hn⟩
        · exact .inr ⟨by omega, by omega⟩) hk
end

theorem wpA_drawV {P : Program} {n : Nat} {ops : Array Oper} {Q : Post} {fr : Nat → D} {h : Heap} {id m p q tp sz : Nat} (hm : P.follows .mixedOrders = true) (hok : drawOk1 ops.toList m p q tp = true) (hn : (ops.toList.take m).all (fun o => (o.dst.all fun d => Nat.blt d n)) = true)
    (hdet : DetK1 P ops h tp sz (ops.toList.take m) fr fun fr' ds => ∃ d, ds[q]? = some d ∧ d.ok sz ∧ ∀ c, wpL P n ops (ops.toList.drop m) Q (upd fr' tp (.ptr c sz 0 0)) ((c, .cells sz [d]) :: h)) : wpA P n (.region id ops true) Q fr h := by
  obtain ⟨ds, h1, d, h2, h3, h4⟩ := hdet
  have e : ds.getD q .top = d := by simp [h2]
  exact wpA_draw1 hm hok hn ⟨ds, h1, by rw [e]; exact h3, by rw [e]; exact h4⟩

theorem RetA.some {P : Program} {fn : Func} {K : D → Heap → Prop} {fr : Nat → D} {h : Heap} {ds : List D} (h1 : ResL P fr h fn.results.toList ds) (h2 : K (tupD ds) h) : RetA P fn K .ret fr h := ⟨ds, h1, h2⟩
end Go.Lic
