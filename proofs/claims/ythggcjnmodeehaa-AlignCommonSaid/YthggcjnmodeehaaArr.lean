/-
  Arrays of numbers: a place that is reckoned.
-/
import Derived.Test.YthggcjnmodeehaaBytes
set_option linter.all false
namespace Go.Lic

/-- The cells of an array of n, in front of and behind others. -/
abbrev arrC {α : Type} [Inhabited α] (n : Nat) (e : α → D) (l : List α) : List D := (List.range n).map fun i => e (l.getD i default)

section
variable {α : Type} [Inhabited α] {e : α → D} {n off : Nat} {l : List α} {A B : List D} {j : Int}
theorem arrC_length : (arrC n e l).length = n := by simp
theorem arrAt (hA : A.length = off) (hj : inL j n) : (A ++ (arrC n e l ++ B))[off + j.toNat * 1]? = some (e (gi l j)) := by
  rw [Nat.mul_one, List.getElem?_append_right (by omega), hA, Nat.add_sub_cancel_left, List.getElem?_append_left (by rw [arrC_length]; omega)]
  simp [show j.toNat < n by omega, gi]
theorem arrAt0 (hj : inL j n) : (arrC n e l)[0 + j.toNat * 1]? = some (e (gi l j)) := by
  have := arrAt (e := e) (l := l) (A := []) (B := []) (off := 0) rfl hj
  simpa using this
theorem arrSet {v : α} (hA : A.length = off) (hj : inL j n) (hl : l.length = n) : A ++ (arrC n e (si l j v) ++ B) = setAt (A ++ (arrC n e l ++ B)) (off + j.toNat * 1) [e v] := by
  rw [Nat.mul_one]
  simp only [setAt]
  rw [List.set_append_right _ _ (by omega), hA, Nat.add_sub_cancel_left, List.set_append_left _ _ (by rw [arrC_length]; omega)]
  congr 2
  apply List.ext_getElem?
  intro i
  rw [List.getElem?_set]
  by_cases hi : i < n
  · simp only [arrC, List.getElem?_map, List.getElem?_range hi, Option.map_some, List.length_map, List.length_range]
    split
    · rename_i h; subst h
      rw [if_pos (by omega), si, List.getD_eq_getElem?_getD, List.getElem?_set]
      simp [show j.toNat < l.length by omega]
    · rename_i h
      rw [si, List.getD_eq_getElem?_getD, List.getElem?_set, if_neg (by omega), List.getD_eq_getElem?_getD]
  · rw [List.getElem?_eq_none (by simp; omega), if_neg (by omega), List.getElem?_eq_none (by simp; omega)]
theorem arrSet0 {v : α} (hj : inL j n) (hl : l.length = n) : arrC n e (si l j v) = setAt (arrC n e l) (0 + j.toNat * 1) [e v] := by
  have := arrSet (e := e) (l := l) (A := []) (B := []) (off := 0) (v := v) rfl hj hl
  simpa using this
theorem arrFit (hA : A.length = off) (hj : inL j n) : off + j.toNat * 1 + 1 ≤ (A ++ (arrC n e l ++ B)).length := by
  rw [List.length_append, List.length_append, arrC_length]; omega
theorem arrFit0 (hj : inL j n) : 0 + j.toNat * 1 + 1 ≤ (arrC n e l).length := by rw [arrC_length]; omega
theorem arrTake (hA : A.length = off) : ((A ++ (arrC n e l ++ B)).drop off).take n = arrC n e l := by
  rw [← hA, List.drop_left, List.take_append_of_le_length (by rw [arrC_length]; omega)]
  exact List.take_of_length_le (by rw [arrC_length]; omega)
theorem arrPut {l' : List α} (hA : A.length = off) : A ++ (arrC n e l' ++ B) = setAt (A ++ (arrC n e l ++ B)) off (arrC n e l') := by
  rw [setAt_eq _ _ _ (by simp; omega)]
  rw [← hA, List.take_left, List.append_assoc]
  congr 2
  rw [← List.drop_drop, List.drop_left, List.drop_append_of_le_length (by rw [arrC_length, arrC_length]; omega)]
  rw [List.drop_eq_nil_of_le (by rw [arrC_length, arrC_length]; omega)]; rfl
theorem arrPut2 {A1 A2 : List D} {l' : List α} (hA : (A1 ++ A2).length = off) : A1 ++ (A2 ++ (arrC n e l' ++ B)) = setAt (A1 ++ (A2 ++ (arrC n e l ++ B))) off (arrC n e l') := by
  have := arrPut (e := e) (n := n) (l := l) (l' := l') (B := B) hA
  rw [List.append_assoc, List.append_assoc] at this; exact this
theorem arrPutH {l' : List α} : arrC n e l' ++ B = setAt (arrC n e l ++ B) 0 (arrC n e l') := arrPut (A := []) rfl
theorem arr_cells (he : ∀ x, (e x).cell = true) : ∀ x ∈ arrC n e l, x.cell = true := by
  intro x hx; obtain ⟨i, _, rfl⟩ := List.mem_map.1 hx; exact he _
end

section
variable {P : Program} {o : Oper} {fr : Nat → D} {h : Heap} {K : D → Heap → Prop}

/-- An element of an array value. -/
theorem OpA.aindexV {t et : TypeId} {len : Nat} {x ix : Operand} {kd k : IntKind} {j : Int} {l : List Int} (ho : o.op = .index t x ix) (ht : P.underlying t = some (.array len et)) (hte : TI P et 1 false) (hx : ev fr x = encArr len (D.k k) l)
    (hi : ev fr ix = .v (.int kd j)) (hb : inL j len) (hk : K (.v (.int k (gi l j))) h) : OpA P o fr h K :=
  .of_quiet (fun A M w0 a w _ hv => by
    have h1 := hv x (by simp [ho, Op.operands])
    have h2 := hv ix (by simp [ho, Op.operands])
    rw [hx] at h1; rw [hi] at h2
    generalize hu : a.eval x = u at h1
    generalize hu2 : a.eval ix = u2 at h2
    cases h2
    cases h1 with
    | @agg _ vs h1 =>
      obtain ⟨v, h3, h4⟩ := h1.get j.toNat (D.k k (gi l j)) (by
        have := arrAt0 (e := D.k k) (l := l) hb
        simpa using this)
      cases h4
      refine ⟨.int k (gi l j), ?_, .v _⟩
      have hp : (part et vs.toArray (j.toNat * 1)).run P w = .ok (.int k (gi l j)) w := by
        simp only [part, Sem.run_bind, hte.isAgg, Result.andThen_ok, Bool.false_eq_true, if_false, Nat.mul_one]
        simp [h3]
      simp only [execOp, ho, hu, hu2, Instr.index, asIntOf, Sem.run_bind, Sem.run_pure, Result.andThen_ok, run_underlying ht, Sem.run_ite, if_pos (And.intro hb.1 hb.2), hte.size, hp]) hk

/-- A pointer of our own is not nil. -/
theorem OpA.ptrNil {op : BinOp} {t t2 te : TypeId} {x y : Operand} {c sz i k : Nat} {b : Bool} (ho : o.op = .binOp op t x y t2) (ht : P.underlying t = some (.pointer te)) (hx : ev fr x = .ptr c sz i k) (hy : ev fr y = .v (.pointer none))
    (hop : (op = .eql ∧ b = false) ∨ (op = .neq ∧ b = true)) (hk : K (.b b) h) : OpA P o fr h K :=
  .of_quiet (fun A M w0 ac w _ hv => by
    have h1 := hv x (by simp [ho, Op.operands])
    have h2 := hv y (by simp [ho, Op.operands])
    rw [hx] at h1; rw [hy] at h2
    generalize hu : ac.eval x = u at h1
    generalize hu2 : ac.eval y = u2 at h2
    cases h1; cases h2
    have hd : ∀ (d : Nat) (a : Addr), (Op.equalIn (d + 1) t (.pointer (some a)) (.pointer none)).run P w = .ok false w := fun d a => by simp [Op.equalIn, run_underlying ht]
    refine ⟨.bool b, ?_, .v _⟩
    rcases hop with ⟨rfl, rfl⟩ | ⟨rfl, rfl⟩
    · simp [execOp, ho, hu, hu2, eqGuard, binOp, Op.equal, Op.maxDepth, hd 9999]
    · simp [execOp, ho, hu, hu2, eqGuard, binOp, Op.equal, Op.maxDepth, hd 9999]) hk

/-- Arrays of numbers: equal or not. -/
theorem run_equal_arr {t et : TypeId} {len : Nat} {k : IntKind} (ht : P.underlying t = some (.array len et)) (hte : TI P et 1 false) (hu : P.underlying et = some (.int k)) (a b : List Int) (w : World) (d : Nat) :
    (Op.equalIn (d + 2) t (.agg ((List.range len).map fun i => Value.int k (a.getD i 0)).toArray) (.agg ((List.range len).map fun i => Value.int k (b.getD i 0)).toArray)).run P w = .ok (aeq len a b) w := by
  have hi : ∃ i, P.info? et = some i := by
    have := hte.size w
    cases h : P.info? et with
    | none => simp [sizeOf, typeInfo, h] at this
    | some i => exact ⟨i, rfl⟩
  obtain ⟨i0, hi0⟩ := hi
  have hsz : P.cellsOf et = 1 := by have := hte.size w; simp [sizeOf, typeInfo, hi0] at this; simp [Program.cellsOf, hi0, this]
  have hp : ∀ (xs : Array Value) i (w : World), (part et xs i).run P w = (match xs[i]? with | some v => .ok v w | none => .halt (.stuck "part: no such cell") w) := by
    intro xs i w
    simp only [part, Sem.run_bind, hte.isAgg, Result.andThen_ok, Bool.false_eq_true, if_false]
    cases xs[i]? <;> simp
  have h3 : ∀ n a c w, (Op.equalIn (n + 1) et (.int k a) (.int k c)).run P w = .ok (a == c) w := by
    intro n a c w
    simp [Op.equalIn, run_underlying hu]
  rw [run_equalIn_array w (d + 1) _ _ ht hi0, hsz]
  have key : ∀ is : List Nat, (∀ i ∈ is, i < len) → (Op.eqItems (d + 1) et 1 ((List.range len).map fun i => Value.int k (a.getD i 0)).toArray ((List.range len).map fun i => Value.int k (b.getD i 0)).toArray is).run P w = .ok (is.all fun i => a.getD i 0 == b.getD i 0) w := by
    intro is
    induction is with
    | nil => intro _; simp [Op.eqItems]
    | cons i is ih =>
      intro hlt
      have hl := hlt i (by simp)
      have ih' := ih (fun j hj => hlt j (by simp [hj]))
      simp only [List.getD_eq_getElem?_getD] at ih' ⊢
      by_cases hq : a[i]?.getD 0 = b[i]?.getD 0
      · simp [Op.eqItems, hp, hl, h3 d, hq, ih']
      · simp [Op.eqItems, hp, hl, h3 d, hq]
  exact key _ (by simp)

theorem OpA.arrcmp {op : BinOp} {t t2 et : TypeId} {x y : Operand} {len : Nat} {k : IntKind} {l m : List Int} {b : Bool} (ho : o.op = .binOp op t x y t2) (hm : P.eqGuardType P.depth t = false) (ht : P.underlying t = some (.array len et)) (hte : TI P et 1 false) (hu : P.underlying et = some (.int k))
    (hx : ev fr x = encArr len (D.k k) l) (hy : ev fr y = encArr len (D.k k) m) (hop : (op = .eql ∧ b = aeq len l m) ∨ (op = .neq ∧ b = !aeq len l m)) (hk : K (.b b) h) : OpA P o fr h K := by
  have e : ∀ l : List Int, encArr len (D.k k) l = .agg (((List.range len).map fun i => Value.int k (l.getD i 0)).map D.v) := fun l => by
    simp only [encArr, List.map_map]; congr 1
  exact .aggcmp (xs := (List.range len).map fun i => Value.int k (l.getD i 0)) (ys := (List.range len).map fun i => Value.int k (m.getD i 0)) ho hm (by rw [hx, e]) (by rw [hy, e]) (fun w => run_equal_arr ht hte hu l m w 9998) hop hk

/-- []byte(s) that nobody writes. -/
theorem OpA.istrBytes {s d e : TypeId} {x : Operand} {y : ByteArray} (ho : o.op = .convert s d x) (hs : P.underlying s = some .string) (hd : P.underlying d = some (.slice e)) (he : P.underlying e = some (.int .u8)) (hx : ev fr x = .s y)
    (hk : K (.list 1 ((sbytes y).map (D.k .u8))) h) : OpA P o fr h K :=
  .of_run fun A M w0 a w hr hv => by
    have h1 := hv x (by simp [ho, Op.operands])
    rw [hx] at h1
    generalize hu : a.eval x = u at h1
    cases h1
    have hrun := Lib.run_convert_string_bytes (P := P) w s d e y hs hd he
    have hnew : OwnCells (Lib.bytesWorld w e y) w.heap.size (Lib.bytesCells w e y) e := ⟨_, Lib.bytesWorld_at_new w e y, .inr (Nat.le_refl _)⟩
    have hvl : VL w (XX A h) (D.flats ((sbytes y).map (D.k .u8))) (y.data.toList.map fun b => Value.int .u8 b.toNat) := by
      rw [flats_u8, sbytes]
      generalize y.data.toList = l
      induction l with
      | nil => exact .nil
      | cons x l ih => exact .cons (.v _) ih
    have hokb : ∀ d ∈ (sbytes y).map (D.k .u8), d.ok 1 := fun d hd => by obtain ⟨n, _, rfl⟩ := List.mem_map.1 hd; exact .of rfl
    obtain ⟨hnk, h5, h6⟩ := hr.allocG (w' := Lib.bytesWorld w e y) (sz := 1) (es := (sbytes y).map (D.k .u8)) (cs := y.data.toList.map fun b => Value.int .u8 b.toNat) (Lib.bytesWorld_size w e y) (fun b hb => Lib.bytesWorld_at_old w e y b hb) hnew rfl rfl rfl hokb hvl (by simp [Lib.bytesCells])
    obtain ⟨h7, h8⟩ := h5.tail
    have hsz : (sbytes y).length = y.size := by simp [sbytes]
    have hnA : ¬ XX A h w.heap.size := fun hx => by
      rcases hx with hx | hx
      · have := hr.old _ hx; omega
      · exact hnk hx
    refine ⟨.slice (some ⟨w.heap.size, 0, none⟩) y.size (grownCap w y.size 0 e), Lib.bytesWorld w e y, _, _, by simp only [execOp, ho, hu, Sem.run_bind, hrun, Result.andThen_ok, Sem.run_pure], hk, h7, h6.trans h8, ?_⟩
    have hl : ((sbytes y).map (D.k .u8)).length = y.size := by simp [sbytes]
    rw [← hl]
    refine .list (b := w.heap.size) (o := 0) hokb (hvl.mono (h6.trans h8)) (fun _ => rfl) (.inr ⟨hnA, fun j c hj => ?_⟩) (by rw [hl]; simp [grownCap, Question.cut])
    have := own_cell hnew (cs := y.data.toList.map fun b => Value.int .u8 b.toNat) (by simp [Lib.bytesCells]) j c hj
    simpa using this

theorem OkL.of {fr : Nat → D} {sz : Nat} : ∀ {l : List (Nat × Operand)}, (∀ p ∈ l, (ev fr p.2).ok sz) → OkL fr sz l
  | [], _ => .nil
  | p :: l, h => .cons (h p (by simp)) (OkL.of fun q hq => h q (by simp [hq]))
/-- An array literal in which every place is given. -/
theorem OpA.buildArrV {t et : TypeId} {len : Nat} {agg : Bool} {k : IntKind} {parts : Array (Nat × Operand)} {zc : Array Value} {xs : List Int} (ho : o.op = .build t parts) (ht : P.underlying t = some (.array len et)) (hte : TI P et 1 agg) (hz : (P.info? t).bind (·.zero) = some (.agg zc))
    (hzl : Nat.beq zc.size len = true) (hidx : parts.toList.map (·.1) = List.range' 0 xs.length) (hxs : (parts.toList.map fun p => ev fr p.2) = xs.map (D.k k)) (hlen : xs.length = len) (hk : K (encArr len (D.k k) xs) h) : OpA P o fr h K := by
  have hzs : zc.size = len := Nat.eq_of_beq_eq_true hzl
  have hok : ∀ d ∈ xs.map (D.k k), d.ok 1 := fun d hd => by obtain ⟨n, _, rfl⟩ := List.mem_map.1 hd; exact .of rfl
  have e : encArr len (D.k k) xs = .agg (xs.map (D.k k)) := by
    unfold encArr
    congr 1
    apply List.ext_getElem (by simp [hlen])
    intro i h1 h2
    simp at h1 h2
    simp [List.getD_eq_getElem?_getD, List.getElem?_eq_getElem h2]
  rw [e] at hk
  have hfl : ∀ l : List Int, D.flats (l.map (D.k k)) = l.map (D.k k) := fun l => by
    induction l with
    | nil => rfl
    | cons x l ih => rw [List.map_cons, flats_cons, ih]; rfl
  refine .buildArr (zs := zc.toList.map D.v) ho ht hte hz (fun w X => ?_) (OkL.of (fun p hp => ?_)) ?_ hk
  · generalize zc.toList = l
    induction l with
    | nil => exact .nil
    | cons x l ih => exact .cons (.v _) ih
  · have : ev fr p.2 ∈ xs.map (D.k k) := by rw [← hxs]; exact List.mem_map.2 ⟨p, hp, rfl⟩
    exact hok _ this
  · have h1 := fillD_row (sz := 1) (xs.map (D.k k)) 0 (zc.toList.map D.v) (parts.toList.map fun p => (p.1, ev fr p.2)) hok (by simp [hzs, hlen]) (by rw [List.map_map, List.length_map]; exact hidx) (by rw [List.map_map]; exact hxs)
    rw [h1, hfl]
    simp [hzs, hlen]
end
end Go.Lic
