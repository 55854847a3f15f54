/-
  Bytes and strings: append of a string, conversions, copy.
-/
import Derived.Test.YthggcjnmodeehaaVs
import Derived.Laws.BytesArg
import Derived.Lib.ConvBytes
set_option linter.all false
namespace Go.Lic

section
variable {P : Program} {o : Oper} {fr : Nat → D} {h : Heap} {K : D → Heap → Prop}

/-- append of elements to a slice of the call's own: of a string's bytes. -/
theorem append_coreSX {A M : Nat → Prop} {w0 w : World} {t ty e : TypeId} {sz bytes : Nat} {agg : Bool} (ht : TS P t e sz bytes agg) (hr : HRel A M w0 h w) {c i len : Nat} {es ds : List D} {hf : Nat → Blk → Heap} {v : Value} {u : TypeId} {s : ByteArray} (hu : P.underlying u = some .string) (hds : ds = (sbytes s).map (D.k .u8)) (hs1 : sz = 1)
    (hrepl : ∀ c' b', Repl c (.cells sz es) c' b' h (hf c' b')) (hil : i + len ≤ es.length) (hv : V w (XX A h) (.own c sz i len) v) (hbytes : (len + ds.length) * bytes ≤ 140737488355328) (hmax : len + ds.length ≤ 9223372036854775807) :
    ∃ v' w' c' pre, (Builtin.append_ #[t, u] ty #[v, .string s]).run P w = .ok v' w' ∧ HRel A M w0 (hf c' (.cells sz (pre ++ (es.drop i).take len ++ ds))) w' ∧
      Mono w (XX A h) w' (XX A (hf c' (.cells sz (pre ++ (es.drop i).take len ++ ds)))) ∧ V w' (XX A (hf c' (.cells sz (pre ++ (es.drop i).take len ++ ds)))) (.own c' sz pre.length (len + ds.length)) v' ∧ (pre.length ≤ i ∧ ((c' = c ∧ ∀ a n cap, v = .slice a n cap → ∃ n', v' = .slice a n' cap) ∨ (∃ a cap, v' = .slice a (len + ds.length) cap ∧ 0 < cap ∧ 0 < len + ds.length ∧ ∃ n, w'.shape? (c' / 2) = some (e, n)))) := by
  have hlen : s.size = ds.length := by rw [hds]; simp [sbytes]
  obtain ⟨cs, hcsd⟩ : ∃ cs : List Value, cs = s.data.toList.map fun b => Value.int .u8 b.toNat := ⟨_, rfl⟩
  have hdok : ∀ x ∈ ds, x.ok sz := by
    intro x hx; rw [hds] at hx; obtain ⟨n, _, rfl⟩ := List.mem_map.1 hx; rw [hs1]; exact .of rfl
  have hdv : VL w (XX A h) (D.flats ds) cs := by
    rw [hds, hcsd, sbytes]
    generalize s.data.toList = l
    induction l with
    | nil => exact .nil
    | cons x l ih => exact .cons (.v _) ih
  have hcl : cs.length = ds.length * sz := by rw [hcsd, hds, hs1]; simp [sbytes]
  have hfirst : ∀ w', (Builtin.firstCells sz ds.length (.string s)).run P w' = .ok cs.toArray w' := by
    intro w'
    rw [← hlen]
    simp only [Builtin.firstCells, Sem.run_pure]
    congr 1
    apply Array.toList_inj.1
    rw [hcsd]
    have : s.extract 0 s.size = s := by simp
    rw [this]
    simp
  have hone : ∀ u ∈ cs, u.oneCell' = true := hdv.oneCell (fun x hx => by
    obtain ⟨y, hy, hxy⟩ := List.mem_flatMap.1 hx
    exact (hdok y hy).2 x hxy)
  obtain ⟨hok, hblk⟩ := hr.cells (hrepl c (.cells sz es)).has
  have hmid := SrcIs.val (SrcIs.own (hrepl c (.cells sz es)).has hil) hr hv
  have hmlen : ((es.drop i).take len).length = len := by simp; omega
  obtain ⟨a, cap, mcs, hve, hmcap, hmok, hmv, hmc⟩ := hmid
  rw [hmlen] at hve hmcap
  subst hve
  have hmcl : mcs.length = len * sz := by rw [← hmv.length, flats_length _ hmok, hmlen]
  have hfirstm := run_firstCells' (P := P) (w := w) (n := len) (cap := cap) hmcl hmc
  by_cases hroom : len + ds.length ≤ cap
  · -- within the capacity
    cases hv with
    | own hlc hd =>
      rcases hd with ⟨hc2, rfl, et0, n0, hsh, hn0⟩ | ⟨hz1, hz2⟩
      · rcases hblk with ⟨hodd, _⟩ | ⟨_, arr, et, ocs, ha, hov, hop⟩
        · omega
        · have hn : (i + cap) * sz ≤ arr.size := by
            simp only [ha.shape, Option.some.injEq, Prod.mk.injEq] at hsh
            rw [← hsh.2] at hn0; exact hn0
          have hfit : (i + len) * sz + cs.length ≤ arr.size := by
            rw [hcl, ← Nat.add_mul]
            exact Nat.le_trans (Nat.mul_le_mul_right _ (by omega)) hn
          obtain ⟨w', arr', g1, g2, g3, g4, g5, g6, g7, g8, g9⟩ := run_storeCells' (P := P) cs 0 ((i + len) * sz) w arr ha hone (by omega)
          simp only [Nat.add_zero] at g1 g3
          have hocl : ocs.length = es.length * sz := by rw [← hov.length, flats_length es hok]
          have hoarr : ocs.length ≤ arr.toList.length := hop.length_le
          have hle : (i + len) * sz ≤ ocs.length := by rw [hocl]; exact Nat.mul_le_mul_right _ hil
          have hpe : es.take i ++ (es.drop i).take len ++ ds = es.take (i + len) ++ ds := by rw [List.take_add]
          have hpl : (es.take i).length = i := by simp; omega
          obtain ⟨r1, r2⟩ := hr.write (sz' := sz) (es' := es.take i ++ (es.drop i).take len ++ ds) (cs' := ocs.take ((i + len) * sz) ++ cs) (hrepl c _) hc2 (by
              intro x hx; rw [hpe] at hx
              rcases List.mem_append.1 hx with hx | hx
              · exact hok x (List.mem_of_mem_take hx)
              · exact hdok x hx) ha g2 g4 (by
              rw [hpe, flats_append, flats_take _ hok]
              exact (hov.take _).append hdv) (by
              obtain ⟨tl, htl⟩ := hop
              rw [g3, setAt_eq _ _ _ (by simpa using hfit)]
              refine ⟨arr.toList.drop ((i + len) * sz + cs.length), ?_⟩
              congr 2
              rw [← htl, List.take_append_of_le_length hle]) g5 g6 g7 g8 g9
          refine ⟨.slice (some ⟨c / 2, i * sz, none⟩) (len + ds.length) cap, w', c, es.take i, ?_, r1, r2, ?_, by simp; omega, .inl ⟨rfl, fun a n cp hv => ⟨_, by cases hv; rfl⟩⟩⟩
          · simp only [Builtin.append_, Array.getElem?_eq_getElem, List.size_toArray, List.length_cons, List.length_nil, Nat.zero_add, Nat.reduceLT, Nat.reduceAdd, List.getElem_toArray, List.getElem_cons_zero, List.getElem_cons_succ,
              Sem.run_bind, run_underlying ht.desc, run_underlying hu, Result.andThen_ok, ht.elem.size, Sem.run_pure, Bool.false_eq_true, if_false, Builtin.lenOf, hlen, hroom, if_true, hfirst w, Addr.add_lit, Bool.not_false, Sem.run_ite]
            rw [show i * sz + len * sz = (i + len) * sz from by rw [Nat.add_mul], g1]
            rfl
          · rw [hpl]
            refine .own hroom (.inl ⟨hc2, rfl, et0, n0, ?_, hn0⟩)
            rw [r2.shape _ (lt_of_shape hsh)]; exact hsh
      · -- nothing is appended to nothing
        have hds0 : ds = [] := List.eq_nil_of_length_eq_zero (by omega)
        clear hds
        subst hds0; subst hz1; subst hz2
        have hcs0 : cs = [] := List.eq_nil_of_length_eq_zero (by simpa using hcl)
        subst hcs0
        have hlen0 : s.size = 0 := by simpa using hlen
        have hfirst0 : (Builtin.firstCells sz 0 (.string s)).run P w = .ok #[] w := by simpa using hfirst w
        refine ⟨.slice a 0 0, w, c, es.take i, ?_, ?_⟩
        · simp only [Builtin.append_, Array.getElem?_eq_getElem, List.size_toArray, List.length_cons, List.length_nil, Nat.zero_add, Nat.reduceLT, Nat.reduceAdd, List.getElem_toArray, List.getElem_cons_zero, List.getElem_cons_succ,
            Sem.run_bind, run_underlying ht.desc, run_underlying hu, Result.andThen_ok, ht.elem.size, Sem.run_pure, Bool.false_eq_true, if_false, Builtin.lenOf, hlen0, Nat.le_refl, if_true, hfirst0, Bool.not_false, Sem.run_ite]
          cases a <;> simp [storeCells]
        · have hpl : (es.take i).length = i := by simp; omega
          have hkeys := (hrepl c (.cells sz (es.take i ++ (es.drop i).take 0 ++ []))).keys_eq
          have hxx : XX A (hf c (.cells sz (es.take i ++ (es.drop i).take 0 ++ []))) = XX A h := by funext b; simp only [XX, hkeys]
          have htk : es.take i ++ (es.drop i).take 0 ++ [] = es.take i := by simp
          refine ⟨?_, by rw [hxx]; exact Mono.refl _ _, by rw [hpl]; exact .own (Nat.le_refl _) (.inr ⟨rfl, rfl⟩), by simp; omega, .inl ⟨rfl, fun a n cp hv => ⟨_, by cases hv; rfl⟩⟩⟩
          obtain ⟨h0, p1, p2⟩ := (hrepl c (.cells sz (es.take i ++ (es.drop i).take 0 ++ []))).perm
          obtain ⟨q1, q2⟩ := hr.perm p1
          refine (HRel.perm (h := (c, .cells sz (es.take i ++ (es.drop i).take 0 ++ [])) :: h0) ?_ p2.symm).1
          rw [htk]
          refine ⟨q1.nodup, ?_, q1.free, q1.mine, q1.bound, q1.old, q1.ext⟩
          intro c1 b1 hc1
          rcases List.mem_cons.1 hc1 with hc1 | hc1
          · cases hc1
            have := q1.blk c (.cells sz es) (by simp)
            have hxx2 : XX A ((c, .cells sz (es.take i)) :: h0) = XX A ((c, .cells sz es) :: h0) := rfl
            rw [hxx2]
            refine ⟨fun x hx => hok x (List.mem_of_mem_take hx), ?_⟩
            rcases this.2 with ⟨hodd, he⟩ | ⟨hev, arr, et, ocs, ha, hov, hop⟩
            · exact .inl ⟨hodd, by rw [he]; simp⟩
            · refine .inr ⟨hev, arr, et, ocs.take (i * sz), ha, by rw [flats_take _ hok]; exact hov.take _, ?_⟩
              exact (List.take_prefix _ _).trans hop
          · exact q1.blk c1 b1 (by simp [hc1])
  · -- a new array
    obtain ⟨z, hz, hzs, hzi⟩ := ht.zeroRun
    obtain ⟨bi, hbi, hbb⟩ := Option.map_eq_some_iff.1 ht.bytes
    have hgrow := growslice_fits (need := len + ds.length) (old := cap) (by omega) hbytes
    have hnm : ¬ ((len + ds.length : Nat) : Int) > IntKind.i64.max := by rw [IntKind.max_i64]; omega
    have hng : ¬ (Builtin.nextslicecap (len + ds.length) cap * bytes > 2 ^ 48) := by omega
    obtain ⟨ncap, hncap, hncapge⟩ : ∃ ncap, (Question.appendCap (len + ds.length) cap e).cut (w.tape w.drawn (.appendCap (len + ds.length) cap e)) = ncap ∧ len + ds.length ≤ ncap := ⟨_, rfl, by simp [Question.cut]⟩
    have hinfo : (typeInfo e).run P w = .ok bi w := by simp [typeInfo, hbi]
    have hinfo' : (typeInfo e).run P w.drew = .ok bi w.drew := by simp [typeInfo, hbi]
    obtain ⟨r1, m1⟩ := hr.quiet (w' := w.drew) rfl rfl rfl rfl
    obtain ⟨h0, p1, _⟩ := (hrepl c (.cells sz es)).perm
    obtain ⟨q1, m2⟩ := r1.perm p1
    obtain ⟨q2, m3⟩ := q1.tail
    have hm : Mono w (XX A h) w.drew (XX A h0) := (m1.trans m2).trans m3
    obtain ⟨_, q3, m4⟩ := q2.alloc (sz := sz) (es := [] ++ (es.drop i).take len ++ ds) (cs := mcs ++ cs) (mcs.toArray ++ cs.toArray ++ Builtin.zeroCells z.cells (ncap - (len + ds.length))) e (by
        intro x hx
        simp only [List.nil_append, List.mem_append] at hx
        rcases hx with hx | hx
        · exact hmok x hx
        · exact hdok x hx) (by
        rw [List.nil_append, flats_append]
        exact (hmv.append hdv).mono hm) (by simp)
    obtain ⟨h0', p1', p2'⟩ := (hrepl (2 * w.heap.size) (.cells sz ([] ++ (es.drop i).take len ++ ds))).perm
    have hp00 : h0'.Perm h0 := List.Perm.cons_inv (p1'.symm.trans p1)
    have hp3 : ((2 * w.heap.size, Blk.cells sz ([] ++ (es.drop i).take len ++ ds)) :: h0).Perm (hf (2 * w.heap.size) (.cells sz ([] ++ (es.drop i).take len ++ ds))) := (List.Perm.cons _ hp00.symm).trans p2'.symm
    obtain ⟨q4, m5⟩ := q3.perm hp3
    refine ⟨.slice (some ⟨w.heap.size, 0, none⟩) (len + ds.length) ncap, _, 2 * w.heap.size, [], ?_, q4, (hm.trans m4).trans m5, ?_, by simp, .inr ⟨_, _, rfl, by omega, by omega, (mcs.toArray ++ cs.toArray ++ Builtin.zeroCells z.cells (ncap - (len + ds.length))).size, by rw [show 2 * w.heap.size / 2 = w.drew.heap.size from by show 2 * w.heap.size / 2 = w.heap.size; omega]; exact shape_alloc_new _ _ _⟩⟩
    · have hz' := hz w.drew
      have hfd := hfirst w.drew
      have hfm : (Builtin.firstCells sz len (.slice a len cap)).run P w.drew = .ok mcs.toArray w.drew := run_firstCells' (P := P) (w := w.drew) hmcl hmc
      have hfalse : ¬ (((len + ds.length : Nat) : Int) > IntKind.i64.max ∧ (False ∨ bi.bytes = 0)) := fun hh => hnm hh.1
      simp only [Builtin.append_, Array.getElem?_eq_getElem, List.size_toArray, List.length_cons, List.length_nil, Nat.zero_add, Nat.reduceLT, Nat.reduceAdd, List.getElem_toArray, List.getElem_cons_zero, List.getElem_cons_succ,
        Sem.run_bind, run_underlying ht.desc, run_underlying hu, Result.andThen_ok, ht.elem.size, Sem.run_pure, Bool.false_eq_true, if_false, Builtin.lenOf, hlen, hroom, hinfo, hinfo', hbb, hnm, false_and, hng, run_choose, Question.forced, World.drew_eq, hncap, run_askRoom, hfm, hfd, hz',
        Bool.not_false, if_true, newRow, run_newObj, World.alloc_eq, Sem.run_ite]
      rfl
    · refine .own hncapge (.inl ⟨by omega, by simp, e, (mcs.toArray ++ cs.toArray ++ Builtin.zeroCells z.cells (ncap - (len + ds.length))).size, ?_, ?_⟩)
      · rw [show 2 * w.heap.size / 2 = w.drew.heap.size from by show 2 * w.heap.size / 2 = w.heap.size; omega]; exact shape_alloc_new _ _ _
      · simp only [Array.size_append, List.size_toArray, hmcl, hcl, size_zeroCells, hzs, List.length_nil, Nat.zero_add]
        rw [← Nat.add_mul, ← Nat.add_mul]
        apply Nat.mul_le_mul_right
        omega

theorem append_coreS {A M : Nat → Prop} {w0 w : World} {t ty e : TypeId} {sz bytes : Nat} {agg : Bool} (ht : TS P t e sz bytes agg) (hr : HRel A M w0 h w) {c i len : Nat} {es ds : List D} {hf : Nat → Blk → Heap} {v : Value} {u : TypeId} {s : ByteArray} (hu : P.underlying u = some .string) (hds : ds = (sbytes s).map (D.k .u8)) (hs1 : sz = 1)
    (hrepl : ∀ c' b', Repl c (.cells sz es) c' b' h (hf c' b')) (hil : i + len ≤ es.length) (hv : V w (XX A h) (.own c sz i len) v) (hbytes : (len + ds.length) * bytes ≤ 140737488355328) (hmax : len + ds.length ≤ 9223372036854775807) :
    ∃ v' w' c' pre, (Builtin.append_ #[t, u] ty #[v, .string s]).run P w = .ok v' w' ∧ HRel A M w0 (hf c' (.cells sz (pre ++ (es.drop i).take len ++ ds))) w' ∧
      Mono w (XX A h) w' (XX A (hf c' (.cells sz (pre ++ (es.drop i).take len ++ ds)))) ∧ V w' (XX A (hf c' (.cells sz (pre ++ (es.drop i).take len ++ ds)))) (.own c' sz pre.length (len + ds.length)) v' := by
  obtain ⟨v', w', c', pre, g1, g2, g3, g4, _⟩ := append_coreSX (ty := ty) ht hr hu hds hs1 hrepl hil hv hbytes hmax
  exact ⟨v', w', c', pre, g1, g2, g3, g4⟩

theorem OpA.appendS {t u e : TypeId} {bytes : Nat} {agg : Bool} {cl : Call} {s x : Operand} {c : Nat} {pre post : List D} {xs : List Int} {y : ByteArray} {hf : Nat → Blk → Heap} (ho : o.op = .call cl) (hc : cl.callee = .builtin .append) (ha : cl.args = #[s, x]) (hty : cl.argTypes = #[t, u])
    (ht : TS P t e 1 bytes agg) (hu : P.underlying u = some .string) (hs : ev fr s = .own c 1 pre.length xs.length) (hrepl : ∀ c' b', Repl c (.cells 1 (winL (D.k .u8) pre xs post)) c' b' h (hf c' b')) (hx : ev fr x = .s y)
    (hb : (xs.length + (sbytes y).length) * bytes ≤ 140737488355328 ∧ xs.length + (sbytes y).length ≤ 9223372036854775807) (hk : ∀ c' pre', K (.own c' 1 pre'.length (xs ++ sbytes y).length) (hf c' (.cells 1 (winL (D.k .u8) pre' (xs ++ sbytes y) [])))) : OpA P o fr h K :=
  .of_run fun A M w0 ac w hr hv => by
    have h1 := hv s (append_operands ho hc ha).1
    have h2 := hv x (append_operands ho hc ha).2
    rw [hs] at h1; rw [hx] at h2
    generalize hu2 : ac.eval x = u2 at h2
    cases h2
    obtain ⟨v', w', c', pre', g1, g2, g3, g4⟩ := append_coreS (ty := o.type) (ds := (sbytes y).map (D.k .u8)) ht hr hu rfl rfl hrepl (by simp) h1 (by simpa using hb.1) (by simpa using hb.2)
    have hk' := hk c' pre'
    rw [List.length_append, winL, List.append_nil, List.map_append] at hk'
    rw [winL_mid, List.append_assoc] at g2 g3 g4
    rw [List.length_map] at g4
    refine ⟨v', w', _, _, ?_, hk', g2, g3, g4⟩
    simp only [execOp, ho, resolve, hc, Sem.run_bind, Sem.run_pure, Result.andThen_ok, invoke, builtin, hty, ha, List.map_toArray, List.map_cons, List.map_nil, hu2, g1]

theorem flats_u8 (k : IntKind) (xs : List Int) : D.flats (xs.map (D.k k)) = (xs.map (Value.int k)).map D.v := by
  induction xs with
  | nil => rfl
  | cons x xs ih => rw [List.map_cons, flats_cons, ih]; rfl

/-- What a slice of numbers holds. -/
theorem SrcV.nums {A M : Nat → Prop} {w0 w : World} {k : IntKind} {d : D} {ys : List Int} {v : Value} (hs : SrcV (D.k k) h 1 d ys) (hr : HRel A M w0 h w) (hv : V w (XX A h) d v) :
    ∃ a cap, v = .slice a ys.length cap ∧ (ys = [] ∨ ∃ b oo, a = some ⟨b, oo, none⟩ ∧ ∀ i, i < ys.length → w.cell? ⟨b, oo + i, none⟩ = some (.int k (ys.getD i 0))) := by
  obtain ⟨a, cap, cs, h1, _, _, h4, h5⟩ := hs.is.val hr hv
  rw [flats_u8] at h4
  have h6 := vl_vals _ _ h4
  subst h6
  refine ⟨a, cap, by simpa using h1, ?_⟩
  rcases h5 with h5 | ⟨b, oo, h5, h6⟩
  · left; simpa using h5
  · right
    refine ⟨b, oo, h5, fun i hi => h6 i _ ?_⟩
    rw [List.getElem?_map, List.getElem?_eq_getElem hi, List.getD_eq_getElem?_getD, List.getElem?_eq_getElem hi]; rfl

/-- string(bytes). -/
theorem OpA.bytesStr {s d e : TypeId} {x : Operand} {ys : List Int} (ho : o.op = .convert s d x) (hs : P.underlying s = some (.slice e)) (he : P.underlying e = some (.int .u8)) (hd : P.underlying d = some .string) (hx : SrcV (D.k .u8) h 1 (ev fr x) ys) (hk : K (.s (bstr ys)) h) : OpA P o fr h K :=
  .of_quiet (fun A M w0 ac w hr hv => by
    have h1 := hv x (by simp [ho, Op.operands])
    generalize hu : ac.eval x = u at h1
    obtain ⟨a, cap, rfl, h2⟩ := hx.nums hr h1
    refine ⟨.string (bstr ys), ?_, .v _⟩
    rcases h2 with rfl | ⟨b, oo, rfl, h2⟩
    · cases a with
      | none => simp only [execOp, ho, hu, Sem.run_bind, run_convert_bytes_nil w s e hs he _ _ d hd, Result.andThen_ok, Sem.run_pure]; rfl
      | some a =>
        simp [execOp, ho, hu, convert, run_underlying hs, run_underlying hd, run_underlying he, Conv.bytesToString, loadCells, loadCellsFrom]
        rfl
    · have := run_convert_bytes_arg w s e hs he b oo ys.length cap ys rfl h2 d hd
      simp only [execOp, ho, hu, Sem.run_bind, this, Result.andThen_ok, Sem.run_pure]; rfl) hk

/-- A world with one block more. -/
theorem HRel.allocG {A M : Nat → Prop} {w0 w w' : World} {h : Heap} (hr : HRel A M w0 h w) {sz : Nat} {es : List D} {cs : List Value} {arr : Array Value} {e : TypeId} (hsz : w'.heap.size = w.heap.size + 1) (hold : ∀ b, b < w.heap.size → w'.heap[b]? = w.heap[b]?)
    (hnewb : OwnCells w' w.heap.size arr e) (hos : w'.os = w.os) (htp : w'.tape = w.tape) (hout : w'.output = w.output) (hok : ∀ d ∈ es, d.ok sz) (hv : VL w (XX A h) (D.flats es) cs) (hp : cs <+: arr.toList) :
    2 * w.heap.size ∉ keys h ∧ HRel A M w0 ((2 * w.heap.size, .cells sz es) :: h) w' ∧ Mono w (XX A h) w' (XX A ((2 * w.heap.size, .cells sz es) :: h)) := by
  have hnew : 2 * w.heap.size ∉ keys h := fun hc => by have := hr.lt hc (by omega); omega
  have hx : ∀ b, b < w.heap.size → XX A ((2 * w.heap.size, .cells sz es) :: h) b → XX A h b := fun b hb hx => by
    rcases hx with hx | hx
    · exact .inl hx
    · simp at hx; rcases hx with hx | hx
      · omega
      · exact .inr hx
  have hm : Mono w (XX A h) w' (XX A ((2 * w.heap.size, .cells sz es) :: h)) :=
    ⟨by omega, fun b hb _ => hold b hb, fun b hb => shape_of_heap (hold b hb), hx⟩
  refine ⟨hnew, ⟨?_, ?_, ?_, ?_, hr.bound, fun b hb => by have := hr.old b hb; omega, ?_⟩, hm⟩
  · simp only [keys_cons, List.nodup_cons]; exact ⟨hnew, hr.nodup⟩
  · intro c b hc
    rcases List.mem_cons.1 hc with hc | hc
    · cases hc
      have e2 : 2 * w.heap.size / 2 = w.heap.size := by omega
      refine ⟨hok, .inr ⟨by omega, arr, e, cs, ?_, hv.mono hm, hp⟩⟩
      rw [e2]; exact hnewb
    · exact (hr.blk c b hc).mono hm (fun he => hold _ ((hr.blk c b hc).lt he))
  · intro c hc ha
    rcases List.mem_cons.1 (by simpa using hc) with hc | hc
    · subst hc; have := hr.old _ ha; have := hr.ext.size; omega
    · exact hr.free c hc ha
  · intro c hc he
    rcases List.mem_cons.1 (by simpa using hc) with hc | hc
    · subst hc; have := hr.ext.size; right; omega
    · exact hr.mine c hc he
  · exact hr.ext.trans ⟨hos, htp, hout, by omega, fun b hb _ => hold b hb, fun b hb => shape_of_heap (hold b hb)⟩

/-- []byte(s). -/
theorem OpA.strBytes {s d e : TypeId} {x : Operand} {y : ByteArray} (ho : o.op = .convert s d x) (hs : P.underlying s = some .string) (hd : P.underlying d = some (.slice e)) (he : P.underlying e = some (.int .u8)) (hx : ev fr x = .s y)
    (hk : ∀ c, K (.own c 1 ([] : List D).length (sbytes y).length) ((c, .cells 1 (winL (D.k .u8) [] (sbytes y) [])) :: h)) : OpA P o fr h K :=
  .of_run fun A M w0 a w hr hv => by
    have h1 := hv x (by simp [ho, Op.operands])
    rw [hx] at h1
    generalize hu : a.eval x = u at h1
    cases h1
    have hrun := Lib.run_convert_string_bytes (P := P) w s d e y hs hd he
    have hnew : OwnCells (Lib.bytesWorld w e y) w.heap.size (Lib.bytesCells w e y) e := ⟨_, Lib.bytesWorld_at_new w e y, .inr (Nat.le_refl _)⟩
    obtain ⟨_, h5, h6⟩ := hr.allocG (w' := Lib.bytesWorld w e y) (sz := 1) (es := (sbytes y).map (D.k .u8)) (cs := y.data.toList.map fun b => Value.int .u8 b.toNat) (Lib.bytesWorld_size w e y) (fun b hb => Lib.bytesWorld_at_old w e y b hb) hnew rfl rfl rfl
      (fun d hd => by obtain ⟨n, _, rfl⟩ := List.mem_map.1 hd; exact .of rfl) (by
        rw [flats_u8, sbytes]
        generalize y.data.toList = l
        induction l with
        | nil => exact .nil
        | cons x l ih => exact .cons (.v _) ih) (by simp [Lib.bytesCells])
    have hsz : (sbytes y).length = y.size := by simp [sbytes]
    refine ⟨.slice (some ⟨w.heap.size, 0, none⟩) y.size (grownCap w y.size 0 e), Lib.bytesWorld w e y, _, _, by simp only [execOp, ho, hu, Sem.run_bind, hrun, Result.andThen_ok, Sem.run_pure], hk (2 * w.heap.size), ?_, ?_, ?_⟩
    · simpa [winL] using h5
    · simpa [winL] using h6
    · rw [hsz]
      refine .own ?_ (.inl ⟨by omega, ?_, e, (Lib.bytesCells w e y).size, ?_, ?_⟩)
      · simp [grownCap, Question.cut]
      · rw [show 2 * w.heap.size / 2 = w.heap.size by omega]; simp
      · rw [show 2 * w.heap.size / 2 = w.heap.size by omega]; exact hnew.shape
      · have hcap : y.size ≤ grownCap w y.size 0 e := by simp [grownCap, Question.cut]
        simp only [Lib.bytesCells, Array.size_append, Array.size_map, Array.size_replicate, List.length_nil]
        have : y.data.size = y.size := rfl
        omega

/-- copy(dst, src). -/
def gcopy (xs ys : List Int) : List Int := ys.take (min ys.length xs.length) ++ xs.drop (min ys.length xs.length)
theorem gcopy_length (xs ys : List Int) : (gcopy xs ys).length = xs.length := by simp [gcopy]; omega
theorem OpA_copyW {t u e : TypeId} {bytes : Nat} {agg : Bool} {k : IntKind} {cl : Call} {s x : Operand} {c : Nat} {pre post : List D} {xs ys : List Int} {h' : Heap} (ho : o.op = .call cl) (hc : cl.callee = .builtin .copy) (ha : cl.args = #[s, x]) (hty : cl.argTypes = #[t, u])
    (ht : TS P t e 1 bytes agg) (hs : ev fr s = .own c 1 pre.length xs.length) (hrepl : Repl c (.cells 1 (winL (D.k k) pre xs post)) c (.cells 1 (winL (D.k k) pre (gcopy xs ys) post)) h h') (hx : SrcV (D.k k) h 1 (ev fr x) ys)
    (hk : K (.i (min ys.length xs.length : Nat)) h') : OpA P o fr h K :=
  OpA.of_run fun A M w0 ac w hr hv => by
    have h1 := hv s (by simp [ho, Op.operands, Call.operands, hc, ha])
    have h2 := hv x (by simp [ho, Op.operands, Call.operands, hc, ha])
    rw [hs] at h1
    generalize hu : ac.eval s = vs at h1
    generalize hu2 : ac.eval x = vx at h2
    obtain ⟨xa, xcap, rfl, hx2⟩ := hx.nums hr h2
    have hfirst : ∀ n, n ≤ ys.length → (Builtin.firstCells 1 n (.slice xa ys.length xcap)).run P w = .ok ((ys.take n).map (Value.int k)).toArray w := by
      intro n hn
      rcases hx2 with rfl | ⟨b, oo, rfl, hcell⟩
      · simp at hn; subst hn
        cases xa <;> simp [Builtin.firstCells, loadCells, loadCellsFrom]
      · have hl : ((ys.take n).map (Value.int k)).length = n * 1 := by simp; omega
        have := run_firstCells' (P := P) (w := w) (sz := 1) (n := n) (cap := xcap) (a := some ⟨b, oo, none⟩) hl (.inr ⟨b, oo, rfl, fun j c' hj => by
          have hjn : j < n := by have := (List.getElem?_eq_some_iff.1 hj).1; simp at this; omega
          rw [hcell j (by omega)]
          rw [List.getElem?_map, List.getElem?_take_of_lt hjn, List.getElem?_eq_getElem (by omega)] at hj
          rw [List.getD_eq_getElem?_getD, List.getElem?_eq_getElem (by omega)]
          simpa using hj⟩)
        simpa [Builtin.firstCells] using this
    cases h1 with
    | @own _ _ _ _ cap a hcap hd =>
      obtain ⟨hok, hb⟩ := hr.cells hrepl.has
      have hn : min ys.length xs.length ≤ ys.length := Nat.min_le_left _ _
      rcases hd with ⟨hc2, rfl, et0, n0, hsh, hn0⟩ | ⟨hz1, hz2⟩
      · rcases hb with ⟨hodd, _⟩ | ⟨_, arr, et, ocs, hoa, hov, hop⟩
        · omega
        · have harr : (pre.length + cap) ≤ arr.size := by
            simp only [hoa.shape, Option.some.injEq, Prod.mk.injEq] at hsh
            rw [← hsh.2] at hn0; simpa using hn0
          obtain ⟨w', arr', g1, g2, g3, g4, g5, g6, g7, g8, g9⟩ := run_storeCells' (P := P) ((ys.take (min ys.length xs.length)).map (Value.int k)) 0 pre.length w arr hoa (by
            intro v hv'; obtain ⟨n, _, rfl⟩ := List.mem_map.1 hv'; rfl) (by simp; omega)
          have hoks : ∀ d ∈ winL (D.k k) pre xs post, d.ok 1 := hok
          have hfl := flats_length _ hok
          have hflp : (D.flats pre).length = pre.length := by
            have := flats_length (sz := 1) pre (fun d hd => hok d (by simp [winL, hd])); simpa using this
          rw [winL, flats_append, flats_append, flats_u8] at hov
          obtain ⟨r1, r2⟩ := hr.write (sz' := 1) (es' := winL (D.k k) pre (gcopy xs ys) post) (cs' := setAt ocs pre.length ((ys.take (min ys.length xs.length)).map (Value.int k))) hrepl hc2 (by
              intro d hd
              rcases List.mem_append.1 hd with hd | hd
              · exact hok d (by simp [winL, hd])
              · rcases List.mem_append.1 hd with hd | hd
                · obtain ⟨n, _, rfl⟩ := List.mem_map.1 hd; exact .of rfl
                · exact hok d (by simp [winL, hd])) hoa g2 g4 (by
              rw [winL, flats_append, flats_append, flats_u8, gcopy, List.map_append, List.map_append]
              have hv1 : VL w (XX A h) (setAt (D.flats pre ++ ((xs.map (Value.int k)).map D.v ++ D.flats post)) pre.length (((ys.take (min ys.length xs.length)).map (Value.int k)).map D.v)) (setAt ocs pre.length ((ys.take (min ys.length xs.length)).map (Value.int k))) := by
                refine VL.setAt ?_ _ hov
                generalize (ys.take (min ys.length xs.length)).map (Value.int k) = l
                induction l with
                | nil => exact .nil
                | cons x l ih => exact .cons (.v _) ih
              rw [setAt_eq _ _ _ (by simp [hflp]; omega)] at hv1
              have e1 : (D.flats pre ++ ((xs.map (Value.int k)).map D.v ++ D.flats post)).take pre.length = D.flats pre := by rw [← hflp]; simp
              have e2 : (D.flats pre ++ ((xs.map (Value.int k)).map D.v ++ D.flats post)).drop (pre.length + (((ys.take (min ys.length xs.length)).map (Value.int k)).map D.v).length) = ((xs.drop (min ys.length xs.length)).map (Value.int k)).map D.v ++ D.flats post := by
                rw [← hflp, ← List.drop_drop, List.drop_left]
                simp only [List.length_map, List.length_take, Nat.min_eq_left hn]
                rw [List.drop_append_of_le_length (by simp; omega)]
                simp
              rw [e1, e2] at hv1
              simpa [List.append_assoc] using hv1) (by
              have hle : ocs.length ≤ arr.toList.length := hop.length_le
              have hol : ocs.length = (winL (D.k k) pre xs post).length := by
                rw [← hov.length, ← flats_u8, ← flats_append, ← flats_append]; rw [hfl, Nat.mul_one]
              obtain ⟨tl, htl⟩ := hop
              rw [Nat.add_zero] at g3
              rw [g3, ← htl]
              refine ⟨tl, ?_⟩
              have hfit : pre.length + ((ys.take (min ys.length xs.length)).map (Value.int k)).length ≤ ocs.length := by rw [hol]; simp [winL]; omega
              rw [setAt_eq _ _ _ hfit, setAt_eq _ _ _ (by rw [List.length_append]; omega), List.take_append_of_le_length (by omega), List.drop_append_of_le_length (by omega)]
              simp [List.append_assoc]) g5 g6 g7 g8 g9
          refine ⟨_, w', _, _, ?_, hk, r1, r2, .v _⟩
          rw [Nat.mul_one] at *
          simp only [execOp, ho, resolve, hc, Sem.run_bind, Sem.run_pure, Result.andThen_ok, invoke, builtin, hty, ha, List.map_toArray, List.map_cons, List.map_nil, hu, hu2, Builtin.copy_, Array.getElem?_eq_getElem, List.size_toArray, List.length_cons, List.length_nil, Nat.zero_add, Nat.reduceLT, Nat.reduceAdd, List.getElem_toArray, List.getElem_cons_zero, List.getElem_cons_succ,
            run_underlying ht.desc, ht.elem.size, Builtin.lenOf, hfirst _ hn, g1, goInt]
      · have hx0 : xs = [] := List.eq_nil_of_length_eq_zero hz1
        subst hx0
        have hg : gcopy [] ys = [] := by simp [gcopy]
        rw [hg] at hrepl
        have e : h' = h := by obtain ⟨h1, h2, e1, e2⟩ := hrepl.split; rw [e1, e2]
        subst e
        refine ⟨_, w, _, _, ?_, hk, hr, Mono.refl _ _, .v _⟩
        have hf0 := hfirst 0 (Nat.zero_le _)
        simp only [List.take_zero, List.map_nil] at hf0
        simp only [execOp, ho, resolve, hc, Sem.run_bind, Sem.run_pure, Result.andThen_ok, invoke, builtin, hty, ha, List.map_toArray, List.map_cons, List.map_nil, hu, hu2, Builtin.copy_, Array.getElem?_eq_getElem, List.size_toArray, List.length_cons, List.length_nil, Nat.zero_add, Nat.reduceLT, Nat.reduceAdd, List.getElem_toArray, List.getElem_cons_zero, List.getElem_cons_succ,
          run_underlying ht.desc, ht.elem.size, Builtin.lenOf, Nat.min_zero, Nat.min_eq_right (Nat.zero_le _), hf0, goInt]
        cases a <;> simp [storeCells]
end
end Go.Lic
