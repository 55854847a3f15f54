/-
  A region whose order is open, with one new variable in it: made, stored into once, looked at by nothing else of the region.
-/
import Derived.Test.YtkifpidbpoghlaaGreatDoorDraw
import Derived.ChangeKeysEq
set_option linter.all false
namespace Go.Lic
variable [Fl]
theorem HRel.base {A M : Nat → Prop} {w0 w : World} {h : Heap} (hr : HRel A M w0 h w) : HRel A (fun b => 2 * b ∈ keys h) w h w :=
 ⟨hr.nodup, hr.blk, hr.free, fun c hc he => .inl (by show 2 * (c / 2) ∈ keys h; rw [show 2 * (c / 2) = c from by omega]; exact hc), hr.bound, hr.old, Ext.refl _ _, hr.glob⟩
theorem HRel.join {A M : Nat → Prop} {w0 w w' : World} {h h' : Heap} (hr : HRel A M w0 h w) (hr' : HRel A (fun b => 2 * b ∈ keys h) w h' w') : HRel A M w0 h' w' := by
 refine ⟨hr'.nodup, hr'.blk, hr'.free, ?_, hr'.bound, hr'.old, ?_, hr'.glob⟩
 · intro c hc he
   rcases hr'.mine c hc he with hm | hm
   · have hm : 2 * (c / 2) ∈ keys h := hm
     rw [show 2 * (c / 2) = c from by omega] at hm
     exact hr.mine c hm he
   · right; have := hr.ext.size; omega
 · have e := hr'.ext
   refine ⟨e.os.trans hr.ext.os, e.tape.trans hr.ext.tape, e.output.trans hr.ext.output, Nat.le_trans hr.ext.size e.size, fun b hb hn => ?_, fun b hb => (e.shape b (Nat.lt_of_lt_of_le hb hr.ext.size)).trans (hr.ext.shape b hb), fun o_ => Nat.le_trans (hr.ext.drawn o_) (e.drawn o_)⟩
   refine (e.keep b (Nat.lt_of_lt_of_le hb hr.ext.size) (fun hx => ?_)).trans (hr.ext.keep b hb hn)
   rcases hr.mine (2 * b) hx (by omega) with hq | hq
   · rw [show 2 * b / 2 = b from by omega] at hq; exact hn hq
   · rw [show 2 * b / 2 = b from by omega] at hq; omega
section
variable {P : Program} {ops : Array Oper} {h : Heap} {tp sz : Nat} {fr : Nat → D} {C : (Nat → D) → List D → Prop} {o : Oper} {l : List Oper} {d : D}
end
section
variable {P : Program} {ops : Array Oper}
end
end Go.Lic
set_option linter.all false
namespace Go.Lic
variable [Fl]
@[reducible] def asg : List (Nat × D) → Nat → D
 | [], _ => .top
 | (k, d) :: l, t => sel (Nat.beq t k) d (asg l t)
def Cov (fr fr0 : Nat → D) : Prop := ∀ t, fr0 t = .top ∨ fr0 t = fr t
def covL (fr : Nat → D) : List (Nat × D) → Prop
 | [] => True
 | (k, d) :: l => fr k = d ∧ covL fr l
theorem Cov.asg {fr : Nat → D} : ∀ {l : List (Nat × D)}, covL fr l → Cov fr (asg l)
 | [], _, _ => .inl rfl
 | (k, d) :: l, h, t => by
   show sel (Nat.beq t k) d (Lic.asg l t) = .top ∨ sel (Nat.beq t k) d (Lic.asg l t) = fr t
   cases hb : Nat.beq t k with
   | true =>
     have := Nat.eq_of_beq_eq_true hb
     subst this
     exact .inr h.1.symm
   | false => exact Cov.asg h.2 t
theorem Rel.cov {n : Nat} {A M : Nat → Prop} {w0 : World} {fr fr0 : Nat → D} {h : Heap} {a : Act} {w : World} (r : Rel n A M w0 fr h a w) (hc : Cov fr fr0) : Rel n A M w0 fr0 h a w :=
 ⟨r.size, fun i => by rcases hc i with h1 | h1 <;> rw [h1]; exact .top _; exact r.frame i, r.defers, r.heap⟩
theorem D.ok.of {sz : Nat} {d : D} (h : (Nat.beq d.flat.length sz && d.flat.all D.cell) = true) : d.ok sz := by
 simp only [Bool.and_eq_true, List.all_eq_true] at h
 exact ⟨Nat.eq_of_beq_eq_true h.1, h.2⟩
theorem getM {α β : Type} (f : α → β) (l : List α) (i : Nat) (h : i < l.length) : (l.map f)[i]? = some (f l[i]) := by simp [h]
theorem getL {α : Type} (l : List α) (i : Nat) (h : i < l.length) : l[i]? = some l[i] := List.getElem?_eq_getElem h
section
variable {P : Program} {n : Nat} {ops : Array Oper} {Q : Post} {fr fr0 : Nat → D} {h : Heap} {l : List Oper}
theorem wpA_cov {c : Code} (hc : Cov fr fr0) (hh : wpA P n c Q fr0 h) : wpA P n c Q fr h := fun A M w0 a w r => hh A M w0 a w (r.cov hc)
theorem upd_self {s : Nat} {d : D} (h : fr s = d) : upd fr s d = fr := by
 funext t
 by_cases ht : t = s
 · subst ht; rw [upd_same, h]
 · rw [upd_ne _ _ ht]
theorem zam {s : Nat} {b : Bool} (hb : fr s = .b b) (ht : b = true → wpL P n ops l Q (upd fr s (.b true)) h) (hf : b = false → wpL P n ops l Q (upd fr s (.b false)) h) : wpL P n ops l Q fr h := by
 cases b with
 | true => have := ht rfl; rwa [upd_self hb] at this
 | false => have := hf rfl; rwa [upd_self hb] at this
theorem DetK_split {C : (Nat → D) → Prop} {s : Nat} {b : Bool} (hb : fr s = .b b) (ht : b = true → DetK P ops h l (upd fr s (.b true)) C) (hf : b = false → DetK P ops h l (upd fr s (.b false)) C) : DetK P ops h l fr C := by
 cases b with
 | true => have := ht rfl; rwa [upd_self hb] at this
 | false => have := hf rfl; rwa [upd_self hb] at this
theorem wpA_condT {c : Operand} {x y : Code} (hb : ev fr c = .b true) (ht : wpA P n x Q fr h) : wpA P n (.cond c x y) Q fr h := zae hb (fun _ => ht) (fun h => by cases h)
theorem wpA_condF {c : Operand} {x y : Code} (hb : ev fr c = .b false) (hf : wpA P n y Q fr h) : wpA P n (.cond c x y) Q fr h := zae hb (fun h => by cases h) (fun _ => hf)
theorem wpA_loopE {c : Code} (I : Nat → (Nat → D) → Heap → Prop) (h0 : ∃ k fr0, I k fr0 h ∧ Cov fr fr0)
   (round : ∀ k fr h, I k fr h → wpA P n c (fun e fr' h' => match e with | .normal => ∃ k' fr0, k' < k ∧ I k' fr0 h' ∧ Cov fr' fr0 | e => Q e fr' h') fr h) : wpA P n (.loop c) Q fr h := by
 obtain ⟨k, fr0, hI, hc⟩ := h0
 refine wpA_cov hc (wpA_loop I hI fun k fr h hI => ?_)
 intro A M w0 a w r ro hro
 refine wpIn_mono (round k fr h hI A M w0 a w r ro hro) ?_
 rintro e a' w' ⟨fr', h', hq, r'⟩
 cases e with
 | normal =>
   obtain ⟨k', fr0, hk, hI', hc'⟩ := hq
   exact ⟨fr0, h', ⟨k', hk, hI'⟩, r'.cov hc'⟩
 | exit id => exact ⟨fr', h', hq, r'⟩
 | goto l => exact ⟨fr', h', hq, r'⟩
 | ret => exact ⟨fr', h', hq, r'⟩
 | panic ch => exact ⟨fr', h', hq, r'⟩
 | outgrown => exact ⟨fr', h', hq, r'⟩
theorem wpA_ghost {c : Code} {s sz : Nat} (hs : fr s = .v (.slice none 0 0)) (hn : Nat.blt s n = true) (hh : ∀ g, wpA P n c Q (upd fr s (.own g sz 0 0)) ((g, .cells sz []) :: h)) : wpA P n c Q fr h :=
 fun A M w0 a w r => by
   obtain ⟨g, _, _, hr, hm⟩ := r.heap.ghost sz
   refine hh g A M w0 a w ⟨r.size, fun i => ?_, r.defers.mono hm, hr⟩
   by_cases hi : i = s
   · subst hi
     rw [upd_same]
     have := r.frame i
     rw [hs] at this
     generalize a.tmps.getD i undef = x at this
     cases this
     exact .own (Nat.le_refl _) (.inr ⟨rfl, rfl⟩)
   · rw [upd_ne _ _ hi]
     exact (r.frame i).mono hm
theorem wpA_freeze {c : Code} {s : Nat} {d d' : D} {h0 : Heap} {x : Nat × Blk} (hp : h.Perm (x :: h0)) (hd : fr s = d) (hsn : Snap false [x] [d] [d']) (hh : wpA P n c Q (upd fr s d') h0) : wpA P n c Q fr h :=
 fun A M w0 a w r => by
   obtain ⟨r1, m1⟩ := r.heap.perm hp
   obtain ⟨r2, m2⟩ := r1.tail
   have r' := r.turn r2 (m1.trans m2)
   refine hh A M w0 a w ⟨r'.size, fun i => ?_, r'.defers, r'.heap⟩
   by_cases hi : i = s
   · subst hi
     rw [upd_same]
     have hv := (r.frame i).mono m1
     rw [hd] at hv
     have hk : x.1 ∉ keys h0 := (List.nodup_cons.1 (by simpa using r1.nodup)).1
     have := hsn.sound (X' := XX A h0) r1 (fun c b hh => by cases hh with | head => exact .head | tail t => cases t) (fun _ b hb => by
         rcases hb with hb | hb
         · exact .inl hb
         · exact .inr (by simp [hb])) (fun c hc hev hx => by
         simp at hc; subst hc
         rcases hx with hx | hx
         · rw [show 2 * (x.1 / 2) = x.1 from by omega] at hx
           exact r1.free x.1 (by simp) hx
         · rw [show 2 * (x.1 / 2) = x.1 from by omega] at hx
           exact hk hx) [_] (.cons hv .nil)
     cases this with
     | cons h1 _ => exact h1
   · rw [upd_ne _ _ hi]
     exact r'.frame i
end
end Go.Lic
set_option linter.all false
namespace Go.Lic
variable [Fl]
theorem nat_add1 (a : Nat) : (a : Int) + 1 = ((a + 1 : Nat) : Int) := rfl
theorem nat_sub1 {a : Nat} (h : 1 ≤ a) : (a : Int) - 1 = ((a - 1 : Nat) : Int) := by omega
theorem nat_sub {a b : Nat} (h : b ≤ a) : (a : Int) - (b : Int) = ((a - b : Nat) : Int) := by omega
theorem natp1 {a : Int} {n : Nat} (h : a = (n : Int)) : a + 1 = ((n + 1 : Nat) : Int) := by omega
theorem nat_lit0 : (0 : Int) = ((0 : Nat) : Int) := rfl
theorem Snap.vec {f : Bool} {h : Heap} {c sz n : Nat} {pre xs ds ds' : List D} (hh : Has c (.cells sz (pre ++ xs)) h) (hn : xs.length = n) (hp : f = true → ∀ d ∈ D.flats xs, Plain d) (hs : Snap f h ds ds') : Snap f h (.own c sz pre.length n :: ds) (.list sz xs :: ds') := by
 have e1 : ((pre ++ xs).drop pre.length).take n = xs := by rw [List.drop_left]; exact List.take_of_length_le (by omega)
 have := Snap.ownp (f := f) (ds := ds) (ds' := ds') (i := pre.length) (len := n) hh (by simp; omega) (by rw [e1]; exact hp) hs
 rwa [e1] at this
inductive OkL (fr : Nat → D) (sz : Nat) : List (Nat × Operand) → Prop
 | nil : OkL fr sz []
 | cons {p : Nat × Operand} {l : List (Nat × Operand)} (h : (ev fr p.2).ok sz) (hs : OkL fr sz l) : OkL fr sz (p :: l)
inductive OkE (fr : Nat → D) : List (Nat × Operand) → Prop
 | nil : OkE fr []
 | cons {sz : Nat} {p : Nat × Operand} {l : List (Nat × Operand)} (h : (ev fr p.2).ok sz) (hs : OkE fr l) : OkE fr (p :: l)
theorem OkL.all {fr : Nat → D} {sz : Nat} : ∀ {l : List (Nat × Operand)}, OkL fr sz l → ∀ p ∈ l, (ev fr p.2).ok sz
 | _, .nil, _, h => by simp at h
 | _, .cons h hs, p, hp => by
   rcases List.mem_cons.1 hp with rfl | hp
   · exact h
   · exact hs.all p hp
theorem OkE.all {fr : Nat → D} : ∀ {l : List (Nat × Operand)}, OkE fr l → ∀ p ∈ l, ∃ sz, (ev fr p.2).ok sz
 | _, .nil, _, h => by simp at h
 | _, .cons h hs, p, hp => by
   rcases List.mem_cons.1 hp with rfl | hp
   · exact ⟨_, h⟩
   · exact hs.all p hp
section
variable {P : Program} {o : Oper} {fr : Nat → D} {h : Heap} {K : D → Heap → Prop}
theorem OpA.mv {x : Operand} {d : D} (ho : o.op = .move x) (hd : ev fr x = d) (hk : K d h) : OpA P o fr h K := .move ho (by rw [hd]; exact hk)
theorem OpA.asn {x : Operand} {d : D} (ho : o.op = .assign x) (hd : ev fr x = d) (hk : K d h) : OpA P o fr h K := .assign ho (by rw [hd]; exact hk)
theorem OpA.pck {c x y : Operand} {b : Bool} {d : D} (ho : o.op = .pick c x y) (hc : ev fr c = .b b) (hd : sel b (ev fr x) (ev fr y) = d) (hk : K d h) : OpA P o fr h K :=
 .pick ho hc (by cases b <;> (simp only [sel] at hd; subst hd; exact hk))
theorem OpA.bx {e : TypeId} {x : Operand} {sz : Nat} {d : D} (ho : o.op = .box e x) (hd : ev fr x = d) (hx : d.ok sz) (hk : ∀ c, c ∉ keys h → K (.ptr c sz 0 0) ((c, .cells sz [d]) :: h)) : OpA P o fr h K :=
 .box ho (by rw [hd]; exact hx) (by rw [hd]; exact hk)
theorem OpA.nc {x : Operand} {d : D} (ho : o.op = .nilCheck x) (hd : ev fr x = d) (hx : (∃ c sz i k, d = .ptr c sz i k) ∨ (∃ e k, d = .iptr e k) ∨ (∃ f cs, d = .fn (.func f) [] cs)) (hk : K d h) : OpA P o fr h K :=
 .nilCheck ho (by rw [hd]; exact hx) (by rw [hd]; exact hk)
theorem OpA.iixN {t et : TypeId} {bytes : Nat} {agg : Bool} {x ix : Operand} {kd : IntKind} {j : Int} {sz n : Nat} {ds : List D} {e : D} (ho : o.op = .indexAddr t x ix) (ht : TS P t et sz bytes agg) (hsz : Nat.blt 0 sz = true) (hx : ev fr x = .list sz ds)
   (hi : ev fr ix = .v (.int kd j)) (hj : j = (n : Int)) (he : ds[n]? = some e) (hk : K (.iptr e 0) h) : OpA P o fr h K :=
 .iindexAddr ho ht hsz hx hi (by omega) (by subst hj; simpa using he) hk
theorem OpA.ixN {t et : TypeId} {bytes : Nat} {agg : Bool} {x ix : Operand} {kd : IntKind} {j : Int} {c sz i len n : Nat} (ho : o.op = .indexAddr t x ix) (ht : TS P t et sz bytes agg) (hx : ev fr x = .own c sz i len)
   (hi : ev fr ix = .v (.int kd j)) (hj : j = (n : Int)) (hl : n < len) (hk : K (.ptr c sz (i + n) 0) h) : OpA P o fr h K :=
 .indexAddr ho ht hx hi (by omega) (by omega) (by subst hj; simpa using hk)
theorem vl_vals {w : World} {X : Nat → Prop} : ∀ (xs ys : List Value), VL w X (xs.map D.v) ys → ys = xs
 | [], ys, h => by cases h; rfl
 | x :: xs, ys, h => by
   cases h with
   | cons h1 h2 => cases h1; rw [vl_vals xs _ h2]
theorem OpA.aggcmp {op : BinOp} {t t2 : TypeId} {x y : Operand} {xs ys : List Value} {r : Bool} (ho : o.op = .binOp op t x y t2) (hm : P.eqGuardType P.depth t = false) (hx : ev fr x = .agg (xs.map D.v)) (hy : ev fr y = .agg (ys.map D.v))
   (he : ∀ w, (Op.equalIn 10000 t (.agg xs.toArray) (.agg ys.toArray)).run P w = .ok r w) {b : Bool} (hop : (op = .eql ∧ b = r) ∨ (op = .neq ∧ b = !r)) (hk : K (.b b) h) : OpA P o fr h K :=
 .of_quiet (fun A M w0 ac w _ hv => by
   have h1 := hv x (by simp [ho, Op.operands])
   have h2 := hv y (by simp [ho, Op.operands])
   rw [hx] at h1; rw [hy] at h2
   generalize hu : ac.eval x = u at h1
   generalize hu2 : ac.eval y = u2 at h2
   cases h1 with
   | agg h1 =>
     cases h2 with
     | agg h2 =>
       have e1 := vl_vals _ _ h1
       have e2 := vl_vals _ _ h2
       subst e1; subst e2
       refine ⟨.bool b, ?_, .v _⟩
       have hg : ∀ op (xs ys : Array Value), (eqGuard op t x y (.agg xs) (.agg ys)).run P w = .ok () w := fun op xs ys => run_eqGuard_agg w op t x y xs ys hm
       rcases hop with ⟨rfl, rfl⟩ | ⟨rfl, rfl⟩
       · simp only [execOp, ho, hu, hu2, Sem.run_bind, hg, Result.andThen_ok, run_eql_struct, he, Sem.run_pure]
       · simp only [execOp, ho, hu, hu2, Sem.run_bind, hg, Result.andThen_ok, run_neq_struct, he, Sem.run_pure]) hk
theorem OpA.appendV {t e : TypeId} {sz bytes : Nat} {agg : Bool} {cl : Call} {s x : Operand} {c n : Nat} {pre xs ds : List D} {hf : Nat → Blk → Heap} (ho : o.op = .call cl) (hc : cl.callee = .builtin .append) (ha : cl.args = #[s, x]) (hty : cl.argTypes = #[t, t])
   (ht : TS P t e sz bytes agg) (hs : ev fr s = .own c sz pre.length n) (hrepl : ∀ c' b', Repl c (.cells sz (pre ++ xs)) c' b' h (hf c' b')) (hx : SrcIs h sz (ev fr x) ds) (hxs : xs.length = n)
   (hbytes : (n + ds.length) * bytes ≤ 140737488355328) (hmax : n + ds.length ≤ 9223372036854775807) (hk : ∀ c' pre', K (.own c' sz pre'.length (n + ds.length)) (hf c' (.cells sz (pre' ++ (xs ++ ds))))) : OpA P o fr h K :=
 .append ho hc ha hty ht hs hrepl hx (by simp; omega) hbytes hmax (fun c' pre' => by
   have e1 : ((pre ++ xs).drop pre.length).take n = xs := by rw [List.drop_left]; exact List.take_of_length_le (by omega)
   rw [e1, List.append_assoc]; exact hk c' pre')
theorem OpA.ibuildSliceO {t e : TypeId} {sz bytes len : Nat} {agg : Bool} {parts : Array (Nat × Operand)} (ho : o.op = .buildSlice t len parts) (ht : TS P t e sz bytes agg) (hidx : parts.toList.map (·.1) = List.range len)
   (hok : OkL fr sz parts.toList) (hb : len * sz ≤ 16777216) (hk : K (.list sz (parts.toList.map fun p => ev fr p.2)) h) : OpA P o fr h K := .ibuildSlice ho ht hidx hok.all hb hk
theorem OpA.buildSliceO {t e : TypeId} {sz bytes len : Nat} {agg : Bool} {parts : Array (Nat × Operand)} (ho : o.op = .buildSlice t len parts) (ht : TS P t e sz bytes agg) (hidx : parts.toList.map (·.1) = List.range len)
   (hok : OkL fr sz parts.toList) (hb : len * sz ≤ 16777216) (hk : ∀ c, K (.own c sz 0 len) ((c, .cells sz (parts.toList.map fun p => ev fr p.2)) :: h)) : OpA P o fr h K := .buildSlice ho ht hidx hok.all hb hk
theorem OpA.buildO {t : TypeId} {parts : Array (Nat × Operand)} {pl : List (Nat × Nat)} {zc : Array Value} {zs ds : List D} (ho : o.op = .build t parts) (hp : placesOf P t = some pl) (hz : (P.info? t).bind (·.zero) = some (.agg zc))
   (hzs : ∀ w X, VL w X zs zc.toList) (hok : OkE fr parts.toList) (hd : fillD (pl[·]?) zs (parts.toList.map fun p => (p.1, ev fr p.2)) = some ds) (hk : K (.agg ds) h) : OpA P o fr h K := .build ho hp hz hzs hok.all hd hk
theorem OpA.buildArr {t et : TypeId} {len esz : Nat} {agg : Bool} {parts : Array (Nat × Operand)} {zc : Array Value} {zs ds : List D} (ho : o.op = .build t parts) (ht : P.underlying t = some (.array len et)) (hte : TI P et esz agg) (hz : (P.info? t).bind (·.zero) = some (.agg zc))
   (hzs : ∀ w X, VL w X zs zc.toList) (hok : OkL fr esz parts.toList) (hd : fillD (fun i => some (i * esz, esz)) zs (parts.toList.map fun p => (p.1, ev fr p.2)) = some ds) (hk : K (.agg ds) h) : OpA P o fr h K :=
 .of_quiet (fun A M w0 ac w _ hv => by
   have hvs := parts_VL (ac := ac) parts.toList (fun p hp => hv p.2 (by simp [ho, Op.operands]; exact ⟨p.1, by simpa using hp⟩))
   obtain ⟨cs', h1, h2⟩ := fill_of_fillD (place := fun i => some (i * esz, esz)) (parts.toList.map fun p => (p.1, ev fr p.2)) (parts.toList.map fun p => (p.1, ac.eval p.2)) zs ds zc (hzs w _) (by simp) (by rw [List.map_map, List.map_map]; exact hvs)
     (by intro p hp; obtain ⟨q, hq, rfl⟩ := List.mem_map.1 hp; exact ⟨esz, hok.all q hq⟩) hd
   refine ⟨.agg cs', ?_, .agg (vs := cs'.toList) h2⟩
   have hzr : (zeroValue t).run P w = .ok (.agg zc) w := by
     obtain ⟨i, hi, hi2⟩ := Option.bind_eq_some_iff.1 hz
     simp [zeroValue, typeInfo, hi, hi2]
   have hpt : (parts.map fun (x : Nat × Operand) => (x.1, ac.eval x.2)).toList = parts.toList.map fun p => (p.1, ac.eval p.2) := by simp
   simp only [execOp, ho, Instr.build, Sem.run_bind, hzr, Result.andThen_ok, run_underlying ht, hte.size, Value.cells, hpt, h1]
   rfl) hk
theorem OpA.slice3 {t et : TypeId} {bytes : Nat} {agg : Bool} {x yr ym : Operand} {lo : Option Operand} {c sz i len l : Nat} {kr km : IntKind} {r m : Int} (ho : o.op = .slice t x lo (some yr) (some ym)) (ht : TS P t et sz bytes agg) (hx : ev fr x = .own c sz i len)
   (hl : Bd fr lo 0 l) (hr : ev fr yr = .v (.int kr r) ∧ 0 ≤ r) (hm : ev fr ym = .v (.int km m) ∧ 0 ≤ m) (h1 : l ≤ r.toNat) (h2 : r.toNat ≤ m.toNat) (h3 : m.toNat ≤ len) (hk : K (.own c sz (i + l) (r.toNat - l)) h) : OpA P o fr h K :=
 .of_quiet (fun A M w0 ac w _ hv => by
   have hxo : x ∈ o.op.operands := by simp [ho, Op.operands]
   have hro : yr ∈ o.op.operands := by simp [ho, Op.operands]
   have hmo : ym ∈ o.op.operands := by simp [ho, Op.operands]
   have hvx := hv x hxo
   have hvr := hv yr hro
   have hvm := hv ym hmo
   rw [hx] at hvx; rw [hr.1] at hvr; rw [hm.1] at hvm
   generalize hu : ac.eval x = u at hvx
   generalize hur : ac.eval yr = ur at hvr
   generalize hum : ac.eval ym = um at hvm
   cases hvr; cases hvm
   cases hvx with
   | @own _ _ _ _ cap a hc hd =>
     have hb : (Instr.sliceBounds true len cap (lo.map ac.eval) (some (.int kr r)) (some (.int km m))).run P w = .ok (l, r.toNat, m.toNat) w := by
       cases hl with
       | none => simp [Instr.sliceBounds, run_sliceBound' hm.2 (show m.toNat ≤ cap by omega), run_sliceBound' hr.2 h2]
       | some hlx hl0 =>
         rename_i lx lk li
         have hlo : lx ∈ o.op.operands := by simp [ho, Op.operands]
         have hvl := hv lx hlo
         rw [hlx] at hvl
         generalize hul : ac.eval lx = ul at hvl
         cases hvl
         simp [Instr.sliceBounds, hul, run_sliceBound' hm.2 (show m.toNat ≤ cap by omega), run_sliceBound' hr.2 h2, run_sliceBound' hl0 h1]
     refine ⟨.slice (if m.toNat = l then a else a.map (·.add (l * sz))) (r.toNat - l) (m.toNat - l), ?_, .own (by omega) ?_⟩
     · simp [execOp, ho, hu, hur, hum, Instr.sliceAt, Instr.slice, run_underlying ht.desc, hb, ht.elem.size]
     · rcases hd with ⟨hc2, rfl, e, n, hs, hn⟩ | ⟨hz, hz2⟩
       · by_cases hcl : m.toNat = l
         · exact .inr ⟨by omega, by omega⟩
         · refine .inl ⟨hc2, by simp [if_neg hcl, Addr.add_lit, Nat.add_mul], e, n, hs, Nat.le_trans (Nat.mul_le_mul_right _ (by omega)) hn⟩
       · exact .inr ⟨by omega, by omega⟩) hk
end
end Go.Lic
set_option linter.all false
namespace Go.Lic
variable [Fl]
end Go.Lic
set_option linter.all false
namespace Go.Lic
variable [Fl]
section
variable {P : Program} {o : Oper} {fr : Nat → D} {h : Heap} {K : D → Heap → Prop}
theorem OpA.storeI {t : TypeId} {x y : Operand} {c i : Nat} {v : Int} {l : List Int} {h' : Heap} (ho : o.op = .store t x y) (ht : TI P t 1 false) (hx : ev fr x = .ptr c 1 i 0)
   (hy : ev fr y = .i v) (hi : i < l.length) (hh : Repl c (.cells 1 (l.map D.i)) c (.cells 1 ((l.set i v).map D.i)) h h') (hk : K (.v undef) h') : OpA P o fr h K := by
 have e1 : (l.set i v).map D.i = (l.map D.i).set i (.i v) := by rw [List.map_set]
 rw [e1] at hh
 exact .store (e := .i l[i]) (e' := .i v) ho ht hx (by rw [hy]; exact .of rfl) (getM D.i l i hi) (Nat.le_refl 1) (by rw [hy]; rfl) hh hk
theorem setAt_to {α : Type} : ∀ (b a : List α) (i : Nat), a.length = i + b.length → setAt a i b = a.take i ++ b
 | [], a, i, h => by rw [List.length_nil] at h; rw [setAt, List.append_nil, List.take_of_length_le (by omega)]
 | x :: b, a, i, h => by
   rw [List.length_cons] at h
   rw [setAt, setAt_to b _ _ (by rw [List.length_set]; omega), List.take_succ_eq_append_getElem (by rw [List.length_set]; omega), List.getElem_set_self, List.take_set_of_le (Nat.le_refl i)]
   simp
theorem setAt_all {α : Type} (a b : List α) (h : a.length = b.length) : setAt a 0 b = b := by
 rw [setAt_to b a 0 (by omega)]; simp
theorem OpA.storeW {t : TypeId} {x y : Operand} {c sz i : Nat} {agg : Bool} {d e : D} {es : List D} {h' : Heap} (ho : o.op = .store t x y) (ht : TI P t sz agg) (hx : ev fr x = .ptr c sz i 0)
   (hy : ev fr y = d) (hok : d.ok sz) (he : es[i]? = some e) (hl : e.flat.length = sz) (hh : Repl c (.cells sz es) c (.cells sz (es.set i d)) h h') (hk : K (.v undef) h') : OpA P o fr h K :=
 .store (e' := d) ho ht hx (by rw [hy]; exact hok) he (by omega) (by rw [hy, setAt_all _ _ (by rw [hl, hok.1])]) hh hk
theorem OpA.storeR {t : TypeId} {x y : Operand} {c i : Nat} {d : D} {es : List D} {h' : Heap} (ho : o.op = .store t x y) (ht : TI P t 1 false) (hx : ev fr x = .ptr c 1 i 0)
   (hy : ev fr y = d) (hd : d.flat = [d]) (hok : d.ok 1) (hi : i < es.length) (he : ∀ d ∈ es, d.flat.length = 1) (hh : Repl c (.cells 1 es) c (.cells 1 (es.set i d)) h h') (hk : K (.v undef) h') : OpA P o fr h K := by
 have h1 := he es[i] (List.getElem_mem hi)
 refine .store (e' := d) ho ht hx (by rw [hy]; exact hok) (getL _ _ hi) (by omega) ?_ hh hk
 rw [hy, hd]
 match hh2 : es[i].flat, h1 with
 | [u], _ => simp [setAt]
end
inductive GhostL (g sz : Nat) : List D → List D → Prop
 | nil : GhostL g sz [] []
 | same {d : D} {l l' : List D} (h : GhostL g sz l l') : GhostL g sz (d :: l) (d :: l')
 | turn {l l' : List D} (h : GhostL g sz l l') : GhostL g sz (.v (.slice none 0 0) :: l) (.own g sz 0 0 :: l')
theorem GhostL.vl {w : World} {X : Nat → Prop} {g sz : Nat} {l l' : List D} (h : GhostL g sz l l') : ∀ {vs : List Value}, VL w X l vs → VL w X l' vs := by
 induction h with
 | nil => exact fun h => h
 | same _ ih => intro vs h; cases h with | cons h1 h2 => exact .cons h1 (ih h2)
 | turn _ ih => intro vs h; cases h with | cons h1 h2 => cases h1; exact .cons (.own (Nat.le_refl _) (.inr ⟨rfl, rfl⟩)) (ih h2)
theorem Rel.ghostM {n : Nat} {fr : Nat → D} {h : Heap} {c sz1 sz : Nat} {es : List D} {es' : Nat → List D} {h' : Nat → Heap} (hrepl : ∀ g, Repl c (.cells sz1 es) c (.cells sz1 (es' g)) h (h' g))
   (hfl : ∀ g, GhostL g sz (D.flats es) (D.flats (es' g))) (hlen : ∀ g, (es' g).length = es.length) (hok : ∀ g, ∀ d ∈ es' g, d.ok sz1) {A M : Nat → Prop} {w0 : World} {a : Act} {w : World} (r : Rel n A M w0 fr h a w) : ∃ g, Rel n A M w0 fr ((g, .cells sz []) :: h' g) a w := by
   obtain ⟨g, _, _, hr, hm⟩ := r.heap.ghost sz
   have hk : keys (h' g) = keys h := (hrepl g).keys_eq
   obtain ⟨h1, h2, e1, e2⟩ := (hrepl g).split
   have hX : XX A ((g, .cells sz []) :: h' g) = XX A ((g, .cells sz []) :: h) := by
     funext b; simp only [XX, keys_cons, hk]
   have hb : BlkRel w (XX A ((g, .cells sz []) :: h)) c (.cells sz1 es) := hr.blk _ _ (by rw [e1]; simp)
   have hr' : HRel A M w0 ((g, .cells sz []) :: h' g) w := by
     refine ⟨by rw [keys_cons, hk]; exact hr.nodup, ?_, by rw [keys_cons, hk]; exact hr.free, by rw [keys_cons, hk]; exact hr.mine, hr.bound, hr.old, hr.ext, by rw [hX]; exact hr.glob⟩
     intro c' b' hc'
     rw [hX]
     rcases List.mem_cons.1 hc' with hc' | hc'
     · exact hr.blk _ _ (by rw [hc']; simp)
     · rw [e2] at hc'
       rcases List.mem_append.1 hc' with h3 | h3
       · exact hr.blk _ _ (by rw [e1]; simp [h3])
       · rcases List.mem_cons.1 h3 with h3 | h3
         · cases h3
           refine ⟨hok g, ?_⟩
           rcases hb.2 with ⟨q1, q2⟩ | ⟨q1, arr, e, cs, q2, q3, q4⟩
           · left; refine ⟨q1, ?_⟩
             have := hlen g; rw [q2] at this; exact List.eq_nil_of_length_eq_zero this
           · exact .inr ⟨q1, arr, e, cs, q2, (hfl g).vl q3, q4⟩
         · exact hr.blk _ _ (by rw [e1]; simp [h3])
   refine ⟨g, r.size, fun i => ?_, by rw [hX]; exact r.defers.mono hm, hr'⟩
   rw [hX]; exact (r.frame i).mono hm
theorem wpA_ghostM {P : Program} {n : Nat} {Q : Post} {fr : Nat → D} {h : Heap} {c0 : Code} {c sz1 sz : Nat} {es : List D} {es' : Nat → List D} {h' : Nat → Heap} (hrepl : ∀ g, Repl c (.cells sz1 es) c (.cells sz1 (es' g)) h (h' g))
   (hfl : ∀ g, GhostL g sz (D.flats es) (D.flats (es' g))) (hlen : ∀ g, (es' g).length = es.length) (hok : ∀ g, ∀ d ∈ es' g, d.ok sz1) (hh : ∀ g, wpA P n c0 Q fr ((g, .cells sz []) :: h' g)) : wpA P n c0 Q fr h :=
 fun A M w0 a w r => by
   obtain ⟨g, r'⟩ := r.ghostM hrepl hfl hlen hok
   exact hh g A M w0 a w r'
abbrev Cl (n : Nat) (Q : Post) : Post
 | .normal, fr, h => ∀ A M w0 a w, Rel n A M w0 fr h a w → Conc n A M w0 Q .normal a w
 | e, fr, h => Q e fr h
theorem wpA_cl {P : Program} {n : Nat} {Q : Post} {fr : Nat → D} {h : Heap} {c : Code} (hh : wpA P n c (Cl n Q) fr h) : wpA P n c Q fr h :=
 fun A M w0 a w r ro hro => wpIn_mono (hh A M w0 a w r ro hro) fun e a' w' ⟨fr', h', hq, r'⟩ => by
   cases e <;> first | exact hq A M w0 a' w' r' | exact ⟨fr', h', hq, r'⟩
theorem cl_of {n : Nat} {Q : Post} {fr : Nat → D} {h : Heap} (hq : Q .normal fr h) : Cl n Q .normal fr h := fun _ _ _ _ _ r => ⟨fr, h, hq, r⟩
theorem cl_ghostM {n : Nat} {Q : Post} {fr : Nat → D} {h : Heap} {c sz1 sz : Nat} {es : List D} {es' : Nat → List D} {h' : Nat → Heap} (hrepl : ∀ g, Repl c (.cells sz1 es) c (.cells sz1 (es' g)) h (h' g))
   (hfl : ∀ g, GhostL g sz (D.flats es) (D.flats (es' g))) (hlen : ∀ g, (es' g).length = es.length) (hok : ∀ g, ∀ d ∈ es' g, d.ok sz1) (hh : ∀ g, Cl n Q .normal fr ((g, .cells sz []) :: h' g)) : Cl n Q .normal fr h :=
 fun A M w0 a w r => by
   obtain ⟨g, r'⟩ := r.ghostM hrepl hfl hlen hok
   exact hh g A M w0 a w r'
theorem wpA_perm {P : Program} {n : Nat} {Q : Post} {fr : Nat → D} {h h' : Heap} {c : Code} (hp : h.Perm h') (hh : wpA P n c Q fr h') : wpA P n c Q fr h :=
 fun A M w0 a w r => by
   obtain ⟨r1, m1⟩ := r.heap.perm hp
   have r' := r.turn r1 m1
   exact hh A M w0 a w r'
theorem wpA_loopP {P : Program} {n : Nat} {Q : Post} {fr : Nat → D} {h : Heap} {c : Code} (I : Nat → (Nat → D) → Heap → Prop) (h0 : ∃ k fr0 h0, I k fr0 h0 ∧ h.Perm h0 ∧ Cov fr fr0)
   (round : ∀ k fr h, I k fr h → wpA P n c (fun e fr' h' => match e with | .normal => ∃ k' fr0 h0, k' < k ∧ I k' fr0 h0 ∧ h'.Perm h0 ∧ Cov fr' fr0 | e => Q e fr' h') fr h) : wpA P n (.loop c) Q fr h := by
 obtain ⟨k, fr0, h0, hI, hp, hc⟩ := h0
 refine wpA_loopE (fun k fr h => ∃ h0, I k fr h0 ∧ h.Perm h0) ⟨k, fr0, ⟨h0, hI, hp⟩, hc⟩ ?_
 rintro k fr h ⟨h0, hI, hp⟩
 refine wpA_perm hp ?_
 intro A M w0 a w r ro hro
 refine wpIn_mono (round k fr h0 hI A M w0 a w r ro hro) ?_
 rintro e a' w' ⟨fr', h', hq, r'⟩
 cases e with
 | normal =>
   obtain ⟨k', fr0, h0, hk, hI', hp', hc'⟩ := hq
   exact ⟨fr', h', ⟨k', fr0, hk, ⟨h0, hI', hp'⟩, hc'⟩, r'⟩
 | exit id => exact ⟨fr', h', hq, r'⟩
 | goto l => exact ⟨fr', h', hq, r'⟩
 | ret => exact ⟨fr', h', hq, r'⟩
 | panic ch => exact ⟨fr', h', hq, r'⟩
 | outgrown => exact ⟨fr', h', hq, r'⟩
def rowsD (c n m : Nat) : List D := (List.range n).map fun i => D.own c 1 (i * m) m
theorem rowsD_length (c n m : Nat) : (rowsD c n m).length = n := by simp [rowsD]
theorem rowsD_get {c n m i : Nat} (h : i < n) : (rowsD c n m)[0 + i]? = some (.own c 1 (i * m) m) := by simp [rowsD, h]
theorem rows_val (c k m : Nat) : D.own c 1 (0 + ((k : Int) * (m : Int)).toNat) ((((k : Int) + 1) * (m : Int)).toNat - ((k : Int) * (m : Int)).toNat) = .own c 1 (k * m) m := by
 have h1 : ((k : Int) * (m : Int)).toNat = k * m := by rw [← Int.natCast_mul]; rfl
 have h2 : (((k : Int) + 1) * (m : Int)).toNat = k * m + m := by
   rw [show ((k : Int) + 1) * (m : Int) = ((k * m + m : Nat) : Int) by rw [Int.add_mul, Int.one_mul]; simp]; rfl
 rw [h1, h2]; congr 1 <;> omega
def rowsTo (c n m k : Nat) : List D := rowsD c k m ++ List.replicate (n - k) (.v (.slice none 0 0))
theorem rowsTo_length {c n m k : Nat} (h : k ≤ n) : (rowsTo c n m k).length = n := by simp [rowsTo, rowsD_length]; omega
theorem rowsTo_flat {c n m k : Nat} : ∀ d ∈ rowsTo c n m k, d.flat.length = 1 := by
 intro d hd
 rcases List.mem_append.1 hd with h | h
 · obtain ⟨i, _, rfl⟩ := List.mem_map.1 h; rfl
 · rw [(List.mem_replicate.1 h).2]; rfl
theorem rowsTo_succ {c n m k : Nat} (h : k < n) {d : D} (hd : d = .own c 1 (k * m) m) : (rowsTo c n m k).set (0 + k) d = rowsTo c n m (k + 1) := by
 subst hd
 unfold rowsTo
 obtain ⟨q, hq⟩ : ∃ q, n - k = q + 1 := ⟨n - k - 1, by omega⟩
 have hq2 : n - (k + 1) = q := by omega
 rw [hq, hq2, Nat.zero_add, List.set_append_right _ _ (by rw [rowsD_length]; omega), rowsD_length, Nat.sub_self]
 simp [List.replicate_succ, rowsD, List.range_succ]
theorem rowsTo_zero {c n m : Nat} : rowsTo c n m 0 = List.replicate n (.v (.slice none 0 0)) := by simp [rowsTo, rowsD]
theorem rowsTo_all {c n m : Nat} : rowsTo c n m n = rowsD c n m := by simp [rowsTo]
theorem Snap.rows {h : Heap} {c m : Nat} {l : List Int} {T : Nat → Nat → Int} (hc : Has c (.cells 1 (l.map D.i)) h) : ∀ (is : List Nat), (∀ i ∈ is, i * m + m ≤ l.length) → (∀ i ∈ is, ∀ j, j < m → l[i * m + j]? = some (T i j)) →
   Snap false h (D.flats (is.map fun i => D.own c 1 (i * m) m)) (D.flats (is.map fun i => D.list 1 (((List.range m).map (T i)).map D.i)))
 | [], _, _ => .nil
 | i :: is, hl, hT => by
   have h1 := Snap.rows hc is (fun i hi => hl i (by simp [hi])) (fun i hi => hT i (by simp [hi]))
   have h2 := hl i (by simp)
   have e : ((l.map D.i).drop (i * m)).take m = ((List.range m).map (T i)).map D.i := by
     rw [← List.map_drop, ← List.map_take]
     congr 1
     apply List.ext_getElem?
     intro j
     rw [List.getElem?_take]
     split
     · rename_i hj
       rw [List.getElem?_drop, hT i (by simp) j hj]; simp [hj]
     · rename_i hj
       rw [List.getElem?_eq_none (by simp; omega)]
   have := Snap.ownp (f := false) (sz := 1) (i := i * m) (len := m) hc (by simp; omega) (by simp) h1
   rw [e] at this
   exact this
theorem Snap.table {h : Heap} {r c n m : Nat} {l : List Int} {T : Nat → Nat → Int} {ds ds' : List D} (hr : Has r (.cells 1 (rowsD c n m)) h) (hc : Has c (.cells 1 (l.map D.i)) h) (hl : l.length = n * m)
   (hT : ∀ i j, i < n → j < m → l[i * m + j]? = some (T i j)) (hs : Snap false h ds ds') :
   Snap false h (.own r 1 0 n :: ds) (.list 1 (((List.range n).map fun i => (List.range m).map (T i)).map fun x => .list 1 (x.map D.i)) :: ds') := by
 refine .own (es' := _) hr (by rw [rowsD_length]; omega) ?_ (by simp) ?_ hs
 · intro d hd
   obtain ⟨x, _, rfl⟩ := List.mem_map.1 hd
   exact .of rfl
 · rw [List.drop_zero, List.take_of_length_le (by rw [rowsD_length]; omega), List.map_map]
   exact Snap.rows hc _ (fun i hi => by
     have h1 := List.mem_range.1 hi
     have : (i + 1) * m ≤ n * m := Nat.mul_le_mul_right m h1
     rw [Nat.add_mul] at this; omega) (fun i hi j hj => hT i j (List.mem_range.1 hi) hj)
theorem zN {p : Prop} (h : p := by first | exact nat_lit0 | exact nat_lit1 | exact nat_lit2 | exact nat_add1 _ | exact nat_add _ _ | exact rfl | exact nat_sub1 (by omega) | exact nat_sub (by omega) | exact natp1 (nat_sub (by omega)) | exact nat_of (by omega)) : p := h
theorem zC {p : Prop} (h : p := by first | rfl | exact getM _ _ _ (by omega) | exact getO (by omega) | exact getL _ _ (by omega) | (simp; done)) : p := h
theorem zM {p : Prop} (h : p := by first | omega | (simp; omega)) : p := h
theorem zW {p : Prop} (h : p := by with_reducible conv => lhs; whnf) : p := h
theorem zK {p : Prop} (h : p := by kernel_rfl) : p := h
theorem zH {p : Prop} (h : p := by first | exact .head | exact .tail .head | exact .tail (.tail .head) | exact .tail (.tail (.tail .head)) | exact .tail (.tail (.tail (.tail .head)))) : p := h
theorem zI {p q : Prop} (h : p) (e : p = q := by conv => lhs; simp only [decide_eq_true_eq, decide_eq_false_iff_not, beq_iff_eq, bne_iff_ne, beq_eq_false_iff_ne, bne_eq_false_iff_eq, Bool.not_eq_true', Bool.not_eq_false', Int.not_lt, Int.not_le, gt_iff_lt, ge_iff_le, ne_eq]) : q := e ▸ h
theorem cvZ {fr : Nat → D} {l : List (Nat × D)} (h : covL fr l := by repeat first | exact trivial | refine ⟨rfl, ?_⟩) : Cov fr (asg l) := .asg h
end Go.Lic
