/-
  Rules for scripts: frames that are written out, splits, loops with an invariant, known branches.
-/
import Derived.Test.YtnnbgemjkhgldaaDoorDraw1
import Derived.ChangeKeysEq
set_option linter.all false
namespace Go.Lic

/-- A frame that is written out; of the other slots nothing is known. -/
@[reducible] def asg : List (Nat × D) → Nat → D
  | [], _ => .top
  | (k, d) :: l, t => sel (Nat.beq t k) d (asg l t)

def Cov (fr fr0 : Nat → D) : Prop := ∀ t, fr0 t = .top ∨ fr0 t = fr t

def covL (fr : Nat → D) : List (Nat × D) → Prop
  | [] => True
  | (k, d) :: l => fr k = d ∧ covL fr l

theorem Cov.asg {fr : Nat → D} : ∀ {l : List (Nat × D)}, covL fr l → Cov fr (asg l)
  | [], _, _ => .inl rfl
  | (k, d) :: l, h, t => by
    show sel (Nat.beq t k) d (Lic.asg l t) = .top ∨ sel (Nat.beq t k) d (Lic.asg l t) = fr t
    cases hb : Nat.beq t k with
    | true =>
      have := Nat.eq_of_beq_eq_true hb
      subst this
      exact .inr h.1.symm
    | false => exact Cov.asg h.2 t

theorem Rel.cov {n : Nat} {A M : Nat → Prop} {w0 : World} {fr fr0 : Nat → D} {h : Heap} {a : Act} {w : World} (r : Rel n A M w0 fr h a w) (hc : Cov fr fr0) : Rel n A M w0 fr0 h a w :=
  ⟨r.size, fun i => by rcases hc i with h1 | h1 <;> rw [h1]; exact .top _; exact r.frame i, r.defers, r.heap⟩

theorem D.ok.of {sz : Nat} {d : D} (h : (Nat.beq d.flat.length sz && d.flat.all D.cell) = true) : d.ok sz := by
  simp only [Bool.and_eq_true, List.all_eq_true] at h
  exact ⟨Nat.eq_of_beq_eq_true h.1, h.2⟩

theorem getM {α β : Type} (f : α → β) (l : List α) (i : Nat) (h : i < l.length) : (l.map f)[i]? = some (f l[i]) := by simp [h]
theorem getL {α : Type} (l : List α) (i : Nat) (h : i < l.length) : l[i]? = some l[i] := List.getElem?_eq_getElem h

section
variable {P : Program} {n : Nat} {ops : Array Oper} {Q : Post} {fr fr0 : Nat → D} {h : Heap} {l : List Oper}

theorem wpA_cov {c : Code} (hc : Cov fr fr0) (hh : wpA P n c Q fr0 h) : wpA P n c Q fr h := fun A M w0 a w r => hh A M w0 a w (r.cov hc)
theorem wpL_cov (hc : Cov fr fr0) (hh : wpL P n ops l Q fr0 h) : wpL P n ops l Q fr h := fun A M w0 a w r => hh A M w0 a w (r.cov hc)

theorem upd_self {s : Nat} {d : D} (h : fr s = d) : upd fr s d = fr := by
  funext t
  by_cases ht : t = s
  · subst ht; rw [upd_same, h]
  · rw [upd_ne _ _ ht]

/-- A bool in a slot: both cases. -/
theorem wpL_split {s : Nat} {b : Bool} (hb : fr s = .b b) (ht : b = true → wpL P n ops l Q (upd fr s (.b true)) h) (hf : b = false → wpL P n ops l Q (upd fr s (.b false)) h) : wpL P n ops l Q fr h := by
  cases b with
  | true => have := ht rfl; rwa [upd_self hb] at this
  | false => have := hf rfl; rwa [upd_self hb] at this

theorem DetK_split {C : (Nat → D) → Prop} {s : Nat} {b : Bool} (hb : fr s = .b b) (ht : b = true → DetK P ops h l (upd fr s (.b true)) C) (hf : b = false → DetK P ops h l (upd fr s (.b false)) C) : DetK P ops h l fr C := by
  cases b with
  | true => have := ht rfl; rwa [upd_self hb] at this
  | false => have := hf rfl; rwa [upd_self hb] at this

theorem wpA_split {c : Code} {s : Nat} {b : Bool} (hb : fr s = .b b) (ht : b = true → wpA P n c Q (upd fr s (.b true)) h) (hf : b = false → wpA P n c Q (upd fr s (.b false)) h) : wpA P n c Q fr h := by
  cases b with
  | true => have := ht rfl; rwa [upd_self hb] at this
  | false => have := hf rfl; rwa [upd_self hb] at this

theorem wpA_condT {c : Operand} {x y : Code} (hb : ev fr c = .b true) (ht : wpA P n x Q fr h) : wpA P n (.cond c x y) Q fr h := wpA_cond hb (fun _ => ht) (fun h => by cases h)
theorem wpA_condF {c : Operand} {x y : Code} (hb : ev fr c = .b false) (hf : wpA P n y Q fr h) : wpA P n (.cond c x y) Q fr h := wpA_cond hb (fun h => by cases h) (fun _ => hf)

/-- A loop, its frame and heap written out at the head of each round. -/
theorem wpA_loopE {c : Code} (I : Nat → (Nat → D) → Heap → Prop) (h0 : ∃ k fr0, I k fr0 h ∧ Cov fr fr0)
    (round : ∀ k fr h, I k fr h → wpA P n c (fun e fr' h' => match e with | .normal => ∃ k' fr0, k' < k ∧ I k' fr0 h' ∧ Cov fr' fr0 | e => Q e fr' h') fr h) : wpA P n (.loop c) Q fr h := by
  obtain ⟨k, fr0, hI, hc⟩ := h0
  refine wpA_cov hc (wpA_loop I hI fun k fr h hI => ?_)
  intro A M w0 a w r
  refine wp_mono (round k fr h hI A M w0 a w r) ?_
  rintro e a' w' ⟨fr', h', hq, r'⟩
  cases e with
  | normal =>
    obtain ⟨k', fr0, hk, hI', hc'⟩ := hq
    exact ⟨fr0, h', ⟨k', hk, hI'⟩, r'.cov hc'⟩
  | exit id => exact ⟨fr', h', hq, r'⟩
  | goto l => exact ⟨fr', h', hq, r'⟩
  | ret => exact ⟨fr', h', hq, r'⟩
  | panic ch => exact ⟨fr', h', hq, r'⟩
  | outgrown => exact ⟨fr', h', hq, r'⟩

/-- A cut: J says what is needed of the state behind x, its frame written out. -/
theorem wpA_cutE {x y : Code} (J : (Nat → D) → Heap → Prop) (hx : wpA P n x (fun e fr' h' => match e with | .normal => ∃ fr0, J fr0 h' ∧ Cov fr' fr0 | e => Q e fr' h') fr h)
    (hy : ∀ fr h, J fr h → wpA P n y Q fr h) : wpA P n (.seq x y) Q fr h :=
  wpA_cut (fun fr' h' => ∃ fr0, J fr0 h' ∧ Cov fr' fr0) hx fun _ _ ⟨fr0, hJ, hc⟩ => wpA_cov hc (hy fr0 _ hJ)

/-- The nil slice in a slot becomes a slice of our own without memory. -/
theorem wpA_ghost {c : Code} {s sz : Nat} (hs : fr s = .v (.slice none 0 0)) (hn : Nat.blt s n = true) (hh : ∀ g, wpA P n c Q (upd fr s (.own g sz 0 0)) ((g, .cells sz []) :: h)) : wpA P n c Q fr h :=
  fun A M w0 a w r => by
    obtain ⟨g, _, _, hr, hm⟩ := r.heap.ghost sz
    refine hh g A M w0 a w ⟨r.size, fun i => ?_, r.defers, hr⟩
    by_cases hi : i = s
    · subst hi
      rw [upd_same]
      have := r.frame i
      rw [hs] at this
      generalize a.tmps.getD i undef = x at this
      cases this
      exact .own (Nat.le_refl _) (.inr ⟨rfl, rfl⟩)
    · rw [upd_ne _ _ hi]
      exact (r.frame i).mono hm

/-- Own memory from now on looked at as data: d in slot s becomes d'; the block is forgotten. -/
theorem wpA_freeze {c : Code} {s : Nat} {d d' : D} {h0 : Heap} {x : Nat × Blk} (hp : h.Perm (x :: h0)) (hd : fr s = d) (hsn : Snap false [x] [d] [d']) (hh : wpA P n c Q (upd fr s d') h0) : wpA P n c Q fr h :=
  fun A M w0 a w r => by
    obtain ⟨r1, m1⟩ := r.heap.perm hp
    obtain ⟨r2, m2⟩ := r1.tail
    have r' := r.turn r2 (m1.trans m2)
    refine hh A M w0 a w ⟨r'.size, fun i => ?_, r'.defers, r'.heap⟩
    by_cases hi : i = s
    · subst hi
      rw [upd_same]
      have hv := (r.frame i).mono m1
      rw [hd] at hv
      have hk : x.1 ∉ keys h0 := (List.nodup_cons.1 (by simpa using r1.nodup)).1
      have := hsn.sound (X' := XX A h0) r1 (fun c b hh => by cases hh with | head => exact .head | tail t => cases t) (fun _ b hb => by
          rcases hb with hb | hb
          · exact .inl hb
          · exact .inr (by simp [hb])) (fun c hc hev hx => by
          simp at hc; subst hc
          rcases hx with hx | hx
          · rw [show 2 * (x.1 / 2) = x.1 from by omega] at hx
            exact r1.free x.1 (by simp) hx
          · rw [show 2 * (x.1 / 2) = x.1 from by omega] at hx
            exact hk hx) [_] (.cons hv .nil)
      cases this with
      | cons h1 _ => exact h1
    · rw [upd_ne _ _ hi]
      exact r'.frame i
end
end Go.Lic

set_option linter.all false
namespace Go.Lic

theorem nat_add (a b : Nat) : (a : Int) + (b : Int) = ((a + b : Nat) : Int) := rfl
theorem nat_add1 (a : Nat) : (a : Int) + 1 = ((a + 1 : Nat) : Int) := rfl
theorem nat_sub1 {a : Nat} (h : 1 ≤ a) : (a : Int) - 1 = ((a - 1 : Nat) : Int) := by omega
theorem nat_sub {a b : Nat} (h : b ≤ a) : (a : Int) - (b : Int) = ((a - b : Nat) : Int) := by omega
theorem natp1 {a : Int} {n : Nat} (h : a = (n : Int)) : a + 1 = ((n + 1 : Nat) : Int) := by omega
theorem nat_lit0 : (0 : Int) = ((0 : Nat) : Int) := rfl
theorem nat_lit1 : (1 : Int) = ((1 : Nat) : Int) := rfl
theorem nat_lit2 : (2 : Int) = ((2 : Nat) : Int) := rfl
theorem nat_of {a : Int} (h : 0 ≤ a) : a = ((a.toNat : Nat) : Int) := by omega

theorem getO {pre xs : List D} {i : Nat} (h : i < xs.length) : (pre ++ xs)[pre.length + i]? = some xs[i] := by
  rw [List.getElem?_append_right (by omega)]
  simp [h]

theorem Snap.vec {f : Bool} {h : Heap} {c sz n : Nat} {pre xs ds ds' : List D} (hh : Has c (.cells sz (pre ++ xs)) h) (hn : xs.length = n) (hp : f = true → ∀ d ∈ D.flats xs, Plain d) (hs : Snap f h ds ds') : Snap f h (.own c sz pre.length n :: ds) (.list sz xs :: ds') := by
  have e1 : ((pre ++ xs).drop pre.length).take n = xs := by rw [List.drop_left]; exact List.take_of_length_le (by omega)
  have := Snap.ownp (f := f) (ds := ds) (ds' := ds') (i := pre.length) (len := n) hh (by simp; omega) (by rw [e1]; exact hp) hs
  rwa [e1] at this

inductive OkL (fr : Nat → D) (sz : Nat) : List (Nat × Operand) → Prop
  | nil : OkL fr sz []
  | cons {p : Nat × Operand} {l : List (Nat × Operand)} (h : (ev fr p.2).ok sz) (hs : OkL fr sz l) : OkL fr sz (p :: l)

inductive OkE (fr : Nat → D) : List (Nat × Operand) → Prop
  | nil : OkE fr []
  | cons {sz : Nat} {p : Nat × Operand} {l : List (Nat × Operand)} (h : (ev fr p.2).ok sz) (hs : OkE fr l) : OkE fr (p :: l)

theorem OkL.all {fr : Nat → D} {sz : Nat} : ∀ {l : List (Nat × Operand)}, OkL fr sz l → ∀ p ∈ l, (ev fr p.2).ok sz
  | _, .nil, _, h => by simp at h
  | _, .cons h hs, p, hp => by
    rcases List.mem_cons.1 hp with rfl | hp
    · exact h
    · exact hs.all p hp

theorem OkE.all {fr : Nat → D} : ∀ {l : List (Nat × Operand)}, OkE fr l → ∀ p ∈ l, ∃ sz, (ev fr p.2).ok sz
  | _, .nil, _, h => by simp at h
  | _, .cons h hs, p, hp => by
    rcases List.mem_cons.1 hp with rfl | hp
    · exact ⟨_, h⟩
    · exact hs.all p hp

section
variable {P : Program} {o : Oper} {fr : Nat → D} {h : Heap} {K : D → Heap → Prop}

theorem OpA.mv {x : Operand} {d : D} (ho : o.op = .move x) (hd : ev fr x = d) (hk : K d h) : OpA P o fr h K := .move ho (by rw [hd]; exact hk)
theorem OpA.asn {x : Operand} {d : D} (ho : o.op = .assign x) (hd : ev fr x = d) (hk : K d h) : OpA P o fr h K := .assign ho (by rw [hd]; exact hk)
theorem OpA.pck {c x y : Operand} {b : Bool} {d : D} (ho : o.op = .pick c x y) (hc : ev fr c = .b b) (hd : sel b (ev fr x) (ev fr y) = d) (hk : K d h) : OpA P o fr h K :=
  .pick ho hc (by cases b <;> (simp only [sel] at hd; subst hd; exact hk))
theorem OpA.bx {e : TypeId} {x : Operand} {sz : Nat} {d : D} (ho : o.op = .box e x) (hd : ev fr x = d) (hx : d.ok sz) (hk : ∀ c, c ∉ keys h → K (.ptr c sz 0 0) ((c, .cells sz [d]) :: h)) : OpA P o fr h K :=
  .box ho (by rw [hd]; exact hx) (by rw [hd]; exact hk)
theorem OpA.nc {x : Operand} {d : D} (ho : o.op = .nilCheck x) (hd : ev fr x = d) (hx : (∃ c sz i k, d = .ptr c sz i k) ∨ (∃ e k, d = .iptr e k) ∨ (∃ f cs, d = .fn (.func f) [] cs)) (hk : K d h) : OpA P o fr h K :=
  .nilCheck ho (by rw [hd]; exact hx) (by rw [hd]; exact hk)

theorem OpA.iixN {t et : TypeId} {bytes : Nat} {agg : Bool} {x ix : Operand} {kd : IntKind} {j : Int} {sz n : Nat} {ds : List D} {e : D} (ho : o.op = .indexAddr t x ix) (ht : TS P t et sz bytes agg) (hsz : Nat.blt 0 sz = true) (hx : ev fr x = .list sz ds)
    (hi : ev fr ix = .v (.int kd j)) (hj : j = (n : Int)) (he : ds[n]? = some e) (hk : K (.iptr e 0) h) : OpA P o fr h K :=
  .iindexAddr ho ht hsz hx hi (by omega) (by subst hj; simpa using he) hk
theorem OpA.ixN {t et : TypeId} {bytes : Nat} {agg : Bool} {x ix : Operand} {kd : IntKind} {j : Int} {c sz i len n : Nat} (ho : o.op = .indexAddr t x ix) (ht : TS P t et sz bytes agg) (hx : ev fr x = .own c sz i len)
    (hi : ev fr ix = .v (.int kd j)) (hj : j = (n : Int)) (hl : n < len) (hk : K (.ptr c sz (i + n) 0) h) : OpA P o fr h K :=
  .indexAddr ho ht hx hi (by omega) (by omega) (by subst hj; simpa using hk)
theorem OpA.aixN {t et : TypeId} {len esz : Nat} {agg : Bool} {x ix : Operand} {kd : IntKind} {j : Int} {c sz i k n : Nat} (ho : o.op = .indexAddr t x ix) (ht : P.underlying t = some (.array len et)) (hte : TI P et esz agg) (hx : ev fr x = .ptr c sz i k)
    (hi : ev fr ix = .v (.int kd j)) (hj : j = (n : Int)) (hl : n < len) (hk : K (.ptr c sz i (k + n * esz)) h) : OpA P o fr h K :=
  .aindexAddr ho ht hte hx hi (by omega) (by omega) (by subst hj; simpa using hk)
theorem OpA.iaixN {t et : TypeId} {len esz : Nat} {agg : Bool} {x ix : Operand} {kd : IntKind} {j : Int} {k n : Nat} {e : D} (ho : o.op = .indexAddr t x ix) (ht : P.underlying t = some (.array len et)) (hte : TI P et esz agg) (hx : ev fr x = .iptr e k)
    (hi : ev fr ix = .v (.int kd j)) (hj : j = (n : Int)) (hl : n < len) (hk : K (.iptr e (k + n * esz)) h) : OpA P o fr h K :=
  .iaindexAddr ho ht hte hx hi (by omega) (by omega) (by subst hj; simpa using hk)
theorem OpA.sixN {t : TypeId} {x ix : Operand} {k : IntKind} {j : Int} {n : Nat} {s : ByteArray} {u : UInt8} (ho : o.op = .index t x ix) (ht : P.underlying t = some .string) (hx : ev fr x = .s s) (hi : ev fr ix = .v (.int k j)) (hj : j = (n : Int))
    (hu : s.data.toList[n]? = some u) (hk : K (.v (.int .u8 u.toNat)) h) : OpA P o fr h K := .sindex ho ht hx hi (by omega) (by subst hj; simpa using hu) hk

theorem vl_vals {w : World} {X : Nat → Prop} : ∀ (xs ys : List Value), VL w X (xs.map D.v) ys → ys = xs
  | [], ys, h => by cases h; rfl
  | x :: xs, ys, h => by
    cases h with
    | cons h1 h2 => cases h1; rw [vl_vals xs _ h2]

/-- Structs and arrays of plain values: equal or not. -/
theorem OpA.aggcmp {op : BinOp} {t t2 : TypeId} {x y : Operand} {xs ys : List Value} {r : Bool} (ho : o.op = .binOp op t x y t2) (hm : P.eqGuardType P.depth t = false) (hx : ev fr x = .agg (xs.map D.v)) (hy : ev fr y = .agg (ys.map D.v))
    (he : ∀ w, (Op.equalIn 10000 t (.agg xs.toArray) (.agg ys.toArray)).run P w = .ok r w) {b : Bool} (hop : (op = .eql ∧ b = r) ∨ (op = .neq ∧ b = !r)) (hk : K (.b b) h) : OpA P o fr h K :=
  .of_quiet (fun A M w0 ac w _ hv => by
    have h1 := hv x (by simp [ho, Op.operands])
    have h2 := hv y (by simp [ho, Op.operands])
    rw [hx] at h1; rw [hy] at h2
    generalize hu : ac.eval x = u at h1
    generalize hu2 : ac.eval y = u2 at h2
    cases h1 with
    | agg h1 =>
      cases h2 with
      | agg h2 =>
        have e1 := vl_vals _ _ h1
        have e2 := vl_vals _ _ h2
        subst e1; subst e2
        refine ⟨.bool b, ?_, .v _⟩
        have hg : ∀ op (xs ys : Array Value), (eqGuard op t x y (.agg xs) (.agg ys)).run P w = .ok () w := fun op xs ys => run_eqGuard_agg w op t x y xs ys hm
        rcases hop with ⟨rfl, rfl⟩ | ⟨rfl, rfl⟩
        · simp only [execOp, ho, hu, hu2, Sem.run_bind, hg, Result.andThen_ok, run_eql_struct, he, Sem.run_pure]
        · simp only [execOp, ho, hu, hu2, Sem.run_bind, hg, Result.andThen_ok, run_neq_struct, he, Sem.run_pure]) hk

/-- append to a slice of our own, told as a list xs behind something. -/
theorem OpA.appendV {t e : TypeId} {sz bytes : Nat} {agg : Bool} {cl : Call} {s x : Operand} {c n : Nat} {pre xs ds : List D} {hf : Nat → Blk → Heap} (ho : o.op = .call cl) (hc : cl.callee = .builtin .append) (ha : cl.args = #[s, x]) (hty : cl.argTypes = #[t, t])
    (ht : TS P t e sz bytes agg) (hs : ev fr s = .own c sz pre.length n) (hrepl : ∀ c' b', Repl c (.cells sz (pre ++ xs)) c' b' h (hf c' b')) (hx : SrcIs h sz (ev fr x) ds) (hxs : xs.length = n)
    (hbytes : (n + ds.length) * bytes ≤ 140737488355328) (hmax : n + ds.length ≤ 9223372036854775807) (hk : ∀ c' pre', K (.own c' sz pre'.length (n + ds.length)) (hf c' (.cells sz (pre' ++ (xs ++ ds))))) : OpA P o fr h K :=
  .append ho hc ha hty ht hs hrepl hx (by simp; omega) hbytes hmax (fun c' pre' => by
    have e1 : ((pre ++ xs).drop pre.length).take n = xs := by rw [List.drop_left]; exact List.take_of_length_le (by omega)
    rw [e1, List.append_assoc]; exact hk c' pre')

theorem OpA.ibuildSliceO {t e : TypeId} {sz bytes len : Nat} {agg : Bool} {parts : Array (Nat × Operand)} (ho : o.op = .buildSlice t len parts) (ht : TS P t e sz bytes agg) (hidx : parts.toList.map (·.1) = List.range len)
    (hok : OkL fr sz parts.toList) (hb : len * sz ≤ 16777216) (hk : K (.list sz (parts.toList.map fun p => ev fr p.2)) h) : OpA P o fr h K := .ibuildSlice ho ht hidx hok.all hb hk

theorem OpA.buildSliceO {t e : TypeId} {sz bytes len : Nat} {agg : Bool} {parts : Array (Nat × Operand)} (ho : o.op = .buildSlice t len parts) (ht : TS P t e sz bytes agg) (hidx : parts.toList.map (·.1) = List.range len)
    (hok : OkL fr sz parts.toList) (hb : len * sz ≤ 16777216) (hk : ∀ c, K (.own c sz 0 len) ((c, .cells sz (parts.toList.map fun p => ev fr p.2)) :: h)) : OpA P o fr h K := .buildSlice ho ht hidx hok.all hb hk

theorem OpA.buildO {t : TypeId} {parts : Array (Nat × Operand)} {pl : List (Nat × Nat)} {zc : Array Value} {zs ds : List D} (ho : o.op = .build t parts) (hp : placesOf P t = some pl) (hz : (P.info? t).bind (·.zero) = some (.agg zc))
    (hzs : ∀ w X, VL w X zs zc.toList) (hok : OkE fr parts.toList) (hd : fillD (pl[·]?) zs (parts.toList.map fun p => (p.1, ev fr p.2)) = some ds) (hk : K (.agg ds) h) : OpA P o fr h K := .build ho hp hz hzs hok.all hd hk

/-- A new variable that nobody will write. -/
theorem OpA.ibox {e : TypeId} {x : Operand} {sz : Nat} (ho : o.op = .box e x) {d : D} (hd : ev fr x = d) (hx : d.ok sz) (hk : K (.iptr d 0) h) : OpA P o fr h K :=
  .of_run fun A M w0 a w hr hv => by
    have h1 := hv x (by simp [ho, Op.operands])
    rw [hd] at h1
    obtain ⟨h3, h4⟩ := hr.allocOut (.cells (a.eval x).cells e)
    refine ⟨.pointer (some ⟨w.heap.size, 0, none⟩), _, _, _, by simp [execOp, ho, Instr.box, newVar, newRow], hk, h3, h4, ?_⟩
    refine .iptr (b := w.heap.size) (o := 0) (k := 0) (cs := (a.eval x).cells.toList) hx.2 ((h1.cells hx).mono h4) (.inr ⟨fun hxx => by have := hr.xlt hxx; omega, fun j c hj => ?_⟩)
    simpa using hj

/-- An array literal. -/
theorem OpA.buildArr {t et : TypeId} {len esz : Nat} {agg : Bool} {parts : Array (Nat × Operand)} {zc : Array Value} {zs ds : List D} (ho : o.op = .build t parts) (ht : P.underlying t = some (.array len et)) (hte : TI P et esz agg) (hz : (P.info? t).bind (·.zero) = some (.agg zc))
    (hzs : ∀ w X, VL w X zs zc.toList) (hok : OkL fr esz parts.toList) (hd : fillD (fun i => some (i * esz, esz)) zs (parts.toList.map fun p => (p.1, ev fr p.2)) = some ds) (hk : K (.agg ds) h) : OpA P o fr h K :=
  .of_quiet (fun A M w0 ac w _ hv => by
    have hvs := parts_VL (ac := ac) parts.toList (fun p hp => hv p.2 (by simp [ho, Op.operands]; exact ⟨p.1, by simpa using hp⟩))
    obtain ⟨cs', h1, h2⟩ := fill_of_fillD (place := fun i => some (i * esz, esz)) (parts.toList.map fun p => (p.1, ev fr p.2)) (parts.toList.map fun p => (p.1, ac.eval p.2)) zs ds zc (hzs w _) (by simp) (by rw [List.map_map, List.map_map]; exact hvs)
      (by intro p hp; obtain ⟨q, hq, rfl⟩ := List.mem_map.1 hp; exact ⟨esz, hok.all q hq⟩) hd
    refine ⟨.agg cs', ?_, .agg (vs := cs'.toList) h2⟩
    have hzr : (zeroValue t).run P w = .ok (.agg zc) w := by
      obtain ⟨i, hi, hi2⟩ := Option.bind_eq_some_iff.1 hz
      simp [zeroValue, typeInfo, hi, hi2]
    have hpt : (parts.map fun (x : Nat × Operand) => (x.1, ac.eval x.2)).toList = parts.toList.map fun p => (p.1, ac.eval p.2) := by simp
    simp only [execOp, ho, Instr.build, Sem.run_bind, hzr, Result.andThen_ok, run_underlying ht, hte.size, Value.cells, hpt, h1]
    rfl) hk

/-- s[l:r:m], s of the call's own. -/
theorem OpA.slice3 {t et : TypeId} {bytes : Nat} {agg : Bool} {x yr ym : Operand} {lo : Option Operand} {c sz i len l : Nat} {kr km : IntKind} {r m : Int} (ho : o.op = .slice t x lo (some yr) (some ym)) (ht : TS P t et sz bytes agg) (hx : ev fr x = .own c sz i len)
    (hl : Bd fr lo 0 l) (hr : ev fr yr = .v (.int kr r) ∧ 0 ≤ r) (hm : ev fr ym = .v (.int km m) ∧ 0 ≤ m) (h1 : l ≤ r.toNat) (h2 : r.toNat ≤ m.toNat) (h3 : m.toNat ≤ len) (hk : K (.own c sz (i + l) (r.toNat - l)) h) : OpA P o fr h K :=
  .of_quiet (fun A M w0 ac w _ hv => by
    have hxo : x ∈ o.op.operands := by simp [ho, Op.operands]
    have hro : yr ∈ o.op.operands := by simp [ho, Op.operands]
    have hmo : ym ∈ o.op.operands := by simp [ho, Op.operands]
    have hvx := hv x hxo
    have hvr := hv yr hro
    have hvm := hv ym hmo
    rw [hx] at hvx; rw [hr.1] at hvr; rw [hm.1] at hvm
    generalize hu : ac.eval x = u at hvx
    generalize hur : ac.eval yr = ur at hvr
    generalize hum : ac.eval ym = um at hvm
    cases hvr; cases hvm
    cases hvx with
    | @own _ _ _ _ cap a hc hd =>
      have hb : (Instr.sliceBounds true len cap (lo.map ac.eval) (some (.int kr r)) (some (.int km m))).run P w = .ok (l, r.toNat, m.toNat) w := by
        cases hl with
        | none => simp [Instr.sliceBounds, run_sliceBound' hm.2 (show m.toNat ≤ cap by omega), run_sliceBound' hr.2 h2]
        | some hlx hl0 =>
          rename_i lx lk li
          have hlo : lx ∈ o.op.operands := by simp [ho, Op.operands]
          have hvl := hv lx hlo
          rw [hlx] at hvl
          generalize hul : ac.eval lx = ul at hvl
          cases hvl
          simp [Instr.sliceBounds, hul, run_sliceBound' hm.2 (show m.toNat ≤ cap by omega), run_sliceBound' hr.2 h2, run_sliceBound' hl0 h1]
      refine ⟨.slice (if m.toNat = l then a else a.map (·.add (l * sz))) (r.toNat - l) (m.toNat - l), ?_, .own (by omega) ?_⟩
      · simp [execOp, ho, hu, hur, hum, Instr.sliceAt, Instr.slice, run_underlying ht.desc, hb, ht.elem.size]
      · rcases hd with ⟨hc2, rfl, e, n, hs, hn⟩ | ⟨hz, hz2⟩
        · by_cases hcl : m.toNat = l
          · exact .inr ⟨by omega, by omega⟩
          · refine .inl ⟨hc2, by simp [if_neg hcl, Addr.add_lit, Nat.add_mul], e, n, hs, Nat.le_trans (Nat.mul_le_mul_right _ (by omega)) hn⟩
        · exact .inr ⟨by omega, by omega⟩) hk
end

theorem wpA_drawV {P : Program} {n : Nat} {ops : Array Oper} {Q : Post} {fr : Nat → D} {h : Heap} {id m p q tp sz : Nat} (hm : P.follows .mixedOrders = true) (hok : drawOk1 ops.toList m p q tp = true) (hn : (ops.toList.take m).all (fun o => (o.dst.all fun d => Nat.blt d n)) = true)
    (hdet : DetK1 P ops h tp sz (ops.toList.take m) fr fun fr' ds => ∃ d, ds[q]? = some d ∧ d.ok sz ∧ ∀ c, wpL P n ops (ops.toList.drop m) Q (upd fr' tp (.ptr c sz 0 0)) ((c, .cells sz [d]) :: h)) : wpA P n (.region id ops true) Q fr h := by
  obtain ⟨ds, h1, d, h2, h3, h4⟩ := hdet
  have e : ds.getD q .top = d := by simp [h2]
  exact wpA_draw1 hm hok hn ⟨ds, h1, by rw [e]; exact h3, by rw [e]; exact h4⟩

theorem RetA.some {P : Program} {fn : Func} {K : D → Heap → Prop} {fr : Nat → D} {h : Heap} {ds : List D} (h1 : ResL P fr h fn.results.toList ds) (h2 : K (tupD ds) h) : RetA P fn K .ret fr h := ⟨ds, h1, h2⟩
end Go.Lic

set_option linter.all false
namespace Go.Lic

def AllTo {α : Type} (p : α → Bool) (l : List α) (i : Nat) : Prop := ∀ j, (h : j < l.length) → j < i → p l[j] = true

theorem AllTo.zero {α : Type} (p : α → Bool) (l : List α) : AllTo p l 0 := fun _ _ h => by omega
theorem AllTo.succ {α : Type} {p : α → Bool} {l : List α} {i : Nat} (h : AllTo p l i) (hi : i < l.length) (hp : p l[i] = true) : AllTo p l (i + 1) := fun j hj hji => by
  by_cases h1 : j = i
  · subst h1; exact hp
  · exact h j hj (by omega)
theorem AllTo.all {α : Type} {p : α → Bool} {l : List α} {i : Nat} (h : AllTo p l i) (hi : l.length ≤ i) : l.all p = true := by
  rw [List.all_eq_true]
  intro x hx
  obtain ⟨j, hj, rfl⟩ := List.mem_iff_getElem.1 hx
  exact h j hj (by omega)
theorem all_false {α : Type} {p : α → Bool} {l : List α} {i : Nat} (hi : i < l.length) (hp : p l[i] = false) : l.all p = false := by
  rw [List.all_eq_false]
  exact ⟨_, List.getElem_mem hi, by simp [hp]⟩

/-- slices.IndexFunc. -/
def idxF {α : Type} (p : α → Bool) (l : List α) : Int := match l.findIdx? p with | some i => i | none => -1

theorem idxF_hit {α : Type} {p : α → Bool} {l : List α} {i : Nat} (hi : i < l.length) (hp : p l[i] = true) (h : AllTo (fun x => !p x) l i) : idxF p l = i := by
  have : l.findIdx? p = some i := List.findIdx?_eq_some_iff_getElem.2 ⟨hi, hp, fun j hj => by have := h j (by omega) hj; simpa using this⟩
  simp [idxF, this]
theorem idxF_miss {α : Type} {p : α → Bool} {l : List α} {i : Nat} (hi : l.length ≤ i) (h : AllTo (fun x => !p x) l i) : idxF p l = -1 := by
  have : l.findIdx? p = none := by
    rw [List.findIdx?_eq_none_iff]
    intro x hx
    obtain ⟨j, hj, rfl⟩ := List.mem_iff_getElem.1 hx
    have := h j hj (by omega); simpa using this
  simp [idxF, this]
theorem idxF_nonneg {α : Type} (p : α → Bool) (l : List α) : decide (0 ≤ idxF p l) = l.any p := by
  rw [Bool.eq_iff_iff, decide_eq_true_eq, List.any_eq_true]
  unfold idxF
  cases h : l.findIdx? p with
  | none =>
    rw [List.findIdx?_eq_none_iff] at h
    constructor
    · intro h0; simp at h0
    · rintro ⟨x, hx, hp⟩; rw [h x hx] at hp; simp at hp
  | some i =>
    obtain ⟨hi, hp, _⟩ := List.findIdx?_eq_some_iff_getElem.1 h
    exact ⟨fun _ => ⟨_, List.getElem_mem hi, hp⟩, fun _ => by simp⟩

/-- slices.Equal. -/
def EqTo {α : Type} (l m : List α) (i : Nat) : Prop := ∀ j, (h : j < l.length) → (h2 : j < m.length) → j < i → l[j] = m[j]
theorem EqTo.zero {α : Type} (l m : List α) : EqTo l m 0 := fun _ _ _ h => by omega
theorem EqTo.succ {α : Type} {l m : List α} {i : Nat} (h : EqTo l m i) (hi : i < l.length) (hm : i < m.length) (hp : l[i] = m[i]) : EqTo l m (i + 1) := fun j hj hj2 hji => by
  by_cases h1 : j = i
  · subst h1; exact hp
  · exact h j hj hj2 (by omega)
theorem EqTo.eq {α : Type} {l m : List α} {i : Nat} (h : EqTo l m i) (hl : l.length = m.length) (hi : l.length ≤ i) : l = m :=
  List.ext_getElem hl fun j h1 h2 => h j h1 h2 (by omega)
theorem ne_at {α : Type} {l m : List α} {i : Nat} (hi : i < l.length) (hm : i < m.length) (hp : l[i] ≠ m[i]) : l ≠ m := fun e => by subst e; exact hp rfl
theorem ne_len {α : Type} {l m : List α} (h : (l.length : Int) ≠ m.length) : l ≠ m := fun e => by subst e; exact h rfl
end Go.Lic

set_option linter.all false
namespace Go.Lic

section
variable {P : Program} {o : Oper} {fr : Nat → D} {h : Heap} {K : D → Heap → Prop}

/-- A word is stored into own memory that is told as whole numbers. -/
theorem OpA.storeI {t : TypeId} {x y : Operand} {c i : Nat} {v : Int} {l : List Int} {h' : Heap} (ho : o.op = .store t x y) (ht : TI P t 1 false) (hx : ev fr x = .ptr c 1 i 0)
    (hy : ev fr y = .i v) (hi : i < l.length) (hh : Repl c (.cells 1 (l.map D.i)) c (.cells 1 ((l.set i v).map D.i)) h h') (hk : K (.v undef) h') : OpA P o fr h K := by
  have e1 : (l.set i v).map D.i = (l.map D.i).set i (.i v) := by rw [List.map_set]
  rw [e1] at hh
  exact .store (e := .i l[i]) (e' := .i v) ho ht hx (by rw [hy]; exact .of rfl) (getM D.i l i hi) (Nat.le_refl 1) (by rw [hy]; rfl) hh hk

theorem setAt_to {α : Type} : ∀ (b a : List α) (i : Nat), a.length = i + b.length → setAt a i b = a.take i ++ b
  | [], a, i, h => by rw [List.length_nil] at h; rw [setAt, List.append_nil, List.take_of_length_le (by omega)]
  | x :: b, a, i, h => by
    rw [List.length_cons] at h
    rw [setAt, setAt_to b _ _ (by rw [List.length_set]; omega), List.take_succ_eq_append_getElem (by rw [List.length_set]; omega), List.getElem_set_self, List.take_set_of_le (Nat.le_refl i)]
    simp
theorem setAt_all {α : Type} (a b : List α) (h : a.length = b.length) : setAt a 0 b = b := by
  rw [setAt_to b a 0 (by omega)]; simp

/-- A whole element is stored. -/
theorem OpA.storeW {t : TypeId} {x y : Operand} {c sz i : Nat} {agg : Bool} {d e : D} {es : List D} {h' : Heap} (ho : o.op = .store t x y) (ht : TI P t sz agg) (hx : ev fr x = .ptr c sz i 0)
    (hy : ev fr y = d) (hok : d.ok sz) (he : es[i]? = some e) (hl : e.flat.length = sz) (hh : Repl c (.cells sz es) c (.cells sz (es.set i d)) h h') (hk : K (.v undef) h') : OpA P o fr h K :=
  .store (e' := d) ho ht hx (by rw [hy]; exact hok) he (by omega) (by rw [hy, setAt_all _ _ (by rw [hl, hok.1])]) hh hk

/-- A descriptor of one cell is stored into own memory. -/
theorem OpA.storeR {t : TypeId} {x y : Operand} {c i : Nat} {d : D} {es : List D} {h' : Heap} (ho : o.op = .store t x y) (ht : TI P t 1 false) (hx : ev fr x = .ptr c 1 i 0)
    (hy : ev fr y = d) (hd : d.flat = [d]) (hok : d.ok 1) (hi : i < es.length) (he : ∀ d ∈ es, d.flat.length = 1) (hh : Repl c (.cells 1 es) c (.cells 1 (es.set i d)) h h') (hk : K (.v undef) h') : OpA P o fr h K := by
  have h1 := he es[i] (List.getElem_mem hi)
  refine .store (e' := d) ho ht hx (by rw [hy]; exact hok) (getL _ _ hi) (by omega) ?_ hh hk
  rw [hy, hd]
  match hh2 : es[i].flat, h1 with
  | [u], _ => simp [setAt]
end

/-- Some of the nil slices are from now on looked at as slices of our own without memory. -/
inductive GhostL (g sz : Nat) : List D → List D → Prop
  | nil : GhostL g sz [] []
  | same {d : D} {l l' : List D} (h : GhostL g sz l l') : GhostL g sz (d :: l) (d :: l')
  | turn {l l' : List D} (h : GhostL g sz l l') : GhostL g sz (.v (.slice none 0 0) :: l) (.own g sz 0 0 :: l')

theorem GhostL.vl {w : World} {X : Nat → Prop} {g sz : Nat} {l l' : List D} (h : GhostL g sz l l') : ∀ {vs : List Value}, VL w X l vs → VL w X l' vs := by
  induction h with
  | nil => exact fun h => h
  | same _ ih => intro vs h; cases h with | cons h1 h2 => exact .cons h1 (ih h2)
  | turn _ ih => intro vs h; cases h with | cons h1 h2 => cases h1; exact .cons (.own (Nat.le_refl _) (.inr ⟨rfl, rfl⟩)) (ih h2)

theorem wpA_ghostM {P : Program} {n : Nat} {Q : Post} {fr : Nat → D} {h : Heap} {c0 : Code} {c sz1 sz : Nat} {es : List D} {es' : Nat → List D} {h' : Nat → Heap} (hrepl : ∀ g, Repl c (.cells sz1 es) c (.cells sz1 (es' g)) h (h' g))
    (hfl : ∀ g, GhostL g sz (D.flats es) (D.flats (es' g))) (hlen : ∀ g, (es' g).length = es.length) (hok : ∀ g, ∀ d ∈ es' g, d.ok sz1) (hh : ∀ g, wpA P n c0 Q fr ((g, .cells sz []) :: h' g)) : wpA P n c0 Q fr h :=
  fun A M w0 a w r => by
    obtain ⟨g, _, _, hr, hm⟩ := r.heap.ghost sz
    have hk : keys (h' g) = keys h := (hrepl g).keys_eq
    obtain ⟨h1, h2, e1, e2⟩ := (hrepl g).split
    have hX : XX A ((g, .cells sz []) :: h' g) = XX A ((g, .cells sz []) :: h) := by
      funext b; simp only [XX, keys_cons, hk]
    have hb : BlkRel w (XX A ((g, .cells sz []) :: h)) c (.cells sz1 es) := hr.blk _ _ (by rw [e1]; simp)
    have hr' : HRel A M w0 ((g, .cells sz []) :: h' g) w := by
      refine ⟨by rw [keys_cons, hk]; exact hr.nodup, ?_, by rw [keys_cons, hk]; exact hr.free, by rw [keys_cons, hk]; exact hr.mine, hr.bound, hr.old, hr.ext, by rw [hX]; exact hr.glob⟩
      intro c' b' hc'
      rw [hX]
      rcases List.mem_cons.1 hc' with hc' | hc'
      · exact hr.blk _ _ (by rw [hc']; simp)
      · rw [e2] at hc'
        rcases List.mem_append.1 hc' with h3 | h3
        · exact hr.blk _ _ (by rw [e1]; simp [h3])
        · rcases List.mem_cons.1 h3 with h3 | h3
          · cases h3
            refine ⟨hok g, ?_⟩
            rcases hb.2 with ⟨q1, q2⟩ | ⟨q1, arr, e, cs, q2, q3, q4⟩
            · left; refine ⟨q1, ?_⟩
              have := hlen g; rw [q2] at this; exact List.eq_nil_of_length_eq_zero this
            · exact .inr ⟨q1, arr, e, cs, q2, (hfl g).vl q3, q4⟩
          · exact hr.blk _ _ (by rw [e1]; simp [h3])
    refine hh g A M w0 a w ⟨r.size, fun i => ?_, r.defers, hr'⟩
    rw [hX]; exact (r.frame i).mono hm

/-- The order in which our blocks are told does not matter. -/
theorem wpA_perm {P : Program} {n : Nat} {Q : Post} {fr : Nat → D} {h h' : Heap} {c : Code} (hp : h.Perm h') (hh : wpA P n c Q fr h') : wpA P n c Q fr h :=
  fun A M w0 a w r => by
    obtain ⟨r1, m1⟩ := r.heap.perm hp
    have r' := r.turn r1 m1
    exact hh A M w0 a w r'

theorem wpA_loopP {P : Program} {n : Nat} {Q : Post} {fr : Nat → D} {h : Heap} {c : Code} (I : Nat → (Nat → D) → Heap → Prop) (h0 : ∃ k fr0 h0, I k fr0 h0 ∧ h.Perm h0 ∧ Cov fr fr0)
    (round : ∀ k fr h, I k fr h → wpA P n c (fun e fr' h' => match e with | .normal => ∃ k' fr0 h0, k' < k ∧ I k' fr0 h0 ∧ h'.Perm h0 ∧ Cov fr' fr0 | e => Q e fr' h') fr h) : wpA P n (.loop c) Q fr h := by
  obtain ⟨k, fr0, h0, hI, hp, hc⟩ := h0
  refine wpA_loopE (fun k fr h => ∃ h0, I k fr h0 ∧ h.Perm h0) ⟨k, fr0, ⟨h0, hI, hp⟩, hc⟩ ?_
  rintro k fr h ⟨h0, hI, hp⟩
  refine wpA_perm hp ?_
  intro A M w0 a w r
  refine wp_mono (round k fr h0 hI A M w0 a w r) ?_
  rintro e a' w' ⟨fr', h', hq, r'⟩
  cases e with
  | normal =>
    obtain ⟨k', fr0, h0, hk, hI', hp', hc'⟩ := hq
    exact ⟨fr', h', ⟨k', fr0, hk, ⟨h0, hI', hp'⟩, hc'⟩, r'⟩
  | exit id => exact ⟨fr', h', hq, r'⟩
  | goto l => exact ⟨fr', h', hq, r'⟩
  | ret => exact ⟨fr', h', hq, r'⟩
  | panic ch => exact ⟨fr', h', hq, r'⟩
  | outgrown => exact ⟨fr', h', hq, r'⟩

theorem at0 {α : Type} {es : List α} {i : Nat} {d : α} (h : es[i]? = some d) : es[0 + i]? = some d := by rw [Nat.zero_add]; exact h

/-- Rows that lie in memories of their own: those from lo on are there. -/
def OwnRows (hs : Heap) (es : List D) (n m : Nat) (p : Nat → Prop) (T : Nat → Nat → Int) : Prop :=
  es.length = n + 1 ∧ (∀ d ∈ es, d.flat.length = 1) ∧ ∀ i, i ≤ n → p i → ∃ c, es[i]? = some (.own c 1 0 (m + 1)) ∧ Has c (.cells 1 (((List.range (m + 1)).map (T i)).map D.i)) hs

theorem OwnRows.zero {hs : Heap} {n m : Nat} {p : Nat → Prop} {T : Nat → Nat → Int} (hp : ∀ i, i ≤ n → ¬ p i) : OwnRows hs (List.replicate (n + 1) (.v (.slice none 0 0))) n m p T :=
  ⟨by simp, fun d hd => by rw [(List.mem_replicate.1 hd).2]; rfl, fun i hi h => absurd h (hp i hi)⟩
theorem OwnRows.at {hs : Heap} {es : List D} {n m : Nat} {p : Nat → Prop} {T : Nat → Nat → Int} (h : OwnRows hs es n m p T) (i : Nat) (hi : i ≤ n) (hp : p i) : ∃ c, es[i]? = some (.own c 1 0 (m + 1)) ∧ Has c (.cells 1 (((List.range (m + 1)).map (T i)).map D.i)) hs := h.2.2 i hi hp
theorem OwnRows.set {hs : Heap} {es : List D} {n m k c : Nat} {p p' : Nat → Prop} {T : Nat → Nat → Int} (h : OwnRows hs es n m p T) (hp : ∀ i, i ≤ n → p' i → p i ∧ i ≠ k) : OwnRows hs (es.set (0 + k) (.own c 1 0 (m + 1))) n m p' T := by
  refine ⟨by rw [List.length_set]; exact h.1, fun d hd => ?_, fun i hi h' => ?_⟩
  · rcases List.mem_or_eq_of_mem_set hd with hd | hd
    · exact h.2.1 d hd
    · rw [hd]; rfl
  · obtain ⟨h1, h2⟩ := hp i hi h'
    obtain ⟨c', h3, h4⟩ := h.2.2 i hi h1
    exact ⟨c', by rw [List.getElem?_set_ne (by omega)]; exact h3, h4⟩
theorem OwnRows.push {hs : Heap} {es : List D} {n m k c : Nat} {l : List Int} {p p' : Nat → Prop} {T : Nat → Nat → Int} (h : OwnRows hs es n m p T) (hk : es[k]? = some (.own c 1 0 (m + 1))) (hl : l.length = m + 1) (hv : ∀ j, j ≤ m → l[j]? = some (T k j))
    (hp : ∀ i, i ≤ n → p' i → p i ∨ i = k) : OwnRows ((c, .cells 1 (l.map D.i)) :: hs) es n m p' T := by
  refine ⟨h.1, h.2.1, fun i hi h' => ?_⟩
  rcases hp i hi h' with h1 | h1
  · obtain ⟨c', h3, h4⟩ := h.2.2 i hi h1
    exact ⟨c', h3, .tail h4⟩
  · subst h1
    have e : l = (List.range (m + 1)).map (T i) := by
      apply List.ext_getElem?
      intro j
      by_cases hj : j < m + 1
      · rw [hv j (by omega)]; simp [hj]
      · rw [List.getElem?_eq_none (by omega), List.getElem?_eq_none (by simp; omega)]
    exact ⟨c, hk, by rw [e]; exact .head⟩

theorem Snap.rowsIn {h : Heap} {m : Nat} {T : Nat → Nat → Int} : ∀ (es : List D) (k : Nat), (∀ i, i < es.length → ∃ c, es[i]? = some (.own c 1 0 (m + 1)) ∧ Has c (.cells 1 (((List.range (m + 1)).map (T (k + i))).map D.i)) h) →
    Snap false h (D.flats es) (D.flats ((List.range' k es.length).map fun i => D.list 1 (((List.range (m + 1)).map (T i)).map D.i)))
  | [], _, _ => .nil
  | d :: es, k, hc => by
    obtain ⟨c, h1, h2⟩ := hc 0 (by simp)
    have h3 := Snap.rowsIn es (k + 1) (fun i hi => by
      obtain ⟨c', h4, h5⟩ := hc (i + 1) (by simp; omega)
      exact ⟨c', by simpa using h4, by rw [show k + 1 + i = k + (i + 1) by omega]; exact h5⟩)
    simp only [List.getElem?_cons_zero, Option.some.injEq] at h1
    subst h1
    have h6 := Snap.ownp (f := false) (i := 0) (len := m + 1) h2 (by simp) (by simp) h3
    rw [List.drop_zero, List.take_of_length_le (by simp)] at h6
    exact h6
theorem OwnRows.snap {hs h : Heap} {es : List D} {n m r : Nat} {p : Nat → Prop} {T : Nat → Nat → Int} {ds ds' : List D} (hR : OwnRows hs es n m p T) (hp : ∀ i, i ≤ n → p i) (hr : Has r (.cells 1 es) h) (hsub : ∀ c b, Has c b hs → Has c b h) (hs' : Snap false h ds ds') :
    Snap false h (.own r 1 0 (n + 1) :: ds) (.list 1 (((List.range (n + 1)).map fun i => (List.range (m + 1)).map (T i)).map fun x => .list 1 (x.map D.i)) :: ds') := by
  refine .own (es' := _) hr (by rw [hR.1]; omega) ?_ (by simp) ?_ hs'
  · intro d hd
    obtain ⟨x, _, rfl⟩ := List.mem_map.1 hd
    exact .of rfl
  · rw [List.drop_zero, List.take_of_length_le (by rw [hR.1]; omega), List.map_map]
    have := Snap.rowsIn (h := h) (m := m) (T := T) es 0 (fun i hi => by
      obtain ⟨c, h1, h2⟩ := hR.2.2 i (by rw [hR.1] at hi; omega) (hp i (by rw [hR.1] at hi; omega))
      exact ⟨c, h1, by rw [Nat.zero_add]; exact hsub _ _ h2⟩)
    rw [hR.1, ← List.range_eq_range'] at this
    exact this

/-- Rows in one memory, side by side. -/
def rowsD (c n m : Nat) : List D := (List.range n).map fun i => D.own c 1 (i * m) m
theorem rowsD_length (c n m : Nat) : (rowsD c n m).length = n := by simp [rowsD]
theorem rowsD_get {c n m i : Nat} (h : i < n) : (rowsD c n m)[0 + i]? = some (.own c 1 (i * m) m) := by simp [rowsD, h]
theorem rows_val (c k m : Nat) : D.own c 1 (0 + ((k : Int) * (m : Int)).toNat) ((((k : Int) + 1) * (m : Int)).toNat - ((k : Int) * (m : Int)).toNat) = .own c 1 (k * m) m := by
  have h1 : ((k : Int) * (m : Int)).toNat = k * m := by rw [← Int.natCast_mul]; rfl
  have h2 : (((k : Int) + 1) * (m : Int)).toNat = k * m + m := by
    rw [show ((k : Int) + 1) * (m : Int) = ((k * m + m : Nat) : Int) by rw [Int.add_mul, Int.one_mul]; simp]; rfl
  rw [h1, h2]; congr 1 <;> omega
/-- Some rows are there, the others are nil. -/
def rowsTo (c n m k : Nat) : List D := rowsD c k m ++ List.replicate (n - k) (.v (.slice none 0 0))
theorem rowsTo_length {c n m k : Nat} (h : k ≤ n) : (rowsTo c n m k).length = n := by simp [rowsTo, rowsD_length]; omega
theorem rowsTo_flat {c n m k : Nat} : ∀ d ∈ rowsTo c n m k, d.flat.length = 1 := by
  intro d hd
  rcases List.mem_append.1 hd with h | h
  · obtain ⟨i, _, rfl⟩ := List.mem_map.1 h; rfl
  · rw [(List.mem_replicate.1 h).2]; rfl
theorem rowsTo_succ {c n m k : Nat} (h : k < n) {d : D} (hd : d = .own c 1 (k * m) m) : (rowsTo c n m k).set (0 + k) d = rowsTo c n m (k + 1) := by
  subst hd
  unfold rowsTo
  obtain ⟨q, hq⟩ : ∃ q, n - k = q + 1 := ⟨n - k - 1, by omega⟩
  have hq2 : n - (k + 1) = q := by omega
  rw [hq, hq2, Nat.zero_add, List.set_append_right _ _ (by rw [rowsD_length]; omega), rowsD_length, Nat.sub_self]
  simp [List.replicate_succ, rowsD, List.range_succ]
theorem rowsTo_zero {c n m : Nat} : rowsTo c n m 0 = List.replicate n (.v (.slice none 0 0)) := by simp [rowsTo, rowsD]
theorem rowsTo_all {c n m : Nat} : rowsTo c n m n = rowsD c n m := by simp [rowsTo]

theorem Snap.rows {h : Heap} {c m : Nat} {l : List Int} {T : Nat → Nat → Int} (hc : Has c (.cells 1 (l.map D.i)) h) : ∀ (is : List Nat), (∀ i ∈ is, i * m + m ≤ l.length) → (∀ i ∈ is, ∀ j, j < m → l[i * m + j]? = some (T i j)) →
    Snap false h (D.flats (is.map fun i => D.own c 1 (i * m) m)) (D.flats (is.map fun i => D.list 1 (((List.range m).map (T i)).map D.i)))
  | [], _, _ => .nil
  | i :: is, hl, hT => by
    have h1 := Snap.rows hc is (fun i hi => hl i (by simp [hi])) (fun i hi => hT i (by simp [hi]))
    have h2 := hl i (by simp)
    have e : ((l.map D.i).drop (i * m)).take m = ((List.range m).map (T i)).map D.i := by
      rw [← List.map_drop, ← List.map_take]
      congr 1
      apply List.ext_getElem?
      intro j
      rw [List.getElem?_take]
      split
      · rename_i hj
        rw [List.getElem?_drop, hT i (by simp) j hj]; simp [hj]
      · rename_i hj
        rw [List.getElem?_eq_none (by simp; omega)]
    have := Snap.ownp (f := false) (sz := 1) (i := i * m) (len := m) hc (by simp; omega) (by simp) h1
    rw [e] at this
    exact this

/-- A table in own memory, read as data. -/
theorem Snap.table {h : Heap} {r c n m : Nat} {l : List Int} {T : Nat → Nat → Int} {ds ds' : List D} (hr : Has r (.cells 1 (rowsD c n m)) h) (hc : Has c (.cells 1 (l.map D.i)) h) (hl : l.length = n * m)
    (hT : ∀ i j, i < n → j < m → l[i * m + j]? = some (T i j)) (hs : Snap false h ds ds') :
    Snap false h (.own r 1 0 n :: ds) (.list 1 (((List.range n).map fun i => (List.range m).map (T i)).map fun x => .list 1 (x.map D.i)) :: ds') := by
  refine .own (es' := _) hr (by rw [rowsD_length]; omega) ?_ (by simp) ?_ hs
  · intro d hd
    obtain ⟨x, _, rfl⟩ := List.mem_map.1 hd
    exact .of rfl
  · rw [List.drop_zero, List.take_of_length_le (by rw [rowsD_length]; omega), List.map_map]
    exact Snap.rows hc _ (fun i hi => by
      have h1 := List.mem_range.1 hi
      have : (i + 1) * m ≤ n * m := Nat.mul_le_mul_right m h1
      rw [Nat.add_mul] at this; omega) (fun i hi j hj => hT i j (List.mem_range.1 hi) hj)

end Go.Lic
