/-
  The relation between abstract states and the model's worlds; what an operation, a piece of code and a call do, said of abstract states.
-/
import Derived.Test.YtkifpidbpoghlaaGreatDoorPa
set_option linter.all false
namespace Go.Lic
inductive Blk where
 | cells (sz : Nat) (es : List D)
 | map (es : List (Value × D))
 | raw (o : Obj)
 | loop (n : Nat) (fr : Nat → D) (ps : Array Tmp) (assign body : Code)
abbrev Heap := List (Nat × Blk)
def keys (h : Heap) : List Nat := h.map (·.1)
@[simp] theorem keys_nil : keys [] = [] := rfl
@[simp] theorem keys_cons (x : Nat × Blk) (h : Heap) : keys (x :: h) = x.1 :: keys h := rfl
@[simp] theorem keys_append (h k : Heap) : keys (h ++ k) = keys h ++ keys k := by simp [keys]
def XX (A : Nat → Prop) (h : Heap) (b : Nat) : Prop := A (2 * b) ∨ 2 * b ∈ keys h
def OwnCells (w : World) (b : Nat) (arr : Array Value) (e : TypeId) : Prop := ∃ z : Nat × Nat, w.heap[b]? = some (.cells arr e z) ∧ (z.2 ≤ z.1 ∨ arr.size ≤ z.1)
theorem OwnCells.of {w : World} {b : Nat} {arr : Array Value} {e : TypeId} (h : w.heap[b]? = some (.cells arr e (0, 0))) : OwnCells w b arr e := ⟨(0, 0), h, .inl (Nat.le_refl _)⟩
theorem OwnCells.eq {w w' : World} {b : Nat} {arr : Array Value} {e : TypeId} (hk : w'.heap[b]? = w.heap[b]?) (h : OwnCells w b arr e) : OwnCells w' b arr e := by obtain ⟨z, h1, h2⟩ := h; exact ⟨z, hk.trans h1, h2⟩
theorem OwnCells.shape {w : World} {b : Nat} {arr : Array Value} {e : TypeId} (h : OwnCells w b arr e) : w.shape? b = some (e, arr.size) := by obtain ⟨z, h1, _⟩ := h; simp [World.shape?, h1]
theorem OwnCells.cell {w : World} {b : Nat} {arr : Array Value} {e : TypeId} (h : OwnCells w b arr e) (j : Nat) : w.cell? ⟨b, j, none⟩ = arr[j]? := by obtain ⟨z, h1, _⟩ := h; simp [World.cell?, h1]
theorem OwnCells.frozen {w : World} {b : Nat} {arr : Array Value} {e : TypeId} (h : OwnCells w b arr e) {j : Nat} (hj : j < arr.size) : w.frozen? ⟨b, j, none⟩ = false := by
 obtain ⟨z, h1, h2⟩ := h
 simp [World.frozen?, h1]; omega
def BlkRel (w : World) (X : Nat → Prop) (c : Nat) : Blk → Prop
 | .cells sz es => (∀ d ∈ es, d.ok sz) ∧ ((c % 2 = 1 ∧ es = []) ∨
     (c % 2 = 0 ∧ ∃ (arr : Array Value) (e : TypeId) (cs : List Value), OwnCells w (c / 2) arr e ∧ VL w X (D.flats es) cs ∧ cs <+: arr.toList))
 | .map es => c % 2 = 0 ∧ ∃ (ents : Array MapEntry) (clock : Nat), w.heap[c / 2]? = some (.map ents clock) ∧ ents.toList.map (·.key) = es.map (·.1) ∧
     VL w X (es.map (·.2)) (ents.toList.map (·.val)) ∧ (∀ e ∈ ents.toList, e.born < clock) ∧ (ents.toList.map (·.born)).Nodup
 | .raw o => c % 2 = 0 ∧ w.heap[c / 2]? = some o
 | .loop n fr ps assign body => c % 2 = 0 ∧ ∃ (fn : FuncId) (tmps : Array Value) (b : Nat), w.heap[c / 2]? = some (.loop { state := .ready, pending := none, fn := fn, tmps := tmps, params := ps, assign := assign, body := body, defers := b }) ∧ tmps.size = n ∧ ∀ i, V w X (fr i) (tmps.getD i undef)
class Fl where
 on : Prop
instance flNo : Fl := ⟨False⟩
abbrev flYes : Fl := ⟨True⟩
variable [Fl]
structure Ext (M : Nat → Prop) (w0 w : World) : Prop where
 os : w.os = w0.os
 tape : w.tape = w0.tape
 output : w.output = w0.output
 size : w0.heap.size ≤ w.heap.size
 keep : ∀ b, b < w0.heap.size → ¬ M b → w.heap[b]? = w0.heap[b]?
 shape : ∀ b, b < w0.heap.size → w.shape? b = w0.shape? b
 drawn : Fl.on → w0.drawn ≤ w.drawn
theorem Ext.refl (M : Nat → Prop) (w : World) : Ext M w w := ⟨rfl, rfl, rfl, Nat.le_refl _, fun _ _ _ => rfl, fun _ _ => rfl, fun _ => Nat.le_refl _⟩
theorem Ext.trans {M : Nat → Prop} {a b c : World} (h : Ext M a b) (k : Ext M b c) : Ext M a c :=
 ⟨k.os.trans h.os, k.tape.trans h.tape, k.output.trans h.output, Nat.le_trans h.size k.size, fun i hi hm => (k.keep i (Nat.lt_of_lt_of_le hi h.size) hm).trans (h.keep i hi hm), fun i hi => (k.shape i (Nat.lt_of_lt_of_le hi h.size)).trans (h.shape i hi), fun o_ => Nat.le_trans (h.drawn o_) (k.drawn o_)⟩
theorem Ext.more {M M' : Nat → Prop} {a b : World} (h : Ext M a b) (hm : ∀ i, i < a.heap.size → M i → M' i) : Ext M' a b :=
 ⟨h.os, h.tape, h.output, h.size, fun i hi hm' => h.keep i hi (fun x => hm' (hm i hi x)), h.shape, h.drawn⟩
def Glob (w : World) (X : Nat → Prop) : Prop := ∃ W0, globP W0 ∧ ∀ g ∈ globIds, ¬ X g ∧ g < w.heap.size ∧ w.heap[g]? = W0.heap[g]?
theorem Glob.mono {w w' : World} {X X' : Nat → Prop} (h : Glob w X) (hm : Mono w X w' X') : Glob w' X' := by
 obtain ⟨W0, h0, h1⟩ := h
 refine ⟨W0, h0, fun g hg => ?_⟩
 obtain ⟨a, b, c⟩ := h1 g hg
 exact ⟨fun hx => a (hm.avoid g b hx), Nat.lt_of_lt_of_le b hm.size, (hm.keep g b a).trans c⟩
structure HRel (A M : Nat → Prop) (w0 : World) (h : Heap) (w : World) : Prop where
 nodup : (keys h).Nodup
 blk : ∀ c b, (c, b) ∈ h → BlkRel w (XX A h) c b
 free : ∀ c, c ∈ keys h → ¬ A c
 mine : ∀ c, c ∈ keys h → c % 2 = 0 → M (c / 2) ∨ w0.heap.size ≤ c / 2
 bound : ∃ N, ∀ c, A c → c < N
 old : ∀ b, A (2 * b) → b < w.heap.size
 ext : Ext M w0 w
 glob : Glob w (XX A h)
@[reducible] def sel (b : Bool) (x y : D) : D := match b with | true => x | false => y
@[reducible] def upd (fr : Nat → D) (i : Nat) (d : D) : Nat → D := fun j => sel (Nat.beq j i) d (fr j)
theorem upd_same (fr : Nat → D) (i : Nat) (d : D) : upd fr i d i = d := by simp [upd, sel]
theorem upd_ne (fr : Nat → D) {i j : Nat} (d : D) (h : j ≠ i) : upd fr i d j = fr j := by
 have : Nat.beq j i = false := by
   cases hb : Nat.beq j i with
   | false => rfl
   | true => exact absurd (Nat.eq_of_beq_eq_true hb) h
 simp [upd, sel, this]
@[reducible] def ev (fr : Nat → D) : Operand → D
 | .tmp t => fr t
 | .const v => .v v
 | .global g => .v (.pointer (some ⟨g, 0, none⟩))
 | .func f => .fn (.func f) [] []
def Marks (w0 w : World) (X : Nat → Prop) (ds : List Deferred) : Prop :=
 ∃ Ds : List Nat, ds = Ds.map (fun b => { target := .collected b, args := #[] }) ∧ Ds.Nodup ∧ ∀ b ∈ Ds, w.heap[b]? = some (.deferred (some [])) ∧ ¬ X b ∧ w0.heap.size ≤ b ∧ b ∉ globIds
theorem Marks.nil (w0 w : World) (X : Nat → Prop) : Marks w0 w X [] := ⟨[], rfl, by simp, by simp⟩
theorem Marks.mono {w0 w w' : World} {X X' : Nat → Prop} {ds : List Deferred} (hm : Mono w X w' X') (h : Marks w0 w X ds) : Marks w0 w' X' ds := by
 obtain ⟨Ds, h1, h2, h3⟩ := h
 refine ⟨Ds, h1, h2, fun b hb => ?_⟩
 obtain ⟨a1, a2, a3, a4⟩ := h3 b hb
 have hlt : b < w.heap.size := (Array.getElem?_eq_some_iff.1 a1).1
 exact ⟨(hm.keep b hlt a2).trans a1, fun hx => a2 (hm.avoid b hlt hx), a3, a4⟩
structure Rel (n : Nat) (A M : Nat → Prop) (w0 : World) (fr : Nat → D) (h : Heap) (a : Act) (w : World) : Prop where
 size : a.tmps.size = n
 frame : ∀ i, V w (XX A h) (fr i) (a.tmps.getD i undef)
 defers : Marks w0 w (XX A h) a.defers
 heap : HRel A M w0 h w
theorem Rel.ev {n : Nat} {A M : Nat → Prop} {w0 : World} {fr : Nat → D} {h : Heap} {a : Act} {w : World} (r : Rel n A M w0 fr h a w) (x : Operand) :
   V w (XX A h) (ev fr x) (a.eval x) := by
 cases x with
 | tmp t => exact r.frame t
 | const v => exact .v v
 | global g => exact .v _
 | func f => exact .fn (vs := []) (us := []) .nil .nil
theorem Rel.put {n : Nat} {A A' M : Nat → Prop} {w0 : World} {fr : Nat → D} {h h' : Heap} {a : Act} {w w' : World} (r : Rel n A M w0 fr h a w)
   (hr : HRel A' M w0 h' w') (hm : Mono w (XX A h) w' (XX A' h')) {d : Nat} (hd : d < n) {x : D} {v : Value} (hv : V w' (XX A' h') x v) :
   Rel n A' M w0 (upd fr d x) h' (a.put (some d) v) w' where
 size := by simp [Act.put, r.size]
 frame := fun i => by
   by_cases hi : i = d
   · subst hi
     rw [upd_same]
     have : i < a.tmps.size := by rw [r.size]; exact hd
     simpa [Act.put, Array.getElem?_setIfInBounds, this] using hv
   · rw [upd_ne _ _ hi]
     have : ((a.put (some d) v).tmps.getD i undef) = a.tmps.getD i undef := by
       simp [Act.put, Ne.symm hi]
     rw [this]
     exact (r.frame i).mono hm
 defers := r.defers.mono hm
 heap := hr
theorem Rel.turn {n : Nat} {A M : Nat → Prop} {w0 : World} {fr : Nat → D} {h h' : Heap} {a : Act} {w w' : World} (r : Rel n A M w0 fr h a w)
   (hr : HRel A M w0 h' w') (hm : Mono w (XX A h) w' (XX A h')) : Rel n A M w0 fr h' a w' :=
 ⟨r.size, fun i => (r.frame i).mono hm, r.defers.mono hm, hr⟩
abbrev Post := Exit → (Nat → D) → Heap → Prop
def Conc (n : Nat) (A M : Nat → Prop) (w0 : World) (Q : Post) (e : Exit) (a : Act) (w : World) : Prop := ∃ fr h, Q e fr h ∧ Rel n A M w0 fr h a w
abbrev Wd (ro : Option Nat) : Fence := { Fence.wide with round := ro }
theorem wd_room (ro : Option Nat) (m : Nat) : (Wd ro).room m := fun _ h => by simp [Wd, Fence.wide] at h
theorem wd_calls {ro : Option Nat} {m : Nat} {P : Program} {f : FuncId} {args : Array Value} {w : World} {R : Ending → World → Prop} (h : Calls P f args w R) : CallsIn (Wd ro) m P f args w R :=
 callsIn_wide (n := m).2 h
def noRange : Code → Bool
 | .seq x y => noRange x && noRange y
 | .cond _ x y => noRange x && noRange y
 | .block _ c => noRange c
 | .loop c => noRange c
 | .scope c => noRange c
 | .rangeFunc .. => false
 | _ => true
abbrev RoOk (ro : Option Nat) (c : Code) : Prop := ro = none ∨ noRange c = true
theorem RoOk.l {ro : Option Nat} {x y : Code} (h : RoOk ro (.seq x y)) : RoOk ro x := h.imp id fun h => by simp only [noRange, Bool.and_eq_true] at h; exact h.1
theorem RoOk.r {ro : Option Nat} {x y : Code} (h : RoOk ro (.seq x y)) : RoOk ro y := h.imp id fun h => by simp only [noRange, Bool.and_eq_true] at h; exact h.2
theorem RoOk.t {ro : Option Nat} {c : Operand} {x y : Code} (h : RoOk ro (.cond c x y)) : RoOk ro x := h.imp id fun h => by simp only [noRange, Bool.and_eq_true] at h; exact h.1
theorem RoOk.f {ro : Option Nat} {c : Operand} {x y : Code} (h : RoOk ro (.cond c x y)) : RoOk ro y := h.imp id fun h => by simp only [noRange, Bool.and_eq_true] at h; exact h.2
theorem RoOk.blk {ro : Option Nat} {id : Nat} {x : Code} (h : RoOk ro (.block id x)) : RoOk ro x := h
theorem RoOk.lp {ro : Option Nat} {x : Code} (h : RoOk ro (.loop x)) : RoOk ro x := h
theorem semAt_run {ro : Option Nat} {ρ : Operand → Value} {o : Oper} {P : Program} {w : World} {r : Result Next} (h : (execOp ρ o).run P w = r) (hd : ∀ d w', r ≠ .ok (.defer d) w') : (o.semAt ro ρ).run P w = r := by
 cases ro with
 | none => exact h
 | some l =>
   cases ho : o.op with
   | defer c =>
     simp only [execOp, ho, Sem.run_bind] at h
     simp only [Oper.semAt, ho, Sem.run_bind]
     generalize (resolve ρ c o.type).run P w = q at h
     cases q with
     | ok d w1 => simp only [Result.andThen_ok, Sem.run_pure] at h; exact absurd h.symm (hd d w1)
     | halt x w1 => exact h
   | _ => rw [Oper.semAt_eq _ _ _ (by rw [ho]; intro c hc; cases hc)]; exact h
theorem wd_op {ro : Option Nat} {P : Program} {o : Oper} {a : Act} {w : World} {next : Act → World → Prop} {Q : Exit → Act → World → Prop} {r : Result Next} (h : (execOp a.eval o).run P w = r) (hd : ∀ d w', r ≠ .ok (.defer d) w') (hh : o.uponIn (Wd ro) 0 P a next Q r) : o.wpIn (Wd ro) 0 P a w next Q :=
 ⟨fun _ _ => trivial, by rw [show (o.semAt (Wd ro).round a.eval).run P w = r from semAt_run h hd]; exact hh⟩
def wpA (P : Program) (n : Nat) (c : Code) (Q : Post) (fr : Nat → D) (h : Heap) : Prop :=
 ∀ A M w0 a w, Rel n A M w0 fr h a w → ∀ ro, RoOk ro c → c.wpIn (Wd ro) 0 P (Conc n A M w0 Q) a w
def OpA (P : Program) (o : Oper) (fr : Nat → D) (h : Heap) (K : D → Heap → Prop) : Prop :=
 ∀ A M w0 (a : Act) w, HRel A M w0 h w → (∀ x, x ∈ o.op.operands → V w (XX A h) (ev fr x) (a.eval x)) →
   ∀ (next : Act → World → Prop) (Q : Exit → Act → World → Prop),
     (∀ v w' d h', K d h' → HRel A M w0 h' w' → Mono w (XX A h) w' (XX A h') → V w' (XX A h') d v → next (a.put o.dst v) w') → ∀ ro, o.wpIn (Wd ro) 0 P a w next Q
def wpL (P : Program) (n : Nat) (ops : Array Oper) (l : List Oper) (Q : Post) (fr : Nat → D) (h : Heap) : Prop :=
 ∀ A M w0 a w, Rel n A M w0 fr h a w → ∀ ro, wpListIn (Wd ro) 0 P ops (Conc n A M w0 Q) l a w
section
variable {P : Program} {n : Nat} {ops : Array Oper} {Q : Post} {fr : Nat → D} {h : Heap}
theorem zaa {id : Nat} (hh : wpL P n ops ops.toList Q fr h) : wpA P n (.region id ops false) Q fr h :=
 fun A M w0 a w r ro _ => wpIn_region_list (hh A M w0 a w r ro)
theorem zab (hh : Q .normal fr h) : wpL P n ops [] Q fr h := fun _ _ _ _ _ r _ => ⟨fr, h, hh, r⟩
theorem wpL_op {o : Oper} {l : List Oper} {d : Nat} (hg : o.guard = none) (hd : o.dst = some d) (hn : Nat.blt d n = true)
   (hh : OpA P o fr h fun x h' => wpL P n ops l Q (upd fr d x) h') : wpL P n ops (o :: l) Q fr h :=
 fun A M w0 a w r ro => wpListIn_plain hg fun K hK => hh A M w0 a w r.heap (fun x _ => r.ev x) K _ (fun v w' x h' hk hr hm hv =>
   hK _ _ (hk A M w0 _ w' (by rw [hd]; exact r.put hr hm (by simpa [Nat.blt_eq] using hn) hv) ro)) ro
theorem wpL_eff {o : Oper} {l : List Oper} (hg : o.guard = none) (hd : o.dst = none)
   (hh : OpA P o fr h fun _ h' => wpL P n ops l Q fr h') : wpL P n ops (o :: l) Q fr h :=
 fun A M w0 a w r ro => wpListIn_plain hg fun K hK => hh A M w0 a w r.heap (fun x _ => r.ev x) K _ (fun v w' x h' hk hr hm hv =>
   hK _ _ (hk A M w0 _ w' (by rw [hd]; exact r.turn hr hm) ro)) ro
theorem yielded_of {A M : Nat → Prop} {w0 : World} {a : Act} {w : World} (r : Rel n A M w0 fr h a w) {j s : Nat} {b : Bool} (hj : (ops[j]?).bind (·.dst) = some s) (hb : fr s = .b b) :
   yielded ops a.tmps j = some b := by
 have hv := r.frame s
 rw [hb] at hv
 generalize hx : a.tmps.getD s undef = x at hv
 cases hv
 unfold yielded
 rw [hj]
 have : a.tmps[s]? = some (.bool b) := by
   have : a.tmps[s]?.getD undef = .bool b := by simpa using hx
   cases hs : a.tmps[s]? with
   | none => rw [hs] at this; simp [undef] at this
   | some y => rw [hs] at this; simpa using this
 simp [this]
theorem wpL_skip {o : Oper} {l : List Oper} {d j s : Nat} {want b : Bool} (hg : o.guard = some (j, want)) (hj : (ops[j]?).bind (·.dst) = some s) (hb : fr s = .b b) (hne : (b == want) = false)
   (hd : o.dst = some d) (hn : Nat.blt d n = true) (hh : wpL P n ops l Q (upd fr d (.v undef)) h) : wpL P n ops (o :: l) Q fr h :=
 fun A M w0 a w r ro => wpListIn_step fun K hK => by
   have hy := yielded_of r hj hb
   have : Region.wanted o (yielded ops a.tmps) = false := by
     simp only [Region.wanted, hg, hy]
     cases b <;> cases want <;> first | rfl | simp at hne
   rw [if_neg (by simp [this])]
   refine ⟨fun _ _ => trivial, hK _ _ (hh A M w0 _ w ?_ ro)⟩
   rw [hd]
   exact r.put r.heap (Mono.refl _ _) (by simpa [Nat.blt_eq] using hn) (.v _)
theorem yielded_undef {A M : Nat → Prop} {w0 : World} {a : Act} {w : World} (r : Rel n A M w0 fr h a w) {j s : Nat} (hj : (ops[j]?).bind (·.dst) = some s) (hb : fr s = .v undef) :
   yielded ops a.tmps j = none := by
 have hv := r.frame s
 rw [hb] at hv
 generalize hx : a.tmps.getD s undef = x at hv
 cases hv
 unfold yielded
 rw [hj]
 cases hs : a.tmps[s]? with
 | none => simp [hs]
 | some y =>
   have : y = undef := by simpa [hs] using hx
   subst this
   simp [hs, undef]
theorem wpL_skipU {o : Oper} {l : List Oper} {d j s : Nat} {want : Bool} (hg : o.guard = some (j, want)) (hj : (ops[j]?).bind (·.dst) = some s) (hb : fr s = .v undef)
   (hd : o.dst = some d) (hn : Nat.blt d n = true) (hh : wpL P n ops l Q (upd fr d (.v undef)) h) : wpL P n ops (o :: l) Q fr h :=
 fun A M w0 a w r ro => wpListIn_step fun K hK => by
   have hy := yielded_undef r hj hb
   have : Region.wanted o (yielded ops a.tmps) = false := by
     simp only [Region.wanted, hg, hy]; rfl
   rw [if_neg (by simp [this])]
   refine ⟨fun _ _ => trivial, hK _ _ (hh A M w0 _ w ?_ ro)⟩
   rw [hd]
   exact r.put r.heap (Mono.refl _ _) (by simpa [Nat.blt_eq] using hn) (.v _)
theorem wpL_opg {o : Oper} {l : List Oper} {d j s : Nat} {want b : Bool} (hg : o.guard = some (j, want)) (hj : (ops[j]?).bind (·.dst) = some s) (hb : fr s = .b b) (hne : (b == want) = true)
   (hd : o.dst = some d) (hn : Nat.blt d n = true) (hh : OpA P o fr h fun x h' => wpL P n ops l Q (upd fr d x) h') : wpL P n ops (o :: l) Q fr h :=
 fun A M w0 a w r ro => wpListIn_step fun K hK => by
   have hy := yielded_of r hj hb
   have : Region.wanted o (yielded ops a.tmps) = true := by
     simp only [Region.wanted, hg, hy]
     cases b <;> cases want <;> first | rfl | simp at hne
   rw [if_pos this]
   exact hh A M w0 a w r.heap (fun x _ => r.ev x) K _ (fun v w' x h' hk hr hm hv =>
     hK _ _ (hk A M w0 _ w' (by rw [hd]; exact r.put hr hm (by simpa [Nat.blt_eq] using hn) hv) ro)) ro
theorem zac {x y : Code} (hh : wpA P n x (fun e fr' h' => match e with | .normal => wpA P n y Q fr' h' | e => Q e fr' h') fr h) : wpA P n (.seq x y) Q fr h :=
 fun A M w0 a w r ro hro => wpIn_seq (wpIn_mono (hh A M w0 a w r ro hro.l) fun e a' w' ⟨fr', h', hq, r'⟩ => by
   cases e <;> first | exact hq A M w0 a' w' r' ro hro.r | exact ⟨fr', h', hq, r'⟩)
theorem zai (hh : Q .normal fr h) : wpA P n .skip Q fr h := fun _ _ _ _ _ r _ _ => wpIn_skip ⟨fr, h, hh, r⟩
theorem wpA_label {l : Nat} (hh : Q .normal fr h) : wpA P n (.label l) Q fr h := fun _ _ _ _ _ r _ _ => wpIn_label ⟨fr, h, hh, r⟩
theorem zal (hh : Q .ret fr h) : wpA P n .ret Q fr h := fun _ _ _ _ _ r _ _ => wpIn_ret ⟨fr, h, hh, r⟩
theorem wpA_exit {id : Nat} (hh : Q (.exit id) fr h) : wpA P n (.exit id) Q fr h := fun _ _ _ _ _ r _ _ => wpIn_exit ⟨fr, h, hh, r⟩
theorem zae {c : Operand} {x y : Code} {b : Bool} (hb : ev fr c = .b b) (ht : b = true → wpA P n x Q fr h) (hf : b = false → wpA P n y Q fr h) : wpA P n (.cond c x y) Q fr h :=
 fun A M w0 a w r ro hro => by
   have hv := r.ev c
   rw [hb] at hv
   generalize hx : a.eval c = u at hv
   cases hv
   exact wpIn_cond_split hx (fun h1 => ht h1 A M w0 a w r ro hro.t) (fun h1 => hf h1 A M w0 a w r ro hro.f)
abbrev InBlock (id : Nat) (Q : Post) : Post
 | .exit id', fr, h => cond (Nat.beq id' id) (Q .normal fr h) (Q (.exit id') fr h)
 | e, fr, h => Q e fr h
theorem zag {id : Nat} {c : Code} (hh : wpA P n c (InBlock id Q) fr h) : wpA P n (.block id c) Q fr h :=
 fun A M w0 a w r ro hro => wpIn_block (wpIn_mono (hh A M w0 a w r ro hro.blk) fun e a' w' ⟨fr', h', hq, r'⟩ => by
   cases e with
   | exit id' =>
     simp only [Exit.inBlock]
     by_cases hid : id' = id
     · subst hid; rw [if_pos rfl]; exact ⟨fr', h', by simpa [InBlock] using hq, r'⟩
     · rw [if_neg hid]
       have : Nat.beq id' id = false := by
         cases hb : Nat.beq id' id with
         | false => rfl
         | true => exact absurd (Nat.eq_of_beq_eq_true hb) hid
       exact ⟨fr', h', by simpa [InBlock, this] using hq, r'⟩
   | _ => exact ⟨fr', h', hq, r'⟩)
theorem wpA_mono {c : Code} {Q' : Post} (hh : wpA P n c Q fr h) (hq : ∀ e fr h, Q e fr h → Q' e fr h) : wpA P n c Q' fr h :=
 fun A M w0 a w r ro hro => wpIn_mono (hh A M w0 a w r ro hro) fun _ _ _ ⟨fr', h', q, r'⟩ => ⟨fr', h', hq _ _ _ q, r'⟩
theorem wpA_loop {c : Code} (I : Nat → (Nat → D) → Heap → Prop) {k : Nat} (h0 : I k fr h)
   (round : ∀ k fr h, I k fr h → wpA P n c (fun e fr' h' => match e with | .normal => ∃ k', k' < k ∧ I k' fr' h' | e => Q e fr' h') fr h) : wpA P n (.loop c) Q fr h := by
 intro A M w0 a w r ro hro b ks cs hbr hb hr
 have key : ∀ m k a w fr h, k = m → I k fr h → Rel n A M w0 fr h a w →
     ∃ e a' w', Conc n A M w0 Q e a' w' ∧ ArrivesIn (Machine.fenced P (Wd ro)) P (lone (b.atR a (.code c :: .inLoop c :: ks)) cs w) b ks cs e a' w' := by
   intro m
   induction m using Nat.strongRecOn with
   | _ m ih =>
     intro k a w fr h hk hI r
     obtain ⟨e, a₁, w₁, ⟨fr₁, h₁, hq, r₁⟩, harr⟩ := round k fr h hI A M w0 a w r ro hro.lp b (.inLoop c :: ks) cs hbr hb hr
     cases e with
     | normal =>
       obtain ⟨k', hlt, hI₁⟩ := hq
       obtain ⟨e₂, a₂, w₂, hq₂, harr₂⟩ := ih k' (hk ▸ hlt) k' a₁ w₁ fr₁ h₁ rfl hI₁ r₁
       exact ⟨e₂, a₂, w₂, hq₂, .of_steps (StepsIn.trans harr (.one (fenced_calm hb (wd_room ro (cs.length + 1 + 0)) rfl) stepR_inLoop)) harr₂⟩
     | exit id => exact ⟨_, a₁, w₁, ⟨fr₁, h₁, hq, r₁⟩, .pass (x := .inLoop c) rfl (fun _ _ => .inl (by simp)) harr⟩
     | goto l => exact ⟨_, a₁, w₁, ⟨fr₁, h₁, hq, r₁⟩, .pass (x := .inLoop c) rfl (fun _ _ => .inl (by simp)) harr⟩
     | ret => exact ⟨_, a₁, w₁, ⟨fr₁, h₁, hq, r₁⟩, .pass (x := .inLoop c) rfl (fun _ _ => .inl (by simp)) harr⟩
     | panic ch => exact ⟨_, a₁, w₁, ⟨fr₁, h₁, hq, r₁⟩, .pass (x := .inLoop c) rfl (fun _ _ => .inl (by simp)) harr⟩
     | outgrown => exact ⟨_, a₁, w₁, ⟨fr₁, h₁, hq, r₁⟩, .pass (x := .inLoop c) rfl (fun _ _ => .inl (by simp)) harr⟩
 obtain ⟨e, a', w', hq, harr⟩ := key _ k a w fr h rfl h0 r
 exact ⟨e, a', w', hq, .of_steps (.one (fenced_calm hb hr rfl) stepR_loop) harr⟩
end
end Go.Lic
