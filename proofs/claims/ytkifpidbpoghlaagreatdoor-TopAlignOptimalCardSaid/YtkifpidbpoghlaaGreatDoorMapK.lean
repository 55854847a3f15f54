/-
  What the rows' condition says of package-level variables.
-/
import Derived.Test.YtkifpidbpoghlaaGreatDoorRel
import Derived.Test.YtkifpidbpoghlaaGreatDoorRows
import Derived.LaidLaws
import Derived.Lay
import Derived.ProofKit
import Derived.Lib.LaidTab
import Derived.Lib.LaidU8
import Derived.Stop.LaidErr
import Derived.Lib.AtoiErrMem
import Derived.KernelRfl
import Derived.Test.YtkifpidbpoghlaaGreatDoorStates
import Derived.Laws.StructEq
import Derived.Test.YtkifpidbpoghlaaGreatDoorCv0
import Derived.Test.YtkifpidbpoghlaaGreatDoorShelf
import Derived.Test.YtkifpidbpoghlaaGreatDoorSort
set_option linter.all false
namespace Go.Lic
open Go.Proofs Go.Proofs.YtkifpidbpoghlaaGreatDoor
theorem laid_mem {P : Program} {n : String} {d : DataW Unit} : ∀ {l : List (String × DataW Unit)} {W : World}, (n, d) ∈ l → laidMet P l W → ∃ r, laidMet P ((n, d) :: r) W
 | x :: l, W, hm, h => by
   rcases List.mem_cons.1 hm with e | hm
   · subst e; exact ⟨l, h⟩
   · exact laid_mem hm h.tail
theorem star_err : "*" ++ "errors.errorString" = "*errors.errorString" := by decide
theorem row_err (u : TypeId) (h : Tryz.prog.typeName? 3 u = some "*errors.errorString") : u = 279 :=
 typeName_ptr_named (nm := "errors.errorString") (by rw [star_err]; kernel_rfl) (by kernel_rfl) (by decide) u (by rw [star_err]; exact h)
def msOf (P : Program) (t : TypeId) : Array (String × TypeId) := match P.underlying t with | some (.interface ms) => ms | _ => #[]
def fOne (P : Program) (t : TypeId) : Field := match P.underlying t with | some (.struct fs) => fs.getD 0 default | _ => default
theorem laid_err {l : List (String × DataW Unit)} {W : World} {n : String} {g : Nat} {text : List UInt8} (hm : (n, .iface "*errors.errorString" (.ptr (.agg [.lit (.string text)]))) ∈ l) (h : laidMet Tryz.prog l W)
   (hg : Tryz.prog.globalNamed n = some g) (ht : (Tryz.prog.globals[g]?).map (·.type) = some 114) : ∃ u p, W.cell? ⟨g, 0, none⟩ = some (.iface u p) := by
 obtain ⟨r, hr⟩ := laid_mem hm h
 have hi : Tryz.prog.underlying 114 = some (.interface (msOf Tryz.prog 114)) := by kernel_rfl
 have hp : Tryz.prog.underlying 279 = some (.pointer 281) := by kernel_rfl
 have he : Tryz.prog.underlying 281 = some (.struct #[fOne Tryz.prog 281]) := by kernel_rfl
 have h1 : (fOne Tryz.prog 281).type = 9 := by kernel_rfl
 have h2 : (fOne Tryz.prog 281).offset = 0 := by kernel_rfl
 have h3 : Tryz.prog.underlying 9 = some .string := by kernel_rfl
 have h4 : Tryz.prog.cellsOf 281 = 1 := by kernel_rfl
 have h5 : Tryz.prog.cellsOf 9 = 1 := by kernel_rfl
 obtain ⟨a, s, hv, _⟩ := laid_sentinel hr hg ht hi row_err hp he h1 h2 h3 h4 h5
 exact ⟨_, _, by have := World.var?_cell hg hv 0; simpa using this⟩
set_option maxRecDepth 10000 in
theorem glob_of_laid {l : List (String × DataW Unit)} {W : World} (hm : ("internal/strconv.uint64pow10", Rows.laid_internal_strconv_uint64pow10) ∈ l) (hm2 : ("strconv.ErrSyntax", Rows.laid_strconv_ErrSyntax) ∈ l) (hm3 : ("strconv.ErrRange", Rows.laid_strconv_ErrRange) ∈ l) (h : laidMet Tryz.prog l W) : Glob W (fun b => (fun _ : Nat => False) (2 * b)) := by
 obtain ⟨g, t, cs, fuel, p, hg, hty, hvar, hd⟩ := Lib.laidMet.reads h hm
 have e1 : Tryz.prog.globalNamed "internal/strconv.uint64pow10" = some 5 := by kernel_rfl
 obtain rfl := Option.some.inj (e1.symm.trans hg)
 have e2 : (Tryz.prog.globals[5]?).map (·.type) = some 313 := by kernel_rfl
 obtain rfl := Option.some.inj (e2.symm.trans hty)
 have e3 : (Rows.laid_internal_strconv_uint64pow10 : DataW Unit) = Lib.tabData .u64 pow10L := by rfl
 rw [e3] at hd
 have hcs := Lib.cells_of_tab (n := 20) (e := 250) (by kernel_rfl) (by kernel_rfl) (by kernel_rfl) (by kernel_rfl) hd
 unfold World.var? at hvar
 rw [e1] at hvar
 simp only [Option.bind_some] at hvar
 have hg1 : ∃ t z, W.heap[5]? = some (.cells (pow10L.map fun n => Value.int .u64 n).toArray t z) := by
   split at hvar
   · next cs' t z he =>
     obtain rfl := Option.some.inj hvar
     refine ⟨t, z, ?_⟩
     rw [he, ← hcs]
   · cases hvar
 have hg2 := laid_err (n := "strconv.ErrSyntax") (g := 1) hm2 h (by kernel_rfl) (by kernel_rfl)
 have hg3 := laid_err (n := "strconv.ErrRange") (g := 2) hm3 h (by kernel_rfl) (by kernel_rfl)
 refine ⟨W, ⟨hg1, hg2, hg3⟩, fun g hg => ?_⟩
 refine ⟨fun h => h, ?_, rfl⟩
 simp only [globIds, List.mem_cons, List.not_mem_nil, or_false] at hg
 rcases hg with rfl | rfl | rfl
 · obtain ⟨t, z, h1⟩ := hg1
   by_cases hlt : 5 < W.heap.size
   · exact hlt
   · rw [Array.getElem?_eq_none (by omega)] at h1
     cases h1
 · obtain ⟨u, q, h1⟩ := hg2; exact Lib.lt_of_cell h1
 · obtain ⟨u, q, h1⟩ := hg3; exact Lib.lt_of_cell h1
theorem tab_of_glob {w : World} {X : Nat → Prop} (h : Glob w X) : Lib.TabIs Tryz.prog w "internal/strconv.uint64pow10" .u64 pow10L := by
 obtain ⟨W0, ⟨⟨t, z, h0⟩, _⟩, h1⟩ := h
 obtain ⟨_, _, h2⟩ := h1 5 (by simp [globIds])
 have e1 : Tryz.prog.globalNamed "internal/strconv.uint64pow10" = some 5 := by kernel_rfl
 unfold Lib.TabIs World.var?
 rw [e1]
 simp only [Option.bind_some]
 rw [h2, h0]
theorem cell_same {w w' : World} {g : Nat} (h : w.heap[g]? = w'.heap[g]?) : w.cell? ⟨g, 0, none⟩ = w'.cell? ⟨g, 0, none⟩ := by simp [World.cell?, h]
theorem err_of_glob {w : World} {X : Nat → Prop} (h : Glob w X) : (∃ u p, w.cell? ⟨1, 0, none⟩ = some (.iface u p)) ∧ (∃ u p, w.cell? ⟨2, 0, none⟩ = some (.iface u p)) := by
 obtain ⟨W0, ⟨_, ⟨u, p, h2⟩, ⟨u', p', h3⟩⟩, h1⟩ := h
 obtain ⟨_, _, k2⟩ := h1 1 (by simp [globIds])
 obtain ⟨_, _, k3⟩ := h1 2 (by simp [globIds])
 exact ⟨⟨u, p, (cell_same k2).trans h2⟩, ⟨u', p', (cell_same k3).trans h3⟩⟩
end Go.Lic
set_option linter.all false
namespace Go.Lic
inductive SEq (P : Program) (xs ys : List Value) : List (Nat × TypeId) → Bool → Prop
 | nil : SEq P xs ys [] true
 | str {o : Nat} {t : TypeId} {l : List (Nat × TypeId)} {r : Bool} {a c : ByteArray} (ht : P.underlying t = some .string) (hti : TI P t 1 false) (hx : xs[o]? = some (.string a)) (hy : ys[o]? = some (.string c)) (h : SEq P xs ys l r) : SEq P xs ys ((o, t) :: l) (decide (a = c) && r)
 | int {o : Nat} {t : TypeId} {l : List (Nat × TypeId)} {r : Bool} {k : IntKind} {a c : Int} (ht : P.underlying t = some (.int k)) (hti : TI P t 1 false) (hx : xs[o]? = some (.int k a)) (hy : ys[o]? = some (.int k c)) (h : SEq P xs ys l r) : SEq P xs ys ((o, t) :: l) (decide (a = c) && r)
 | bool {o : Nat} {t : TypeId} {l : List (Nat × TypeId)} {r : Bool} {a c : Bool} (ht : P.underlying t = some .bool) (hti : TI P t 1 false) (hx : xs[o]? = some (.bool a)) (hy : ys[o]? = some (.bool c)) (h : SEq P xs ys l r) : SEq P xs ys ((o, t) :: l) (decide (a = c) && r)
theorem run_part1 {P : Program} {t : TypeId} (hti : TI P t 1 false) {xs : List Value} {o : Nat} {v : Value} (h : xs[o]? = some v) (w : World) : (part t xs.toArray o).run P w = .ok v w := by
 simp only [part, Sem.run_bind, hti.isAgg, Result.andThen_ok, Bool.false_eq_true, if_false]
 simp [h]
theorem run_eqStr {P : Program} {t : TypeId} (ht : P.underlying t = some .string) (d : Nat) (a c : ByteArray) (w : World) : (Op.equalIn (d + 1) t (.string a) (.string c)).run P w = .ok (decide (a = c)) w := by
 simp only [Op.equalIn, Sem.run_bind, run_underlying ht, Result.andThen_ok, Sem.run_pure]
 rw [beq_toListBytes, str_beq]
theorem run_eqInt {P : Program} {t : TypeId} {k : IntKind} (ht : P.underlying t = some (.int k)) (d : Nat) (a c : Int) (w : World) : (Op.equalIn (d + 1) t (.int k a) (.int k c)).run P w = .ok (decide (a = c)) w := by
 simp [Op.equalIn, run_underlying ht]
 rw [Bool.eq_iff_iff]; simp
theorem run_eqBool {P : Program} {t : TypeId} (ht : P.underlying t = some .bool) (d : Nat) (a c : Bool) (w : World) : (Op.equalIn (d + 1) t (.bool a) (.bool c)).run P w = .ok (decide (a = c)) w := by
 simp [Op.equalIn, run_underlying ht]
 cases a <;> cases c <;> rfl
theorem SEq.run {P : Program} {xs ys : List Value} {l : List (Nat × TypeId)} {r : Bool} (h : SEq P xs ys l r) (d : Nat) (w : World) : ∀ fs : List Field, fs.map (fun f => (f.name == "_", f.offset, f.type)) = l.map (fun p => (false, p.1, p.2)) →
   (Op.eqFields (d + 1) xs.toArray ys.toArray fs).run P w = .ok r w := by
 induction h with
 | nil =>
   intro fs hf
   have : fs = [] := by simpa using hf
   subst this
   simp [Op.eqFields]
 | str ht hti hx hy _ ih =>
   intro fs hf
   cases fs with
   | nil => simp at hf
   | cons f fs =>
     simp only [List.map_cons, List.cons.injEq, Prod.mk.injEq] at hf
     obtain ⟨⟨h1, h2, h3⟩, hf⟩ := hf
     have h1' : f.name ≠ "_" := by simpa using h1
     simp only [Op.eqFields, h1', ne_eq, not_false_eq_true, if_true, Sem.run_bind, h2, h3, run_part1 hti hx, run_part1 hti hy, Result.andThen_ok, run_eqStr ht]
     split
     · next hc => simp at hc; simp [hc]
     · next hc => simp at hc; simp [hc, ih fs hf]
 | int ht hti hx hy _ ih =>
   intro fs hf
   cases fs with
   | nil => simp at hf
   | cons f fs =>
     simp only [List.map_cons, List.cons.injEq, Prod.mk.injEq] at hf
     obtain ⟨⟨h1, h2, h3⟩, hf⟩ := hf
     have h1' : f.name ≠ "_" := by simpa using h1
     simp only [Op.eqFields, h1', ne_eq, not_false_eq_true, if_true, Sem.run_bind, h2, h3, run_part1 hti hx, run_part1 hti hy, Result.andThen_ok, run_eqInt ht]
     split
     · next hc => simp at hc; simp [hc]
     · next hc => simp at hc; simp [hc, ih fs hf]
 | bool ht hti hx hy _ ih =>
   intro fs hf
   cases fs with
   | nil => simp at hf
   | cons f fs =>
     simp only [List.map_cons, List.cons.injEq, Prod.mk.injEq] at hf
     obtain ⟨⟨h1, h2, h3⟩, hf⟩ := hf
     have h1' : f.name ≠ "_" := by simpa using h1
     simp only [Op.eqFields, h1', ne_eq, not_false_eq_true, if_true, Sem.run_bind, h2, h3, run_part1 hti hx, run_part1 hti hy, Result.andThen_ok, run_eqBool ht]
     split
     · next hc => simp at hc; simp [hc]
     · next hc => simp at hc; simp [hc, ih fs hf]
theorem OpA.structcmp {P : Program} {o : Oper} {fr : Nat → D} {h : Heap} {K : D → Heap → Prop} {op : BinOp} {t t2 : TypeId} {x y : Operand} {xs ys : List Value} {r b : Bool} {l : List (Nat × TypeId)} (ho : o.op = .binOp op t x y t2) (hm : P.eqGuardType P.depth t = false)
   (hu : P.underlying t = some (.struct (P.fieldsOf t))) (hp : P.stoodInHeld t = false) (hl : (P.fieldsOf t).toList.map (fun f => (f.name == "_", f.offset, f.type)) = l.map (fun p => (false, p.1, p.2)))
   (hx : ev fr x = .agg (xs.map D.v)) (hy : ev fr y = .agg (ys.map D.v)) (hs : SEq P xs ys l r) (hop : (op = .eql ∧ b = r) ∨ (op = .neq ∧ b = !r)) (hk : K (.b b) h) : OpA P o fr h K :=
 .aggcmp ho hm hx hy (fun w => by rw [run_equalIn_struct w 9999 t _ _ hu hp]; exact hs.run 9998 w _ hl) hop hk
end Go.Lic
set_option linter.all false
namespace Go.Lic
variable [Fl]
open Go.Proofs Go.Sort Go.Shelf
theorem Fun.of_same {P : Program} {f : Nat} {vs : List Value} {v : Value} (h : ∀ w, Calls P f vs.toArray w fun e w' => e = .returned v ∧ w' = w) : Fun false P f (vs.map D.v) (fun d => d = .v v) := by
 intro A w us hb ho hg hv
 obtain rfl := vl_vals _ _ hv
 refine (h w).mono ?_
 rintro e w' ⟨rfl, rfl⟩
 exact ⟨v, .v v, rfl, rfl, .v _, Ext.refl _ _⟩
theorem ext_grow (w : World) (k : Nat) (os : Array Obj) : Ext (fun _ => False) w (grow (w.drewN k) os) :=
 ⟨rfl, rfl, rfl, by simp [grow, World.drewN], fun b hb _ => by simp only [grow, World.drewN]; rw [Array.getElem?_append_left hb], fun b hb => by
   apply shape_of_heap; simp only [grow, World.drewN]; rw [Array.getElem?_append_left hb], by simp [grow, World.drewN]⟩
theorem one_byte {sep : ByteArray} (h : sep.size = 1) : sep = ⟨#[sepOf sep]⟩ := by
 obtain ⟨⟨l⟩⟩ := sep
 have : l.length = 1 := h
 match l, this with
 | [c], _ => rfl
theorem iCompare_c (a b : Int) : Fun false Tryz.prog 153 [D.i a, D.i b] (fun d => d = D.i (cmpI a b)) := Fun.of_same (vs := [.int .i64 a, .int .i64 b]) (Tryz.cmp_Compare_int a b)
theorem count_c (s sep : ByteArray) (h : sep.size = 1) : Fun false Tryz.prog 6 [D.s s, D.s sep] (fun d => d = D.i (countF s sep)) := by
 have := Fun.of_same (vs := [.string s, .string ⟨#[sepOf sep]⟩]) (Tryz.strings_Count_one s (sepOf sep))
 rw [← one_byte h] at this
 exact this
theorem index_c (s sep : ByteArray) (h : sep.size = 1) : Fun false Tryz.prog 32 [D.s s, D.s sep] (fun d => d = D.i (indexF s sep)) := by
 have := Fun.of_same (vs := [.string s, .string ⟨#[sepOf sep]⟩]) (Tryz.strings_Index_one s (sepOf sep))
 rw [← one_byte h] at this
 exact this
theorem len_c (n : Int) (h0 : 0 ≤ n) (h1 : n ≤ 18446744073709551615) : Fun false Tryz.prog 161 [D.k .u64 n] (fun d => d = D.i (lenF n)) := Fun.of_same (vs := [.int .u64 n]) (fun w => Tryz.bits_Len n w h0 h1)
theorem itoa_c (n : Int) (h0 : -9223372036854775808 ≤ n) (h1 : n ≤ 9223372036854775807) : Fun false Tryz.prog 103 [D.i n] (fun d => d = D.s (itoaF n)) := by
 intro A w us hb ho hg hv
 cases hv with
 | cons h2 h3 =>
   cases h2; cases h3
   refine (Tryz.strconv_Itoa n h0 h1 w (tab_of_glob hg)).mono ?_
   rintro e w' ⟨rfl, k, os, rfl⟩
   exact ⟨_, _, rfl, rfl, .v _, ext_grow w k os⟩
theorem mul64_c (a b : Int) (h0 : 0 ≤ a) (h1 : a ≤ 18446744073709551615) (h2 : 0 ≤ b) (h3 : b ≤ 18446744073709551615) : Fun false Tryz.prog 237 [D.k .u64 a, D.k .u64 b] (fun d => d = .tup [D.k .u64 (mul64F a b).1, D.k .u64 (mul64F a b).2]) := by
 obtain ⟨x, rfl⟩ := Int.eq_ofNat_of_zero_le h0
 obtain ⟨y, rfl⟩ := Int.eq_ofNat_of_zero_le h2
 intro A w us hb ho hg hv
 cases hv with
 | cons k2 k3 =>
   cases k2
   cases k3 with
   | cons k4 k5 =>
     cases k4; cases k5
     refine (Tryz.bits_Mul64 x y (by omega) (by omega) w).mono ?_
     rintro e w' ⟨rfl, rfl⟩
     refine ⟨_, _, rfl, rfl, .tup (.cons ?_ (.cons ?_ .nil)), Ext.refl _ _⟩
     · have : ((x * y / 18446744073709551616 : Nat) : Int) = (mul64F (x : Int) (y : Int)).1 := by simp [mul64F]
       rw [this]; exact .v _
     · have : ((x * y % 18446744073709551616 : Nat) : Int) = (mul64F (x : Int) (y : Int)).2 := by simp [mul64F]
       rw [this]; exact .v _
end Go.Lic
set_option linter.all false
namespace Go.Lic
variable [Fl]
def entsK {U T : Type} (kf : U → Value) (vf : T → Value) : Nat → List (U × T) → List MapEntry
 | _, [] => []
 | n, p :: l => { key := kf p.1, val := vf p.2, born := n } :: entsK kf vf (n + 1) l
def mapK {U T : Type} (kf : U → Value) (vf : T → Value) (l : List (U × T)) : Obj := .map (entsK kf vf 0 l).toArray l.length
section
variable {U T : Type} [DecidableEq U]
def kget (d : T) : List (U × T) → U → T
 | [], _ => d
 | p :: l, k => if p.1 = k then p.2 else kget d l k
def kset : List (U × T) → U → T → List (U × T)
 | [], k, v => [(k, v)]
 | p :: l, k, v => if p.1 = k then (k, v) :: l else p :: kset l k v
def kfind : List (U × T) → U → Nat → Option (Nat × T)
 | [], _, _ => none
 | p :: l, k, i => if p.1 = k then some (i, p.2) else kfind l k (i + 1)
end
structure KeyT (P : Program) (kt : TypeId) {U : Type} [DecidableEq U] (kf : U → Value) : Prop where
 find : ∀ (w : World) (k : U) (T : Type) (vf : T → Value) (l : List (U × T)) (n : Nat), (Instr.findKey kt (kf k) (entsK kf vf n l)).run P w = .ok ((kfind l k 0).map fun q => (q.1, vf q.2)) w
 check : ∀ (w : World) (b : Bool) (k : U), (Instr.checkKey b 10000 kt (kf k)).run P w = .ok () w
 same : ∀ k : U, Instr.sameBits 10000 (kf k) (kf k) = true
section
variable {P : Program} {kt : TypeId} {U T : Type} [DecidableEq U] {kf : U → Value} {vf : T → Value}
theorem findAsking_ents (heq : ∀ (w : World) (a b : U), (Op.equal kt (kf a) (kf b)).run P w = .ok (decide (a = b)) w) (w : World) (k : U) : ∀ (l : List (U × T)) (n i : Nat), (Instr.findAsking kt (kf k) (entsK kf vf n l) i).run P w = .ok ((kfind l k i).map fun q => (q.1, vf q.2)) w
 | [], _, _ => by simp [entsK, Instr.findAsking, kfind, Sem.run_pure]
 | p :: l, n, i => by
   simp only [entsK, Instr.findAsking, Sem.run_bind, heq, Result.andThen_ok, kfind]
   by_cases h : p.1 = k
   · simp [h, Sem.run_pure]
   · have h2 : ¬ k = p.1 := fun e => h e.symm
     simp only [h2, decide_false, Bool.false_eq_true, if_false, if_neg h]
     exact findAsking_ents heq w k l (n + 1) (i + 1)
theorem KeyT.asking {d : TypeDesc} (ht : P.underlying kt = some d) (hn : ∀ a b : U, Instr.sameNow d (kf a) (kf b) = none) (heq : ∀ (w : World) (a b : U), (Op.equal kt (kf a) (kf b)).run P w = .ok (decide (a = b)) w)
   (hc : ∀ (w : World) (b : Bool) (k : U), (Instr.checkKey b 10000 kt (kf k)).run P w = .ok () w) (hs : ∀ k : U, Instr.sameBits 10000 (kf k) (kf k) = true) : KeyT P kt kf :=
 ⟨fun w k T vf l n => by
   simp only [Instr.findKey, Sem.run_bind, run_underlying ht, Result.andThen_ok]
   cases l with
   | nil => simp [entsK, Instr.findNow, kfind, Sem.run_pure]
   | cons p l =>
     have e : Instr.findNow d (kf k) (entsK kf vf n (p :: l)) 0 = none := by simp only [entsK, Instr.findNow, hn]
     rw [e]
     exact findAsking_ents heq w k (p :: l) n 0, hc, hs⟩
theorem kfind_get (d : T) (k : U) : ∀ (l : List (U × T)) (i : Nat), kget d l k = ((kfind l k i).map (·.2)).getD d
 | [], _ => rfl
 | p :: l, i => by
   simp only [kget, kfind]
   split
   · rfl
   · exact kfind_get d k l (i + 1)
theorem entsK_length : ∀ (l : List (U × T)) (n : Nat), (entsK kf vf n l).length = l.length
 | [], _ => rfl
 | p :: l, n => by simp [entsK, entsK_length l (n + 1)]
theorem kset_none {k : U} {v : T} : ∀ {l : List (U × T)} {i : Nat}, kfind l k i = none → ∀ n, entsK kf vf n (kset l k v) = entsK kf vf n l ++ [{ key := kf k, val := vf v, born := n + l.length }] ∧ (kset l k v).length = l.length + 1
 | [], _, _, n => by simp [kset, entsK]
 | p :: l, i, h, n => by
   simp only [kfind] at h
   split at h
   · cases h
   · next hp =>
     obtain ⟨h1, h2⟩ := kset_none (v := v) h (n + 1)
     simp only [kset, if_neg hp, entsK, h1, List.cons_append, List.length_cons, h2]
     refine ⟨?_, trivial⟩
     congr 3
     simp; omega
theorem kset_some {k : U} {v : T} : ∀ {l : List (U × T)} {i j : Nat} {u : T}, kfind l k i = some (j, u) → ∀ n, i ≤ j ∧ entsK kf vf n (kset l k v) = (entsK kf vf n l).modify (j - i) (fun e => { e with key := kf k, val := vf v }) ∧ (kset l k v).length = l.length ∧ ((entsK kf vf n l)[j - i]?).map (·.key) = some (kf k)
 | [], _, _, _, h, _ => by cases h
 | p :: l, i, j, u, h, n => by
   simp only [kfind] at h
   split at h
   · next hp =>
     cases h
     simp [kset, hp, entsK]
   · next hp =>
     obtain ⟨h0, h1, h2, h3⟩ := kset_some (v := v) h (n + 1)
     have e : j - i = (j - (i + 1)) + 1 := by omega
     refine ⟨by omega, ?_, ?_, ?_⟩
     · simp only [kset, if_neg hp, entsK, h1, e, List.modify_succ_cons]
     · simp only [kset, if_neg hp, List.length_cons, h2]
     · rw [e]; simpa [entsK] using h3
end
theorem entsK_mem {U T : Type} {kf : U → Value} {vf : T → Value} : ∀ {l : List (U × T)} {n : Nat} {e : MapEntry}, e ∈ entsK kf vf n l → ∃ k, ∃ h : k < l.length, e = { key := kf (l[k]).1, val := vf (l[k]).2, born := n + k }
 | [], _, _, h => by cases h
 | p :: l, n, e, h => by
   rcases List.mem_cons.1 h with rfl | h
   · exact ⟨0, by simp, by simp⟩
   · obtain ⟨k, hk, rfl⟩ := entsK_mem h
     exact ⟨k + 1, by simpa using hk, by simp; omega⟩
theorem entsK_at {U T : Type} (kf : U → Value) (vf : T → Value) : ∀ {l : List (U × T)} (n : Nat) {k : Nat} (h : k < l.length), { key := kf (l[k]).1, val := vf (l[k]).2, born := n + k } ∈ entsK kf vf n l
 | p :: l, n, 0, _ => by simp [entsK]
 | p :: l, n, k + 1, h => by
   have := entsK_at kf vf (l := l) (n + 1) (k := k) (by simpa using h)
   simp only [entsK, List.mem_cons, List.getElem_cons_succ]
   right
   rw [show n + (k + 1) = n + 1 + k by omega]; exact this
theorem entsK_born {U T : Type} (kf : U → Value) (vf : T → Value) : ∀ (l : List (U × T)) (n : Nat), ((entsK kf vf n l).map (·.born)).Nodup ∧ ∀ b ∈ (entsK kf vf n l).map (·.born), n ≤ b
 | [], _ => ⟨.nil, fun _ h => by cases h⟩
 | p :: l, n => by
   obtain ⟨h1, h2⟩ := entsK_born kf vf l (n + 1)
   simp only [entsK, List.map_cons]
   refine ⟨List.nodup_cons.2 ⟨fun hx => by have := h2 _ hx; omega, h1⟩, fun b hb => ?_⟩
   rcases List.mem_cons.1 hb with rfl | hb
   · omega
   · have := h2 b hb; omega
section
variable {P : Program} {o : Oper} {fr : Nat → D} {h : Heap} {K : D → Heap → Prop} {U T : Type} [DecidableEq U] {kf : U → Value} {vf : T → Value} {kd : U → D} {vd : T → D}
def PlainK {U : Type} (kd : U → D) (kf : U → Value) : Prop := ∀ (w : World) (X : Nat → Prop) (k : U), V w X (kd k) (kf k) ∧ ∀ v, V w X (kd k) v → v = kf k
theorem OpA.makeMapK {t : TypeId} (kf : U → Value) (vf : T → Value) (ho : o.op = .makeMap t none) (hk : ∀ c, K (.map c) ((c, .raw (mapK kf vf [])) :: h)) : OpA P o fr h K :=
 .of_run fun A M w0 ac w hr hv => by
   obtain ⟨_, h5, h6⟩ := hr.allocRaw (mapK kf vf [])
   refine ⟨.map (some w.heap.size), _, _, _, ?_, hk (2 * w.heap.size), h5, h6, ?_⟩
   · simp only [execOp, ho, Option.map_none, Instr.makeMap, Sem.run_bind, Sem.run_pure, Result.andThen_ok, run_newObj]
     rfl
   · have := V.map (w := w.alloc (mapK kf vf [])) (X := XX A ((2 * w.heap.size, .raw (mapK kf vf [])) :: h)) (c := 2 * w.heap.size) (by omega)
     rwa [show 2 * w.heap.size / 2 = w.heap.size from by omega] at this
theorem OpA.mapGetK {mt kt et : TypeId} {x y : Operand} {c : Nat} {k : U} {l : List (U × T)} (d : T) (hK : KeyT P kt kf) (hkd : PlainK kd kf) (hvd : PlainK vd vf) (ho : o.op = .lookup mt x y false) (ht : P.underlying mt = some (.map kt et)) (hzi : (P.info? et).bind (·.zero) = some (vf d))
   (hx : ev fr x = .map c) (hy : ev fr y = kd k) (hh : Has c (.raw (mapK kf vf l)) h) (hk : K (vd (kget d l k)) h) : OpA P o fr h K :=
 .of_run fun A M w0 ac w hr hv => by
   obtain ⟨i0, hi0, hi1⟩ := Option.bind_eq_some_iff.1 hzi
   have hz : ∀ w, (zeroValue et).run P w = .ok (vf d) w := fun w => by simp [zeroValue, typeInfo, hi0, hi1]
   have h1 := hv x (by simp [ho, Op.operands])
   have h2 := hv y (by simp [ho, Op.operands])
   rw [hx] at h1; rw [hy] at h2
   have hu2 := (hkd _ _ _).2 _ h2
   generalize hu : ac.eval x = u at h1
   cases h1 with
   | map hc =>
     obtain ⟨_, hb⟩ := hr.blk _ _ hh.mem
     refine ⟨vf (kget d l k), w, _, _, ?_, hk, hr, Mono.refl _ _, (hvd _ _ _).1⟩
     have hb' : w.heap[c / 2]? = some (.map (entsK kf vf 0 l).toArray l.length) := hb
     simp only [execOp, ho, hu, hu2, Instr.lookup, Sem.run_bind, run_underlying ht, Result.andThen_ok, getObj, Sem.run, hb', hK.check, hK.find, Sem.run_pure, Result.andThen]
     rw [kfind_get d k l 0]
     cases kfind l k 0 with
     | none => simp only [Option.map_none, Option.getD_none, Sem.run_bind, hz, Result.andThen_ok, Sem.run_pure]; rfl
     | some q => simp only [Option.map_some, Option.getD_some, Sem.run_pure, Result.andThen_ok]; rfl
theorem OpA.mapSetK {mt kt et : TypeId} {x y z : Operand} {c : Nat} {k : U} {l : List (U × T)} {v : T} {h' : Heap} (hK : KeyT P kt kf) (hkd : PlainK kd kf) (hvd : PlainK vd vf) (ho : o.op = .mapUpdate mt x y z) (ht : P.underlying mt = some (.map kt et))
   (hx : ev fr x = .map c) (hy : ev fr y = kd k) (hz : ev fr z = vd v) (hh : Repl c (.raw (mapK kf vf l)) c (.raw (mapK kf vf (kset l k v))) h h') (hk : K (.v undef) h') : OpA P o fr h K :=
 .of_skip fun A M w0 ac w hr hv => by
   have h1 := hv x (by simp [ho, Op.operands])
   have h2 := hv y (by simp [ho, Op.operands])
   have h3 := hv z (by simp [ho, Op.operands])
   rw [hx] at h1; rw [hy] at h2; rw [hz] at h3
   have hu2 := (hkd _ _ _).2 _ h2
   have hu3 := (hvd _ _ _).2 _ h3
   generalize hu : ac.eval x = u at h1
   cases h1 with
   | map hc =>
     obtain ⟨_, hb⟩ := hr.blk _ _ hh.has.mem
     have hlt : c / 2 < w.heap.size := (Array.getElem?_eq_some_iff.1 hb).1
     have hb' : w.heap[c / 2]? = some (.map (entsK kf vf 0 l).toArray l.length) := hb
     obtain ⟨h5, h6⟩ := hr.setRaw hh hc (w' := { w with heap := w.heap.setIfInBounds (c / 2) (mapK kf vf (kset l k v)) }) (by simp [hlt]) (by simp) (fun b hb => by simp [Array.getElem?_setIfInBounds, Ne.symm hb]) (by
       have e1 : w.shape? (c / 2) = none := by unfold World.shape?; rw [hb']
       rw [e1]; unfold World.shape?; simp [hlt, mapK]) rfl rfl ⟨rfl, rfl⟩
     have eg : (getObj (c / 2)).run P w = .ok (.map (entsK kf vf 0 l).toArray l.length) w := by simp [getObj, Sem.run, hb']
     have es : ∀ o, (setObj (c / 2) o).run P w = .ok () { w with heap := w.heap.setIfInBounds (c / 2) o } := fun o => by simp [setObj, Sem.run, hb']
     refine ⟨_, _, ?_, hk, h5, h6⟩
     simp only [execOp, ho, hu, hu2, hu3, Instr.mapUpdate, Sem.run_bind, run_underlying ht, Result.andThen_ok, eg, hK.check, hK.find]
     cases hf : kfind l k 0 with
     | none =>
       obtain ⟨e1, e2⟩ := kset_none (kf := kf) (vf := vf) (v := v) hf 0
       simp only [Option.map_none, es, Result.andThen_ok]
       simp [mapK, e1, e2]
     | some q =>
       obtain ⟨j, u⟩ := q
       obtain ⟨_, e1, e2, e3⟩ := kset_some (kf := kf) (vf := vf) (v := v) hf 0
       simp only [Nat.sub_zero] at e1 e3
       have e4 : ((entsK kf vf 0 l).toArray[j]?).map (·.key) = some (kf k) := by simpa using e3
       simp only [Option.map_some, e4, Option.getD_some, Instr.keyThatStays, hK.same, Sem.run_bind, es]
       simp [mapK, e1, e2, es]
theorem OpA.rangeMapK {t kt et : TypeId} {x : Operand} {cm : Nat} {l : List (U × T)} (ho : o.op = .range t x) (ht : P.underlying t = some (.map kt et)) (hx : ev fr x = .map cm) (hm : Has cm (.raw (mapK kf vf l)) h)
   (hk : ∀ c, K (.ptr c 1 0 0) ((c, .raw (itO cm l.length [])) :: h)) : OpA P o fr h K :=
 .of_run fun A M w0 ac w hr hv => by
   have h1 := hv x (by simp [ho, Op.operands])
   rw [hx] at h1
   generalize hu : ac.eval x = u at h1
   cases h1 with
   | map hc =>
     obtain ⟨_, hb⟩ := hr.blk _ _ hm.mem
     have hb' : w.heap[cm / 2]? = some (.map (entsK kf vf 0 l).toArray l.length) := hb
     obtain ⟨_, h5, h6⟩ := hr.allocRaw (itO cm l.length [])
     refine ⟨.pointer (some ⟨w.heap.size, 0, none⟩), _, _, _, ?_, hk (2 * w.heap.size), h5, h6, ?_⟩
     · simp only [execOp, ho, hu, Sem.run_bind, run_range_map w t kt et (cm / 2) _ _ ht hb', Result.andThen_ok, Sem.run_pure]
       rfl
     · have := V.ptr (w := w.alloc (itO cm l.length [])) (X := XX A ((2 * w.heap.size, .raw (itO cm l.length [])) :: h)) (c := 2 * w.heap.size) (sz := 1) (i := 0) (k := 0) (by omega)
       rwa [show 2 * w.heap.size / 2 = w.heap.size from by omega] at this
theorem OpA.nextMapK [Inhabited U] [Inhabited T] {x : Operand} {c cm : Nat} {l : List (U × T)} {seen : List Nat} {h' : Nat → Heap} (hkd : PlainK kd kf) (hvd : PlainK vd vf) (ho : o.op = .next x false) (hx : ev fr x = .ptr c 1 0 0) (hm : Has cm (.raw (mapK kf vf l)) h)
   (hrepl : ∀ k, Repl c (.raw (itO cm l.length seen)) c (.raw (itO cm l.length (seen ++ [k]))) h (h' k)) (hover : (∀ k : Nat, k < l.length → k ∈ seen) → K (.tup [.b false]) h)
   (hnext : ∀ k : Nat, k < l.length → k ∉ seen → K (.tup [.b true, kd (gi l (k : Int)).1, vd (gi l (k : Int)).2]) (h' k)) : OpA P o fr h K :=
 .of_run fun A M w0 ac w hr hv => by
   have h1 := hv x (by simp [ho, Op.operands])
   rw [hx] at h1
   generalize hu : ac.eval x = u at h1
   cases h1 with
   | ptr hc =>
     obtain ⟨hcm, hb⟩ := hr.blk _ _ hm.mem
     have hb' : w.heap[cm / 2]? = some (.map (entsK kf vf 0 l).toArray l.length) := hb
     obtain ⟨_, hi⟩ := hr.blk _ _ (hrepl 0).has.mem
     have hi' : w.heap[c / 2]? = some (.mapIter (some (cm / 2)) l.length seen.toArray l.length) := hi
     have e0 : 0 * 1 + 0 = 0 := rfl
     rcases run_next_at (P := P) w o.type (c / 2) (cm / 2) l.length l.length seen.toArray _ _ hi' hb' (fun e he => by
       obtain ⟨k, hk, rfl⟩ := entsK_mem (by simpa using he)
       simpa using hk) (Nat.le_refl _) with ⟨g1, g2⟩ | ⟨e, g1, w1, g2, g3⟩
     · refine ⟨.tuple #[.bool false], w, _, _, ?_, hover (fun k hk => ?_), hr, Mono.refl _ _, .tup (.cons (.v _) .nil)⟩
       · simp only [execOp, ho, hu, e0, Sem.run_bind, g2, Result.andThen_ok, Sem.run_pure]
       · have := entsK_at kf vf (l := l) 0 hk
         have hz : Go.leftOf (entsK kf vf 0 l).toArray seen.toArray = #[] := Array.eq_empty_of_size_eq_zero g1
         unfold Go.leftOf at hz
         rw [Array.filter_eq_empty_iff] at hz
         have := hz _ (by simpa using this)
         simpa using this
     · unfold Go.leftOf at g1
       have g1' : e ∈ entsK kf vf 0 l ∧ e.born ∉ seen := by
         have := g1
         simp only [Array.toList_filter, List.mem_filter, Bool.not_eq_true', List.contains_toArray] at this
         simpa using this
       obtain ⟨k, hk, rfl⟩ := entsK_mem g1'.1
       have hkn : k ∉ seen := by simpa using g1'.2
       obtain ⟨q1, m1⟩ : HRel A M w0 h w1 ∧ Mono w (XX A h) w1 (XX A h) := by
         rcases g2 with rfl | rfl
         · exact ⟨hr, Mono.refl _ _⟩
         · exact hr.quiet (w' := w.drew) rfl rfl rfl rfl (Nat.le_succ _)
       have hi1 : w1.heap[c / 2]? = some (.mapIter (some (cm / 2)) l.length seen.toArray l.length) := by rcases g2 with rfl | rfl <;> exact hi'
       have hlt1 : c / 2 < w1.heap.size := (Array.getElem?_eq_some_iff.1 hi1).1
       obtain ⟨h5, h6⟩ := q1.setRaw (hrepl k) hc (w' := { w1 with heap := w1.heap.setIfInBounds (c / 2) (itO cm l.length (seen ++ [k])) }) (by simp [hlt1]) (by simp) (fun b hb => by simp [Array.getElem?_setIfInBounds, Ne.symm hb]) (by
         have e1 : w1.shape? (c / 2) = none := by unfold World.shape?; rw [hi1]
         rw [e1]; unfold World.shape?; simp [hlt1, itO]) rfl rfl ⟨rfl, rfl⟩
       have hn2 := hnext k hk hkn
       rw [gi_nat hk] at hn2
       refine ⟨.tuple #[.bool true, kf (l[k]).1, vf (l[k]).2], _, _, _, ?_, hn2, h5, m1.trans h6, .tup (.cons (.v _) (.cons (hkd _ _ _).1 (.cons (hvd _ _ _).1 .nil)))⟩
       simp only [execOp, ho, hu, e0, Sem.run_bind, g3, Result.andThen_ok, Sem.run_pure]
       simp [ChangeMaps.setBlock, itO]
theorem OpA.entryK [Inhabited U] [Inhabited T] {x : Operand} {c cm : Nat} {l : List (U × T)} {seen : List Nat} {k : Nat} (hkd : PlainK kd kf) (hvd : PlainK vd vf) (ho : o.op = .entry x) (hx : ev fr x = .ptr c 1 0 0) (hm : Has cm (.raw (mapK kf vf l)) h) (hi : Has c (.raw (itO cm l.length (seen ++ [k]))) h) (hk0 : k < l.length)
   (hk : K (.tup [kd (gi l (k : Int)).1, vd (gi l (k : Int)).2]) h) : OpA P o fr h K :=
 .of_run fun A M w0 ac w hr hv => by
   have h1 := hv x (by simp [ho, Op.operands])
   rw [hx] at h1
   generalize hu : ac.eval x = u at h1
   cases h1 with
   | ptr hc =>
     obtain ⟨hcm, hb⟩ := hr.blk _ _ hm.mem
     have hb' : w.heap[cm / 2]? = some (.map (entsK kf vf 0 l).toArray l.length) := hb
     obtain ⟨_, hi1⟩ := hr.blk _ _ hi.mem
     have hi' : w.heap[c / 2]? = some (.mapIter (some (cm / 2)) l.length (seen.toArray.push k) l.length) := by rw [hi1]; simp [itO]
     have e0 : 0 * 1 + 0 = 0 := rfl
     rw [gi_nat hk0] at hk
     have he := entsK_at kf vf (l := l) 0 hk0
     rw [Nat.zero_add] at he
     have hrun := run_entry_at (P := P) w (c / 2) (cm / 2) l.length seen.toArray (entsK kf vf 0 l).toArray l.length { key := kf (l[k]).1, val := vf (l[k]).2, born := k } hi' hb' (by simpa using he) (by simpa using (entsK_born kf vf l 0).1)
     refine ⟨.tuple #[kf (l[k]).1, vf (l[k]).2], w, _, _, ?_, hk, hr, Mono.refl _ _, .tup (.cons (hkd _ _ _).1 (.cons (hvd _ _ _).1 .nil))⟩
     simp only [execOp, ho, hu, e0, Sem.run_bind, hrun, Result.andThen_ok, Sem.run_pure]
theorem OpA.mlenK {t kt et : TypeId} {c : Call} {x : Operand} {cm : Nat} {l : List (U × T)} (ho : o.op = .call c) (hc : c.callee = .builtin .len) (ha : c.args = #[x]) (hty : c.argTypes = #[t]) (ht : P.underlying t = some (.map kt et))
   (hx : ev fr x = .map cm) (hm : Has cm (.raw (mapK kf vf l)) h) (hk : K (.i l.length) h) : OpA P o fr h K :=
 .of_run fun A M w0 ac w hr hv => by
   have h1 := hv x (by simp [ho, Op.operands, Call.operands, hc, ha])
   rw [hx] at h1
   generalize hu : ac.eval x = u at h1
   cases h1 with
   | map hc2 =>
     obtain ⟨_, hb⟩ := hr.blk _ _ hm.mem
     have hb' : w.heap[cm / 2]? = some (.map (entsK kf vf 0 l).toArray l.length) := hb
     refine ⟨.int .i64 l.length, w, _, _, ?_, hk, hr, Mono.refl _ _, .v _⟩
     simp [execOp, ho, hc, resolve, invoke, builtin, Builtin.len_, hty, ha, hu, run_underlying ht, goInt, getObj, Sem.run, hb', entsK_length, Result.andThen]
end
end Go.Lic
