/-
  A loop over a slice backwards (slices.Backward): the iterator's contract, the statement; a slice of an array that nobody writes.
-/
import Derived.Test.YtaofnefejkokdaaGreatDoorVr
import Derived.Test.YtaofnefejkokdaaGreatDoorRange
import Derived.Test.YtaofnefejkokdaaGreatDoorEq
import Derived.Lib.Builder
import Derived.Lib.UnsafeStr
import Derived.Laws.Externs
import Derived.Test.YtaofnefejkokdaaGreatDoorRel
import Derived.Test.YtaofnefejkokdaaGreatDoorTm
import Derived.Test.YtaofnefejkokdaaGreatDoorShelf
import Derived.Test.YtaofnefejkokdaaGreatDoorSort
import Derived.Test.YtaofnefejkokdaaGreatDoorIter
import Derived.Test.YtaofnefejkokdaaGreatDoorStates
import Derived.Test.YtaofnefejkokdaaGreatDoorGrow
set_option linter.all false
namespace Go.Lic
def BackC (P : Program) (g : Nat) (cs : List D) (n0 : Nat) (arg : Nat → List D) : Prop :=
 ∀ (c n : Nat) (fr : Nat → D) (ps : Array Tmp) (assign body : Code) (I : Nat → Heap → Prop), (∀ j h, j < n0 → I j h → RoundA P n fr ps assign body (arg j) h (I (j + 1))) → ∀ h0, I 0 h0 →
   CallH P g (.fn (.yield (c / 2)) [] [] :: cs) ((c, .loop n fr ps assign body) :: h0) (fun _ h' => ∃ h1, h'.Perm ((c, .loop n fr ps assign body) :: h1) ∧ I n0 h1)
abbrev backArg {T : Type} [Inhabited T] (enc : T → D) (xs : List T) (j : Nat) : List D := [D.i ((xs.length : Int) - 1 - j), enc (gi xs ((xs.length : Int) - 1 - j))]
section
variable {P : Program} {n : Nat} {o : Oper} {fr : Nat → D} {h : Heap} {K : D → Heap → Prop} {Q : Post}
theorem wpA_back {T S G : Type} [Inhabited T] {enc : T → D} {xs : List T} {L : (S × Int → Prop) → S × Int → Prop} {s0 : S} {f : Operand} {g : Nat} {cs : List D} {ps : Array Tmp} {assign body : Code} (g0 : G) (H : G → S → Heap) (hf : ev fr f = .fn (.func g) [] cs)
   (he : entersB P g = true) (hit : BackC P g cs xs.length (backArg enc xs)) (hl : gfp L (s0, (xs.length : Int) - 1)) (hh : List.Sublist (H g0 s0) h)
   (hnr : (noRange assign && noRange body && ps.toList.all (fun p => Nat.blt p n) && Nat.beq ps.size 2) = true)
   (round : ∀ (again : S × Int → Prop) g s i, 0 ≤ i → L again (s, i) → wpA P n assign (fun e fr1 h1 => match e with | .normal => wpA P n body (fun e _ h2 => match e with | .normal => ∃ g s', again (s', i - 1) ∧ List.Sublist (H g s') h2 | _ => False) fr1 h1 | _ => False) (setP fr ps.toList [D.i i, enc (gi xs i)]) (H g s))
   (hq : ∀ (again : S × Int → Prop) g s i, ¬ 0 ≤ i → L again (s, i) → Q .normal fr (H g s)) : wpA P n (.rangeFunc f ps assign body) Q fr h := by
 obtain ⟨J, j0, hJ⟩ := hl
 refine wpA_rangeFunc (I := fun h1 => ∃ g s, J (s, (xs.length : Int) - 1 - (xs.length : Nat)) ∧ List.Sublist (H g s) h1) hf he (fun c => ?_) ?_
 · refine hit c n fr ps assign body (fun j h1 => ∃ g s, J (s, (xs.length : Int) - 1 - (j : Nat)) ∧ List.Sublist (H g s) h1) ?_ h ⟨g0, s0, by simpa using j0, hh⟩
   rintro j h1 hj ⟨g, s, hs, hsub⟩
   refine ⟨hnr, wpA_sub hsub (wpA_mono (round J g s _ (by omega) (hJ _ hs)) ?_)⟩
   intro e fr1 h1 q
   cases e with
   | normal =>
     refine wpA_mono q ?_
     intro e fr2 h2 q
     cases e with
     | normal =>
       obtain ⟨g', s', k1, k2⟩ := q
       exact ⟨g', s', by rw [show (xs.length : Int) - 1 - ((j + 1 : Nat) : Int) = (xs.length : Int) - 1 - (j : Nat) - 1 by omega]; exact k1, k2⟩
     | _ => exact q.elim
   | _ => exact q.elim
 · rintro h1 ⟨g, s, hs, hsub⟩
   exact ⟨H g s, hsub, hq J g s _ (by omega) (hJ _ hs)⟩
theorem OpA.isliceA {t et : TypeId} {len : Nat} {agg : Bool} {x : Operand} {ds : List D} (ho : o.op = .slice t x none none none) (ht : P.underlying t = some (.array len et)) (hte : TI P et 1 agg) (hx : ev fr x = .iptr (.agg ds) 0) (hl : Nat.beq ds.length len = true)
   (hp : Nat.blt 0 len = true) (hk : K (.list 1 ds) h) : OpA P o fr h K :=
 .of_quiet (fun A M w0 a w _ hv => by
   have h1 := hv x (by simp [ho, Op.operands])
   rw [hx] at h1
   generalize hu : a.eval x = u at h1
   have hl := Nat.eq_of_beq_eq_true hl
   have hp : 0 < len := by simpa [Nat.blt_eq] using hp
   cases h1 with
   | @iptr _ _ cs b oo hok hvl hlie =>
     refine ⟨.slice (some ⟨b, oo, none⟩) len len, ?_, ?_⟩
     · simp only [execOp, ho, Option.map_none, hu, Instr.sliceAt, Sem.run_bind, run_underlying ht, Result.andThen_ok, Instr.sureAddr, Instr.sliceBounds, Sem.run_pure, hte.size, Option.isSome_none]
       simp [show ¬ len = 0 by omega, Addr.add_lit]
     · have hfl : D.flats ds = ds := by
         have : ∀ l : List D, (∀ d ∈ l, d.cell = true) → D.flats l = l := by
           intro l
           induction l with
           | nil => intro _; rfl
           | cons d l ih =>
             intro hc
             have hd := hc d (by simp)
             have : d.flat = [d] := by cases d <;> first | rfl | simp [D.cell] at hd
             simp only [D.flats, List.flatMap_cons, this] at ih ⊢
             rw [ih fun x hx => hc x (by simp [hx])]; rfl
         exact this ds hok
       rw [← hl]
       refine .list (cs := cs) (b := b) (o := oo) (fun d hd => ?_) (by rw [hfl]; exact hvl) (fun _ => rfl) hlie (Nat.le_refl _)
       have hc := hok d hd
       have : d.flat = [d] := by cases d <;> first | rfl | simp [D.cell] at hc
       exact ⟨by rw [this]; rfl, by rw [this]; simpa using hc⟩) hk
end
end Go.Lic
set_option linter.all false
namespace Go.Lic
@[reducible] def bufD (e g : Nat) : List Int → D
 | [] => .v (.slice none 0 0)
 | x :: l => .tbuf g e 0 (x :: l).length
abbrev bldD (T e c : Nat) (u : Bool) (g : Nat) (xs : List Int) : D := .agg [.tself c T u, bufD e g xs]
section
variable {P : Program} {o : Oper} {fr : Nat → D} {h : Heap} {K : D → Heap → Prop}
theorem HRel.reblk {A M : Nat → Prop} {w0 w : World} {h h' : Heap} {c : Nat} {b b' : Blk} (hr : HRel A M w0 h w) (hrepl : Repl c b c b' h h') (hb : BlkRel w (XX A h) c b') : HRel A M w0 h' w ∧ Mono w (XX A h) w (XX A h') := by
 have hk : keys h' = keys h := hrepl.keys_eq
 have hX : XX A h' = XX A h := by funext b; simp only [XX, hk]
 obtain ⟨h1, h2, e1, e2⟩ := hrepl.split
 refine ⟨⟨by rw [hk]; exact hr.nodup, ?_, by rw [hk]; exact hr.free, by rw [hk]; exact hr.mine, hr.bound, hr.old, hr.ext, by rw [hX]; exact hr.glob⟩, by rw [hX]; exact Mono.refl _ _⟩
 intro c' b2 hc'
 rw [hX]
 rw [e2] at hc'
 rcases List.mem_append.1 hc' with h3 | h3
 · exact hr.blk _ _ (by rw [e1]; simp [h3])
 · rcases List.mem_cons.1 h3 with h3 | h3
   · cases h3; exact hb
   · exact hr.blk _ _ (by rw [e1]; simp [h3])
theorem OpA.allocB {T e : TypeId} (ho : o.op = .alloc T) (hz : (P.info? T).bind (·.zero) = some (.agg #[.pointer none, .slice none 0 0]))
   (hk : ∀ c g, K (.ptr c 2 0 0) ((c, .cells 2 [bldD T e c false g []]) :: (g, .cells 1 (winL (D.k .u8) [] [] [])) :: h)) : OpA P o fr h K :=
 .of_run fun A M w0 a w hr _ => by
   obtain ⟨g, _, _, hr1, hm1⟩ := hr.ghost 1
   obtain ⟨h2, h3, h4⟩ := hr1.alloc (sz := 2) (es := [.agg [.v (.pointer none), .v (.slice none 0 0)]]) (cs := [.pointer none, .slice none 0 0]) #[.pointer none, .slice none 0 0] T (by intro d hd; simp at hd; subst hd; exact .of rfl) (.cons (.v _) (.cons (.v _) .nil)) (List.prefix_refl _)
   have hzr : ∀ w, (zeroValue T).run P w = .ok (.agg #[.pointer none, .slice none 0 0]) w := fun w => by
     obtain ⟨i, hi, hi2⟩ := Option.bind_eq_some_iff.1 hz
     simp [zeroValue, typeInfo, hi, hi2]
   have hsh : (w.alloc (.cells #[.pointer none, .slice none 0 0] T)).shape? (2 * w.heap.size / 2) = some (T, 2) := by
     rw [show 2 * w.heap.size / 2 = w.heap.size from by omega]; exact shape_alloc_new _ _ _
   obtain ⟨r5, m5⟩ := HRel.reblk (b' := .cells 2 [bldD T e (2 * w.heap.size) false g []]) h3 .head (by
     have hb := h3.blk (2 * w.heap.size) _ (List.mem_cons_self ..)
     refine ⟨by intro d hd; simp at hd; subst hd; exact .of rfl, ?_⟩
     rcases hb.2 with ⟨_, he⟩ | ⟨hc, arr, et, cs, ha, hv, hp⟩
     · cases he
     · refine .inr ⟨hc, arr, et, cs, ha, ?_, hp⟩
       have hv' : VL (w.alloc (.cells #[.pointer none, .slice none 0 0] T)) (XX A ((2 * w.heap.size, .cells 2 [.agg [.v (.pointer none), .v (.slice none 0 0)]]) :: (g, .cells 1 []) :: h)) [.v (.pointer none), .v (.slice none 0 0)] cs := hv
       cases hv' with
       | cons q1 q2 =>
         cases q1
         exact .cons (.tself (u := false) (by omega) hsh) q2)
   refine ⟨.pointer (some ⟨w.heap.size, 0, none⟩), _, _, _, by simp [execOp, ho, Instr.alloc, hzr, newVar, newRow, Value.cells], hk _ g, r5, (hm1.trans h4).trans m5, ?_⟩
   have := V.ptr (w := w.alloc (.cells #[.pointer none, .slice none 0 0] T)) (X := XX A ((2 * w.heap.size, .cells 2 [bldD T e (2 * w.heap.size) false g []]) :: (g, .cells 1 (winL (D.k .u8) [] [] [])) :: h)) (c := 2 * w.heap.size) (sz := 2) (i := 0) (k := 0) (by omega)
   simpa using this
end
end Go.Lic
set_option linter.all false
namespace Go.Lic
theorem glob_none (W : World) : Glob W (fun b => (fun _ : Nat => False) (2 * b)) := ⟨W, trivial, fun g hg => by cases hg⟩
end Go.Lic
set_option linter.all false
namespace Go.Lic
open Go.Proofs Go.Sort Go.Shelf
theorem Fun.of_same {P : Program} {f : Nat} {vs : List Value} {v : Value} (h : ∀ w, Calls P f vs.toArray w fun e w' => e = .returned v ∧ w' = w) : Fun false P f (vs.map D.v) (fun d => d = .v v) := by
 intro A w us hb ho hg hv
 obtain rfl := vl_vals _ _ hv
 refine (h w).mono ?_
 rintro e w' ⟨rfl, rfl⟩
 exact ⟨v, .v v, rfl, rfl, .v _, Ext.refl _ _⟩
theorem one_byte {sep : ByteArray} (h : sep.size = 1) : sep = ⟨#[sepOf sep]⟩ := by
 obtain ⟨⟨l⟩⟩ := sep
 have : l.length = 1 := h
 match l, this with
 | [c], _ => rfl
theorem sCompare_c (a b : ByteArray) : Fun false Tryz.prog 83 [D.s a, D.s b] (fun d => d = D.i (cmpB a b)) := Fun.of_same (vs := [.string a, .string b]) (Tryz.strings_Compare a b)
theorem iCompare_c (a b : Int) : Fun false Tryz.prog 85 [D.i a, D.i b] (fun d => d = D.i (cmpI a b)) := Fun.of_same (vs := [.int .i64 a, .int .i64 b]) (Tryz.cmp_Compare_int a b)
theorem count_c (s sep : ByteArray) (h : sep.size = 1) : Fun false Tryz.prog 129 [D.s s, D.s sep] (fun d => d = D.i (countF s sep)) := by
 have := Fun.of_same (vs := [.string s, .string ⟨#[sepOf sep]⟩]) (Tryz.strings_Count_one s (sepOf sep))
 rw [← one_byte h] at this
 exact this
theorem index_c (s sep : ByteArray) (h : sep.size = 1) : Fun false Tryz.prog 130 [D.s s, D.s sep] (fun d => d = D.i (indexF s sep)) := by
 have := Fun.of_same (vs := [.string s, .string ⟨#[sepOf sep]⟩]) (Tryz.strings_Index_one s (sepOf sep))
 rw [← one_byte h] at this
 exact this
theorem len_c (n : Int) (h0 : 0 ≤ n) (h1 : n ≤ 18446744073709551615) : Fun false Tryz.prog 98 [D.k .u64 n] (fun d => d = D.i (lenF n)) := Fun.of_same (vs := [.int .u64 n]) (fun w => Tryz.bits_Len n w h0 h1)
theorem mul64_c (a b : Int) (h0 : 0 ≤ a) (h1 : a ≤ 18446744073709551615) (h2 : 0 ≤ b) (h3 : b ≤ 18446744073709551615) : Fun false Tryz.prog 156 [D.k .u64 a, D.k .u64 b] (fun d => d = .tup [D.k .u64 (mul64F a b).1, D.k .u64 (mul64F a b).2]) := by
 obtain ⟨x, rfl⟩ := Int.eq_ofNat_of_zero_le h0
 obtain ⟨y, rfl⟩ := Int.eq_ofNat_of_zero_le h2
 intro A w us hb ho hg hv
 cases hv with
 | cons k2 k3 =>
   cases k2
   cases k3 with
   | cons k4 k5 =>
     cases k4; cases k5
     refine (Tryz.bits_Mul64 x y (by omega) (by omega) w).mono ?_
     rintro e w' ⟨rfl, rfl⟩
     refine ⟨_, _, rfl, rfl, .tup (.cons ?_ (.cons ?_ .nil)), Ext.refl _ _⟩
     · have : ((x * y / 18446744073709551616 : Nat) : Int) = (mul64F (x : Int) (y : Int)).1 := by simp [mul64F]
       rw [this]; exact .v _
     · have : ((x * y % 18446744073709551616 : Nat) : Int) = (mul64F (x : Int) (y : Int)).2 := by simp [mul64F]
       rw [this]; exact .v _
end Go.Lic
