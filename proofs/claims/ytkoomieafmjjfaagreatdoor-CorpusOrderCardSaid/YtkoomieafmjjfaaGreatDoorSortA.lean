/-
  Functions that work on memory of the caller: contracts with a heap, and the rules that printed walks use for them.
-/
import Derived.Test.YtkoomieafmjjfaaGreatDoorVr
import Derived.Test.YtkoomieafmjjfaaGreatDoorDrawF
import Derived.Sort.AssemblyPlain
import Derived.Shelf.SlSortCmp.Insertion
import Derived.Lib.BitFns
set_option linter.all false
namespace Go.Lic

theorem pull1 {α : Type} {a b : α} {l : List α} : (a :: b :: l).Perm (b :: a :: l) := .swap _ _ _
theorem pull2 {α : Type} {a b c : α} {l : List α} : (a :: b :: c :: l).Perm (c :: a :: b :: l) := (pull1.cons a).trans pull1
theorem pull3 {α : Type} {a b c d : α} {l : List α} : (a :: b :: c :: d :: l).Perm (d :: a :: b :: c :: l) := (pull2.cons a).trans pull1
theorem pull4 {α : Type} {a b c d e : α} {l : List α} : (a :: b :: c :: d :: e :: l).Perm (e :: a :: b :: c :: d :: l) := (pull3.cons a).trans pull1
theorem CallH.mono {P : Program} {f : Nat} {ds : List D} {h : Heap} {K K' : D → Heap → Prop} (hc : CallH P f ds h K) (hk : ∀ d h', K d h' → K' d h') : CallH P f ds h K' := by
  intro A w vs hr hv
  refine (hc A w vs hr hv).mono ?_
  rintro e w' ⟨v, d, h', rfl, hK, q⟩
  exact ⟨v, d, h', rfl, hk d h' hK, q⟩

theorem CallH.shrink {P : Program} {f : Nat} {ds : List D} {h : Heap} {K : D → Heap → Prop} (hc : CallH P f ds h (fun d h' => ∃ h1 h0 : Heap, h'.Perm h1 ∧ List.Sublist h0 h1 ∧ K d h0)) : CallH P f ds h K := by
  intro A w vs hr hv
  refine (hc A w vs hr hv).mono ?_
  rintro e w' ⟨v, d, h', rfl, ⟨h1, h0, hp, hs, hk⟩, hrr, hm, hvv⟩
  obtain ⟨r1, m1⟩ := hrr.perm hp
  obtain ⟨r2, m2⟩ := r1.sub hs
  exact ⟨v, d, h0, rfl, hk, r2, (hm.trans m1).trans m2, hvv.mono (m1.trans m2)⟩

theorem CallH.of_bodyP {P : Program} {f : Nat} {fn : Func} {c : Code} {n : Nat} {ds : List D} {h : Heap} {K : D → Heap → Prop} (hf : P.funcs[f]? = some fn) (hb : fn.body = some c) (hn : fn.ntmps = n) (hd : Nat.ble ds.length n = true)
    (hh : wpA P n c (RetA P fn (fun d h' => ∃ h1 h0 : Heap, h'.Perm h1 ∧ List.Sublist h0 h1 ∧ K d h0)) (frOf ds) h) : CallH P f ds h K :=
  (CallH.of_body hf hb hn hd hh).shrink

section
variable {P : Program} {n : Nat} {ops : Array Oper} {l : List Oper} {Q : Post} {fr : Nat → D} {h h' : Heap}
theorem wpL_perm (hp : h.Perm h') (hh : wpL P n ops l Q fr h') : wpL P n ops l Q fr h :=
  fun A M w0 a w r => by
    obtain ⟨r1, m1⟩ := r.heap.perm hp
    exact hh A M w0 a w (r.turn r1 m1)
theorem wpL_keep {h1 h0 : Heap} (hp : h.Perm h1) (hs : List.Sublist h0 h1) (hh : wpL P n ops l Q fr h0) : wpL P n ops l Q fr h :=
  fun A M w0 a w r => by
    obtain ⟨r1, m1⟩ := r.heap.perm hp
    exact hh A M w0 a w ((r.turn r1 m1).sub hs)
theorem Repl.same {c : Nat} {b : Blk} (hr : Repl c b c b h h') : h' = h := by
  obtain ⟨h1, h2, e1, e2⟩ := hr.split
  rw [e1, e2]
/-- A window that was narrowed is looked at whole again. -/
theorem wpL_widen {T : Type} [Inhabited T] {enc : T → D} {c sz : Nat} {pre post : List D} {xs : List T} {a b : Int} (hb : inS a b xs.length)
    (hr : Repl c (.cells sz (winL enc (pre ++ (xs.take a.toNat).map enc) (lsub xs a b) ((xs.drop b.toNat).map enc ++ post))) c (.cells sz (winL enc pre xs post)) h h') (hh : wpL P n ops l Q fr h') : wpL P n ops l Q fr h := by
  rw [← winL_cut hb] at hr
  rw [hr.same] at hh; exact hh
end

section
variable {P : Program} {o : Oper} {fr : Nat → D} {h : Heap} {K : D → Heap → Prop} {T : Type} [Inhabited T] {enc : T → D}
/-- append(nil, x...). -/
theorem OpA.appendNW {t e : TypeId} {sz bytes : Nat} {agg : Bool} {cl : Call} {s x : Operand} {ys : List T} (ho : o.op = .call cl) (hc : cl.callee = .builtin .append) (ha : cl.args = #[s, x]) (hty : cl.argTypes = #[t, t])
    (ht : TS P t e sz bytes agg) (hs : ev fr s = .v (.slice none 0 0)) (hx : SrcV enc h sz (ev fr x) ys)
    (hb : ys.length * bytes ≤ 140737488355328 ∧ ys.length ≤ 9223372036854775807) (hk : ∀ c' pre', K (.own c' sz pre'.length ys.length) ((c', .cells sz (winL enc pre' ys [])) :: h)) : OpA P o fr h K :=
  .append_nil ho hc ha hty ht hs hx.is (by simpa using hb.1) (by simpa using hb.2) (fun c' pre' => by
    have := hk c' pre'
    rw [List.length_map]
    rw [winL, List.append_nil] at this
    exact this)
end
end Go.Lic

set_option linter.all false
namespace Go.Lic
open Go.Proofs Go.Sort

/-- What slices.SortFunc makes of a list. -/
def sortF {T : Type} [Inhabited T] (cf : T → T → Int) (l : List T) : List T := (pdq (ltOf cf) l.toArray 0 l.length (Lib.bitLen l.length) true true).toList
theorem sortF_perm {T : Type} [Inhabited T] {cf : T → T → Int} (hO : SWO (ltOf cf)) (l : List T) : (sortF cf l).Perm l := by
  have h := (pdq_sorts (ltOf cf) hO l.toArray 0 l.length (Lib.bitLen l.length) true true (Nat.zero_le _) (by simp) (Or.inl rfl)).1
  obtain ⟨h1, _, h3⟩ := h
  have e1 : (pdq (ltOf cf) l.toArray 0 l.length (Lib.bitLen l.length) true true).extract 0 l.length = pdq (ltOf cf) l.toArray 0 l.length (Lib.bitLen l.length) true true := by
    apply Array.ext'
    rw [Array.toList_extract]
    have : (pdq (ltOf cf) l.toArray 0 l.length (Lib.bitLen l.length) true true).toList.length = l.length := by rw [Array.length_toList, h1]; simp
    show ((pdq (ltOf cf) l.toArray 0 l.length (Lib.bitLen l.length) true true).toList.drop 0).take (l.length - 0) = _
    rw [List.drop_zero, Nat.sub_zero, List.take_of_length_le (by omega)]
  have e2 : l.toArray.extract 0 l.length = l.toArray := by
    apply Array.ext'
    rw [Array.toList_extract]
    simp [List.extract_eq_take_drop]
  rw [e1, e2] at h3
  simpa [sortF] using h3
theorem sortF_len {T : Type} [Inhabited T] {cf : T → T → Int} (hO : SWO (ltOf cf)) (l : List T) : (sortF cf l).length = l.length := (sortF_perm hO l).length_eq
theorem sortF_sorted {T : Type} [Inhabited T] {cf : T → T → Int} (hO : SWO (ltOf cf)) (l : List T) : ∀ i j, i < j → j < l.length → ¬ cf ((sortF cf l)[j]!) ((sortF cf l)[i]!) < 0 := by
  have h := (pdq_sorts (ltOf cf) hO l.toArray 0 l.length (Lib.bitLen l.length) true true (Nat.zero_le _) (by simp) (Or.inl rfl)).2
  intro i j hij hj
  have := h i j (Nat.zero_le _) hij hj
  simp only [ltOf, decide_eq_false_iff_not] at this
  unfold sortF
  rw [← List.getElem!_toArray, ← List.getElem!_toArray, Array.toArray_toList]
  exact this

end Go.Lic
