/-
  Ranges over strings: an iterator is a block of its own.
-/
import Derived.Test.YtkifpidbpoghlaaGreatDoorStates
import Derived.Laws.RangeAny
import Derived.Maps.RangeRun
import Derived.Test.YtkifpidbpoghlaaGreatDoorSort
set_option linter.all false
namespace Go.Lic
variable [Fl]
section
variable {A M : Nat → Prop} {w0 w : World} {h : Heap}
theorem HRel.allocRaw (hr : HRel A M w0 h w) (o : Obj) :
   2 * w.heap.size ∉ keys h ∧ HRel A M w0 ((2 * w.heap.size, .raw o) :: h) (w.alloc o) ∧ Mono w (XX A h) (w.alloc o) (XX A ((2 * w.heap.size, .raw o) :: h)) := by
 have hnew : 2 * w.heap.size ∉ keys h := fun hc => by have := hr.lt hc (by omega); omega
 have hx : ∀ b, b < w.heap.size → XX A ((2 * w.heap.size, .raw o) :: h) b → XX A h b := fun b hb hx => by
   rcases hx with hx | hx
   · exact .inl hx
   · simp at hx; rcases hx with hx | hx
     · omega
     · exact .inr hx
 have hm : Mono w (XX A h) (w.alloc o) (XX A ((2 * w.heap.size, .raw o) :: h)) :=
   ⟨by simp, fun b hb _ => get_alloc w _ b hb, fun b hb => shape_of_heap (get_alloc w _ b hb), hx⟩
 refine ⟨hnew, ⟨?_, ?_, ?_, ?_, hr.bound, fun b hb => by have := hr.old b hb; simp; omega, ?_, hr.glob.mono hm⟩, hm⟩
 · simp only [keys_cons, List.nodup_cons]; exact ⟨hnew, hr.nodup⟩
 · intro c b hc
   rcases List.mem_cons.1 hc with hc | hc
   · cases hc
     have e2 : 2 * w.heap.size / 2 = w.heap.size := by omega
     refine ⟨by omega, ?_⟩
     rw [e2]; exact get_alloc_new w _
   · exact (hr.blk c b hc).mono hm (fun he => get_alloc w _ _ ((hr.blk c b hc).lt he))
 · intro c hc ha
   rcases List.mem_cons.1 (by simpa using hc) with hc | hc
   · subst hc; have := hr.old _ ha; have := hr.ext.size; omega
   · exact hr.free c hc ha
 · intro c hc he
   rcases List.mem_cons.1 (by simpa using hc) with hc | hc
   · subst hc; have := hr.ext.size; right; omega
   · exact hr.mine c hc he
 · exact hr.ext.trans ⟨rfl, rfl, rfl, by simp, fun b hb _ => get_alloc w _ b hb, fun b hb => shape_of_heap (get_alloc w _ b hb), fun _ => Nat.le_refl _⟩
theorem HRel.setRaw (hr : HRel A M w0 h w) {h' : Heap} {c : Nat} {o o' : Obj} (ht : Repl c (.raw o) c (.raw o') h h') (hc : c % 2 = 0) {w' : World} (hw : w'.heap[c / 2]? = some o') (hs : w'.heap.size = w.heap.size)
   (hk : ∀ b, b ≠ c / 2 → w'.heap[b]? = w.heap[b]?) (hsh : w'.shape? (c / 2) = w.shape? (c / 2)) (ho : w'.os = w.os) (htp : w'.tape = w.tape) (hout : w'.output = w.output ∧ w'.drawn = w.drawn) : HRel A M w0 h' w' ∧ Mono w (XX A h) w' (XX A h') := by
 have hkeys := ht.keys_eq
 have hin : XX A h (c / 2) := .inr (by have := ht.has.key; rwa [show 2 * (c / 2) = c from by omega])
 have hxx : XX A h' = XX A h := by funext b; simp [XX, hkeys]
 have hm : Mono w (XX A h) w' (XX A h') := by
   rw [hxx]
   refine ⟨by omega, fun b _ hx => hk b (fun e => hx (e ▸ hin)), fun b _ => ?_, fun _ _ hx => hx⟩
   by_cases hb : b = c / 2
   · subst hb; exact hsh
   · exact shape_of_heap (hk b hb)
 refine ⟨⟨by rw [hkeys]; exact hr.nodup, ?_, fun c hc => hr.free c (hkeys ▸ hc), fun c hc => hr.mine c (hkeys ▸ hc), hr.bound, by rw [hs]; exact hr.old, ?_, hr.glob.mono hm⟩, hm⟩
 · intro c1 b1 hc1
   obtain ⟨h1, h2, e1, e2⟩ := ht.split
   subst e1; subst e2
   have hnd := hr.nodup
   simp only [keys_append, keys_cons, List.nodup_append, List.nodup_cons] at hnd
   rcases List.mem_append.1 hc1 with hc1 | hc1
   · have hne : c1 ≠ c := fun e => hnd.2.2 c1 (List.mem_map.2 ⟨_, hc1, rfl⟩) c (by simp) e
     exact (hr.blk c1 b1 (by simp [hc1])).mono hm (fun he => hk _ (by omega))
   · rcases List.mem_cons.1 hc1 with hc1 | hc1
     · cases hc1; exact ⟨hc, hw⟩
     · have hne : c1 ≠ c := fun e => hnd.2.1.1 (e ▸ List.mem_map.2 ⟨_, hc1, rfl⟩)
       exact (hr.blk c1 b1 (by simp [hc1])).mono hm (fun he => hk _ (by omega))
 · refine ⟨ho.trans hr.ext.os, htp.trans hr.ext.tape, hout.1.trans hr.ext.output, by rw [hs]; exact hr.ext.size, fun b hb hn => ?_, fun b hb => (hm.shape b (Nat.lt_of_lt_of_le hb hr.ext.size)).trans (hr.ext.shape b hb), fun o_ => by rw [hout.2]; exact hr.ext.drawn o_⟩
   by_cases hbc : b = c / 2
   · subst hbc
     rcases hr.mine c ht.has.key hc with hmm | hmm
     · exact absurd hmm hn
     · omega
   · exact (hk b hbc).trans (hr.ext.keep b hb hn)
end
theorem em_split {p Q : Prop} (h1 : p → Q) (h2 : ¬ p → Q) : Q := (Classical.em p).elim h1 h2
def runeAt (s : ByteArray) (i : Int) : Int := (Utf8.decode s i.toNat).1
def runeW (s : ByteArray) (i : Int) : Int := (Utf8.decode s i.toNat).2
section
variable {P : Program} {o : Oper} {fr : Nat → D} {h : Heap} {K : D → Heap → Prop}
theorem OpA.rangeStr {t : TypeId} {x : Operand} {s : ByteArray} (ho : o.op = .range t x) (ht : P.underlying t = some .string) (hx : ev fr x = .s s) (hk : ∀ c, K (.ptr c 1 0 0) ((c, .raw (.stringIter s (Int.toNat 0))) :: h)) : OpA P o fr h K :=
 .of_run fun A M w0 ac w hr hv => by
   have h1 := hv x (by simp [ho, Op.operands])
   rw [hx] at h1
   generalize hu : ac.eval x = u at h1
   cases h1
   obtain ⟨_, h5, h6⟩ := hr.allocRaw (.stringIter s 0)
   refine ⟨.pointer (some ⟨w.heap.size, 0, none⟩), _, _, _, ?_, hk (2 * w.heap.size), h5, h6, ?_⟩
   · simp only [execOp, ho, hu, Sem.run_bind, run_range_string w t s ht, Result.andThen_ok, Sem.run_pure, World.iter]
   · have := V.ptr (w := w.alloc (.stringIter s 0)) (X := XX A ((2 * w.heap.size, .raw (.stringIter s 0)) :: h)) (c := 2 * w.heap.size) (sz := 1) (i := 0) (k := 0) (by omega)
     rwa [show 2 * w.heap.size / 2 = w.heap.size from by omega] at this
theorem OpA.nextStr {x : Operand} {c : Nat} {s : ByteArray} {i : Int} {h' : Heap} (ho : o.op = .next x true) (hx : ev fr x = .ptr c 1 0 0) (hi : 0 ≤ i ∧ i < s.size)
   (hrepl : Repl c (.raw (.stringIter s (Int.toNat i))) c (.raw (.stringIter s (Int.toNat (i + runeW s i)))) h h') (hk : K (.tup [.b true, .i i, .k .i32 (runeAt s i)]) h') : OpA P o fr h K :=
 .of_run fun A M w0 ac w hr hv => by
   have h1 := hv x (by simp [ho, Op.operands])
   rw [hx] at h1
   generalize hu : ac.eval x = u at h1
   cases h1 with
   | ptr hc =>
     obtain ⟨_, hb⟩ := hr.blk _ _ hrepl.has.mem
     have hlt : c / 2 < w.heap.size := (Array.getElem?_eq_some_iff.1 hb).1
     have hpos : i.toNat < s.size := by omega
     have hw : (i + runeW s i).toNat = i.toNat + (Utf8.decode s i.toNat).2 := by unfold runeW; omega
     rw [hw] at hrepl
     obtain ⟨h5, h6⟩ := hr.setRaw hrepl hc (w' := { w with heap := w.heap.setIfInBounds (c / 2) (.stringIter s (i.toNat + (Utf8.decode s i.toNat).2)) }) (by simp [hlt]) (by simp) (fun b hb => by simp [Array.getElem?_setIfInBounds, Ne.symm hb]) (by
       have e1 : w.shape? (c / 2) = none := by unfold World.shape?; rw [hb]
       rw [e1]; unfold World.shape?; simp [hlt]) rfl rfl ⟨rfl, rfl⟩
     refine ⟨.tuple #[.bool true, .int .i64 i, .int .i32 (runeAt s i)], _, _, _, ?_, hk, h5, h6, .tup (.cons (.v _) (.cons (.v _) (.cons (.v _) .nil)))⟩
     have e0 : 0 * 1 + 0 = 0 := rfl
     have ei : ((i.toNat : Nat) : Int) = i := by omega
     simp only [execOp, ho, hu, Instr.next, getObj, setObj, Sem.run_bind, Sem.run, hb, Result.andThen, hpos, if_true, e0]
     simp [goInt, runeAt, ei]
theorem OpA.overStr {x : Operand} {c : Nat} {s : ByteArray} {i : Int} (ho : o.op = .next x true) (hx : ev fr x = .ptr c 1 0 0) (hi : ¬ i < s.size) (hh : Has c (.raw (.stringIter s (Int.toNat i))) h) (hk : K (.tup [.b false]) h) : OpA P o fr h K :=
 .of_run fun A M w0 ac w hr hv => by
   have h1 := hv x (by simp [ho, Op.operands])
   rw [hx] at h1
   generalize hu : ac.eval x = u at h1
   cases h1 with
   | ptr hc =>
     obtain ⟨_, hb⟩ := hr.blk _ _ hh.mem
     have hpos : ¬ i.toNat < s.size := by omega
     refine ⟨.tuple #[.bool false], w, _, _, ?_, hk, hr, Mono.refl _ _, .tup (.cons (.v _) .nil)⟩
     have e0 : 0 * 1 + 0 = 0 := rfl
     simp only [execOp, ho, hu, Instr.next, getObj, setObj, Sem.run_bind, Sem.run, hb, Result.andThen, hpos, if_false, e0]
     rfl
end
end Go.Lic
set_option linter.all false
namespace Go.Lic
variable [Fl]
abbrev vI (n : Int) : Value := .int .i64 n
def mget {T : Type} (d : T) : List (Int × T) → Int → T
 | [], _ => d
 | p :: l, k => if p.1 = k then p.2 else mget d l k
def mset {T : Type} : List (Int × T) → Int → T → List (Int × T)
 | [], k, v => [(k, v)]
 | p :: l, k, v => if p.1 = k then (k, v) :: l else p :: mset l k v
section
variable {T : Type} {vf : T → Value}
end
section
variable {P : Program} {o : Oper} {fr : Nat → D} {h : Heap} {K : D → Heap → Prop} {T : Type} {vf : T → Value}
theorem run_checkKey {w : World} {kt : TypeId} (hkt : P.underlying kt = some (.int .i64)) (b : Bool) (k : Int) : (Instr.checkKey b 10000 kt (.int .i64 k)).run P w = .ok () w := by
 rw [Instr.checkKey]
 simp only [Sem.run_bind, run_underlying hkt, Result.andThen_ok, Sem.run_pure]
theorem V.nilL {w : World} {X : Nat → Prop} {sz : Nat} : V w X (.list sz []) (.slice none 0 0) := .list (sz := sz) (ds := []) (cs := []) (b := 0) (o := 0) (by simp) .nil (by simp) (.inl rfl) (by simp)
theorem OpA.told {s : Nat} {d d' : D} (hd : fr s = d) (hsn : Snap false [] [d] [d']) (hh : OpA P o (upd fr s d') h K) : OpA P o fr h K := fun A M w0 a w hr hv next Q hn => by
 refine hh A M w0 a w hr (fun y hy => ?_) next Q hn
 have h1 := hv y hy
 by_cases hi : y = .tmp s
 · subst hi
   show V w (XX A h) (upd fr s d' s) _
   rw [upd_same]
   have e : ev fr (.tmp s) = d := hd
   rw [e] at h1
   have := hsn.sound (X' := XX A h) hr (fun c b hh => by cases hh) (fun _ b hb => hb) (fun c hc _ _ => by cases hc) [_] (.cons h1 .nil)
   cases this with | cons h _ => exact h
 · cases y with
   | tmp t =>
     have ht : t ≠ s := fun e => hi (by rw [e])
     show V w (XX A h) (upd fr s d' t) _
     rw [upd_ne _ _ ht]; exact h1
   | _ => exact h1
end
end Go.Lic
set_option linter.all false
namespace Go.Lic
variable [Fl]
def itO (c n : Nat) (seen : List Nat) : Obj := .mapIter (some (c / 2)) n seen.toArray n
section
variable {P : Program} {o : Oper} {fr : Nat → D} {h : Heap} {K : D → Heap → Prop} {T : Type} {vf : T → Value}
end
end Go.Lic
set_option linter.all false
namespace Go.Lic
open Go.Sort
def blankF (c : Int) : Bool := decide (c ≤ 32) || decide (c = 127)
def wordF (least : Int) (w : Lexeme) : Bool := decide (0 < w.text.size) && !(sbytes w.text).any blankF && decide (least ≤ w.line) && decide (w.line < 1024)
def wordsF : Int → List Lexeme → Bool
 | _, [] => true
 | least, w :: l => wordF least w && wordsF w.line l
def validT (t : Text) : Bool := decide (t.words.length ≤ 8192) && pathB t.path && wordsF 0 t.words
def okW (l : List Lexeme) : Prop := l.length ≤ 1000000 ∧ ∀ w ∈ l, w.text.size ≤ 1000000
def okT (t : Text) : Prop := t.path.size ≤ 1000000 ∧ okW t.words
def okTs (l : List Text) : Prop := l.length ≤ 1000 ∧ ∀ t ∈ l, okT t
abbrev PR : Int := 2305843009213693951
def addP (a b : Int) : Int := (a + b) % PR
def mulP (a b : Int) : Int := (a * b) % PR
def codeF (s : ByteArray) : Int := (sbytes s).foldl (fun c b => addP (mulP 257 c) (b + 1)) 0
def pushF (h : Int) (s : ByteArray) : Int := addP (mulP 1000003 h) (addP (codeF s) 1)
def hashF (l : List Lexeme) : Int := l.foldl (fun h w => pushF h w.text) 0
def powF (n : Int) : Int := (1000003 ^ n.toNat) % PR
def rollF (h : Int) (o i : ByteArray) (top : Int) : Int := pushF (addP h (PR - mulP (addP (codeF o) 1) top)) i
def gramsL (l : List Lexeme) (k : Nat) : List Int := (List.range (l.length + 1 - k)).map fun i => hashF ((l.drop i).take k)
def gramsF (l : List Lexeme) (k : Int) : List Int × Int := if k < 1 ∨ 8192 < k then ([], 3) else if 8192 < l.length then ([], 10) else (gramsL l k.toNat, 0)
def mul64F (a b : Int) : Int × Int := (a * b / 18446744073709551616, a * b % 18446744073709551616)
def sizeF (n : Int) : Bool := decide (1 ≤ n) && decide (n ≤ 1024)
def leastF (l : List Int) (a b : Int) : Int := (List.range (b - a).toNat).foldl (fun out d => if gi l (a + (d : Nat)) ≤ gi l out then a + (d : Nat) else out) a
def selStep (out : List Int) (n : Int) : List Int := if 0 < out.length ∧ ¬ gi out ((out.length : Int) - 1) < n then out else out ++ [n]
def selL (l : List Int) (w : Nat) : List Int := ((List.range (l.length + 1 - w)).map fun i : Nat => leastF l i ((i : Int) + w)).foldl selStep []
def selectF (l : List Int) (w : Int) : List Int × Int := if sizeF w then if 8192 < l.length then ([], 10) else (selL l w.toNat, 0) else ([], 3)
def printsL (l : List Lexeme) (k w : Nat) : List Print := (selL (gramsL l k) w).map fun a => ⟨gi (gramsL l k) a, a⟩
def printsF (t : Text) (k w : Int) : List Print × Int := if validT t then if sizeF k && sizeF w then (printsL t.words k.toNat w.toNat, 0) else ([], 3) else ([], 1)
def guarF (k w : Int) : Int × Int := if sizeF k && sizeF w then (k + w - 1, 0) else (0, 3)
def postsOf (i : Nat) (l : List Print) : List Pst := l.map fun p => ⟨p.hash, (i : Int), p.at_⟩
def flatP : Nat → List Text → Int → Int → List Pst
 | _, [], _, _ => []
 | i, t :: l, k, w => postsOf i (printsF t k w).1 ++ flatP (i + 1) l k w
def checkT : Option ByteArray → List Text → Int
 | _, [] => 0
 | p, t :: l => if validT t then if p.all (fun q => sless q t.path) then checkT (some t.path) l else 5 else 1
def commonW : List Lexeme → List Lexeme → Nat
 | x :: a, y :: b => if x.text = y.text then commonW a b + 1 else 0
 | _, _ => 0
def fewW (l : List Lexeme) : Bool := decide (l.length ≤ 40) && l.all fun w => decide (w.text.size ≤ 40)
def fewTs (l : List Text) : Bool := decide (l.length ≤ 5) && l.all fun t => fewW t.words && decide (t.path.size ≤ 200)
end Go.Lic
set_option linter.all false
namespace Go.Lic
open Go.Proofs Go.Sort
def gsplit_L1 (s_ : ByteArray) (sep : ByteArray) (sepSave : Int) (n1 : Int) (Q : (List ByteArray) → Prop) (again4 : (List ByteArray) × ByteArray × Int → Prop) (a : (List ByteArray)) (s_1 : ByteArray) (i : Int) : Prop :=
 ((i < ((gmin n1 [((s_.size : Int) + 1)]) - 1) → (sep.size = 1 ∧ (((indexF s_1 sep) < 0 → (inL i a.length ∧ (inI (i + 1) ∧ inS 0 (i + 1) (si a i s_1).length ∧ Q (lsub (si a i s_1) 0 (i + 1))))) ∧ (¬ (indexF s_1 sep) < 0 → (inI ((indexF s_1 sep) + sepSave) ∧ inS 0 ((indexF s_1 sep) + sepSave) s_1.size ∧ inL i a.length ∧ (inI ((indexF s_1 sep) + (sep.size : Int)) ∧ inS ((indexF s_1 sep) + (sep.size : Int)) (s_1.size : Int) s_1.size ∧ (inI (i + 1) ∧ again4 ((si a i (ssub s_1 0 ((indexF s_1 sep) + sepSave))), (ssub s_1 ((indexF s_1 sep) + (sep.size : Int)) (s_1.size : Int)), (i + 1))))))))) ∧ (¬ i < ((gmin n1 [((s_.size : Int) + 1)]) - 1) → (inL i a.length ∧ (inI (i + 1) ∧ inS 0 (i + 1) (si a i s_1).length ∧ Q (lsub (si a i s_1) 0 (i + 1))))))
def gsplit_J1 (s_ : ByteArray) (sep : ByteArray) (sepSave : Int) (Q : (List ByteArray) → Prop) (n1 : Int) : Prop :=
 (inI ((s_.size : Int) + 1) ∧ ((((0 : Int) ≤ (gmin n1 [((s_.size : Int) + 1)]) ∧ ((gmin n1 [((s_.size : Int) + 1)]) : Int) ≤ (gmin n1 [((s_.size : Int) + 1)])) ∧ (16 : Int) * (gmin n1 [((s_.size : Int) + 1)]) ≤ 281474976710656 ∧ ((gmin n1 [((s_.size : Int) + 1)]) : Int) ≤ 9223372036854775807) ∧ (inI ((gmin n1 [((s_.size : Int) + 1)]) - 1) ∧ lfp (S := (List ByteArray) × ByteArray × Int) (fun again4 ss => gsplit_L1 s_ sep sepSave n1 Q again4 ss.1 ss.2.1 ss.2.2) ((List.replicate (Int.toNat (gmin n1 [((s_.size : Int) + 1)])) ByteArray.empty), s_, 0))))
def gsplit_vc (s_ : ByteArray) (sep : ByteArray) (sepSave : Int) (n : Int) (Q : (List ByteArray) → Prop) : Prop :=
 ((n = 0 → Q []) ∧ (¬ n = 0 → ((sep = (⟨#[]⟩ : ByteArray) → False) ∧ (¬ sep = (⟨#[]⟩ : ByteArray) → ((n < 0 → (sep.size = 1 ∧ inI ((countF s_ sep) + 1) ∧ gsplit_J1 s_ sep sepSave Q ((countF s_ sep) + 1))) ∧ (¬ n < 0 → gsplit_J1 s_ sep sepSave Q n))))))
def split_vc (s_ : ByteArray) (sep : ByteArray) (Q : (List ByteArray) → Prop) : Prop :=
 (s_.size ≤ 1000000 ∧ sep.size = 1 ∧ 0 = (0 : Int) ∧ (-1) = (-1 : Int) ∧ Q (splitG s_ sep 0 (-1)))
def sixf_L1 (s_ : ByteArray) (p : Int → Bool) (pD : Int → Prop) (truth : Bool) (Q : Int → Prop) (again2 : Int → Prop) (pos : Int) : Prop :=
 ((pos < (s_.size : Int) → ((0 : Int) ≤ pos ∧ (pD (runeAt s_ pos) ∧ ((((p (runeAt s_ pos)) == truth) = true → Q pos) ∧ (((p (runeAt s_ pos)) == truth) = false → again2 (pos + runeW s_ pos)))))) ∧ (¬ pos < (s_.size : Int) → Q (-1)))
def sixf_vc (s_ : ByteArray) (p : Int → Bool) (pD : Int → Prop) (truth : Bool) (Q : Int → Prop) : Prop :=
 lfp (S := Int) (fun again2 ss => sixf_L1 s_ p pD truth Q again2 ss) 0
def sixF_vc (s_ : ByteArray) (p : Int → Bool) (pD : Int → Prop) (Q : Int → Prop) : Prop :=
 ((∀ z_, pD z_) ∧ Q (runeIx p s_ true))
def scf_vc (s_ : ByteArray) (p : Int → Bool) (pD : Int → Prop) (Q : Bool → Prop) : Prop :=
 ((∀ z_, pD z_) ∧ Q (decide ((runeIx p s_ true) ≥ 0)))
def ixStr_L1 (s_ : (List ByteArray)) (p : ByteArray → Bool) (pD : ByteArray → Prop) (Q : Int → Prop) (again1 : Int → Prop) (x : Int) : Prop :=
 ((x < (s_.length : Int) → (inL x s_.length ∧ pD (gi s_ x) ∧ (((p (gi s_ x)) = true → Q x) ∧ ((p (gi s_ x)) = false → (inI (x + 1) ∧ again1 (x + 1)))))) ∧ (¬ x < (s_.length : Int) → Q (-1)))
def ixStr_vc (s_ : (List ByteArray)) (p : ByteArray → Bool) (pD : ByteArray → Prop) (Q : Int → Prop) : Prop :=
 lfp (S := Int) (fun again1 ss => ixStr_L1 s_ p pD Q again1 ss) 0
def cfStr_vc (s_ : (List ByteArray)) (p : ByteArray → Bool) (pD : ByteArray → Prop) (Q : Bool → Prop) : Prop :=
 (s_.length ≤ 9223372036854775807 ∧ (∀ z_ ∈ s_, pD z_) ∧ Q (decide ((idxOf p s_) ≥ 0)))
def part1_vc (c : Int) (Q : Bool → Prop) : Prop :=
 Q (!((((((decide (c ≥ 97)) && (decide (c ≤ 122))) || ((decide (c ≥ 48)) && (decide (c ≤ 57)))) || (c == 46)) || (c == 95)) || (c == 45)))
def part_vc (s_ : ByteArray) (Q : Bool → Prop) : Prop :=
 (((¬ s_ = (⟨#[]⟩ : ByteArray) ∧ ¬ (s_.size : Int) > 32) → inL 0 s_.size) ∧ (((¬ s_ = (⟨#[]⟩ : ByteArray) ∧ ¬ (s_.size : Int) > 32) ∧ ¬ (sgi s_ 0) = 46) → inL 0 s_.size) ∧ (((((s_ = (⟨#[]⟩ : ByteArray) ∨ (s_.size : Int) > 32) ∨ (sgi s_ 0) = 46) ∨ (sgi s_ 0) = 45) → Q false) ∧ ((((¬ s_ = (⟨#[]⟩ : ByteArray) ∧ ¬ (s_.size : Int) > 32) ∧ ¬ (sgi s_ 0) = 46) ∧ ¬ (sgi s_ 0) = 45) → ((∀ z_, (fun (x0_ : Int) => True) z_) ∧ Q (!(decide (0 ≤ runeIx (fun (x0_ : Int) => badR x0_) s_ true)))))))
def path1_vc (s_ : ByteArray) (Q : Bool → Prop) : Prop :=
 (s_.size ≤ 1000000 ∧ Q (!(partF s_)))
def path_vc (path : ByteArray) (Q : Int → Prop) : Prop :=
 (path.size ≤ 1000000 ∧ (⟨#[47]⟩ : ByteArray).size = 1 ∧ (((¬ (path.size : Int) > 128 ∧ ¬ ((splitF path (⟨#[47]⟩ : ByteArray)).length : Int) > 8) → (splitF path (⟨#[47]⟩ : ByteArray)).length ≤ 9223372036854775807 ∧ (∀ z_ ∈ (splitF path (⟨#[47]⟩ : ByteArray)), (fun (x0_ : ByteArray) => x0_.size ≤ 1000000) z_)) ∧ (((((path.size : Int) > 128 ∨ ((splitF path (⟨#[47]⟩ : ByteArray)).length : Int) > 8) ∨ ((splitF path (⟨#[47]⟩ : ByteArray)).any (fun (x0_ : ByteArray) => (!partF x0_))) = true) → Q 2) ∧ (((¬ (path.size : Int) > 128 ∧ ¬ ((splitF path (⟨#[47]⟩ : ByteArray)).length : Int) > 8) ∧ ((splitF path (⟨#[47]⟩ : ByteArray)).any (fun (x0_ : ByteArray) => (!partF x0_))) = false) → Q 0))))
def or_L1 (vals : (List Int)) (Q : Int → Prop) (again1 : Int → Prop) (x : Int) : Prop :=
 ((x < (vals.length : Int) → (inL x vals.length ∧ ((¬ (gi vals x) = 0 → Q (gi vals x)) ∧ ((gi vals x) = 0 → (inI (x + 1) ∧ again1 (x + 1)))))) ∧ (¬ x < (vals.length : Int) → Q 0))
def or_vc (vals : (List Int)) (Q : Int → Prop) : Prop :=
 lfp (S := Int) (fun again1 ss => or_L1 vals Q again1 ss) 0
end Go.Lic
