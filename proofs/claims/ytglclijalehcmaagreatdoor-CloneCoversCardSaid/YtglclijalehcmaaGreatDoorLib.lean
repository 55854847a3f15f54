/-
  Words, hashes, fingerprints, corpora: plain functions.
-/
import Derived.Test.YtglclijalehcmaaGreatDoorLm
import Derived.Test.YtglclijalehcmaaGreatDoorMapR
import Derived.Laws.StructEq
import Derived.Test.YtglclijalehcmaaGreatDoorRel
import Derived.Test.YtglclijalehcmaaGreatDoorShelf
import Derived.Test.YtglclijalehcmaaGreatDoorSort
import Derived.Test.YtglclijalehcmaaGreatDoorCv0
import Derived.Test.YtglclijalehcmaaGreatDoorStates
set_option linter.all false
namespace Go.Lic
open Go.Sort
def blankF (c : Int) : Bool := decide (c ≤ 32) || decide (c = 127)
def wordF (least : Int) (w : Lexeme) : Bool := decide (0 < w.text.size) && !(sbytes w.text).any blankF && decide (least ≤ w.line) && decide (w.line < 1024)
def wordsF : Int → List Lexeme → Bool
 | _, [] => true
 | least, w :: l => wordF least w && wordsF w.line l
def validT (t : Text) : Bool := decide (t.words.length ≤ 8192) && pathB t.path && wordsF 0 t.words
def okW (l : List Lexeme) : Prop := l.length ≤ 1000000 ∧ ∀ w ∈ l, w.text.size ≤ 1000000
def okT (t : Text) : Prop := t.path.size ≤ 1000000 ∧ okW t.words
def okTs (l : List Text) : Prop := l.length ≤ 1000 ∧ ∀ t ∈ l, okT t
abbrev PR : Int := 2305843009213693951
def addP (a b : Int) : Int := (a + b) % PR
def mulP (a b : Int) : Int := (a * b) % PR
def codeF (s : ByteArray) : Int := (sbytes s).foldl (fun c b => addP (mulP 257 c) (b + 1)) 0
def pushF (h : Int) (s : ByteArray) : Int := addP (mulP 1000003 h) (addP (codeF s) 1)
def hashF (l : List Lexeme) : Int := l.foldl (fun h w => pushF h w.text) 0
def powF (n : Int) : Int := (1000003 ^ n.toNat) % PR
def rollF (h : Int) (o i : ByteArray) (top : Int) : Int := pushF (addP h (PR - mulP (addP (codeF o) 1) top)) i
def gramsL (l : List Lexeme) (k : Nat) : List Int := (List.range (l.length + 1 - k)).map fun i => hashF ((l.drop i).take k)
def gramsF (l : List Lexeme) (k : Int) : List Int × Int := if k < 1 ∨ 8192 < k then ([], 3) else if 8192 < l.length then ([], 10) else (gramsL l k.toNat, 0)
def mul64F (a b : Int) : Int × Int := (a * b / 18446744073709551616, a * b % 18446744073709551616)
def sizeF (n : Int) : Bool := decide (1 ≤ n) && decide (n ≤ 1024)
def leastF (l : List Int) (a b : Int) : Int := (List.range (b - a).toNat).foldl (fun out d => if gi l (a + (d : Nat)) ≤ gi l out then a + (d : Nat) else out) a
def selStep (out : List Int) (n : Int) : List Int := if 0 < out.length ∧ ¬ gi out ((out.length : Int) - 1) < n then out else out ++ [n]
def selL (l : List Int) (w : Nat) : List Int := ((List.range (l.length + 1 - w)).map fun i : Nat => leastF l i ((i : Int) + w)).foldl selStep []
def selectF (l : List Int) (w : Int) : List Int × Int := if sizeF w then if 8192 < l.length then ([], 10) else (selL l w.toNat, 0) else ([], 3)
def printsL (l : List Lexeme) (k w : Nat) : List Print := (selL (gramsL l k) w).map fun a => ⟨gi (gramsL l k) a, a⟩
def printsF (t : Text) (k w : Int) : List Print × Int := if validT t then if sizeF k && sizeF w then (printsL t.words k.toNat w.toNat, 0) else ([], 3) else ([], 1)
def guarF (k w : Int) : Int × Int := if sizeF k && sizeF w then (k + w - 1, 0) else (0, 3)
def postCmp (a b : Pst) : Int := orF [cmpI a.hash b.hash, cmpI a.text b.text, cmpI a.at_ b.at_]
def postLt (a b : Pst) : Bool := decide (a.hash < b.hash) || (decide (a.hash = b.hash) && (decide (a.text < b.text) || (decide (a.text = b.text) && decide (a.at_ < b.at_))))
def postsOf (i : Nat) (l : List Print) : List Pst := l.map fun p => ⟨p.hash, (i : Int), p.at_⟩
def flatP : Nat → List Text → Int → Int → List Pst
 | _, [], _, _ => []
 | i, t :: l, k, w => postsOf i (printsF t k w).1 ++ flatP (i + 1) l k w
def postsF (l : List Text) (k w : Int) : List Pst := sortF postCmp (flatP 0 l k w)
def checkT : Option ByteArray → List Text → Int
 | _, [] => 0
 | p, t :: l => if validT t then if p.all (fun q => sless q t.path) then checkT (some t.path) l else 5 else 1
def checkF (c : Corpus) : Int := if sizeF c.k && sizeF c.w then if 64 < c.texts.length then 10 else if checkT none c.texts = 0 then (if c.posts = postsF c.texts c.k c.w then 0 else 9) else checkT none c.texts else 3
def corpusOf (l : List Text) (k w : Int) : Corpus := ⟨k, w, l, postsF l k w⟩
def growTF (_ : Int) : List Text := []
def noC : Corpus := ⟨0, 0, [], []⟩
def newF (k w : Int) : Corpus × Int := if sizeF k && sizeF w then (⟨k, w, [], []⟩, 0) else (noC, 3)
def placeT (l : List Text) (p : ByteArray) : Nat := (l.takeWhile fun t => sless t.path p).length
def hasT (l : List Text) (p : ByteArray) : Bool := l.any fun t => decide (t.path = p)
def findT (l : List Text) (p : ByteArray) : Int × Bool := ((placeT l p : Nat), hasT l p)
def addF (c : Corpus) (t : Text) : Corpus × Int :=
 if checkF c = 0 ∧ validT t = true then if hasT c.texts t.path then (noC, 6) else if c.texts.length = 64 then (noC, 10) else (corpusOf (c.texts.take (placeT c.texts t.path) ++ t :: c.texts.drop (placeT c.texts t.path)) c.k c.w, 0) else (noC, 1)
def firstAt (l : List Pst) (i : Nat) : Bool := decide (i = 0) || !(decide ((gi l ((i : Int) - 1)).hash = (gi l (i : Nat)).hash) && decide ((gi l ((i : Int) - 1)).text = (gi l (i : Nat)).text))
def sharedN (c : Corpus) (l : List Print) (t : Int) : Nat := ((List.range c.posts.length).filter fun i => firstAt c.posts i && decide ((gi c.posts (i : Nat)).text = t) && l.any fun x => decide (x.hash = (gi c.posts (i : Nat)).hash)).length
def nearL (c : Corpus) (l : List Print) : List Int := (List.range l.length).reverse.flatMap fun m => ((List.range c.texts.length).filter fun i => decide (sharedN c l (i : Nat) = m + 1)).map fun i => ((i : Nat) : Int)
def nearC (a b : Int) (l : List (Int × Int)) : Int := cmpI (mget 0 l b) (mget 0 l a)
def nearF (c : Corpus) (t : Text) : List Int × Int := if checkF c = 0 ∧ validT t = true then (nearL c (printsF t c.k c.w).1, 0) else ([], 1)
def commonW : List Lexeme → List Lexeme → Nat
 | x :: a, y :: b => if x.text = y.text then commonW a b + 1 else 0
 | _, _ => 0
def commonF4 (a : Text) (i : Int) (b : Text) (j : Int) : Int := if 0 ≤ i ∧ i ≤ a.words.length ∧ 0 ≤ j ∧ j ≤ b.words.length ∧ validT a = true ∧ validT b = true then (commonW (a.words.drop i.toNat) (b.words.drop j.toNat) : Nat) else 0
def fewW (l : List Lexeme) : Bool := decide (l.length ≤ 40) && l.all fun w => decide (w.text.size ≤ 40)
def fewTs (l : List Text) : Bool := decide (l.length ≤ 5) && l.all fun t => fewW t.words && decide (t.path.size ≤ 200)
def fewC (c : Corpus) : Bool := fewTs c.texts && decide (c.posts.length ≤ 300)
end Go.Lic
set_option linter.all false
namespace Go.Lic
inductive SEq (P : Program) (xs ys : List Value) : List (Nat × TypeId) → Bool → Prop
 | nil : SEq P xs ys [] true
 | str {o : Nat} {t : TypeId} {l : List (Nat × TypeId)} {r : Bool} {a c : ByteArray} (ht : P.underlying t = some .string) (hti : TI P t 1 false) (hx : xs[o]? = some (.string a)) (hy : ys[o]? = some (.string c)) (h : SEq P xs ys l r) : SEq P xs ys ((o, t) :: l) (decide (a = c) && r)
 | int {o : Nat} {t : TypeId} {l : List (Nat × TypeId)} {r : Bool} {k : IntKind} {a c : Int} (ht : P.underlying t = some (.int k)) (hti : TI P t 1 false) (hx : xs[o]? = some (.int k a)) (hy : ys[o]? = some (.int k c)) (h : SEq P xs ys l r) : SEq P xs ys ((o, t) :: l) (decide (a = c) && r)
 | bool {o : Nat} {t : TypeId} {l : List (Nat × TypeId)} {r : Bool} {a c : Bool} (ht : P.underlying t = some .bool) (hti : TI P t 1 false) (hx : xs[o]? = some (.bool a)) (hy : ys[o]? = some (.bool c)) (h : SEq P xs ys l r) : SEq P xs ys ((o, t) :: l) (decide (a = c) && r)
theorem run_part1 {P : Program} {t : TypeId} (hti : TI P t 1 false) {xs : List Value} {o : Nat} {v : Value} (h : xs[o]? = some v) (w : World) : (part t xs.toArray o).run P w = .ok v w := by
 simp only [part, Sem.run_bind, hti.isAgg, Result.andThen_ok, Bool.false_eq_true, if_false]
 simp [h]
theorem run_eqStr {P : Program} {t : TypeId} (ht : P.underlying t = some .string) (d : Nat) (a c : ByteArray) (w : World) : (Op.equalIn (d + 1) t (.string a) (.string c)).run P w = .ok (decide (a = c)) w := by
 simp only [Op.equalIn, Sem.run_bind, run_underlying ht, Result.andThen_ok, Sem.run_pure]
 rw [beq_toListBytes, str_beq]
theorem run_eqInt {P : Program} {t : TypeId} {k : IntKind} (ht : P.underlying t = some (.int k)) (d : Nat) (a c : Int) (w : World) : (Op.equalIn (d + 1) t (.int k a) (.int k c)).run P w = .ok (decide (a = c)) w := by
 simp [Op.equalIn, run_underlying ht]
 rw [Bool.eq_iff_iff]; simp
theorem run_eqBool {P : Program} {t : TypeId} (ht : P.underlying t = some .bool) (d : Nat) (a c : Bool) (w : World) : (Op.equalIn (d + 1) t (.bool a) (.bool c)).run P w = .ok (decide (a = c)) w := by
 simp [Op.equalIn, run_underlying ht]
 cases a <;> cases c <;> rfl
theorem SEq.run {P : Program} {xs ys : List Value} {l : List (Nat × TypeId)} {r : Bool} (h : SEq P xs ys l r) (d : Nat) (w : World) : ∀ fs : List Field, fs.map (fun f => (f.name == "_", f.offset, f.type)) = l.map (fun p => (false, p.1, p.2)) →
   (Op.eqFields (d + 1) xs.toArray ys.toArray fs).run P w = .ok r w := by
 induction h with
 | nil =>
   intro fs hf
   have : fs = [] := by simpa using hf
   subst this
   simp [Op.eqFields]
 | str ht hti hx hy _ ih =>
   intro fs hf
   cases fs with
   | nil => simp at hf
   | cons f fs =>
     simp only [List.map_cons, List.cons.injEq, Prod.mk.injEq] at hf
     obtain ⟨⟨h1, h2, h3⟩, hf⟩ := hf
     have h1' : f.name ≠ "_" := by simpa using h1
     simp only [Op.eqFields, h1', ne_eq, not_false_eq_true, if_true, Sem.run_bind, h2, h3, run_part1 hti hx, run_part1 hti hy, Result.andThen_ok, run_eqStr ht]
     split
     · next hc => simp at hc; simp [hc]
     · next hc => simp at hc; simp [hc, ih fs hf]
 | int ht hti hx hy _ ih =>
   intro fs hf
   cases fs with
   | nil => simp at hf
   | cons f fs =>
     simp only [List.map_cons, List.cons.injEq, Prod.mk.injEq] at hf
     obtain ⟨⟨h1, h2, h3⟩, hf⟩ := hf
     have h1' : f.name ≠ "_" := by simpa using h1
     simp only [Op.eqFields, h1', ne_eq, not_false_eq_true, if_true, Sem.run_bind, h2, h3, run_part1 hti hx, run_part1 hti hy, Result.andThen_ok, run_eqInt ht]
     split
     · next hc => simp at hc; simp [hc]
     · next hc => simp at hc; simp [hc, ih fs hf]
 | bool ht hti hx hy _ ih =>
   intro fs hf
   cases fs with
   | nil => simp at hf
   | cons f fs =>
     simp only [List.map_cons, List.cons.injEq, Prod.mk.injEq] at hf
     obtain ⟨⟨h1, h2, h3⟩, hf⟩ := hf
     have h1' : f.name ≠ "_" := by simpa using h1
     simp only [Op.eqFields, h1', ne_eq, not_false_eq_true, if_true, Sem.run_bind, h2, h3, run_part1 hti hx, run_part1 hti hy, Result.andThen_ok, run_eqBool ht]
     split
     · next hc => simp at hc; simp [hc]
     · next hc => simp at hc; simp [hc, ih fs hf]
theorem OpA.structcmp {P : Program} {o : Oper} {fr : Nat → D} {h : Heap} {K : D → Heap → Prop} {op : BinOp} {t t2 : TypeId} {x y : Operand} {xs ys : List Value} {r b : Bool} {l : List (Nat × TypeId)} (ho : o.op = .binOp op t x y t2) (hm : P.eqGuardType P.depth t = false)
   (hu : P.underlying t = some (.struct (P.fieldsOf t))) (hp : P.stoodInHeld t = false) (hl : (P.fieldsOf t).toList.map (fun f => (f.name == "_", f.offset, f.type)) = l.map (fun p => (false, p.1, p.2)))
   (hx : ev fr x = .agg (xs.map D.v)) (hy : ev fr y = .agg (ys.map D.v)) (hs : SEq P xs ys l r) (hop : (op = .eql ∧ b = r) ∨ (op = .neq ∧ b = !r)) (hk : K (.b b) h) : OpA P o fr h K :=
 .aggcmp ho hm hx hy (fun w => by rw [run_equalIn_struct w 9999 t _ _ hu hp]; exact hs.run 9998 w _ hl) hop hk
end Go.Lic
set_option linter.all false
namespace Go.Lic
theorem glob_none (W : World) : Glob W (fun b => (fun _ : Nat => False) (2 * b)) := ⟨W, trivial, fun g hg => by cases hg⟩
end Go.Lic
set_option linter.all false
namespace Go.Lic
open Go.Proofs Go.Sort Go.Shelf
theorem Fun.of_same {P : Program} {f : Nat} {vs : List Value} {v : Value} (h : ∀ w, Calls P f vs.toArray w fun e w' => e = .returned v ∧ w' = w) : Fun false P f (vs.map D.v) (fun d => d = .v v) := by
 intro A w us hb ho hg hv
 obtain rfl := vl_vals _ _ hv
 refine (h w).mono ?_
 rintro e w' ⟨rfl, rfl⟩
 exact ⟨v, .v v, rfl, rfl, .v _, Ext.refl _ _⟩
theorem one_byte {sep : ByteArray} (h : sep.size = 1) : sep = ⟨#[sepOf sep]⟩ := by
 obtain ⟨⟨l⟩⟩ := sep
 have : l.length = 1 := h
 match l, this with
 | [c], _ => rfl
theorem sCompare_c (a b : ByteArray) : Fun false Tryz.prog 126 [D.s a, D.s b] (fun d => d = D.i (cmpB a b)) := Fun.of_same (vs := [.string a, .string b]) (Tryz.strings_Compare a b)
theorem iCompare_c (a b : Int) : Fun false Tryz.prog 79 [D.i a, D.i b] (fun d => d = D.i (cmpI a b)) := Fun.of_same (vs := [.int .i64 a, .int .i64 b]) (Tryz.cmp_Compare_int a b)
theorem count_c (s sep : ByteArray) (h : sep.size = 1) : Fun false Tryz.prog 168 [D.s s, D.s sep] (fun d => d = D.i (countF s sep)) := by
 have := Fun.of_same (vs := [.string s, .string ⟨#[sepOf sep]⟩]) (Tryz.strings_Count_one s (sepOf sep))
 rw [← one_byte h] at this
 exact this
theorem index_c (s sep : ByteArray) (h : sep.size = 1) : Fun false Tryz.prog 169 [D.s s, D.s sep] (fun d => d = D.i (indexF s sep)) := by
 have := Fun.of_same (vs := [.string s, .string ⟨#[sepOf sep]⟩]) (Tryz.strings_Index_one s (sepOf sep))
 rw [← one_byte h] at this
 exact this
theorem len_c (n : Int) (h0 : 0 ≤ n) (h1 : n ≤ 18446744073709551615) : Fun false Tryz.prog 119 [D.k .u64 n] (fun d => d = D.i (lenF n)) := Fun.of_same (vs := [.int .u64 n]) (fun w => Tryz.bits_Len n w h0 h1)
theorem mul64_c (a b : Int) (h0 : 0 ≤ a) (h1 : a ≤ 18446744073709551615) (h2 : 0 ≤ b) (h3 : b ≤ 18446744073709551615) : Fun false Tryz.prog 172 [D.k .u64 a, D.k .u64 b] (fun d => d = .tup [D.k .u64 (mul64F a b).1, D.k .u64 (mul64F a b).2]) := by
 obtain ⟨x, rfl⟩ := Int.eq_ofNat_of_zero_le h0
 obtain ⟨y, rfl⟩ := Int.eq_ofNat_of_zero_le h2
 intro A w us hb ho hg hv
 cases hv with
 | cons k2 k3 =>
   cases k2
   cases k3 with
   | cons k4 k5 =>
     cases k4; cases k5
     refine (Tryz.bits_Mul64 x y (by omega) (by omega) w).mono ?_
     rintro e w' ⟨rfl, rfl⟩
     refine ⟨_, _, rfl, rfl, .tup (.cons ?_ (.cons ?_ .nil)), Ext.refl _ _⟩
     · have : ((x * y / 18446744073709551616 : Nat) : Int) = (mul64F (x : Int) (y : Int)).1 := by simp [mul64F]
       rw [this]; exact .v _
     · have : ((x * y % 18446744073709551616 : Nat) : Int) = (mul64F (x : Int) (y : Int)).2 := by simp [mul64F]
       rw [this]; exact .v _
end Go.Lic
