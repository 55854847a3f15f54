/-
  Words, hashes, fingerprints, corpora: plain functions.
-/
import Derived.Test.YtglclijalehcmaaGreatDoorLa
import Derived.Test.YtglclijalehcmaaGreatDoorMapR
import Derived.Test.YtglclijalehcmaaGreatDoorClip
import Derived.Test.YtglclijalehcmaaGreatDoorRel
import Derived.Test.YtglclijalehcmaaGreatDoorShelf
import Derived.Test.YtglclijalehcmaaGreatDoorSort
import Derived.Test.YtglclijalehcmaaGreatDoorStates
set_option linter.all false
namespace Go.Lic
open Go.Sort
def blankF (c : Int) : Bool := decide (c ≤ 32) || decide (c = 127)
def wordF (least : Int) (w : Lexeme) : Bool := decide (0 < w.text.size) && !(sbytes w.text).any blankF && decide (least ≤ w.line) && decide (w.line < 1024)
def wordsF : Int → List Lexeme → Bool
 | _, [] => true
 | least, w :: l => wordF least w && wordsF w.line l
def validT (t : Text) : Bool := decide (t.words.length ≤ 8192) && pathB t.path && wordsF 0 t.words
def okW (l : List Lexeme) : Prop := l.length ≤ 1000000 ∧ ∀ w ∈ l, w.text.size ≤ 1000000
def okT (t : Text) : Prop := t.path.size ≤ 1000000 ∧ okW t.words
def okTs (l : List Text) : Prop := l.length ≤ 1000 ∧ ∀ t ∈ l, okT t
def okC (c : Corpus) : Prop := okTs c.texts ∧ c.posts.length ≤ 1000000000
abbrev PR : Int := 2305843009213693951
def addP (a b : Int) : Int := (a + b) % PR
def mulP (a b : Int) : Int := (a * b) % PR
def codeF (s : ByteArray) : Int := (sbytes s).foldl (fun c b => addP (mulP 257 c) (b + 1)) 0
def pushF (h : Int) (s : ByteArray) : Int := addP (mulP 1000003 h) (addP (codeF s) 1)
def hashF (l : List Lexeme) : Int := l.foldl (fun h w => pushF h w.text) 0
def powF (n : Int) : Int := (1000003 ^ n.toNat) % PR
def rollF (h : Int) (o i : ByteArray) (top : Int) : Int := pushF (addP h (PR - mulP (addP (codeF o) 1) top)) i
def gramsL (l : List Lexeme) (k : Nat) : List Int := (List.range (l.length + 1 - k)).map fun i => hashF ((l.drop i).take k)
def gramsF (l : List Lexeme) (k : Int) : List Int × Int := if k < 1 ∨ 8192 < k then ([], 3) else if 8192 < l.length then ([], 10) else (gramsL l k.toNat, 0)
def mul64F (a b : Int) : Int × Int := (a * b / 18446744073709551616, a * b % 18446744073709551616)
def sizeF (n : Int) : Bool := decide (1 ≤ n) && decide (n ≤ 1024)
def leastF (l : List Int) (a b : Int) : Int := (List.range (b - a).toNat).foldl (fun out d => if gi l (a + (d : Nat)) ≤ gi l out then a + (d : Nat) else out) a
def selStep (out : List Int) (n : Int) : List Int := if 0 < out.length ∧ ¬ gi out ((out.length : Int) - 1) < n then out else out ++ [n]
def selL (l : List Int) (w : Nat) : List Int := ((List.range (l.length + 1 - w)).map fun i : Nat => leastF l i ((i : Int) + w)).foldl selStep []
def selectF (l : List Int) (w : Int) : List Int × Int := if sizeF w then if 8192 < l.length then ([], 10) else (selL l w.toNat, 0) else ([], 3)
def printsL (l : List Lexeme) (k w : Nat) : List Print := (selL (gramsL l k) w).map fun a => ⟨gi (gramsL l k) a, a⟩
def printsF (t : Text) (k w : Int) : List Print × Int := if validT t then if sizeF k && sizeF w then (printsL t.words k.toNat w.toNat, 0) else ([], 3) else ([], 1)
def guarF (k w : Int) : Int × Int := if sizeF k && sizeF w then (k + w - 1, 0) else (0, 3)
def postCmp (a b : Pst) : Int := orF [cmpI a.hash b.hash, cmpI a.text b.text, cmpI a.at_ b.at_]
def postLt (a b : Pst) : Bool := decide (a.hash < b.hash) || (decide (a.hash = b.hash) && (decide (a.text < b.text) || (decide (a.text = b.text) && decide (a.at_ < b.at_))))
def postsOf (i : Nat) (l : List Print) : List Pst := l.map fun p => ⟨p.hash, (i : Int), p.at_⟩
def flatP : Nat → List Text → Int → Int → List Pst
 | _, [], _, _ => []
 | i, t :: l, k, w => postsOf i (printsF t k w).1 ++ flatP (i + 1) l k w
def postsF (l : List Text) (k w : Int) : List Pst := sortF postCmp (flatP 0 l k w)
def checkT : Option ByteArray → List Text → Int
 | _, [] => 0
 | p, t :: l => if validT t then if p.all (fun q => sless q t.path) then checkT (some t.path) l else 5 else 1
def checkF (c : Corpus) : Int := if sizeF c.k && sizeF c.w then if 64 < c.texts.length then 10 else if checkT none c.texts = 0 then (if c.posts = postsF c.texts c.k c.w then 0 else 9) else checkT none c.texts else 3
def corpusOf (l : List Text) (k w : Int) : Corpus := ⟨k, w, l, postsF l k w⟩
def growTF (_ : Int) : List Text := []
def noC : Corpus := ⟨0, 0, [], []⟩
def newF (k w : Int) : Corpus × Int := if sizeF k && sizeF w then (⟨k, w, [], []⟩, 0) else (noC, 3)
def placeT (l : List Text) (p : ByteArray) : Nat := (l.takeWhile fun t => sless t.path p).length
def hasT (l : List Text) (p : ByteArray) : Bool := l.any fun t => decide (t.path = p)
def findT (l : List Text) (p : ByteArray) : Int × Bool := ((placeT l p : Nat), hasT l p)
def addF (c : Corpus) (t : Text) : Corpus × Int :=
 if checkF c = 0 ∧ validT t = true then if hasT c.texts t.path then (noC, 6) else if c.texts.length = 64 then (noC, 10) else (corpusOf (c.texts.take (placeT c.texts t.path) ++ t :: c.texts.drop (placeT c.texts t.path)) c.k c.w, 0) else (noC, 1)
def firstAt (l : List Pst) (i : Nat) : Bool := decide (i = 0) || !(decide ((gi l ((i : Int) - 1)).hash = (gi l (i : Nat)).hash) && decide ((gi l ((i : Int) - 1)).text = (gi l (i : Nat)).text))
def sharedN (c : Corpus) (l : List Print) (t : Int) : Nat := ((List.range c.posts.length).filter fun i => firstAt c.posts i && decide ((gi c.posts (i : Nat)).text = t) && l.any fun x => decide (x.hash = (gi c.posts (i : Nat)).hash)).length
def nearL (c : Corpus) (l : List Print) : List Int := (List.range l.length).reverse.flatMap fun m => ((List.range c.texts.length).filter fun i => decide (sharedN c l (i : Nat) = m + 1)).map fun i => ((i : Nat) : Int)
def nearC (a b : Int) (l : List (Int × Int)) : Int := cmpI (mget 0 l b) (mget 0 l a)
def nearF (c : Corpus) (t : Text) : List Int × Int := if checkF c = 0 ∧ validT t = true then (nearL c (printsF t c.k c.w).1, 0) else ([], 1)
def commonW : List Lexeme → List Lexeme → Nat
 | x :: a, y :: b => if x.text = y.text then commonW a b + 1 else 0
 | _, _ => 0
def commonF4 (a : Text) (i : Int) (b : Text) (j : Int) : Int := if 0 ≤ i ∧ i ≤ a.words.length ∧ 0 ≤ j ∧ j ≤ b.words.length ∧ validT a = true ∧ validT b = true then (commonW (a.words.drop i.toNat) (b.words.drop j.toNat) : Nat) else 0
def fewW (l : List Lexeme) : Bool := decide (l.length ≤ 40) && l.all fun w => decide (w.text.size ≤ 40)
def fewTs (l : List Text) : Bool := decide (l.length ≤ 5) && l.all fun t => fewW t.words && decide (t.path.size ≤ 200)
def fewC (c : Corpus) : Bool := fewTs c.texts && decide (c.posts.length ≤ 300)
end Go.Lic
set_option linter.all false
namespace Go.Lic
theorem zeroCells_made (z : Array Value) (n : Nat) : Builtin.zeroCells z n = madeCells z (n * z.size) := rfl
section
variable {P : Program} {o : Oper} {fr : Nat → D} {h : Heap} {K : D → Heap → Prop} {T : Type} [Inhabited T] {enc : T → D}
end
section
variable {P : Program} {o : Oper} {fr : Nat → D} {h : Heap} {K : D → Heap → Prop}
theorem flats_empty {sz : Nat} (hs : 0 < sz) : ∀ ds : List D, (∀ d ∈ ds, d.ok sz) → D.flats ds = [] → ds = []
 | [], _, _ => rfl
 | d :: ds, hok, he => by
   have h1 := (hok d (by simp)).1
   rw [flats_cons, List.append_eq_nil_iff] at he
   rw [he.1] at h1
   simp at h1; omega
theorem OpA.listNil {T : Type} {enc : T → D} {xs : List T} {t t2 e : TypeId} {x y : Operand} {sz : Nat} (ho : o.op = .binOp .eql t x y t2) (ht : P.underlying t = some (.slice e)) (hsz : Nat.blt 0 sz = true) (hx : ev fr x = .list sz (xs.map enc)) (hy : ev fr y = .v (.slice none 0 0))
   (hk : ∀ b : Bool, (b = true → xs = []) → K (.b b) h) : OpA P o fr h K :=
 .of_run fun A M w0 ac w hr hv => by
   have h1 := hv x (by simp [ho, Op.operands])
   have h2 := hv y (by simp [ho, Op.operands])
   rw [hx] at h1; rw [hy] at h2
   generalize hu : ac.eval x = u at h1
   generalize hu2 : ac.eval y = u2 at h2
   cases h2
   cases h1 with
   | @list _ _ cs a b off cap hok hvl ha hl hc =>
     have hd : ∀ (d n m : Nat) (a : Option Addr), (Op.equalIn (d + 1) t (.slice a n m) (.slice none 0 0)).run P w = .ok a.isNone w := fun d n m a => by
       cases a <;> simp [Op.equalIn, run_underlying ht]
     refine ⟨.bool a.isNone, w, .b a.isNone, h, ?_, hk a.isNone ?_, hr, Mono.refl _ _, .v _⟩
     · simp only [execOp, ho, hu, hu2]
       simp [eqGuard, binOp, Op.equal, Op.maxDepth, hd 9999]
     · intro hn
       have hcs : cs = [] := by
         apply Classical.byContradiction
         intro hne
         rw [ha hne] at hn; simp at hn
       subst hcs
       have hf : D.flats (xs.map enc) = [] := by
         have := hvl.length
         simpa using this
       have := flats_empty (by simpa [Nat.blt_eq] using hsz) _ hok hf
       simpa using this
end
end Go.Lic
set_option linter.all false
namespace Go.Lic
theorem glob_none (W : World) : Glob W (fun b => (fun _ : Nat => False) (2 * b)) := ⟨W, trivial, fun g hg => by cases hg⟩
end Go.Lic
set_option linter.all false
namespace Go.Lic
open Go.Proofs Go.Sort Go.Shelf
theorem Fun.of_same {P : Program} {f : Nat} {vs : List Value} {v : Value} (h : ∀ w, Calls P f vs.toArray w fun e w' => e = .returned v ∧ w' = w) : Fun false P f (vs.map D.v) (fun d => d = .v v) := by
 intro A w us hb ho hg hv
 obtain rfl := vl_vals _ _ hv
 refine (h w).mono ?_
 rintro e w' ⟨rfl, rfl⟩
 exact ⟨v, .v v, rfl, rfl, .v _, Ext.refl _ _⟩
theorem one_byte {sep : ByteArray} (h : sep.size = 1) : sep = ⟨#[sepOf sep]⟩ := by
 obtain ⟨⟨l⟩⟩ := sep
 have : l.length = 1 := h
 match l, this with
 | [c], _ => rfl
theorem iCompare_c (a b : Int) : Fun false Tryz.prog 79 [D.i a, D.i b] (fun d => d = D.i (cmpI a b)) := Fun.of_same (vs := [.int .i64 a, .int .i64 b]) (Tryz.cmp_Compare_int a b)
theorem count_c (s sep : ByteArray) (h : sep.size = 1) : Fun false Tryz.prog 168 [D.s s, D.s sep] (fun d => d = D.i (countF s sep)) := by
 have := Fun.of_same (vs := [.string s, .string ⟨#[sepOf sep]⟩]) (Tryz.strings_Count_one s (sepOf sep))
 rw [← one_byte h] at this
 exact this
theorem index_c (s sep : ByteArray) (h : sep.size = 1) : Fun false Tryz.prog 169 [D.s s, D.s sep] (fun d => d = D.i (indexF s sep)) := by
 have := Fun.of_same (vs := [.string s, .string ⟨#[sepOf sep]⟩]) (Tryz.strings_Index_one s (sepOf sep))
 rw [← one_byte h] at this
 exact this
theorem len_c (n : Int) (h0 : 0 ≤ n) (h1 : n ≤ 18446744073709551615) : Fun false Tryz.prog 119 [D.k .u64 n] (fun d => d = D.i (lenF n)) := Fun.of_same (vs := [.int .u64 n]) (fun w => Tryz.bits_Len n w h0 h1)
theorem mul64_c (a b : Int) (h0 : 0 ≤ a) (h1 : a ≤ 18446744073709551615) (h2 : 0 ≤ b) (h3 : b ≤ 18446744073709551615) : Fun false Tryz.prog 172 [D.k .u64 a, D.k .u64 b] (fun d => d = .tup [D.k .u64 (mul64F a b).1, D.k .u64 (mul64F a b).2]) := by
 obtain ⟨x, rfl⟩ := Int.eq_ofNat_of_zero_le h0
 obtain ⟨y, rfl⟩ := Int.eq_ofNat_of_zero_le h2
 intro A w us hb ho hg hv
 cases hv with
 | cons k2 k3 =>
   cases k2
   cases k3 with
   | cons k4 k5 =>
     cases k4; cases k5
     refine (Tryz.bits_Mul64 x y (by omega) (by omega) w).mono ?_
     rintro e w' ⟨rfl, rfl⟩
     refine ⟨_, _, rfl, rfl, .tup (.cons ?_ (.cons ?_ .nil)), Ext.refl _ _⟩
     · have : ((x * y / 18446744073709551616 : Nat) : Int) = (mul64F (x : Int) (y : Int)).1 := by simp [mul64F]
       rw [this]; exact .v _
     · have : ((x * y % 18446744073709551616 : Nat) : Int) = (mul64F (x : Int) (y : Int)).2 := by simp [mul64F]
       rw [this]; exact .v _
end Go.Lic
set_option linter.all false
namespace Go.Lic
section
variable {P : Program} {o : Oper} {fr : Nat → D} {h : Heap} {K : D → Heap → Prop}
theorem OpA.clearW {T : Type} [Inhabited T] {enc : T → D} {t e : TypeId} {sz bytes : Nat} {agg : Bool} {cl : Call} {s : Operand} {c : Nat} {pre post : List D} {xs : List T} {z : Value} {v0 : T} {h' : Heap} (ho : o.op = .call cl) (hc : cl.callee = .builtin .clear) (ha : cl.args = #[s]) (hty : cl.argTypes = #[t])
   (ht : TS P t e sz bytes agg) (hz : (P.info? e).bind (·.zero) = some z) (hd : ∀ w X, V w X (enc v0) z) (hok : (enc v0).ok sz) (hs : ev fr s = .own c sz pre.length xs.length)
   (hr : Repl c (.cells sz (winL enc pre xs post)) c (.cells sz (winL enc pre (List.replicate xs.length v0) post)) h h') (hk : K (.tup []) h') : OpA P o fr h K :=
 .of_run fun A M w0 ac w hr' hv => by
   have h1 := hv s (by simp [ho, Op.operands, Call.operands, hc, ha])
   rw [hs] at h1
   generalize hu : ac.eval s = u at h1
   obtain ⟨i0, hi0, hi1⟩ := Option.bind_eq_some_iff.1 hz
   have hzv : ∀ w, (zeroValue e).run P w = .ok z w := fun w => by simp [zeroValue, typeInfo, hi0, hi1]
   have hzs : z.cells.size = sz := (hd w (XX A h)).cells_size hok
   obtain ⟨hoke, hblk⟩ := hr'.cells hr.has
   cases h1 with
   | @own _ _ _ _ cap a hlc hcase =>
     by_cases hn : xs.length = 0
     · have hx : xs = [] := List.eq_nil_of_length_eq_zero hn
       subst hx
       simp only [List.length_nil, List.replicate_zero] at hr
       have e1 : h' = h := hr.same
       subst e1
       refine ⟨.tuple #[], w, _, _, ?_, hk, hr', Mono.refl _ _, .tup .nil⟩
       simp only [execOp, ho, resolve, hc, Sem.run_bind, Sem.run_pure, Result.andThen_ok, invoke, builtin, hty, ha, List.map_toArray, List.map_cons, List.map_nil, hu, List.length_nil]
       cases a <;> simp [Builtin.clear_, run_underlying ht.desc, Sem.run_pure]
     · rcases hcase with ⟨hc2, rfl, et0, n0, hsh, hn0⟩ | ⟨hz1, _⟩
       · rcases hblk with ⟨hodd, _⟩ | ⟨_, arr, et, ocs, ha', hov, hop⟩
         · omega
         · have hn1 : (pre.length + cap) * sz ≤ arr.size := by
             simp only [ha'.shape, Option.some.injEq, Prod.mk.injEq] at hsh
             rw [← hsh.2] at hn0; exact hn0
           have hvl0 := made_VL (hd w (XX A h)) hok xs.length
           obtain ⟨vs, hvs⟩ : ∃ vs, vs = (Builtin.zeroCells z.cells xs.length).toList := ⟨_, rfl⟩
           have hvs2 : (madeCells z.cells (xs.length * sz)).toList = vs := by rw [hvs, zeroCells_made, hzs]
           rw [hvs2] at hvl0
           have hvl : vs.length = xs.length * sz := by rw [← hvl0.length, flats_length _ (fun d hd' => by rw [List.eq_of_mem_replicate hd']; exact hok), List.length_replicate]
           have hone : ∀ u ∈ vs, u.oneCell' = true := hvl0.oneCell (fun x hx => by
             obtain ⟨y, hy, hxy⟩ := List.mem_flatMap.1 hx
             rw [List.eq_of_mem_replicate hy] at hxy
             exact hok.2 x hxy)
           have hfit : pre.length * sz + vs.length ≤ arr.size := by
             rw [hvl, ← Nat.add_mul]
             exact Nat.le_trans (Nat.mul_le_mul_right _ (by omega)) hn1
           obtain ⟨w', arr', g1, g2, g3, g4, g5, g6, g7, g8, g9⟩ := run_storeCells' (P := P) vs 0 (pre.length * sz) w arr ha' hone (by omega)
           simp only [Nat.add_zero] at g1 g3
           have hocl : ocs.length = (winL enc pre xs post).length * sz := by rw [← hov.length, flats_length _ hoke]
           have hwl : (winL enc pre xs post).length = pre.length + xs.length + post.length := by simp [winL]; omega
           have hle : pre.length * sz + vs.length ≤ ocs.length := by
             rw [hvl, ← Nat.add_mul, hocl, hwl]
             exact Nat.mul_le_mul_right _ (by omega)
           have ht1 : (winL enc pre xs post).take pre.length = pre := by simp [winL]
           have ht2 : (winL enc pre xs post).drop (pre.length + xs.length) = post := by
             rw [winL, ← List.append_assoc, List.drop_append_of_le_length (by simp)]
             simp
           have hf1 := hov.take (pre.length * sz)
           rw [← flats_take _ hoke, ht1] at hf1
           have hf2 := hov.drop ((pre.length + xs.length) * sz)
           rw [← flats_drop _ hoke, ht2] at hf2
           obtain ⟨r1, m1⟩ := hr'.write (sz' := sz) hr hc2 (cs' := ocs.take (pre.length * sz) ++ (vs ++ ocs.drop ((pre.length + xs.length) * sz))) (fun d hd' => by
               simp only [winL, List.mem_append, List.map_replicate] at hd'
               rcases hd' with hd' | hd' | hd'
               · exact hoke d (by simp [winL, hd'])
               · rw [List.eq_of_mem_replicate hd']; exact hok
               · exact hoke d (by simp [winL, hd'])) ha' g2 g4 (by
               rw [winL, flats_append, flats_append, List.map_replicate]
               exact hf1.append (hvl0.append hf2)) (by
               obtain ⟨tl, htl⟩ := hop
               rw [g3, setAt_eq _ _ _ (by simpa using hfit)]
               refine ⟨tl, ?_⟩
               rw [← htl, List.take_append_of_le_length (by omega), List.drop_append_of_le_length (by omega), Nat.add_mul, hvl]
               simp [List.append_assoc]) g5 g6 g7 g8 g9
           refine ⟨.tuple #[], w', _, _, ?_, hk, r1, m1, .tup .nil⟩
           simp only [execOp, ho, resolve, hc, Sem.run_bind, Sem.run_pure, Result.andThen_ok, invoke, builtin, hty, ha, List.map_toArray, List.map_cons, List.map_nil, hu]
           obtain ⟨m, hm⟩ : ∃ m, xs.length = m + 1 := ⟨xs.length - 1, by omega⟩
           have g1' := g1
           rw [hvs] at g1'
           simp only [hm] at g1' ⊢
           simp [Builtin.clear_, run_underlying ht.desc, Sem.run_pure, hzv, g1']
       · omega
def clearF {T : Type} (xs : List T) (a : Int) (z : T) : List T := xs.take a.toNat ++ List.replicate (xs.length - a.toNat) z
theorem clearF_length {T : Type} (xs : List T) (a : Int) (z : T) : (clearF xs a z).length = xs.length := by simp [clearF]; omega
theorem wpL_reclear {n : Nat} {ops : Array Oper} {l : List Oper} {Q : Post} {T : Type} [Inhabited T] {enc : T → D} {c sz : Nat} {pre post : List D} {xs : List T} {a : Int} {z : T} {h' : Heap} (hb : inS a (xs.length : Int) xs.length)
   (hr : Repl c (.cells sz (winL enc (pre ++ (xs.take a.toNat).map enc) (List.replicate (lsub xs a (xs.length : Int)).length z) ((xs.drop ((xs.length : Int)).toNat).map enc ++ post))) c (.cells sz (winL enc pre (clearF xs a z) post)) h h') (hh : wpL P n ops l Q fr h') : wpL P n ops l Q fr h := by
 have e : winL enc (pre ++ (xs.take a.toNat).map enc) (List.replicate (lsub xs a (xs.length : Int)).length z) ((xs.drop ((xs.length : Int)).toNat).map enc ++ post) = winL enc pre (clearF xs a z) post := by
   rw [lsub_length hb, show ((xs.length : Int) - a).toNat = xs.length - a.toNat by omega]
   simp [winL, clearF]
 rw [← e] at hr
 rw [hr.same] at hh
 exact hh
end
end Go.Lic
