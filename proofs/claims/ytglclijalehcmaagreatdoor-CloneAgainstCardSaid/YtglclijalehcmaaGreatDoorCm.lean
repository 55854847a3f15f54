/-
  Maps of our own from whole numbers to plain values: the object as it lies in memory.
-/
import Derived.Test.YtglclijalehcmaaGreatDoorCv0
import Derived.Maps.RangeRun
import Derived.Test.YtglclijalehcmaaGreatDoorLa
set_option linter.all false
namespace Go.Lic
def mapEnts {T : Type} (vf : T → Value) : Nat → List (Int × T) → List MapEntry
 | _, [] => []
 | n, p :: l => { key := .int .i64 p.1, val := vf p.2, born := n } :: mapEnts vf (n + 1) l
def mapO {T : Type} (vf : T → Value) (l : List (Int × T)) : Obj := .map (mapEnts vf 0 l).toArray l.length
abbrev vI (n : Int) : Value := .int .i64 n
def mget {T : Type} (d : T) : List (Int × T) → Int → T
 | [], _ => d
 | p :: l, k => if p.1 = k then p.2 else mget d l k
def mset {T : Type} : List (Int × T) → Int → T → List (Int × T)
 | [], k, v => [(k, v)]
 | p :: l, k, v => if p.1 = k then (k, v) :: l else p :: mset l k v
section
variable {T : Type} {vf : T → Value}
end
section
variable {P : Program} {o : Oper} {fr : Nat → D} {h : Heap} {K : D → Heap → Prop} {T : Type} {vf : T → Value}
theorem OpA.makeMap {t : TypeId} (vf : T → Value) (ho : o.op = .makeMap t none) (hk : ∀ c, K (.map c) ((c, .raw (mapO vf [])) :: h)) : OpA P o fr h K :=
 .of_run fun A M w0 ac w hr hv => by
   obtain ⟨_, h5, h6⟩ := hr.allocRaw (mapO vf [])
   refine ⟨.map (some w.heap.size), _, _, _, ?_, hk (2 * w.heap.size), h5, h6, ?_⟩
   · simp only [execOp, ho, Option.map_none, Instr.makeMap, Sem.run_bind, Sem.run_pure, Result.andThen_ok, run_newObj]
     rfl
   · have := V.map (w := w.alloc (mapO vf [])) (X := XX A ((2 * w.heap.size, .raw (mapO vf [])) :: h)) (c := 2 * w.heap.size) (by omega)
     rwa [show 2 * w.heap.size / 2 = w.heap.size from by omega] at this
theorem run_checkKey {w : World} {kt : TypeId} (hkt : P.underlying kt = some (.int .i64)) (b : Bool) (k : Int) : (Instr.checkKey b 10000 kt (.int .i64 k)).run P w = .ok () w := by
 rw [Instr.checkKey]
 simp only [Sem.run_bind, run_underlying hkt, Result.andThen_ok, Sem.run_pure]
theorem V.nilL {w : World} {X : Nat → Prop} {sz : Nat} : V w X (.list sz []) (.slice none 0 0) := .list (sz := sz) (ds := []) (cs := []) (b := 0) (o := 0) (by simp) .nil (by simp) (.inl rfl) (by simp)
theorem OpA.frz {s : Nat} {d d' : D} {h0 : Heap} {x : Nat × Blk} (hp : h.Perm (x :: h0)) (hd : fr s = d) (hsn : Snap false [x] [d] [d']) (hh : OpA P o (upd fr s d') h0 K) : OpA P o fr h K := fun A M w0 a w hr hv next Q hn => by
 obtain ⟨r1, m1⟩ := hr.perm hp
 obtain ⟨r2, m2⟩ := r1.tail
 refine hh A M w0 a w r2 (fun y hy => ?_) next Q (fun v w' d h' hk hr' hm hv' => hn v w' d h' hk hr' ((m1.trans m2).trans hm) hv')
 have h1 := hv y hy
 by_cases hi : y = .tmp s
 · subst hi
   show V w (XX A h0) (upd fr s d' s) _
   rw [upd_same]
   have hv2 := h1.mono m1
   have e : ev fr (.tmp s) = d := hd
   rw [e] at hv2
   have hk : x.1 ∉ keys h0 := (List.nodup_cons.1 (by simpa using r1.nodup)).1
   have := hsn.sound (X' := XX A h0) r1 (fun c b hh => by cases hh with | head => exact .head | tail t => cases t) (fun _ b hb => by
       rcases hb with hb | hb
       · exact .inl hb
       · exact .inr (by simp [hb])) (fun c hc hev hx => by
       simp at hc; subst hc
       rcases hx with hx | hx
       · rw [show 2 * (x.1 / 2) = x.1 from by omega] at hx
         exact r1.free x.1 (by simp) hx
       · rw [show 2 * (x.1 / 2) = x.1 from by omega] at hx
         exact hk hx) [_] (.cons hv2 .nil)
   cases this with
   | cons h1 _ => exact h1
 · have e : ev (upd fr s d') y = ev fr y := by
     cases y with
     | tmp t => exact upd_ne _ _ (fun e => hi (by rw [e]))
     | _ => rfl
   rw [e]; exact (h1.mono m1).mono m2
end
end Go.Lic
set_option linter.all false
namespace Go.Lic
def itO (c n : Nat) (seen : List Nat) : Obj := .mapIter (some (c / 2)) n seen.toArray n
theorem ents_at {T : Type} (vf : T → Value) : ∀ {l : List (Int × T)} (n : Nat) {k : Nat} (h : k < l.length), { key := .int .i64 (l[k]).1, val := vf (l[k]).2, born := n + k } ∈ mapEnts vf n l
 | p :: l, n, 0, _ => by simp [mapEnts]
 | p :: l, n, k + 1, h => by
   have := ents_at vf (l := l) (n + 1) (k := k) (by simpa using h)
   simp only [mapEnts, List.mem_cons, List.getElem_cons_succ]
   right
   rw [show n + (k + 1) = n + 1 + k by omega]; exact this
section
variable {P : Program} {o : Oper} {fr : Nat → D} {h : Heap} {K : D → Heap → Prop} {T : Type} {vf : T → Value}
theorem ents_born (vf : T → Value) : ∀ (l : List (Int × T)) (n : Nat), ((mapEnts vf n l).map (·.born)).Nodup ∧ ∀ b ∈ (mapEnts vf n l).map (·.born), n ≤ b
 | [], _ => ⟨.nil, fun _ h => by cases h⟩
 | p :: l, n => by
   obtain ⟨h1, h2⟩ := ents_born vf l (n + 1)
   simp only [mapEnts, List.map_cons]
   refine ⟨List.nodup_cons.2 ⟨fun hx => by have := h2 _ hx; omega, h1⟩, fun b hb => ?_⟩
   rcases List.mem_cons.1 hb with rfl | hb
   · omega
   · have := h2 b hb; omega
theorem OpA.entry [Inhabited T] {x : Operand} {c cm : Nat} {l : List (Int × T)} {seen : List Nat} {k : Nat} (ho : o.op = .entry x) (hx : ev fr x = .ptr c 1 0 0) (hm : Has cm (.raw (mapO vf l)) h) (hi : Has c (.raw (itO cm l.length (seen ++ [k]))) h) (hk0 : k < l.length)
   (hk : K (.tup [.i (gi l (k : Int)).1, .v (vf (gi l (k : Int)).2)]) h) : OpA P o fr h K :=
 .of_run fun A M w0 ac w hr hv => by
   have h1 := hv x (by simp [ho, Op.operands])
   rw [hx] at h1
   generalize hu : ac.eval x = u at h1
   cases h1 with
   | ptr hc =>
     obtain ⟨hcm, hb⟩ := hr.blk _ _ hm.mem
     have hb' : w.heap[cm / 2]? = some (.map (mapEnts vf 0 l).toArray l.length) := hb
     obtain ⟨_, hi1⟩ := hr.blk _ _ hi.mem
     have hi' : w.heap[c / 2]? = some (.mapIter (some (cm / 2)) l.length (seen.toArray.push k) l.length) := by rw [hi1]; simp [itO]
     have e0 : 0 * 1 + 0 = 0 := rfl
     rw [gi_nat hk0] at hk
     have he := ents_at vf (l := l) 0 hk0
     rw [Nat.zero_add] at he
     have hrun := run_entry_at (P := P) w (c / 2) (cm / 2) l.length seen.toArray (mapEnts vf 0 l).toArray l.length { key := .int .i64 (l[k]).1, val := vf (l[k]).2, born := k } hi' hb' (by simpa using he) (by simpa using (ents_born vf l 0).1)
     refine ⟨.tuple #[.int .i64 (l[k]).1, vf (l[k]).2], w, _, _, ?_, hk, hr, Mono.refl _ _, .tup (.cons (.v _) (.cons (.v _) .nil))⟩
     simp only [execOp, ho, hu, e0, Sem.run_bind, hrun, Result.andThen_ok, Sem.run_pure]
end
end Go.Lic
set_option linter.all false
namespace Go.Lic
open Go.Sort
def blankF (c : Int) : Bool := decide (c ≤ 32) || decide (c = 127)
def wordF (least : Int) (w : Lexeme) : Bool := decide (0 < w.text.size) && !(sbytes w.text).any blankF && decide (least ≤ w.line) && decide (w.line < 1024)
def wordsF : Int → List Lexeme → Bool
 | _, [] => true
 | least, w :: l => wordF least w && wordsF w.line l
def validT (t : Text) : Bool := decide (t.words.length ≤ 8192) && pathB t.path && wordsF 0 t.words
def okW (l : List Lexeme) : Prop := l.length ≤ 1000000 ∧ ∀ w ∈ l, w.text.size ≤ 1000000
def okT (t : Text) : Prop := t.path.size ≤ 1000000 ∧ okW t.words
def okTs (l : List Text) : Prop := l.length ≤ 1000 ∧ ∀ t ∈ l, okT t
def okC (c : Corpus) : Prop := okTs c.texts ∧ c.posts.length ≤ 1000000000
abbrev PR : Int := 2305843009213693951
def addP (a b : Int) : Int := (a + b) % PR
def mulP (a b : Int) : Int := (a * b) % PR
def codeF (s : ByteArray) : Int := (sbytes s).foldl (fun c b => addP (mulP 257 c) (b + 1)) 0
def pushF (h : Int) (s : ByteArray) : Int := addP (mulP 1000003 h) (addP (codeF s) 1)
def hashF (l : List Lexeme) : Int := l.foldl (fun h w => pushF h w.text) 0
def powF (n : Int) : Int := (1000003 ^ n.toNat) % PR
def rollF (h : Int) (o i : ByteArray) (top : Int) : Int := pushF (addP h (PR - mulP (addP (codeF o) 1) top)) i
def gramsL (l : List Lexeme) (k : Nat) : List Int := (List.range (l.length + 1 - k)).map fun i => hashF ((l.drop i).take k)
def gramsF (l : List Lexeme) (k : Int) : List Int × Int := if k < 1 ∨ 8192 < k then ([], 3) else if 8192 < l.length then ([], 10) else (gramsL l k.toNat, 0)
def mul64F (a b : Int) : Int × Int := (a * b / 18446744073709551616, a * b % 18446744073709551616)
def sizeF (n : Int) : Bool := decide (1 ≤ n) && decide (n ≤ 1024)
def leastF (l : List Int) (a b : Int) : Int := (List.range (b - a).toNat).foldl (fun out d => if gi l (a + (d : Nat)) ≤ gi l out then a + (d : Nat) else out) a
def selStep (out : List Int) (n : Int) : List Int := if 0 < out.length ∧ ¬ gi out ((out.length : Int) - 1) < n then out else out ++ [n]
def selL (l : List Int) (w : Nat) : List Int := ((List.range (l.length + 1 - w)).map fun i : Nat => leastF l i ((i : Int) + w)).foldl selStep []
def selectF (l : List Int) (w : Int) : List Int × Int := if sizeF w then if 8192 < l.length then ([], 10) else (selL l w.toNat, 0) else ([], 3)
def printsL (l : List Lexeme) (k w : Nat) : List Print := (selL (gramsL l k) w).map fun a => ⟨gi (gramsL l k) a, a⟩
def printsF (t : Text) (k w : Int) : List Print × Int := if validT t then if sizeF k && sizeF w then (printsL t.words k.toNat w.toNat, 0) else ([], 3) else ([], 1)
def guarF (k w : Int) : Int × Int := if sizeF k && sizeF w then (k + w - 1, 0) else (0, 3)
def postCmp (a b : Pst) : Int := orF [cmpI a.hash b.hash, cmpI a.text b.text, cmpI a.at_ b.at_]
def postLt (a b : Pst) : Bool := decide (a.hash < b.hash) || (decide (a.hash = b.hash) && (decide (a.text < b.text) || (decide (a.text = b.text) && decide (a.at_ < b.at_))))
def postsOf (i : Nat) (l : List Print) : List Pst := l.map fun p => ⟨p.hash, (i : Int), p.at_⟩
def flatP : Nat → List Text → Int → Int → List Pst
 | _, [], _, _ => []
 | i, t :: l, k, w => postsOf i (printsF t k w).1 ++ flatP (i + 1) l k w
def postsF (l : List Text) (k w : Int) : List Pst := sortF postCmp (flatP 0 l k w)
def insP (x : Pst) (out : List Pst) : List Pst := out.takeWhile (fun y => postLt y x) ++ [x] ++ out.dropWhile (fun y => postLt y x)
def checkT : Option ByteArray → List Text → Int
 | _, [] => 0
 | p, t :: l => if validT t then if p.all (fun q => sless q t.path) then checkT (some t.path) l else 5 else 1
def checkF (c : Corpus) : Int := if sizeF c.k && sizeF c.w then if 64 < c.texts.length then 10 else if checkT none c.texts = 0 then (if c.posts = postsF c.texts c.k c.w then 0 else 9) else checkT none c.texts else 3
def corpusOf (l : List Text) (k w : Int) : Corpus := ⟨k, w, l, postsF l k w⟩
def growTF (_ : Int) : List Text := []
def noC : Corpus := ⟨0, 0, [], []⟩
def newF (k w : Int) : Corpus × Int := if sizeF k && sizeF w then (⟨k, w, [], []⟩, 0) else (noC, 3)
def placeT (l : List Text) (p : ByteArray) : Nat := (l.takeWhile fun t => sless t.path p).length
def hasT (l : List Text) (p : ByteArray) : Bool := l.any fun t => decide (t.path = p)
def findT (l : List Text) (p : ByteArray) : Int × Bool := ((placeT l p : Nat), hasT l p)
def addF (c : Corpus) (t : Text) : Corpus × Int :=
 if checkF c = 0 ∧ validT t = true then if hasT c.texts t.path then (noC, 6) else if c.texts.length = 64 then (noC, 10) else (corpusOf (c.texts.take (placeT c.texts t.path) ++ t :: c.texts.drop (placeT c.texts t.path)) c.k c.w, 0) else (noC, 1)
def firstAt (l : List Pst) (i : Nat) : Bool := decide (i = 0) || !(decide ((gi l ((i : Int) - 1)).hash = (gi l (i : Nat)).hash) && decide ((gi l ((i : Int) - 1)).text = (gi l (i : Nat)).text))
def sharedN (c : Corpus) (l : List Print) (t : Int) : Nat := ((List.range c.posts.length).filter fun i => firstAt c.posts i && decide ((gi c.posts (i : Nat)).text = t) && l.any fun x => decide (x.hash = (gi c.posts (i : Nat)).hash)).length
def nearL (c : Corpus) (l : List Print) : List Int := (List.range l.length).reverse.flatMap fun m => ((List.range c.texts.length).filter fun i => decide (sharedN c l (i : Nat) = m + 1)).map fun i => ((i : Nat) : Int)
def nearC (a b : Int) (l : List (Int × Int)) : Int := cmpI (mget 0 l b) (mget 0 l a)
def nearF (c : Corpus) (t : Text) : List Int × Int := if checkF c = 0 ∧ validT t = true then (nearL c (printsF t c.k c.w).1, 0) else ([], 1)
def commonW : List Lexeme → List Lexeme → Nat
 | x :: a, y :: b => if x.text = y.text then commonW a b + 1 else 0
 | _, _ => 0
def commonF4 (a : Text) (i : Int) (b : Text) (j : Int) : Int := if 0 ≤ i ∧ i ≤ a.words.length ∧ 0 ≤ j ∧ j ≤ b.words.length ∧ validT a = true ∧ validT b = true then (commonW (a.words.drop i.toNat) (b.words.drop j.toNat) : Nat) else 0
def fewW (l : List Lexeme) : Bool := decide (l.length ≤ 40) && l.all fun w => decide (w.text.size ≤ 40)
def fewTs (l : List Text) : Bool := decide (l.length ≤ 5) && l.all fun t => fewW t.words && decide (t.path.size ≤ 200)
def fewC (c : Corpus) : Bool := fewTs c.texts && decide (c.posts.length ≤ 300)
end Go.Lic
