/-
  Structures of plain fields as keys of maps.
-/
import Derived.Test.YtglclijalehcmaaGreatDoorMapK
import Derived.Test.YtglclijalehcmaaGreatDoorLa
import Derived.Test.YtglclijalehcmaaGreatDoorSm
import Derived.Test.YtglclijalehcmaaGreatDoorKw
set_option linter.all false
namespace Go.Lic
abbrev vU (_ : Unit) : Value := .agg #[]
abbrev encU (_ : Unit) : D := .agg []
section
variable {P : Program}
theorem run_checkKey_plain {t : TypeId} {d : TypeDesc} (ht : P.underlying t = some d) (hd : (∃ k, d = .int k) ∨ d = .string ∨ d = .bool) (n : Nat) (b : Bool) (v : Value) (w : World) : (Instr.checkKey b (n + 1) t v).run P w = .ok () w := by
 rw [Instr.checkKey]
 simp only [Sem.run_bind, run_underlying ht, Result.andThen_ok]
 rcases hd with ⟨k, rfl⟩ | rfl | rfl <;> simp [Sem.run_pure]
inductive CKey (P : Program) (xs : List Value) : List (Nat × TypeId) → Prop
 | nil : CKey P xs []
 | cons {o : Nat} {t : TypeId} {l : List (Nat × TypeId)} {d : TypeDesc} {v : Value} (ht : P.underlying t = some d) (hd : (∃ k, d = .int k) ∨ d = .string ∨ d = .bool) (hti : TI P t 1 false) (hx : xs[o]? = some v) (h : CKey P xs l) : CKey P xs ((o, t) :: l)
theorem run_checkKey_struct {t : TypeId} {l : List (Nat × TypeId)} (hu : P.underlying t = some (.struct (P.fieldsOf t))) (hl : (P.fieldsOf t).toList.map (fun f => (f.name == "_", f.offset, f.type)) = l.map (fun p => (false, p.1, p.2))) {xs : List Value} (h : CKey P xs l) (n : Nat) (b : Bool) (w : World) :
   (Instr.checkKey b (n + 2) t (.agg xs.toArray)).run P w = .ok () w := by
 rw [Instr.checkKey]
 simp only [Sem.run_bind, run_underlying hu, Result.andThen_ok]
 generalize P.fieldsOf t = fs at hl
 obtain ⟨fs⟩ := fs
 simp only at hl
 rw [List.forIn_toArray]
 induction h generalizing fs with
 | nil =>
   have : fs = [] := by simpa using hl
   subst this
   simp [Sem.run_pure]
 | @cons o ty l d v ht hd hti hx h ih =>
   cases fs with
   | nil => simp at hl
   | cons f fs =>
     simp only [List.map_cons, List.cons.injEq, Prod.mk.injEq] at hl
     obtain ⟨⟨h1, h2, h3⟩, hf⟩ := hl
     have h1' : f.name ≠ "_" := by simpa using h1
     rw [List.forIn_cons]
     simp only [h1', ne_eq, not_false_eq_true, if_true, Sem.run_bind, h2, h3, run_part1 hti hx, Result.andThen_ok, run_checkKey_plain ht hd, Sem.run_pure]
     exact ih fs hf
theorem KeyT.struct {kt : TypeId} {U : Type} [DecidableEq U] {vs : U → List Value} {l : List (Nat × TypeId)} (hu : P.underlying kt = some (.struct (P.fieldsOf kt))) (hp : P.stoodInHeld kt = false) (hl : (P.fieldsOf kt).toList.map (fun f => (f.name == "_", f.offset, f.type)) = l.map (fun p => (false, p.1, p.2)))
   (hs : ∀ a b : U, ∃ r, SEq P (vs a) (vs b) l r ∧ (r = true ↔ a = b)) (hc : ∀ a : U, CKey P (vs a) l) (hb : ∀ k : U, Instr.sameBits 10000 (.agg (vs k).toArray) (.agg (vs k).toArray) = true) : KeyT P kt (fun u => .agg (vs u).toArray) :=
 KeyT.asking hu (fun _ _ => rfl) (fun w a b => by
   obtain ⟨r, h1, h2⟩ := hs a b
   have e : decide (a = b) = r := by
     by_cases hab : a = b
     · rw [decide_eq_true hab, h2.2 hab]
     · rw [decide_eq_false hab]
       cases r with
       | true => exact absurd (h2.1 rfl) hab
       | false => rfl
   rw [e]
   show (Op.equalIn 10000 kt _ _).run P w = _
   rw [run_equalIn_struct w 9999 kt _ _ hu hp]; exact h1.run 9998 w _ hl) (fun w b k => run_checkKey_struct hu hl (hc k) 9998 b w) hb
theorem plain_agg {U : Type} {kd : U → D} {vs : U → List Value} (h : ∀ u, kd u = .agg ((vs u).map D.v)) : PlainK kd (fun u => .agg (vs u).toArray) := fun w X u => by
 have key : ∀ l : List Value, VL w X (l.map D.v) l ∧ ∀ l', VL w X (l.map D.v) l' → l' = l := by
   intro l
   induction l with
   | nil => exact ⟨.nil, fun l' h => by cases h; rfl⟩
   | cons x l ih => exact ⟨.cons (.v x) ih.1, fun l' h => by
       cases h with
       | cons h1 h2 => cases h1; rw [ih.2 _ h2]⟩
 rw [h u]
 refine ⟨.agg (key _).1, fun v hv => ?_⟩
 cases hv with
 | agg h1 => rw [(key _).2 _ h1]
theorem plain_u : PlainK encU vU := plain_agg (vs := fun _ : Unit => []) (fun _ => rfl)
theorem plain_v {U : Type} (f : U → Value) : PlainK (fun u => D.v (f u)) f := fun w X u => ⟨.v _, fun v hv => by cases hv; rfl⟩
end
end Go.Lic
set_option linter.all false
namespace Go.Lic
open Go.Sort
def cloneCmp (x y : Clone) : Int := orF [cmpI x.a y.a, cmpI x.atA y.atA, cmpI x.b y.b, cmpI x.atB y.atB]
def rightL (l : List Text) : Bool := decide (l.length ≤ 64) && decide (checkT none l = 0)
def insideT (t : Text) (at_ n : Int) : Bool := decide (n ≤ (t.words.length : Int)) && decide (at_ ≤ (t.words.length : Int) - n)
def sameW (a : Text) (i : Int) (b : Text) (j : Int) : Bool := decide (0 ≤ i) && decide (0 ≤ j) && decide (i < (a.words.length : Int)) && decide (j < (b.words.length : Int)) && decide ((gi a.words i).text = (gi b.words j).text)
def toN (A B : List Lexeme) (i j : Nat) : Nat := commonW (A.drop i) (B.drop j)
def backN (A B : List Lexeme) (i j : Nat) : Nat := commonW (A.take i).reverse (B.take j).reverse
def lenC (a : Text) (i : Int) (b : Text) (j : Int) : Int := if sameW a (i - 1) b (j - 1) then 0 else (toN a.words b.words i.toNat j.toNat : Nat)
def pairF (l : List Text) (a at_ b n : Int) : List Clone :=
 ((List.range (gi l b).words.length).filter fun j => (decide (a ≠ b) || decide (at_ < (j : Nat))) && decide (n ≤ lenC (gi l a) at_ (gi l b) (j : Nat))).map fun j => ⟨a, at_, b, ((j : Nat) : Int), lenC (gi l a) at_ (gi l b) (j : Nat)⟩
def okB (only : Int) (a b : Nat) : Bool := decide (a ≤ b) && (decide (only < 0) || (decide ((b : Int) = only) && decide ((a : Int) ≠ only)))
def refL (l : List Text) (n only : Int) : List Clone :=
 (List.range l.length).flatMap fun a => (List.range (gi l (a : Nat)).words.length).flatMap fun i => ((List.range l.length).filter (okB only a)).flatMap fun b => pairF l (a : Nat) (i : Nat) (b : Nat) n
def clonesF (l : List Text) (k w only : Int) : List Clone × Int := if 1024 < (refL l (k + w - 1) only).length then ([], 10) else (refL l (k + w - 1) only, 0)
def findC (l : List Text) (k w : Int) : List Clone × Int := if rightL l then if sizeF k && sizeF w then clonesF l k w (-1) else ([], 3) else ([], 1)
def againstC (c : Corpus) (t : Text) : List Clone × Int := if checkF c = 0 ∧ validT t = true then clonesF (c.texts ++ [t]) c.k c.w c.texts.length else ([], 1)
def sameAt (i : Int) (a : List Lexeme) (x : Clone) (b : List Lexeme) : Bool := decide ((gi a (x.atA + i)).text = (gi b (x.atB + i)).text)
def orderedC (l : List Text) (x : Clone) : Bool := decide (0 ≤ x.a) && decide (x.b < (l.length : Int)) && decide (0 ≤ x.atA) && decide (0 ≤ x.atB) && decide (1 ≤ x.len) && (decide (x.a < x.b) || (decide (x.a = x.b) && decide (x.atA < x.atB)))
def checkC (l : List Text) (x : Clone) (n : Int) : Int := if orderedC l x then if lenC (gi l x.a) x.atA (gi l x.b) x.atB = x.len then if x.len < n then 13 else 0 else 18 else 3
def checkF29 (l : List Text) (x : Clone) (n : Int) : Int := if rightL l then checkC l x n else 1
abbrev CSt := List (CloneDiagonal × Int) × List (Clone × Unit)
abbrev CPr := ClonePlace × ClonePlace
def diagP (p : CPr) : CloneDiagonal := ⟨p.1.text, p.2.text, p.2.at_ - p.1.at_⟩
def toP (texts : List Text) (p : CPr) : Nat := toN (gi texts p.1.text).words (gi texts p.2.text).words p.1.at_.toNat p.2.at_.toNat
def backP (texts : List Text) (p : CPr) : Nat := backN (gi texts p.1.text).words (gi texts p.2.text).words p.1.at_.toNat p.2.at_.toNat
def cloneP (texts : List Text) (p : CPr) : Clone := ⟨p.1.text, p.1.at_ - backP texts p, p.2.text, p.2.at_ - backP texts p, (backP texts p : Int) + toP texts p⟩
def lookF (texts : List Text) (least : Int) (seen : List (CloneDiagonal × Int)) (found : List (Clone × Unit)) (x y : ClonePlace) : CSt :=
 if kget 0 seen (diagP (x, y)) > x.at_ then (seen, found) else
 (kset seen (diagP (x, y)) (x.at_ + ((max (toP texts (x, y)) 1 : Nat) : Int)), if least ≤ (backP texts (x, y) : Int) + toP texts (x, y) ∧ 0 < toP texts (x, y) then kset found (cloneP texts (x, y)) () else found)
def skipF (only : Int) (x y : ClonePlace) : Bool := decide (y = x) || decide (y.text < x.text) || (decide (y.text = x.text) && decide (y.at_ < x.at_)) || (decide (0 ≤ only) && (decide (y.text ≠ only) || decide (x.text = only)))
def stepF (texts : List Text) (least only : Int) (s : CSt) (p : CPr) : Option CSt :=
 if skipF only p.1 p.2 then some s else if 1024 < (lookF texts least s.1 s.2 p.1 p.2).2.length then none else some (lookF texts least s.1 s.2 p.1 p.2)
def scanF (texts : List Text) (least only : Int) : List CPr → CSt → Option CSt
 | [], s => some s
 | p :: l, s => (stepF texts least only s p).bind (scanF texts least only l)
def plOf (p : Pst) : ClonePlace := ⟨p.text, p.at_⟩
def putP (m : List (Int × List ClonePlace)) (p : Pst) : List (Int × List ClonePlace) := mset m p.hash (mget [] m p.hash ++ [plOf p])
def placesF (l : List Pst) : List (Int × List ClonePlace) := l.foldl putP []
def pairsX (all : List Pst) (x : Pst) : List CPr := (mget [] (placesF all) x.hash).map fun y => (plOf x, y)
def pairsF (all : List Pst) : List CPr := all.flatMap (pairsX all)
structure OkP (texts : List Text) (p : CPr) : Prop where
 a : inL p.1.text texts.length
 b : inL p.2.text texts.length
 x0 : 0 ≤ p.1.at_
 x1 : p.1.at_ ≤ (gi texts p.1.text).words.length
 y0 : 0 ≤ p.2.at_
 y1 : p.2.at_ ≤ (gi texts p.2.text).words.length
end Go.Lic
