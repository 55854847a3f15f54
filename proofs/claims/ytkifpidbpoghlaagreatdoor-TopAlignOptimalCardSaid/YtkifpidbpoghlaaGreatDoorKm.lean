/-
  The conditions of functions of chapter 26 hold: posts, faults, changes. No program in sight.
-/
import Derived.Test.YtkifpidbpoghlaaGreatDoorCo2
import Derived.Test.YtkifpidbpoghlaaGreatDoorSort
import Derived.Test.YtkifpidbpoghlaaGreatDoorCv0
import Derived.Test.YtkifpidbpoghlaaGreatDoorMat
import Derived.Test.YtkifpidbpoghlaaGreatDoorMapK
import Derived.Test.YtkifpidbpoghlaaGreatDoorSm
set_option linter.all false
namespace Go.Lic
open Go.Proofs Go.Sort Go.Shelf
theorem postsOf_len (i : Nat) (l : List Print) : (postsOf i l).length = l.length := by simp [postsOf]
theorem flatP_len : ∀ (l : List Text) (i : Nat) (k w : Int), (∀ t ∈ l, okT t) → (flatP i l k w).length ≤ l.length * 1000001
 | [], i, k, w, _ => by simp [flatP]
 | t :: l, i, k, w, h => by
   have h1 := flatP_len l (i + 1) k w (fun u hu => h u (List.mem_cons_of_mem _ hu))
   have h2 := prints_len t k w
   have h3 := (h t (by simp)).2.1
   simp only [flatP, List.length_append, postsOf_len, List.length_cons]
   omega
theorem flatP_at {l : List Text} {x : Int} (h : inL x l.length) (k w : Int) : flatP x.toNat (l.drop x.toNat) k w = postsOf x.toNat (printsF (gi l x) k w).1 ++ flatP (x + 1).toNat (l.drop (x + 1).toNat) k w := by
 rw [drop_gi h, show (x + 1).toNat = x.toNat + 1 by omega]; rfl
theorem postsOf_at {l : List Print} {x : Int} (h : inL x l.length) (i : Nat) : postsOf i (l.drop x.toNat) = ⟨(gi l x).hash, (i : Int), (gi l x).at_⟩ :: postsOf i (l.drop (x + 1).toNat) := by
 rw [drop_gi h]; rfl
def pathAt (l : List Text) (i : Int) : Option ByteArray := if i > 0 then some (gi l (i - 1)).path else none
theorem checkT_at {l : List Text} {x : Int} (h : inL x l.length) : checkT (pathAt l x) (l.drop x.toNat) = if validT (gi l x) then if (x > 0 → sless (gi l (x - 1)).path (gi l x).path = true) then checkT (pathAt l (x + 1)) (l.drop (x + 1).toNat) else 5 else 1 := by
 rw [drop_gi h, checkT]
 have e : pathAt l (x + 1) = some (gi l x).path := by unfold pathAt; rw [if_pos (by omega), show x + 1 - 1 = x by omega]
 rw [e]
 by_cases hv : validT (gi l x) = true
 · rw [if_pos hv, if_pos hv]
   by_cases hx : x > 0
   · have e2 : pathAt l x = some (gi l (x - 1)).path := by unfold pathAt; rw [if_pos hx]
     rw [e2]
     simp only [Option.all_some]
     by_cases hs : sless (gi l (x - 1)).path (gi l x).path = true
     · rw [if_pos hs, if_pos (fun _ => hs)]
     · rw [if_neg hs, if_neg (fun k => hs (k hx))]
   · have e2 : pathAt l x = none := by unfold pathAt; rw [if_neg hx]
     rw [e2, if_pos (show (Option.all (fun q => sless q (gi l x).path) none = true) from rfl), if_pos (fun k => absurd k hx)]
 · rw [if_neg hv, if_neg hv]
theorem le_sless (a b : ByteArray) : (sless a b || decide (a = b)) = true ↔ ¬ sless b a = true := by
 rw [Bool.or_eq_true, decide_eq_true_eq]
 constructor
 · rintro (h | h)
   · exact sl_asymm h
   · rw [h]; exact sl_irrefl _
 · intro h
   rcases sl_tri a b with h1 | h1 | h1
   · exact .inl h1
   · exact .inr h1
   · exact absurd h1 h
end Go.Lic
set_option linter.all false
namespace Go.Lic
end Go.Lic
set_option linter.all false
namespace Go.Lic
open Go.Sort
def runMax (a : List Lexeme) : List Lexeme → Nat
 | [] => 0
 | x :: l => max (commonW (x :: l) a) (runMax a l)
def longW (ts : List Text) (a : List Lexeme) : Nat := ts.foldl (fun m t => max m (runMax a t.words)) 0
def longsN (ts : List Text) : List Lexeme → List Nat
 | [] => []
 | w :: l => longW ts (w :: l) :: longsN ts l
end Go.Lic
set_option linter.all false
namespace Go.Lic
open Go.Proofs Go.Sort Go.Shelf
end Go.Lic
set_option linter.all false
namespace Go.Lic
open Go.Sort
theorem common_le : ∀ a b : List Lexeme, commonW a b ≤ a.length ∧ commonW a b ≤ b.length
 | [], b => by simp [commonW]
 | _ :: _, [] => by simp [commonW]
 | x :: a, y :: b => by
   rw [commonW]
   have := common_le a b
   split <;> simp <;> omega
@[simp] theorem longsN_len (ts : List Text) : ∀ l : List Lexeme, (longsN ts l).length = l.length
 | [] => rfl
 | w :: l => by simp [longsN, longsN_len ts l]
end Go.Lic
set_option linter.all false
namespace Go.Lic
open Go.Proofs Go.Sort Go.Shelf
theorem hash_texts : ∀ (a b : List Lexeme) (h : Int), a.map (fun x => x.text) = b.map (fun x => x.text) → a.foldl (fun h w => pushF h w.text) h = b.foldl (fun h w => pushF h w.text) h
 | [], [], _, _ => rfl
 | x :: a, y :: b, h, e => by
   simp only [List.map_cons, List.cons.injEq] at e
   simp only [List.foldl_cons]
   rw [e.1]; exact hash_texts a b _ e.2
 | [], _ :: _, _, e => by simp at e
 | _ :: _, [], _, e => by simp at e
theorem grams_at {l : List Lexeme} {k i : Nat} (h : i + k ≤ l.length) : gi (gramsL l k) (i : Int) = hashF ((l.drop i).take k) := by
 rw [gi_nat (by rw [grams_len]; omega)]; simp [gramsL]
theorem common_map : ∀ (a b : List Lexeme) (n : Nat), n ≤ commonW a b → (a.take n).map (fun x => x.text) = (b.take n).map (fun x => x.text)
 | _, _, 0, _ => by simp
 | [], _, n + 1, h => by simp [commonW] at h
 | _ :: _, [], n + 1, h => by simp [commonW] at h
 | x :: a, y :: b, n + 1, h => by
   simp only [commonW] at h
   split at h
   · next e => simp only [List.take_succ_cons, List.map_cons, e, common_map a b n (by omega)]
   · omega
theorem guarantee {a b : List Lexeme} {k w i j : Nat} (hk : 0 < k) (hw : 0 < w) (hi : i ≤ a.length) (hj : j ≤ b.length) (h : k + w - 1 ≤ commonW (a.drop i) (b.drop j)) : ∃ (d : Nat) (g : Int), d < w ∧ (⟨g, (i : Int) + d⟩ : Print) ∈ printsL a k w ∧ (⟨g, (j : Int) + d⟩ : Print) ∈ printsL b k w := by
 obtain ⟨c1, c2⟩ := common_le (a.drop i) (b.drop j)
 rw [List.length_drop] at c1 c2
 have hg : ∀ d : Nat, d < w → gi (gramsL a k) ((i : Int) + d) = gi (gramsL b k) ((j : Int) + d) := fun d hd => by
   rw [show (i : Int) + d = ((i + d : Nat) : Int) by omega, show (j : Int) + d = ((j + d : Nat) : Int) by omega, grams_at (by omega), grams_at (by omega)]
   refine hash_texts _ _ _ ?_
   have e := congrArg (fun l => (l.drop d).take k) (common_map _ _ _ h)
   simp only [List.map_take, List.map_drop, List.drop_take, List.take_take, List.drop_drop] at e
   rw [Nat.min_eq_left (by omega)] at e
   simpa [List.map_take, List.map_drop] using e
 have h1 := leastF_spec (l := gramsL a k) (show (i : Int) < (i : Int) + w by omega)
 obtain ⟨m, hm⟩ : ∃ m, m = leastF (gramsL a k) (i : Int) ((i : Int) + w) := ⟨_, rfl⟩
 rw [← hm] at h1
 obtain ⟨d, hd⟩ : ∃ d : Nat, m = (i : Int) + d := ⟨(m - i).toNat, by have := h1.1; omega⟩
 subst hd
 have hdw : d < w := by have := h1.2.1; omega
 have h2 : IsL (gramsL b k) (j : Int) ((j : Int) + w) ((j : Int) + d) := ⟨by omega, by omega, fun x x1 x2 => by
     obtain ⟨e, rfl⟩ : ∃ e : Nat, x = (j : Int) + e := ⟨(x - j).toNat, by omega⟩
     rw [← hg d hdw, ← hg e (by omega)]; exact h1.2.2.1 _ (by omega) (by omega), fun x x1 x2 => by
     obtain ⟨e, rfl⟩ : ∃ e : Nat, x = (j : Int) + e := ⟨(x - j).toNat, by omega⟩
     rw [← hg d hdw, ← hg e (by omega)]; exact h1.2.2.2 _ (by omega) (by omega)⟩
 refine ⟨d, gi (gramsL a k) ((i : Int) + d), hdw, ?_, ?_⟩
 · unfold printsL
   rw [List.mem_map]
   exact ⟨_, (selL_mem hw).2 ⟨i, by rw [grams_len]; omega, h1⟩, rfl⟩
 · unfold printsL
   rw [List.mem_map]
   exact ⟨_, (selL_mem hw).2 ⟨j, by rw [grams_len]; omega, h2⟩, by rw [hg d hdw]⟩
end Go.Lic
set_option linter.all false
namespace Go.Lic
open Go.Sort
theorem lfp4 {A B C E : Type} (f : (A × B × C × E → Prop) → A → B → C → E → Prop) (Inv : A → B → C → E → Prop) (m : A → B → C → E → Nat) (round : ∀ a b c d, Inv a b c d → ∀ again : A × B × C × E → Prop, (∀ a' b' c' d', Inv a' b' c' d' → m a' b' c' d' < m a b c d → again (a', b', c', d')) → f again a b c d) {a : A} {b : B} {c : C} {d : E} (h : Inv a b c d) : lfp (S := A × B × C × E) (fun again ss => f again ss.1 ss.2.1 ss.2.2.1 ss.2.2.2) (a, b, c, d) :=
 lfp_of (fun s => Inv s.1 s.2.1 s.2.2.1 s.2.2.2) (fun s => m s.1 s.2.1 s.2.2.1 s.2.2.2) (fun s hs again hag => round s.1 s.2.1 s.2.2.1 s.2.2.2 hs again fun a' b' c' d' h1 h2 => hag (a', b', c', d') h1 h2) h
theorem lfp6 {A B C E F G : Type} (f : (A × B × C × E × F × G → Prop) → A → B → C → E → F → G → Prop) (Inv : A → B → C → E → F → G → Prop) (m : A → B → C → E → F → G → Nat) (round : ∀ a b c d e g, Inv a b c d e g → ∀ again : A × B × C × E × F × G → Prop, (∀ a' b' c' d' e' g', Inv a' b' c' d' e' g' → m a' b' c' d' e' g' < m a b c d e g → again (a', b', c', d', e', g')) → f again a b c d e g) {a : A} {b : B} {c : C} {d : E} {e : F} {g : G} (h : Inv a b c d e g) :
   lfp (S := A × B × C × E × F × G) (fun again ss => f again ss.1 ss.2.1 ss.2.2.1 ss.2.2.2.1 ss.2.2.2.2.1 ss.2.2.2.2.2) (a, b, c, d, e, g) :=
 lfp_of (fun s => Inv s.1 s.2.1 s.2.2.1 s.2.2.2.1 s.2.2.2.2.1 s.2.2.2.2.2) (fun s => m s.1 s.2.1 s.2.2.1 s.2.2.2.1 s.2.2.2.2.1 s.2.2.2.2.2) (fun s hs again hag => round s.1 s.2.1 s.2.2.1 s.2.2.2.1 s.2.2.2.2.1 s.2.2.2.2.2 hs again fun a' b' c' d' e' g' h1 h2 => hag (a', b', c', d', e', g') h1 h2) h
theorem has_app {c : Nat} {b : Blk} {h2 : Heap} : ∀ (h1 : Heap), Has c b h2 → Has c b (h1 ++ h2)
 | [], h => h
 | _ :: h1, h => .tail (has_app h1 h)
theorem repl_app {c c' : Nat} {b b' : Blk} {h2 h3 : Heap} : ∀ (h1 : Heap), Repl c b c' b' h2 h3 → Repl c b c' b' (h1 ++ h2) (h1 ++ h3)
 | [], h => h
 | _ :: h1, h => .tail (repl_app h1 h)
theorem splitF_ne (r sep : ByteArray) : splitF r sep ≠ [] := by
 unfold splitF
 intro h
 exact split_ne _ (List.map_eq_nil_iff.1 h)
theorem index_neg {l : List UInt8} {c : UInt8} (h : Lib.indexByte l c < 0) : ∀ x ∈ l, x ≠ c := by
 rcases Nat.eq_zero_or_pos (l.count c) with h1 | h1
 · intro x hx e; subst e
   exact absurd (List.count_pos_iff.2 hx) (by omega)
 · obtain ⟨p, r, e1, e2, e3⟩ := count_split h1
   omega
theorem splitF_last {s sep r : ByteArray} {j : Nat} (h1 : sep.size = 1) (hi : indexF r sep < 0) (hd : (splitF s sep).drop j = splitF r sep) : j + 1 = (splitF s sep).length ∧ gi (splitF s sep) (j : Int) = r := by
 have e : splitF r sep = [r] := by
   unfold splitF
   rw [split_none (index_neg hi)]; rfl
 rw [e] at hd
 have hl := congrArg List.length hd
 rw [List.length_drop, List.length_singleton] at hl
 refine ⟨by omega, ?_⟩
 rw [gi_nat (by omega)]
 have h2 := List.drop_eq_getElem_cons (l := splitF s sep) (i := j) (by omega)
 rw [h2] at hd
 exact (List.cons.inj hd).1
theorem splitF_step {s sep r : ByteArray} {j : Nat} (h1 : sep.size = 1) (hi : ¬ indexF r sep < 0) (hd : (splitF s sep).drop j = splitF r sep) :
   inS 0 (indexF r sep) r.size ∧ inS (indexF r sep + (sep.size : Int)) (r.size : Int) r.size ∧ gi (splitF s sep) (j : Int) = ssub r 0 (indexF r sep) ∧ (splitF s sep).drop (j + 1) = splitF (ssub r (indexF r sep + (sep.size : Int)) (r.size : Int)) sep ∧ (ssub r (indexF r sep + (sep.size : Int)) (r.size : Int)).size < r.size := by
 rcases Nat.eq_zero_or_pos (r.data.toList.count (sepOf sep)) with h0 | h0
 · refine absurd ?_ hi
   have key : ∀ l : List UInt8, l.count (sepOf sep) = 0 → Lib.indexByte l (sepOf sep) = -1 := by
     intro l
     induction l with
     | nil => intro _; rfl
     | cons x l ih =>
       intro h
       have hx : ¬ x = sepOf sep := fun e => by subst e; simp at h
       have h2 : l.count (sepOf sep) = 0 := by rwa [List.count_cons_of_ne hx] at h
       unfold Lib.indexByte
       rw [ih h2]
       have : (x == sepOf sep) = false := by simpa using hx
       rw [this]; rfl
   unfold indexF
   rw [key _ h0]; decide
 · obtain ⟨p, q, e1, e2, e3⟩ := count_split h0
   have er : r = ba (p ++ sepOf sep :: q) := by rw [← e1]; rfl
   have ei : indexF r sep = p.length := e3
   have hz : r.size = p.length + 1 + q.length := by rw [size_list, e1]; simp; omega
   have es : ssub r 0 (indexF r sep) = ba p := by
     rw [ei, er, ssub_ba]; simp
   have et : ssub r (indexF r sep + (sep.size : Int)) (r.size : Int) = ba q := by
     rw [ei, h1, er, ssub_ba, ba_size]
     have : ((p.length : Int) + ((1 : Nat) : Int)).toNat = p.length + 1 := by omega
     rw [this, List.take_of_length_le (by simp; omega), List.drop_append, List.drop_eq_nil_of_le (Nat.le_succ _)]
     simp
   have e4 : splitF r sep = ba p :: splitF (ba q) sep := by
     unfold splitF
     rw [e1, split_at e2]; rfl
   rw [e4] at hd
   have hl : j < (splitF s sep).length := by
     rcases Nat.lt_or_ge j (splitF s sep).length with hj | hj
     · exact hj
     · rw [List.drop_eq_nil_of_le hj] at hd; cases hd
   rw [List.drop_eq_getElem_cons hl] at hd
   obtain ⟨k1, k2⟩ := List.cons.inj hd
   rw [et, es, ei]
   refine ⟨⟨by omega, by omega, by omega⟩, ⟨by omega, by omega, by omega⟩, by rw [gi_nat hl]; exact k1, k2, by rw [ba_size]; omega⟩
end Go.Lic
set_option linter.all false
namespace Go.Lic
variable [Fl]
abbrev vU (_ : Unit) : Value := .agg #[]
abbrev encU (_ : Unit) : D := .agg []
section
variable {P : Program}
theorem run_checkKey_plain {t : TypeId} {d : TypeDesc} (ht : P.underlying t = some d) (hd : (∃ k, d = .int k) ∨ d = .string ∨ d = .bool) (n : Nat) (b : Bool) (v : Value) (w : World) : (Instr.checkKey b (n + 1) t v).run P w = .ok () w := by
 rw [Instr.checkKey]
 simp only [Sem.run_bind, run_underlying ht, Result.andThen_ok]
 rcases hd with ⟨k, rfl⟩ | rfl | rfl <;> simp [Sem.run_pure]
inductive CKey (P : Program) (xs : List Value) : List (Nat × TypeId) → Prop
 | nil : CKey P xs []
 | cons {o : Nat} {t : TypeId} {l : List (Nat × TypeId)} {d : TypeDesc} {v : Value} (ht : P.underlying t = some d) (hd : (∃ k, d = .int k) ∨ d = .string ∨ d = .bool) (hti : TI P t 1 false) (hx : xs[o]? = some v) (h : CKey P xs l) : CKey P xs ((o, t) :: l)
theorem run_checkKey_struct {t : TypeId} {l : List (Nat × TypeId)} (hu : P.underlying t = some (.struct (P.fieldsOf t))) (hl : (P.fieldsOf t).toList.map (fun f => (f.name == "_", f.offset, f.type)) = l.map (fun p => (false, p.1, p.2))) {xs : List Value} (h : CKey P xs l) (n : Nat) (b : Bool) (w : World) :
   (Instr.checkKey b (n + 2) t (.agg xs.toArray)).run P w = .ok () w := by
 rw [Instr.checkKey]
 simp only [Sem.run_bind, run_underlying hu, Result.andThen_ok]
 generalize P.fieldsOf t = fs at hl
 obtain ⟨fs⟩ := fs
 simp only at hl
 rw [List.forIn_toArray]
 induction h generalizing fs with
 | nil =>
   have : fs = [] := by simpa using hl
   subst this
   simp [Sem.run_pure]
 | @cons o ty l d v ht hd hti hx h ih =>
   cases fs with
   | nil => simp at hl
   | cons f fs =>
     simp only [List.map_cons, List.cons.injEq, Prod.mk.injEq] at hl
     obtain ⟨⟨h1, h2, h3⟩, hf⟩ := hl
     have h1' : f.name ≠ "_" := by simpa using h1
     rw [List.forIn_cons]
     simp only [h1', ne_eq, not_false_eq_true, if_true, Sem.run_bind, h2, h3, run_part1 hti hx, Result.andThen_ok, run_checkKey_plain ht hd, Sem.run_pure]
     exact ih fs hf
theorem KeyT.struct {kt : TypeId} {U : Type} [DecidableEq U] {vs : U → List Value} {l : List (Nat × TypeId)} (hu : P.underlying kt = some (.struct (P.fieldsOf kt))) (hp : P.stoodInHeld kt = false) (hl : (P.fieldsOf kt).toList.map (fun f => (f.name == "_", f.offset, f.type)) = l.map (fun p => (false, p.1, p.2)))
   (hs : ∀ a b : U, ∃ r, SEq P (vs a) (vs b) l r ∧ (r = true ↔ a = b)) (hc : ∀ a : U, CKey P (vs a) l) (hb : ∀ k : U, Instr.sameBits 10000 (.agg (vs k).toArray) (.agg (vs k).toArray) = true) : KeyT P kt (fun u => .agg (vs u).toArray) :=
 KeyT.asking hu (fun _ _ => rfl) (fun w a b => by
   obtain ⟨r, h1, h2⟩ := hs a b
   have e : decide (a = b) = r := by
     by_cases hab : a = b
     · rw [decide_eq_true hab, h2.2 hab]
     · rw [decide_eq_false hab]
       cases r with
       | true => exact absurd (h2.1 rfl) hab
       | false => rfl
   rw [e]
   show (Op.equalIn 10000 kt _ _).run P w = _
   rw [run_equalIn_struct w 9999 kt _ _ hu hp]; exact h1.run 9998 w _ hl) (fun w b k => run_checkKey_struct hu hl (hc k) 9998 b w) hb
theorem plain_agg {U : Type} {kd : U → D} {vs : U → List Value} (h : ∀ u, kd u = .agg ((vs u).map D.v)) : PlainK kd (fun u => .agg (vs u).toArray) := fun w X u => by
 have key : ∀ l : List Value, VL w X (l.map D.v) l ∧ ∀ l', VL w X (l.map D.v) l' → l' = l := by
   intro l
   induction l with
   | nil => exact ⟨.nil, fun l' h => by cases h; rfl⟩
   | cons x l ih => exact ⟨.cons (.v x) ih.1, fun l' h => by
       cases h with
       | cons h1 h2 => cases h1; rw [ih.2 _ h2]⟩
 rw [h u]
 refine ⟨.agg (key _).1, fun v hv => ?_⟩
 cases hv with
 | agg h1 => rw [(key _).2 _ h1]
theorem plain_u : PlainK encU vU := plain_agg (vs := fun _ : Unit => []) (fun _ => rfl)
theorem plain_v {U : Type} (f : U → Value) : PlainK (fun u => D.v (f u)) f := fun w X u => ⟨.v _, fun v hv => by cases hv; rfl⟩
end
end Go.Lic
set_option linter.all false
namespace Go.Lic
open Go.Sort
def cloneCmp (x y : Clone) : Int := orF [cmpI x.a y.a, cmpI x.atA y.atA, cmpI x.b y.b, cmpI x.atB y.atB]
def rightL (l : List Text) : Bool := decide (l.length ≤ 64) && decide (checkT none l = 0)
def sameW (a : Text) (i : Int) (b : Text) (j : Int) : Bool := decide (0 ≤ i) && decide (0 ≤ j) && decide (i < (a.words.length : Int)) && decide (j < (b.words.length : Int)) && decide ((gi a.words i).text = (gi b.words j).text)
def toN (A B : List Lexeme) (i j : Nat) : Nat := commonW (A.drop i) (B.drop j)
def backN (A B : List Lexeme) (i j : Nat) : Nat := commonW (A.take i).reverse (B.take j).reverse
def lenC (a : Text) (i : Int) (b : Text) (j : Int) : Int := if sameW a (i - 1) b (j - 1) then 0 else (toN a.words b.words i.toNat j.toNat : Nat)
def pairF (l : List Text) (a at_ b n : Int) : List Clone :=
 ((List.range (gi l b).words.length).filter fun j => (decide (a ≠ b) || decide (at_ < (j : Nat))) && decide (n ≤ lenC (gi l a) at_ (gi l b) (j : Nat))).map fun j => ⟨a, at_, b, ((j : Nat) : Int), lenC (gi l a) at_ (gi l b) (j : Nat)⟩
def okB (only : Int) (a b : Nat) : Bool := decide (a ≤ b) && (decide (only < 0) || (decide ((b : Int) = only) && decide ((a : Int) ≠ only)))
def refL (l : List Text) (n only : Int) : List Clone :=
 (List.range l.length).flatMap fun a => (List.range (gi l (a : Nat)).words.length).flatMap fun i => ((List.range l.length).filter (okB only a)).flatMap fun b => pairF l (a : Nat) (i : Nat) (b : Nat) n
def clonesF (l : List Text) (k w only : Int) : List Clone × Int := if 1024 < (refL l (k + w - 1) only).length then ([], 10) else (refL l (k + w - 1) only, 0)
def findC (l : List Text) (k w : Int) : List Clone × Int := if rightL l then if sizeF k && sizeF w then clonesF l k w (-1) else ([], 3) else ([], 1)
abbrev CSt := List (CloneDiagonal × Int) × List (Clone × Unit)
abbrev CPr := ClonePlace × ClonePlace
def diagP (p : CPr) : CloneDiagonal := ⟨p.1.text, p.2.text, p.2.at_ - p.1.at_⟩
def toP (texts : List Text) (p : CPr) : Nat := toN (gi texts p.1.text).words (gi texts p.2.text).words p.1.at_.toNat p.2.at_.toNat
def backP (texts : List Text) (p : CPr) : Nat := backN (gi texts p.1.text).words (gi texts p.2.text).words p.1.at_.toNat p.2.at_.toNat
def cloneP (texts : List Text) (p : CPr) : Clone := ⟨p.1.text, p.1.at_ - backP texts p, p.2.text, p.2.at_ - backP texts p, (backP texts p : Int) + toP texts p⟩
def lookF (texts : List Text) (least : Int) (seen : List (CloneDiagonal × Int)) (found : List (Clone × Unit)) (x y : ClonePlace) : CSt :=
 if kget 0 seen (diagP (x, y)) > x.at_ then (seen, found) else
 (kset seen (diagP (x, y)) (x.at_ + ((max (toP texts (x, y)) 1 : Nat) : Int)), if least ≤ (backP texts (x, y) : Int) + toP texts (x, y) ∧ 0 < toP texts (x, y) then kset found (cloneP texts (x, y)) () else found)
def skipF (only : Int) (x y : ClonePlace) : Bool := decide (y = x) || decide (y.text < x.text) || (decide (y.text = x.text) && decide (y.at_ < x.at_)) || (decide (0 ≤ only) && (decide (y.text ≠ only) || decide (x.text = only)))
def stepF (texts : List Text) (least only : Int) (s : CSt) (p : CPr) : Option CSt :=
 if skipF only p.1 p.2 then some s else if 1024 < (lookF texts least s.1 s.2 p.1 p.2).2.length then none else some (lookF texts least s.1 s.2 p.1 p.2)
def scanF (texts : List Text) (least only : Int) : List CPr → CSt → Option CSt
 | [], s => some s
 | p :: l, s => (stepF texts least only s p).bind (scanF texts least only l)
def plOf (p : Pst) : ClonePlace := ⟨p.text, p.at_⟩
def putP (m : List (Int × List ClonePlace)) (p : Pst) : List (Int × List ClonePlace) := mset m p.hash (mget [] m p.hash ++ [plOf p])
def placesF (l : List Pst) : List (Int × List ClonePlace) := l.foldl putP []
def pairsX (all : List Pst) (x : Pst) : List CPr := (mget [] (placesF all) x.hash).map fun y => (plOf x, y)
def pairsF (all : List Pst) : List CPr := all.flatMap (pairsX all)
structure OkP (texts : List Text) (p : CPr) : Prop where
 a : inL p.1.text texts.length
 b : inL p.2.text texts.length
 x0 : 0 ≤ p.1.at_
 x1 : p.1.at_ ≤ (gi texts p.1.text).words.length
 y0 : 0 ≤ p.2.at_
 y1 : p.2.at_ ≤ (gi texts p.2.text).words.length
end Go.Lic
