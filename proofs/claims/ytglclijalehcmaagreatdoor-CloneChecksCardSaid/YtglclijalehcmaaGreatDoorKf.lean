/-
  Families of texts: labels, and which ones there can be. No program in sight.
-/
import Derived.Test.YtglclijalehcmaaGreatDoorKp
set_option linter.all false
namespace Go.Lic
open Go.Proofs Go.Sort Go.Shelf
def badC (n : Int) (c : Clone) : Bool := decide (c.a < 0) || decide (n ≤ c.a) || decide (c.b < 0) || decide (n ≤ c.b)
def idL (n : Int) : List Int := (List.range n.toNat).map fun (i : Nat) => (i : Int)
def lessZ (a b : Int) : Int := if b < a then b else a
def moreZ (a b : Int) : Int := if a < b then b else a
def relabel (g : List Int) (c : Clone) : List Int := g.map fun y => if y = moreZ (gi g c.a) (gi g c.b) then lessZ (gi g c.a) (gi g c.b) else y
def labF (n : Int) (x : List Clone) : List Int := x.foldl relabel (idL n)
def membersF (g : List Int) (i : Int) : List Int := ((List.range g.length).filter fun k => decide (gi g (k : Nat) = i)).map fun (k : Nat) => (k : Int)
def famL (n : Int) (g : List Int) : List (List Int) := ((List.range n.toNat).map fun (i : Nat) => membersF g i).filter fun l => decide (1 < l.length)
def famF (n : Int) (x : List Clone) : List (List Int) × Int := if n < 0 ∨ 64 < n then ([], 3) else if x.any (badC n) then ([], 3) else (famL n (labF n x), 0)
inductive Conn (x : List Clone) : Int → Int → Prop
 | refl (i : Int) : Conn x i i
 | edge {c : Clone} (h : c ∈ x) : Conn x c.a c.b
 | symm {i j : Int} (h : Conn x i j) : Conn x j i
 | trans {i j k : Int} (h : Conn x i j) (h' : Conn x j k) : Conn x i k
structure Lab (n : Int) (x : List Clone) (g : List Int) : Prop where
 len : (g.length : Int) = n
 le : ∀ i, 0 ≤ i → i < n → 0 ≤ gi g i ∧ gi g i ≤ i
 conn : ∀ i, 0 ≤ i → i < n → Conn x i (gi g i)
theorem conn_const {x : List Clone} {g : List Int} (h : ∀ c ∈ x, gi g c.a = gi g c.b) {i j : Int} (hc : Conn x i j) : gi g i = gi g j := by
 induction hc with
 | refl => rfl
 | edge hc => exact h _ hc
 | symm _ ih => exact ih.symm
 | trans _ _ h1 h2 => exact h1.trans h2
theorem lab_uniq {n : Int} {x : List Clone} {g k : List Int} (hg : Lab n x g) (cg : ∀ c ∈ x, gi g c.a = gi g c.b) (hk : Lab n x k) (ck : ∀ c ∈ x, gi k c.a = gi k c.b) : g = k := by
 have hl := hg.len; have hl2 := hk.len
 refine list_ext_gi (by omega) fun i h0 h1 => ?_
 have a1 := hg.le i h0 (by omega); have a2 := hk.le i h0 (by omega)
 have b1 := conn_const cg (hk.conn i h0 (by omega))
 have b2 := conn_const ck (hg.conn i h0 (by omega))
 have c1 := hg.le (gi k i) (by omega) (by omega)
 have c2 := hk.le (gi g i) (by omega) (by omega)
 omega
theorem idL_len {n : Int} (h : 0 ≤ n) : ((idL n).length : Int) = n := by simp [idL]; omega
theorem gi_idL {n i : Int} (h0 : 0 ≤ i) (h1 : i < n) : gi (idL n) i = i := by
 have : i.toNat < (idL n).length := by simp [idL]; omega
 rw [show i = ((i.toNat : Nat) : Int) by omega, gi_nat this]; simp [idL]
theorem lab_id {n : Int} (h : 0 ≤ n) (x : List Clone) : Lab n x (idL n) :=
 ⟨idL_len h, fun i h0 h1 => by rw [gi_idL h0 h1]; omega, fun i h0 h1 => by rw [gi_idL h0 h1]; exact .refl i⟩
theorem gi_mapK {f : Int → Int} {l : List Int} {i : Int} (h : inL i l.length) : gi (l.map f) i = f (gi l i) := by
 rw [gi_lt (by simpa using h), gi_lt h]; simp
theorem lab_relabel {n : Int} {x : List Clone} {g : List Int} (hg : Lab n x g) {c : Clone} (hc : c ∈ x) (hb : badC n c = false) : Lab n x (relabel g c) ∧ gi (relabel g c) c.a = gi (relabel g c) c.b ∧ ∀ i j, 0 ≤ i → i < n → 0 ≤ j → j < n → gi g i = gi g j → gi (relabel g c) i = gi (relabel g c) j := by
 simp only [badC, Bool.or_eq_false_iff, decide_eq_false_iff_not] at hb
 have hl := hg.len
 have ha := hg.le c.a (by omega) (by omega); have hb' := hg.le c.b (by omega) (by omega)
 have ga := hg.conn c.a (by omega) (by omega); have gb := hg.conn c.b (by omega) (by omega)
 have gab : Conn x (gi g c.a) (gi g c.b) := ga.symm.trans ((Conn.edge hc).trans gb)
 have hgi : ∀ i, 0 ≤ i → i < n → gi (relabel g c) i = if gi g i = moreZ (gi g c.a) (gi g c.b) then lessZ (gi g c.a) (gi g c.b) else gi g i := fun i h0 h1 => by unfold relabel; rw [gi_mapK (by omega)]
 have hm : (moreZ (gi g c.a) (gi g c.b) = gi g c.a ∧ gi g c.b ≤ gi g c.a) ∨ (moreZ (gi g c.a) (gi g c.b) = gi g c.b ∧ gi g c.a ≤ gi g c.b) := by unfold moreZ; split <;> omega
 have hz : (lessZ (gi g c.a) (gi g c.b) = gi g c.b ∧ gi g c.b ≤ gi g c.a) ∨ (lessZ (gi g c.a) (gi g c.b) = gi g c.a ∧ gi g c.a ≤ gi g c.b) := by unfold lessZ; split <;> omega
 have hcm : Conn x (moreZ (gi g c.a) (gi g c.b)) (lessZ (gi g c.a) (gi g c.b)) := by
   unfold moreZ lessZ
   split
   · split
     · omega
     · exact gab.symm
   · split
     · exact gab
     · have e : gi g c.a = gi g c.b := by omega
       exact .refl _
 refine ⟨⟨by simp [relabel]; omega, fun i h0 h1 => ?_, fun i h0 h1 => ?_⟩, ?_, fun i j h0 h1 h2 h3 e => ?_⟩
 · have := hg.le i h0 h1
   rw [hgi i h0 h1]
   split
   · next e => omega
   · exact this
 · rw [hgi i h0 h1]
   split
   · next e => have := hg.conn i h0 h1; rw [e] at this; exact this.trans hcm
   · exact hg.conn i h0 h1
 · rw [hgi c.a (by omega) (by omega), hgi c.b (by omega) (by omega)]
   split <;> split <;> omega
 · rw [hgi i h0 h1, hgi j h2 h3, e]
theorem lab_fold {n : Int} {x : List Clone} : ∀ (rest done : List Clone) (g : List Int), x = done ++ rest → (∀ c ∈ x, badC n c = false) → Lab n x g → (∀ c ∈ done, gi g c.a = gi g c.b) → Lab n x (rest.foldl relabel g) ∧ ∀ c ∈ x, gi (rest.foldl relabel g) c.a = gi (rest.foldl relabel g) c.b
 | [], done, g, hx, _, hg, hd => ⟨hg, fun c hc => hd c (by rw [hx] at hc; simpa using hc)⟩
 | c :: rest, done, g, hx, hb, hg, hd => by
   have hc : c ∈ x := by rw [hx]; simp
   obtain ⟨h1, h2, h3⟩ := lab_relabel hg hc (hb c hc)
   refine lab_fold rest (done ++ [c]) (relabel g c) (by rw [hx]; simp) hb h1 (fun d hd' => ?_)
   rcases List.mem_append.1 hd' with hd' | hd'
   · have hb' := hb d (by rw [hx]; exact List.mem_append_left _ hd')
     simp only [badC, Bool.or_eq_false_iff, decide_eq_false_iff_not] at hb'
     exact h3 _ _ (by omega) (by omega) (by omega) (by omega) (hd d hd')
   · simp at hd'; subst hd'; exact h2
theorem labF_lab {n : Int} (h : 0 ≤ n) {x : List Clone} (hb : ∀ c ∈ x, badC n c = false) : Lab n x (labF n x) ∧ ∀ c ∈ x, gi (labF n x) c.a = gi (labF n x) c.b :=
 lab_fold x [] (idL n) rfl hb (lab_id h x) (by simp)
def sumN (l : List Int) : Nat := (l.map Int.toNat).sum
theorem sumN_set : ∀ (l : List Int) (i : Nat) (v : Int), i < l.length → 0 ≤ v → v < l.getD i default → sumN (l.set i v) < sumN l
 | y :: l, 0, v, _, h0, h1 => by
   simp [sumN] at *; omega
 | y :: l, i + 1, v, hi, h0, h1 => by
   have := sumN_set l i v (by simpa using hi) h0 (by simpa using h1)
   simp [sumN] at *; omega
theorem sumN_si {l : List Int} {i v : Int} (hi : inL i l.length) (h0 : 0 ≤ v) (h1 : v < gi l i) : sumN (si l i v) < sumN l := sumN_set l i.toNat v (by omega) h0 h1
theorem lab_si {n : Int} {x : List Clone} {g : List Int} (hg : Lab n x g) {i v : Int} (h0 : 0 ≤ i) (h1 : i < n) (hv0 : 0 ≤ v) (hv1 : v < gi g i) (hc : Conn x i v) : Lab n x (si g i v) := by
 have hl := hg.len
 have hgi : ∀ j, 0 ≤ j → gi (si g i v) j = if j = i then v else gi g j := fun j hj => by
   unfold gi si
   rw [List.getD_eq_getElem?_getD, List.getElem?_set, List.getD_eq_getElem?_getD]
   by_cases e : j = i
   · subst e
     rw [if_pos rfl, if_pos rfl, if_pos (by omega)]; rfl
   · rw [if_neg e, if_neg (by omega)]
 refine ⟨by rw [si_length]; exact hl, fun j j0 j1 => ?_, fun j j0 j1 => ?_⟩
 · rw [hgi j j0]
   have := hg.le i h0 h1; have := hg.le j j0 j1
   split
   · next e => subst e; omega
   · omega
 · rw [hgi j j0]
   split
   · next e => subst e; exact hc
   · exact hg.conn j j0 j1
end Go.Lic
