/-
  Families of texts: labels, and which ones there can be. No program in sight.
-/
import Derived.Test.YtglclijalehcmaaGreatDoorKp
set_option linter.all false
namespace Go.Lic
open Go.Proofs Go.Sort Go.Shelf
def badC (n : Int) (c : Clone) : Bool := decide (c.a < 0) || decide (n ≤ c.a) || decide (c.b < 0) || decide (n ≤ c.b)
def idL (n : Int) : List Int := (List.range n.toNat).map fun (i : Nat) => (i : Int)
def lessZ (a b : Int) : Int := if b < a then b else a
def moreZ (a b : Int) : Int := if a < b then b else a
def relabel (g : List Int) (c : Clone) : List Int := g.map fun y => if y = moreZ (gi g c.a) (gi g c.b) then lessZ (gi g c.a) (gi g c.b) else y
def labF (n : Int) (x : List Clone) : List Int := x.foldl relabel (idL n)
def membersF (g : List Int) (i : Int) : List Int := ((List.range g.length).filter fun k => decide (gi g (k : Nat) = i)).map fun (k : Nat) => (k : Int)
def famL (n : Int) (g : List Int) : List (List Int) := ((List.range n.toNat).map fun (i : Nat) => membersF g i).filter fun l => decide (1 < l.length)
def famF (n : Int) (x : List Clone) : List (List Int) × Int := if n < 0 ∨ 64 < n then ([], 3) else if x.any (badC n) then ([], 3) else (famL n (labF n x), 0)
inductive Conn (x : List Clone) : Int → Int → Prop
 | refl (i : Int) : Conn x i i
 | edge {c : Clone} (h : c ∈ x) : Conn x c.a c.b
 | symm {i j : Int} (h : Conn x i j) : Conn x j i
 | trans {i j k : Int} (h : Conn x i j) (h' : Conn x j k) : Conn x i k
structure Lab (n : Int) (x : List Clone) (g : List Int) : Prop where
 len : (g.length : Int) = n
 le : ∀ i, 0 ≤ i → i < n → 0 ≤ gi g i ∧ gi g i ≤ i
 conn : ∀ i, 0 ≤ i → i < n → Conn x i (gi g i)
theorem idL_len {n : Int} (h : 0 ≤ n) : ((idL n).length : Int) = n := by simp [idL]; omega
theorem gi_idL {n i : Int} (h0 : 0 ≤ i) (h1 : i < n) : gi (idL n) i = i := by
 have : i.toNat < (idL n).length := by simp [idL]; omega
 rw [show i = ((i.toNat : Nat) : Int) by omega, gi_nat this]; simp [idL]
theorem lab_id {n : Int} (h : 0 ≤ n) (x : List Clone) : Lab n x (idL n) :=
 ⟨idL_len h, fun i h0 h1 => by rw [gi_idL h0 h1]; omega, fun i h0 h1 => by rw [gi_idL h0 h1]; exact .refl i⟩
theorem gi_mapK {f : Int → Int} {l : List Int} {i : Int} (h : inL i l.length) : gi (l.map f) i = f (gi l i) := by
 rw [gi_lt (by simpa using h), gi_lt h]; simp
theorem lab_relabel {n : Int} {x : List Clone} {g : List Int} (hg : Lab n x g) {c : Clone} (hc : c ∈ x) (hb : badC n c = false) : Lab n x (relabel g c) ∧ gi (relabel g c) c.a = gi (relabel g c) c.b ∧ ∀ i j, 0 ≤ i → i < n → 0 ≤ j → j < n → gi g i = gi g j → gi (relabel g c) i = gi (relabel g c) j := by
 simp only [badC, Bool.or_eq_false_iff, decide_eq_false_iff_not] at hb
 have hl := hg.len
 have ha := hg.le c.a (by omega) (by omega); have hb' := hg.le c.b (by omega) (by omega)
 have ga := hg.conn c.a (by omega) (by omega); have gb := hg.conn c.b (by omega) (by omega)
 have gab : Conn x (gi g c.a) (gi g c.b) := ga.symm.trans ((Conn.edge hc).trans gb)
 have hgi : ∀ i, 0 ≤ i → i < n → gi (relabel g c) i = if gi g i = moreZ (gi g c.a) (gi g c.b) then lessZ (gi g c.a) (gi g c.b) else gi g i := fun i h0 h1 => by unfold relabel; rw [gi_mapK (by omega)]
 have hm : (moreZ (gi g c.a) (gi g c.b) = gi g c.a ∧ gi g c.b ≤ gi g c.a) ∨ (moreZ (gi g c.a) (gi g c.b) = gi g c.b ∧ gi g c.a ≤ gi g c.b) := by unfold moreZ; split <;> omega
 have hz : (lessZ (gi g c.a) (gi g c.b) = gi g c.b ∧ gi g c.b ≤ gi g c.a) ∨ (lessZ (gi g c.a) (gi g c.b) = gi g c.a ∧ gi g c.a ≤ gi g c.b) := by unfold lessZ; split <;> omega
 have hcm : Conn x (moreZ (gi g c.a) (gi g c.b)) (lessZ (gi g c.a) (gi g c.b)) := by
   unfold moreZ lessZ
   split
   · split
     · omega
     · exact gab.symm
   · split
     · exact gab
     · have e : gi g c.a = gi g c.b := by omega
       exact .refl _
 refine ⟨⟨by simp [relabel]; omega, fun i h0 h1 => ?_, fun i h0 h1 => ?_⟩, ?_, fun i j h0 h1 h2 h3 e => ?_⟩
 · have := hg.le i h0 h1
   rw [hgi i h0 h1]
   split
   · next e => omega
   · exact this
 · rw [hgi i h0 h1]
   split
   · next e => have := hg.conn i h0 h1; rw [e] at this; exact this.trans hcm
   · exact hg.conn i h0 h1
 · rw [hgi c.a (by omega) (by omega), hgi c.b (by omega) (by omega)]
   split <;> split <;> omega
 · rw [hgi i h0 h1, hgi j h2 h3, e]
theorem lab_fold {n : Int} {x : List Clone} : ∀ (rest done : List Clone) (g : List Int), x = done ++ rest → (∀ c ∈ x, badC n c = false) → Lab n x g → (∀ c ∈ done, gi g c.a = gi g c.b) → Lab n x (rest.foldl relabel g) ∧ ∀ c ∈ x, gi (rest.foldl relabel g) c.a = gi (rest.foldl relabel g) c.b
 | [], done, g, hx, _, hg, hd => ⟨hg, fun c hc => hd c (by rw [hx] at hc; simpa using hc)⟩
 | c :: rest, done, g, hx, hb, hg, hd => by
   have hc : c ∈ x := by rw [hx]; simp
   obtain ⟨h1, h2, h3⟩ := lab_relabel hg hc (hb c hc)
   refine lab_fold rest (done ++ [c]) (relabel g c) (by rw [hx]; simp) hb h1 (fun d hd' => ?_)
   rcases List.mem_append.1 hd' with hd' | hd'
   · have hb' := hb d (by rw [hx]; exact List.mem_append_left _ hd')
     simp only [badC, Bool.or_eq_false_iff, decide_eq_false_iff_not] at hb'
     exact h3 _ _ (by omega) (by omega) (by omega) (by omega) (hd d hd')
   · simp at hd'; subst hd'; exact h2
theorem labF_lab {n : Int} (h : 0 ≤ n) {x : List Clone} (hb : ∀ c ∈ x, badC n c = false) : Lab n x (labF n x) ∧ ∀ c ∈ x, gi (labF n x) c.a = gi (labF n x) c.b :=
 lab_fold x [] (idL n) rfl hb (lab_id h x) (by simp)
end Go.Lic
