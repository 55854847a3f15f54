/-
  Families of texts: labels, and which ones there can be. No program in sight.
-/
import Derived.Test.YtglclijalehcmaaGreatDoorKp
set_option linter.all false
namespace Go.Lic
open Go.Proofs Go.Sort Go.Shelf
def badC (n : Int) (c : Clone) : Bool := decide (c.a < 0) || decide (n ≤ c.a) || decide (c.b < 0) || decide (n ≤ c.b)
def idL (n : Int) : List Int := (List.range n.toNat).map fun (i : Nat) => (i : Int)
def lessZ (a b : Int) : Int := if b < a then b else a
def moreZ (a b : Int) : Int := if a < b then b else a
def relabel (g : List Int) (c : Clone) : List Int := g.map fun y => if y = moreZ (gi g c.a) (gi g c.b) then lessZ (gi g c.a) (gi g c.b) else y
def labF (n : Int) (x : List Clone) : List Int := x.foldl relabel (idL n)
def membersF (g : List Int) (i : Int) : List Int := ((List.range g.length).filter fun k => decide (gi g (k : Nat) = i)).map fun (k : Nat) => (k : Int)
def famL (n : Int) (g : List Int) : List (List Int) := ((List.range n.toNat).map fun (i : Nat) => membersF g i).filter fun l => decide (1 < l.length)
def famF (n : Int) (x : List Clone) : List (List Int) × Int := if n < 0 ∨ 64 < n then ([], 3) else if x.any (badC n) then ([], 3) else (famL n (labF n x), 0)
end Go.Lic
