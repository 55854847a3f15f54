/-
  What an argument of the given statements reads as: from the reading of the statement to the abstract data of the walks.
-/
import Derived.Test.YtkifpidbpoghlaaGreatDoorRule
import Derived.ProofKit
import Derived.OpenShut
import Derived.Carry
import Derived.Test.YtkifpidbpoghlaaGreatDoorVr
set_option linter.all false
namespace Go.Lic
open Go.ChangeShapes Go.WideShapes Go.ChangeAt Go.RowKit
def Reads (P : Program) (t : TypeId) (sz : Nat) {T : Type} (enc : T → D) : Prop :=
 ∀ (H : Type) (eh : TypeId × Value → H) (w : World) (sp : Nat → Bool) (hd : Bool) (fuel : Nat) (cs : List Value) (x : DataW H × List MemPlace), DataW.trod eh P w 0 sp hd fuel t cs = some x → ∃ a : T, VL w (fun _ => False) (enc a).flat cs ∧ (enc a).ok sz
theorem Reads.string {P : Program} {t : TypeId} (ht : P.underlying t = some .string) : Reads P t 1 D.s := by
 intro H eh w sp hd fuel cs x h
 obtain ⟨s, rfl, _, _⟩ := DataW.trod_string ht h
 exact ⟨s, .cons (.v _) .nil, .of rfl⟩
theorem Reads.arg1 {P : Program} {t : TypeId} {T : Type} {enc : T → D} (hr : Reads P t 1 enc) (hflat : ∀ a, (enc a).flat = [enc a]) {W : World} {base : Nat} {v : Value} (hno : ∀ cs, ¬ Value.okWide P W .any base t (.agg cs)) (hval : Value.okWide P W .any base t v)
   {H : Type} {eh : TypeId × Value → H} {sp : Nat → Bool} {hd : Bool} {d : DataW H} {ps : List MemPlace} (h : DataW.Trod eh P W 0 sp hd t v d ps) : ∃ a, V W (fun _ => False) (enc a) v := by
 obtain ⟨fuel, hf⟩ := h
 obtain ⟨a, h1, _⟩ := hr H eh W sp hd fuel _ _ hf
 refine ⟨a, ?_⟩
 rw [hflat] at h1
 have hc : v.cells = #[v] := by
   cases v with
   | agg cs => exact absurd hval (hno cs)
   | _ => rfl
 rw [hc] at h1
 cases h1 with
 | cons h2 _ => exact h2
theorem below_of_ext {W W' : World} (h : Ext (fun _ => False) W W') : Below W.heap.size W W' := ⟨h.os, h.tape, h.output, h.size, fun k hk => h.keep k hk (fun x => x)⟩
theorem trodAll_stays {H : Type} {eh : TypeId × Value → H} {P : Program} (hl : laidOutB P = true) {W W' : World} (hb : Below W.heap.size W W') : ∀ (ts : List TypeId) (vs : List Value) (ds : List (DataW H)) (ps : List MemPlace), (∀ t ∈ ts, P.readableRec t = true ∧ t < P.types.size) →
   DataW.TrodAll eh P W 0 (fun _ => true) true ts vs ds ps → (∀ x ∈ ps, x.block < W.heap.size) → DataW.TrodAll eh P W' 0 (fun b => decide (b < W.heap.size)) true ts vs ds ps
 | [], [], [], _, _, h, _ => h
 | t :: ts, v :: vs, d :: ds, ps, ht, ⟨p, q, h1, h2, h3⟩, hlt => by
   subst h3
   exact ⟨p, q, Below.trod hl (ht t (by simp)).1 (ht t (by simp)).2 h1 hb (fun x hx => hlt x (by simp [hx])), trodAll_stays hl hb ts vs ds q (fun t h => ht t (by simp [h])) h2 (fun x hx => hlt x (by simp [hx])), rfl⟩
 | [], [], _ :: _, _, _, h, _ => h.elim
 | [], _ :: _, _, _, _, h, _ => by cases h
 | _ :: _, [], _, _, _, h, _ => by cases h
 | _ :: _, _ :: _, [], _, _, h, _ => by cases h
theorem post_law {H : Type} {eh : TypeId × Value → H} {P : Program} {f : Func} {s : ChangeSpec} {apart fresh : Bool} {W W' : World} {args : Array Value} {ds gs : List (DataW H)} {before : List MemPlace} {bt : TypeId}
   (hl : laidOutB P = true) (hts : ∀ t ∈ f.params.toList, P.readableRec t = true ∧ t < P.types.size) (hrt : f.resultTypes = #[bt]) (hbt : P.underlying bt = some .bool) (hvars : s.vars = []) (hfn : s.fn H (ds ++ gs) = { results := [.lit (.bool true)], args := ds })
   (hW : DataW.Whole eh P f.params.toList s.vars apart W args.toList ds gs before) (hx : Ext (fun _ => False) W W') : s.post eh P f apart fresh false false W args (.bool true) W' := by
 have hb := below_of_ext hx
 have hlt : ∀ p ∈ before, p.block < W.heap.size := fun p hp => by simpa using hW.lt p hp
 have hW' := hW
 obtain ⟨p, q, hA, hV, rfl, hz, hn⟩ := hW'
 rw [hvars] at hV
 obtain ⟨rfl, rfl⟩ := trodVars_none hV
 refine ⟨ds, [], p ++ [], [], p, [], hW, ?_, ?_, ?_, ?_, fun h => by cases h⟩
 · rw [hfn, hrt]
   exact trodAll_cons_mk (shut_bool hbt true) trodAll_mk0
 · rw [hfn]
   exact trodAll_stays hl hb _ _ _ _ hts hA (fun x hx => hlt x (by simp [hx]))
 · rw [hfn, hvars]; exact hV
 · exact hb.frame _
end Go.Lic
set_option linter.all false
namespace Go.Lic
open Go.ChangeShapes Go.WideShapes Go.ChangeAt Go.RowKit
end Go.Lic
set_option linter.all false
namespace Go.Lic
open Go.ChangeShapes Go.WideShapes Go.ChangeAt Go.RowKit
end Go.Lic
