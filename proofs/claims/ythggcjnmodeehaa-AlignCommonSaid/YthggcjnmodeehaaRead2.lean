/-
  Structs with any number of fields, read as abstract data.
-/
import Derived.Test.YthggcjnmodeehaaRead
set_option linter.all false
namespace Go.Lic
open Go.ChangeShapes Go.WideShapes Go.ChangeAt Go.RowKit

/-- Fields from a cell on. -/
def ReadsF (P : Program) (l : List (Nat × TypeId)) (o n : Nat) {T : Type} (e : T → List D) : Prop :=
  ∀ (H : Type) (eh : TypeId × Value → H) (w : World) (sp : Nat → Bool) (hd : Bool) (fuel : Nat) (cs : List Value), (∀ (i : Nat) (o' : Nat) (t' : TypeId), l[i]? = some (o', t') → ∃ x : DataW H × List MemPlace, DataW.trod eh P w 0 sp hd fuel t' ((cs.drop o').take (P.cellsOf t')) = some x) →
    ∃ a : T, VL w (fun _ => False) (e a) ((cs.drop o).take n) ∧ (e a).length = n ∧ ∀ x ∈ e a, x.cell = true
theorem ReadsF.nil {P : Program} {o : Nat} : ReadsF P [] o 0 (fun _ : Unit => []) := fun _ _ _ _ _ _ cs _ => ⟨(), by simpa using VL.nil, rfl, by simp⟩
theorem ReadsF.cons {P : Program} {l : List (Nat × TypeId)} {o n0 n1 : Nat} {t : TypeId} {T0 T1 : Type} {e0 : T0 → D} {e1 : T1 → List D} (hc : P.cellsOf t = n0) (h0 : Reads P t n0 e0) (h1 : ReadsF P l (o + n0) n1 e1) :
    ReadsF P ((o, t) :: l) o (n0 + n1) (fun a : T0 × T1 => (e0 a.1).flat ++ e1 a.2) := by
  intro H eh w sp hd fuel cs hx
  obtain ⟨x0, g0⟩ := hx 0 o t rfl
  rw [hc] at g0
  obtain ⟨a0, v0, k0⟩ := h0 H eh w sp hd fuel _ _ g0
  obtain ⟨a1, v1, k1, k2⟩ := h1 H eh w sp hd fuel cs (fun i o' t' hi => hx (i + 1) o' t' (by simpa using hi))
  refine ⟨(a0, a1), ?_, by simp [k0.1, k1], fun x hx => (List.mem_append.1 hx).elim (k0.2 x) (k2 x)⟩
  have e : (cs.drop o).take (n0 + n1) = (cs.drop o).take n0 ++ (cs.drop (o + n0)).take n1 := by
    rw [List.take_add, List.drop_drop]
  rw [e]; exact v0.append v1
theorem Reads.rec {P : Program} {t : TypeId} {l : List (Nat × TypeId)} {n : Nat} {T : Type} {e : T → List D} (ht : P.underlying t = some (.struct (fsOf P t))) (hm : (fsOf P t).toList.map (fun f => (f.offset, f.type)) = l) (hc : P.cellsOf t = n) (h : ReadsF P l 0 n e) :
    Reads P t n (fun a => .agg (e a)) := by
  intro H eh w sp hd fuel cs x hx
  obtain ⟨xs, k, _, _, hl, hsz, hf⟩ := DataW.trod_struct ht hx
  obtain ⟨a, h1, h2, h3⟩ := h H eh w sp hd k cs (fun i o' t' hi => by
    obtain ⟨f, g1, g2, g3⟩ := fsOf_get hm hi
    have := hf i f g1
    have hlt : i < xs.length := by
      have := (Array.getElem?_eq_some_iff.1 g1).1
      omega
    rw [List.getElem?_eq_getElem hlt] at this
    rw [g2, g3] at this
    exact ⟨_, this⟩)
  refine ⟨a, ?_, h2, h3⟩
  rw [List.drop_zero, List.take_of_length_le (by omega)] at h1
  exact h1
end Go.Lic
