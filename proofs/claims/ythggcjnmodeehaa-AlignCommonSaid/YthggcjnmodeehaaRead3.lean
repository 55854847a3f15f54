/-
  Whole numbers with their ranges, and arrays of cells, read as abstract data.
-/
import Derived.Test.YthggcjnmodeehaaRead2
import Derived.Test.YthggcjnmodeehaaArr
set_option linter.all false
namespace Go.Lic
open Go.ChangeShapes Go.WideShapes Go.ChangeAt Go.RowKit

abbrev inK (k : IntKind) (n : Int) : Prop := k.min ≤ n ∧ n ≤ k.max
theorem Reads.intR {P : Program} {t : TypeId} {k : IntKind} (ht : P.underlying t = some (.int k)) : Reads P t 1 (fun n : {n : Int // inK k n} => .v (.int k n.1)) := by
  intro H eh w sp hd fuel cs x h
  obtain ⟨n, rfl, _, hw⟩ := DataW.trod_int ht h
  refine ⟨⟨n, ?_⟩, .cons (.v _) .nil, .of rfl⟩
  simpa [Lit.wf] using hw
theorem Reads.array {P : Program} {t e : TypeId} {n : Nat} {T : Type} {enc : T → D} (ht : P.underlying t = some (.array n e)) (hc : P.cellsOf e = 1) (hn : P.cellsOf t = n) (he : Reads P e 1 enc) (hf : ∀ a, (enc a).flat = [enc a]) :
    Reads P t n (fun a : {l : List T // l.length = n} => .agg (a.1.map enc)) := by
  intro H eh w sp hd fuel cs x h
  obtain ⟨xs, m, _, _, hl, hx, hi⟩ := DataW.trod_array ht h
  have all : ∀ k, k ≤ n → ∃ l : List T, l.length = k ∧ VL w (fun _ => False) (l.map enc) (cs.take k) ∧ ∀ d ∈ l.map enc, d.cell = true := by
    intro k
    induction k with
    | zero => exact fun _ => ⟨[], rfl, by simpa using VL.nil, by simp⟩
    | succ k ih =>
      intro hk
      obtain ⟨l, h1, h2, h3⟩ := ih (by omega)
      have g := hi k (by omega)
      rw [hc, Nat.mul_one, List.getElem?_eq_getElem (by omega)] at g
      obtain ⟨a, v, o⟩ := he H eh w sp hd m _ _ g
      rw [hf] at v
      have o2 : ∀ x ∈ (enc a).flat, x.cell = true := o.2
      rw [hf] at o2
      refine ⟨l ++ [a], by simp [h1], ?_, ?_⟩
      · rw [List.map_append]
        have e : cs.take (k + 1) = cs.take k ++ (cs.drop k).take 1 := by rw [List.take_add]
        rw [e]
        exact h2.append v
      · intro d hd
        rw [List.map_append] at hd
        rcases List.mem_append.1 hd with hd | hd
        · exact h3 d hd
        · exact o2 d (by simpa using hd)
  obtain ⟨l, h1, h2, h3⟩ := all n (Nat.le_refl n)
  rw [List.take_of_length_le (by omega)] at h2
  exact ⟨⟨l, h1⟩, h2, by show (l.map enc).length = n; simpa using h1, h3⟩
theorem encArr_eq {α : Type} [Inhabited α] (n : Nat) (e : α → D) (l : List α) (h : l.length = n) : encArr n e l = .agg (l.map e) := by
  unfold encArr
  congr 1
  refine List.ext_getElem (by simp [h]) fun i h1 h2 => ?_
  have : i < l.length := by simpa using h2
  simp [List.getD_eq_getElem?_getD, this]
/-- An array of whole numbers, each in its kind's range. -/
theorem Reads.arrInt {P : Program} {t e : TypeId} {n : Nat} {k : IntKind} (ht : P.underlying t = some (.array n e)) (hk : P.underlying e = some (.int k)) (hc : P.cellsOf e = 1) (hn : P.cellsOf t = n) :
    Reads P t n (fun a : {l : List Int // l.length = n ∧ ∀ x ∈ l, inK k x} => encArr n (D.k k) a.1) :=
  (Reads.array ht hc hn (Reads.intR hk) (fun _ => rfl)).conv (fun a => ⟨a.1.map (·.1), by simpa using a.2, by
      intro x hx
      obtain ⟨y, _, rfl⟩ := List.mem_map.1 hx
      exact y.2⟩) (fun a => by
    rw [encArr_eq _ _ _ (by simpa using a.2), List.map_map]; rfl)
/-- An argument that is an array. -/
theorem Reads.argA {P : Program} {t e : TypeId} {sz n : Nat} {T : Type} {enc : T → D} (ht : P.underlying t = some (.array n e)) (hr : Reads P t sz enc) (hagg : ∀ a, enc a = .agg (enc a).flat) {W : World} {base : Nat} {v : Value} (hval : Value.okWide P W .any base t v)
    {H : Type} {eh : TypeId × Value → H} {sp : Nat → Bool} {hd : Bool} {d : DataW H} {ps : List MemPlace} (h : DataW.Trod eh P W 0 sp hd t v d ps) : ∃ a, V W (fun _ => False) (enc a) v := by
  obtain ⟨fuel, hf⟩ := h
  obtain ⟨a, h1, _⟩ := hr H eh W sp hd fuel _ _ hf
  refine ⟨a, ?_⟩
  simp only [Value.okWide, ht] at hval
  obtain ⟨cs, rfl, _, _⟩ := hval
  rw [hagg]
  have := V.agg h1
  simpa [Value.cells] using this
end Go.Lic
