/-
  What an argument of the given statements reads as: from the reading of the statement to the abstract data of the walks.
-/
import Derived.Test.YtjncggaheahjiaaGreatDoorRule
import Derived.ProofKit
import Derived.OpenShut
import Derived.Carry
import Derived.Test.YtjncggaheahjiaaGreatDoorVr
set_option linter.all false
namespace Go.Lic
open Go.ChangeShapes Go.WideShapes Go.ChangeAt Go.RowKit
def Reads (P : Program) (t : TypeId) (sz : Nat) {T : Type} (enc : T → D) : Prop :=
 ∀ (H : Type) (eh : TypeId × Value → H) (w : World) (sp : Nat → Bool) (hd : Bool) (fuel : Nat) (cs : List Value) (x : DataW H × List MemPlace), DataW.trod eh P w 0 sp hd fuel t cs = some x → ∃ a : T, VL w (fun _ => False) (enc a).flat cs ∧ (enc a).ok sz
theorem Reads.int {P : Program} {t : TypeId} {k : IntKind} (ht : P.underlying t = some (.int k)) : Reads P t 1 (fun n : Int => .v (.int k n)) := by
 intro H eh w sp hd fuel cs x h
 obtain ⟨n, rfl, _, _⟩ := DataW.trod_int ht h
 exact ⟨n, .cons (.v _) .nil, .of rfl⟩
theorem Reads.string {P : Program} {t : TypeId} (ht : P.underlying t = some .string) : Reads P t 1 D.s := by
 intro H eh w sp hd fuel cs x h
 obtain ⟨s, rfl, _, _⟩ := DataW.trod_string ht h
 exact ⟨s, .cons (.v _) .nil, .of rfl⟩
theorem Reads.bool {P : Program} {t : TypeId} (ht : P.underlying t = some .bool) : Reads P t 1 D.b := by
 intro H eh w sp hd fuel cs x h
 obtain ⟨s, rfl, _⟩ := DataW.trod_bool ht h
 exact ⟨s, .cons (.v _) .nil, .of rfl⟩
theorem vl_append {w : World} {X : Nat → Prop} : ∀ {ds es : List D} {xs ys : List Value}, VL w X ds xs → VL w X es ys → VL w X (ds ++ es) (xs ++ ys)
 | [], _, _, _, .nil, h => h
 | _ :: _, _, _, _, .cons h1 h2, h => .cons h1 (vl_append h2 h)
theorem add_add (a : Addr) (i j : Nat) : (a.add i).add j = a.add (i + j) := by
 unfold Addr.add
 by_cases hi : i = 0
 · simp [hi]
 · by_cases hj : j = 0
   · simp [hj]
   · simp [hi, hj, Nat.add_assoc]
theorem Reads.slice {P : Program} {t e : TypeId} {sz : Nat} {T : Type} {enc : T → D} (ht : P.underlying t = some (.slice e)) (hc : P.cellsOf e = sz) (hpos : 0 < sz) (he : Reads P e sz enc) : Reads P t 1 (fun l : List T => .list sz (l.map enc)) := by
 intro H eh w sp hd fuel cs x h
 rcases DataW.trod_slice ht h with ⟨rfl, _⟩ | ⟨a, len, cap, elems, rest, n, _, rfl, _, _, hl, _, hlen, hel, _, _⟩
 · exact ⟨[], .cons (.list (cs := []) (b := 0) (o := 0) (by simp) .nil (by simp) (.inl rfl) (Nat.le_refl _)) .nil, .of rfl⟩
 · have each : ∀ i, i < len → ∃ (y : T) (ci : List Value), VL w (fun _ => False) (enc y).flat ci ∧ (enc y).ok sz ∧ ci.length = sz ∧ ∀ j, j < sz → w.cell? (a.add (i * sz + j)) = ci[j]? := by
     intro i hi
     have h1 := hel i hi
     rw [List.getElem?_eq_getElem (by omega), Option.bind_eq_some_iff] at h1
     obtain ⟨ci, h2, h3⟩ := h1
     obtain ⟨y, h4, h5⟩ := he H eh w sp hd n ci _ h3
     obtain ⟨_, h6, h7⟩ := World.cells?_some h2
     rw [hc] at h6 h7
     exact ⟨y, ci, h4, h5, h6, fun j hj => by rw [← add_add]; exact h7 j hj⟩
   have all : ∀ k, k ≤ len → ∃ (l : List T) (ci : List Value), l.length = k ∧ VL w (fun _ => False) (D.flats (l.map enc)) ci ∧ (∀ d ∈ l.map enc, d.ok sz) ∧ ci.length = k * sz ∧ ∀ j, j < k * sz → w.cell? (a.add j) = ci[j]? := by
     intro k
     induction k with
     | zero => intro _; exact ⟨[], [], rfl, .nil, by simp, by simp, by simp⟩
     | succ k ih =>
       intro hk
       obtain ⟨l, ci, h1, h2, h3, h4, h5⟩ := ih (by omega)
       obtain ⟨y, cy, h6, h7, h8, h9⟩ := each k (by omega)
       refine ⟨l ++ [y], ci ++ cy, by simp [h1], ?_, ?_, ?_, ?_⟩
       · have : D.flats ((l ++ [y]).map enc) = D.flats (l.map enc) ++ (enc y).flat := by simp [D.flats]
         rw [this]; exact vl_append h2 h6
       · intro d hd
         rw [List.map_append] at hd
         rcases List.mem_append.1 hd with hd | hd
         · exact h3 d hd
         · rw [List.mem_singleton.1 hd]; exact h7
       · rw [List.length_append, h4, h8, Nat.succ_mul]
       · intro j hj
         rw [Nat.succ_mul] at hj
         by_cases hj2 : j < k * sz
         · rw [List.getElem?_append_left (by omega)]; exact h5 j hj2
         · rw [List.getElem?_append_right (by omega), h4, ← h9 (j - k * sz) (by omega)]
           congr 2; omega
   obtain ⟨l, ci, h1, h2, h3, h4, h5⟩ := all len (Nat.le_refl _)
   have hsp : ci ≠ [] → a = ⟨a.block, a.off, none⟩ := by
     intro hne
     have hpos2 : 0 < len * sz := by rw [← h4]; exact List.length_pos_iff.2 hne
     have h6 := h5 0 hpos2
     rw [List.getElem?_eq_getElem (by omega)] at h6
     obtain ⟨b, o, sp⟩ := a
     cases sp with
     | none => rfl
     | some q =>
       simp only [World.cell?, Addr.add] at h6
       split at h6 <;> simp at h6
   refine ⟨l, .cons ?_ .nil, .of rfl⟩
   have hl2 : (l.map enc).length = len := by simp [h1]
   have := V.list (w := w) (X := fun _ => False) (sz := sz) (ds := l.map enc) (cs := ci) (a := some a) (b := a.block) (o := a.off) (cap := cap) h3 h2 (fun hne => by rw [hsp hne]) ?_ (by omega)
   · rw [hl2] at this; exact this
   · by_cases hne : ci = []
     · exact .inl hne
     · refine .inr ⟨fun h => h, fun j c hj => ?_⟩
       have hj2 : j < ci.length := (List.getElem?_eq_some_iff.1 hj).1
       have := h5 j (by omega)
       rw [hj] at this
       rw [hsp hne] at this
       by_cases h0 : j = 0
       · subst h0; simpa [Addr.add] using this
       · simpa [Addr.add, h0] using this
theorem Reads.conv {P : Program} {t : TypeId} {sz : Nat} {T T' : Type} {enc : T → D} {enc' : T' → D} (h : Reads P t sz enc) (f : T → T') (he : ∀ a, enc' (f a) = enc a) : Reads P t sz enc' := by
 intro H eh w sp hd fuel cs x hx
 obtain ⟨a, h1, h2⟩ := h H eh w sp hd fuel cs x hx
 exact ⟨f a, by rw [he]; exact h1, by rw [he]; exact h2⟩
theorem Reads.arg1 {P : Program} {t : TypeId} {T : Type} {enc : T → D} (hr : Reads P t 1 enc) (hflat : ∀ a, (enc a).flat = [enc a]) {W : World} {base : Nat} {v : Value} (hno : ∀ cs, ¬ Value.okWide P W .any base t (.agg cs)) (hval : Value.okWide P W .any base t v)
   {H : Type} {eh : TypeId × Value → H} {sp : Nat → Bool} {hd : Bool} {d : DataW H} {ps : List MemPlace} (h : DataW.Trod eh P W 0 sp hd t v d ps) : ∃ a, V W (fun _ => False) (enc a) v := by
 obtain ⟨fuel, hf⟩ := h
 obtain ⟨a, h1, _⟩ := hr H eh W sp hd fuel _ _ hf
 refine ⟨a, ?_⟩
 rw [hflat] at h1
 have hc : v.cells = #[v] := by
   cases v with
   | agg cs => exact absurd hval (hno cs)
   | _ => rfl
 rw [hc] at h1
 cases h1 with
 | cons h2 _ => exact h2
theorem below_of_ext {W W' : World} (h : Ext (fun _ => False) W W') : Below W.heap.size W W' := ⟨h.os, h.tape, h.output, h.size, fun k hk => h.keep k hk (fun x => x)⟩
theorem trodAll_stays {H : Type} {eh : TypeId × Value → H} {P : Program} (hl : laidOutB P = true) {W W' : World} (hb : Below W.heap.size W W') : ∀ (ts : List TypeId) (vs : List Value) (ds : List (DataW H)) (ps : List MemPlace), (∀ t ∈ ts, P.readableRec t = true ∧ t < P.types.size) →
   DataW.TrodAll eh P W 0 (fun _ => true) true ts vs ds ps → (∀ x ∈ ps, x.block < W.heap.size) → DataW.TrodAll eh P W' 0 (fun b => decide (b < W.heap.size)) true ts vs ds ps
 | [], [], [], _, _, h, _ => h
 | t :: ts, v :: vs, d :: ds, ps, ht, ⟨p, q, h1, h2, h3⟩, hlt => by
   subst h3
   exact ⟨p, q, Below.trod hl (ht t (by simp)).1 (ht t (by simp)).2 h1 hb (fun x hx => hlt x (by simp [hx])), trodAll_stays hl hb ts vs ds q (fun t h => ht t (by simp [h])) h2 (fun x hx => hlt x (by simp [hx])), rfl⟩
 | [], [], _ :: _, _, _, h, _ => h.elim
 | [], _ :: _, _, _, _, h, _ => by cases h
 | _ :: _, [], _, _, _, h, _ => by cases h
 | _ :: _, _ :: _, [], _, _, h, _ => by cases h
theorem post_law {H : Type} {eh : TypeId × Value → H} {P : Program} {f : Func} {s : ChangeSpec} {apart fresh : Bool} {W W' : World} {args : Array Value} {ds gs : List (DataW H)} {before : List MemPlace} {bt : TypeId}
   (hl : laidOutB P = true) (hts : ∀ t ∈ f.params.toList, P.readableRec t = true ∧ t < P.types.size) (hrt : f.resultTypes = #[bt]) (hbt : P.underlying bt = some .bool) (hvars : s.vars = []) (hfn : s.fn H (ds ++ gs) = { results := [.lit (.bool true)], args := ds })
   (hW : DataW.Whole eh P f.params.toList s.vars apart W args.toList ds gs before) (hx : Ext (fun _ => False) W W') : s.post eh P f apart fresh false false W args (.bool true) W' := by
 have hb := below_of_ext hx
 have hlt : ∀ p ∈ before, p.block < W.heap.size := fun p hp => by simpa using hW.lt p hp
 have hW' := hW
 obtain ⟨p, q, hA, hV, rfl, hz, hn⟩ := hW'
 rw [hvars] at hV
 obtain ⟨rfl, rfl⟩ := trodVars_none hV
 refine ⟨ds, [], p ++ [], [], p, [], hW, ?_, ?_, ?_, ?_, fun h => by cases h⟩
 · rw [hfn, hrt]
   exact trodAll_cons_mk (shut_bool hbt true) trodAll_mk0
 · rw [hfn]
   exact trodAll_stays hl hb _ _ _ _ hts hA (fun x hx => hlt x (by simp [hx]))
 · rw [hfn, hvars]; exact hV
 · exact hb.frame _
def fsOf (P : Program) (t : TypeId) : Array Field := match P.underlying t with | some (.struct fs) => fs | _ => #[]
theorem fsOf_get {P : Program} {t : TypeId} {l : List (Nat × TypeId)} (hm : (fsOf P t).toList.map (fun f => (f.offset, f.type)) = l) {i o : Nat} {e : TypeId} (hi : l[i]? = some (o, e)) : ∃ f, (fsOf P t)[i]? = some f ∧ f.offset = o ∧ f.type = e := by
 subst hm
 rw [List.getElem?_map, Array.getElem?_toList] at hi
 cases h : (fsOf P t)[i]? with
 | none => rw [h] at hi; simp at hi
 | some f => rw [h] at hi; simp at hi; exact ⟨f, rfl, hi.1, hi.2⟩
end Go.Lic
set_option linter.all false
namespace Go.Lic
open Go.ChangeShapes Go.WideShapes Go.ChangeAt Go.RowKit
def ReadsF (P : Program) (l : List (Nat × TypeId)) (o n : Nat) {T : Type} (e : T → List D) : Prop :=
 ∀ (H : Type) (eh : TypeId × Value → H) (w : World) (sp : Nat → Bool) (hd : Bool) (fuel : Nat) (cs : List Value), (∀ (i : Nat) (o' : Nat) (t' : TypeId), l[i]? = some (o', t') → ∃ x : DataW H × List MemPlace, DataW.trod eh P w 0 sp hd fuel t' ((cs.drop o').take (P.cellsOf t')) = some x) →
   ∃ a : T, VL w (fun _ => False) (e a) ((cs.drop o).take n) ∧ (e a).length = n ∧ ∀ x ∈ e a, x.cell = true
theorem ReadsF.nil {P : Program} {o : Nat} : ReadsF P [] o 0 (fun _ : Unit => []) := fun _ _ _ _ _ _ cs _ => ⟨(), by simpa using VL.nil, rfl, by simp⟩
theorem ReadsF.cons {P : Program} {l : List (Nat × TypeId)} {o n0 n1 : Nat} {t : TypeId} {T0 T1 : Type} {e0 : T0 → D} {e1 : T1 → List D} (hc : P.cellsOf t = n0) (h0 : Reads P t n0 e0) (h1 : ReadsF P l (o + n0) n1 e1) :
   ReadsF P ((o, t) :: l) o (n0 + n1) (fun a : T0 × T1 => (e0 a.1).flat ++ e1 a.2) := by
 intro H eh w sp hd fuel cs hx
 obtain ⟨x0, g0⟩ := hx 0 o t rfl
 rw [hc] at g0
 obtain ⟨a0, v0, k0⟩ := h0 H eh w sp hd fuel _ _ g0
 obtain ⟨a1, v1, k1, k2⟩ := h1 H eh w sp hd fuel cs (fun i o' t' hi => hx (i + 1) o' t' (by simpa using hi))
 refine ⟨(a0, a1), ?_, by simp [k0.1, k1], fun x hx => (List.mem_append.1 hx).elim (k0.2 x) (k2 x)⟩
 have e : (cs.drop o).take (n0 + n1) = (cs.drop o).take n0 ++ (cs.drop (o + n0)).take n1 := by
   rw [List.take_add, List.drop_drop]
 rw [e]; exact v0.append v1
theorem Reads.rec {P : Program} {t : TypeId} {l : List (Nat × TypeId)} {n : Nat} {T : Type} {e : T → List D} (ht : P.underlying t = some (.struct (fsOf P t))) (hm : (fsOf P t).toList.map (fun f => (f.offset, f.type)) = l) (hc : P.cellsOf t = n) (h : ReadsF P l 0 n e) :
   Reads P t n (fun a => .agg (e a)) := by
 intro H eh w sp hd fuel cs x hx
 obtain ⟨xs, k, _, _, hl, hsz, hf⟩ := DataW.trod_struct ht hx
 obtain ⟨a, h1, h2, h3⟩ := h H eh w sp hd k cs (fun i o' t' hi => by
   obtain ⟨f, g1, g2, g3⟩ := fsOf_get hm hi
   have := hf i f g1
   have hlt : i < xs.length := by
     have := (Array.getElem?_eq_some_iff.1 g1).1
     omega
   rw [List.getElem?_eq_getElem hlt] at this
   rw [g2, g3] at this
   exact ⟨_, this⟩)
 refine ⟨a, ?_, h2, h3⟩
 rw [List.drop_zero, List.take_of_length_le (by omega)] at h1
 exact h1
end Go.Lic
set_option linter.all false
namespace Go.Lic
open Go.ChangeShapes Go.WideShapes Go.ChangeAt Go.RowKit
theorem Reads.array {P : Program} {t e : TypeId} {n : Nat} {T : Type} {enc : T → D} (ht : P.underlying t = some (.array n e)) (hc : P.cellsOf e = 1) (hn : P.cellsOf t = n) (he : Reads P e 1 enc) (hf : ∀ a, (enc a).flat = [enc a]) :
   Reads P t n (fun a : {l : List T // l.length = n} => .agg (a.1.map enc)) := by
 intro H eh w sp hd fuel cs x h
 obtain ⟨xs, m, _, _, hl, hx, hi⟩ := DataW.trod_array ht h
 have all : ∀ k, k ≤ n → ∃ l : List T, l.length = k ∧ VL w (fun _ => False) (l.map enc) (cs.take k) ∧ ∀ d ∈ l.map enc, d.cell = true := by
   intro k
   induction k with
   | zero => exact fun _ => ⟨[], rfl, by simpa using VL.nil, by simp⟩
   | succ k ih =>
     intro hk
     obtain ⟨l, h1, h2, h3⟩ := ih (by omega)
     have g := hi k (by omega)
     rw [hc, Nat.mul_one, List.getElem?_eq_getElem (by omega)] at g
     obtain ⟨a, v, o⟩ := he H eh w sp hd m _ _ g
     rw [hf] at v
     have o2 : ∀ x ∈ (enc a).flat, x.cell = true := o.2
     rw [hf] at o2
     refine ⟨l ++ [a], by simp [h1], ?_, ?_⟩
     · rw [List.map_append]
       have e : cs.take (k + 1) = cs.take k ++ (cs.drop k).take 1 := by rw [List.take_add]
       rw [e]
       exact h2.append v
     · intro d hd
       rw [List.map_append] at hd
       rcases List.mem_append.1 hd with hd | hd
       · exact h3 d hd
       · exact o2 d (by simpa using hd)
 obtain ⟨l, h1, h2, h3⟩ := all n (Nat.le_refl n)
 rw [List.take_of_length_le (by omega)] at h2
 exact ⟨⟨l, h1⟩, h2, by show (l.map enc).length = n; simpa using h1, h3⟩
end Go.Lic
