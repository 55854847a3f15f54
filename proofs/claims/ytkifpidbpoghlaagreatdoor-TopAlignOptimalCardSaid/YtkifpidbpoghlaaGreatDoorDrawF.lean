/-
  A region whose order is drawn, of which some moves may come late.
-/
import Derived.Test.YtkifpidbpoghlaaGreatDoorDraw
set_option linter.all false
namespace Go.Lic
variable [Fl]
section
variable {P : Program} {ops : Array Oper} {Q : Exit → Act → World → Prop}
theorem wpAny_tailF {F : List Nat} {ro : Option Nat} (hback : ∀ i o, ops[i]? = some o → ∀ e ∈ o.after.toList, Region.binds .any e = true → e.on < i)
   : ∀ (fuel p : Nat) (li : Array Bool) (a : Act) (w : World), li.size = ops.size → (∀ i, i < ops.size → li.getD i false = decide (i < p)) → p + fuel = ops.size → (∀ f ∈ F, f < p) →
     (∀ i o, p ≤ i → ops[i]? = some o → ∀ j, j < i → ∀ li' : Array Bool, (∀ f ∈ F, li'.getD f false = true) → li'.size = ops.size → (∀ x y, ops[x]? = some y → li'.getD x false = true → ∀ e ∈ y.after.toList, Region.binds .any e = true → li'.getD e.on false = true) →
       (∀ e ∈ o.after.toList, Region.binds .any e = true → li'.getD e.on false = true) → li'.getD j false = true) →
     wpListIn (Wd ro) 0 P ops Q (ops.toList.drop p) a w → wpAnyIn (Wd ro) 0 P .any ops Q fuel li a w := by
 intro fuel
 induction fuel with
 | zero =>
   intro p li a w hs hli hp _ _ hw
   have hd : ops.toList.drop p = [] := List.drop_eq_nil_of_le (by simp; omega)
   rw [hd] at hw
   refine ⟨?_, hw⟩
   apply List.eq_nil_iff_forall_not_mem.2
   intro i hi
   obtain ⟨o, ho, hl, _⟩ := (mem_ready hs).1 hi
   have hlt : i < ops.size := (Array.getElem?_eq_some_iff.1 ho).1
   rw [hli i hlt] at hl
   simp at hl; omega
 | succ fuel ih =>
   intro p li a w hs hli hp hfp htail hw
   have hlt : p < ops.size := by omega
   have ho : ops[p]? = some ops[p] := Array.getElem?_eq_getElem hlt
   have hd : ops.toList.drop p = ops[p] :: ops.toList.drop (p + 1) := by
     rw [List.drop_eq_getElem_cons (by simpa using hlt)]; simp
   rw [hd] at hw
   have hready : ∀ i, i ∈ Region.ready .any ops li ↔ i = p := by
     intro i
     rw [mem_ready hs]
     constructor
     · rintro ⟨o, ho', hl, ha⟩
       have hi := (Array.getElem?_eq_some_iff.1 ho').1
       rw [hli i hi] at hl
       simp at hl
       by_cases hip : i = p
       · exact hip
       · exfalso
         have := htail i o hl ho' p (by omega) li (fun f hf => by
           have := hfp f hf
           rw [hli f (by omega)]; simpa using this) hs (by
           intro x y hy hx e he hb
           have hxl := (Array.getElem?_eq_some_iff.1 hy).1
           have he' := hback x y hy e he hb
           rw [hli _ hxl] at hx; rw [hli _ (by omega)]
           simp at hx ⊢; omega) ha
         rw [hli p hlt] at this
         simp at this
     · rintro rfl
       refine ⟨_, ho, by rw [hli _ hlt]; simp, fun e he hb => ?_⟩
       have := hback _ _ ho e he hb
       rw [hli _ (by omega)]; simpa using this
   refine ⟨fun hr => ?_, fun i hi => ?_⟩
   · have := (hready p).2 rfl
     rw [hr] at this; simp at this
   · obtain rfl := (hready i).1 hi
     have hK : ∀ a w, wpListIn (Wd ro) 0 P ops Q (ops.toList.drop (i + 1)) a w → wpAnyIn (Wd ro) 0 P .any ops Q fuel (li.setIfInBounds i true) a w := fun a w hw' =>
       ih (i + 1) _ a w (by simp [hs]) (fun j hj => by
         rw [getD_set (by omega)]
         by_cases hji : j = i
         · subst hji; simp
         · rw [if_neg hji, hli j hj]
           rw [decide_eq_decide]; omega) (by omega) (fun f hf => by have := hfp f hf; omega) (fun j o hj => htail j o (by omega)) hw'
     unfold wpOpIn
     simp only [ho]
     simp only [wpListIn] at hw
     split
     · rename_i hwt
       rw [if_pos hwt] at hw
       exact Oper.wpIn_mono hK hw
     · rename_i hwt
       rw [if_neg hwt] at hw
       exact ⟨fun _ _ => trivial, hK _ _ hw.2⟩
end
def drawOkF (ops : Array Oper) (m : Nat) (F : List Nat) : Bool :=
 let L := befs ops.toList
 let dsts := (ops.toList.take m).map (·.dst)
 (m ≤ ops.toList.length) &&
 (ops.toList.zipIdx.all fun (o, i) => (L.getD i []).all fun j => o.after.toList.any fun e => Region.binds .any e && (e.on == j || (L.getD e.on []).contains j)) &&
 (ops.toList.zipIdx.all fun (o, i) => o.after.toList.all fun e => !Region.binds .any e || decide (e.on < i)) &&
 nodupB dsts &&
 ((ops.toList.take m).zipIdx.all fun (o, i) => (tmpsOf o).all fun t => dsts.zipIdx.all fun (x, j) => !(x == some t) || ((L.getD i []).contains j && decide (j < i)) || ((L.getD j []).contains i && decide (i < j))) &&
 ((ops.toList.take m).zipIdx.all fun (o, i) => match o.guard with | none => true | some (j, _) => (L.getD i []).contains j && decide (j < i)) &&
 (ops.toList.zipIdx.all fun (_, i) => decide (i < m) || (List.range i).all fun j => F.contains j || (L.getD i []).contains j) &&
 (F.all fun f => decide (f < m) && (match ops[f]? with | some o => o.guard.isNone && (match o.op with | .move (.tmp _) => true | _ => false) && o.after.toList.all (fun e => !Region.binds .any e) | none => false) && Region.free .any ops (Array.replicate ops.size false) f) &&
 Region.noSelect ops &&
 decide F.Nodup
section
theorem wpA_drawF (F : List Nat) {P : Program} {n : Nat} {ops : Array Oper} {Q : Post} {fr : Nat → D} {h : Heap} {id m : Nat} (hm : P.follows .mixedOrders = true) (hok : drawOkF ops m F = true) (hQ : ∀ c fr h, Q (.panic c) fr h → False) (hn : (ops.toList.take m).all (fun o => (o.dst.all fun d => Nat.blt d n)) = true)
   (hdet : DetK P ops h (ops.toList.take m) fr fun fr' => wpL P n ops (ops.toList.drop m) Q fr' h) : wpA P n (.region id ops true) Q fr h := by
 intro A M w0 a0 w1 r0 ro hro
 obtain ⟨ds, hds, hrest⟩ := hdet
 -- what the check says
 simp only [drawOkF, Bool.and_eq_true] at hok
 obtain ⟨⟨⟨⟨⟨⟨⟨⟨⟨k1, k2⟩, k3⟩, k4⟩, k5⟩, k6⟩, k7⟩, k8⟩, k9⟩, k10⟩ := hok
 generalize hL : befs ops.toList = L at *
 have hml : m ≤ ops.size := by simpa using k1
 have oget : ∀ (i : Nat) (o : Oper), ops[i]? = some o ↔ ops.toList[i]? = some o := fun i o => by rw [Array.getElem?_toList]
 have hback : ∀ i o, ops[i]? = some o → ∀ e ∈ o.after.toList, Region.binds .any e = true → e.on < i := by
   intro i o ho e he hb
   have := zipIdx_all k3 i o ((oget i o).1 ho)
   simp only [List.all_eq_true] at this
   have := this e he
   simpa [hb] using this
 -- a list's members have been done
 have hbef : ∀ (li : Array Bool), (∀ x y, ops[x]? = some y → li.getD x false = true → ∀ e ∈ y.after.toList, Region.binds .any e = true → li.getD e.on false = true) →
     ∀ N i o, i ≤ N → ops[i]? = some o → (∀ e ∈ o.after.toList, Region.binds .any e = true → li.getD e.on false = true) → ∀ j, (L.getD i []).contains j = true → li.getD j false = true := by
   intro li hcl N
   induction N with
   | zero =>
     intro i o hi ho ha j hj
     have := zipIdx_all k2 i o ((oget i o).1 ho)
     simp only [List.all_eq_true] at this
     have := this j (by simpa using hj)
     simp only [List.any_eq_true, Bool.and_eq_true, Bool.or_eq_true, beq_iff_eq] at this
     obtain ⟨e, he, hb, hj'⟩ := this
     have := hback i o ho e he hb
     omega
   | succ N ih =>
     intro i o hi ho ha j hj
     have := zipIdx_all k2 i o ((oget i o).1 ho)
     simp only [List.all_eq_true] at this
     have := this j (by simpa using hj)
     simp only [List.any_eq_true, Bool.and_eq_true, Bool.or_eq_true, beq_iff_eq] at this
     obtain ⟨e, he, hb, hj'⟩ := this
     have hlt := hback i o ho e he hb
     rcases hj' with rfl | hj'
     · exact ha e he hb
     · have hio := (Array.getElem?_eq_some_iff.1 ho).1
       have ho2 : ops[e.on]? = some ops[e.on] := Array.getElem?_eq_getElem (by omega)
       exact ih e.on _ (by omega) ho2 (hcl e.on _ ho2 (ha e he hb)) j hj'
 -- what is done with one more
 have closed : ∀ (li : Array Bool) (i : Nat) (o : Oper), li.size = ops.size → i < ops.size → ops[i]? = some o → (∀ e ∈ o.after.toList, Region.binds .any e = true → li.getD e.on false = true) →
     (∀ x y, ops[x]? = some y → li.getD x false = true → ∀ e ∈ y.after.toList, Region.binds .any e = true → li.getD e.on false = true) →
     (∀ x y, ops[x]? = some y → (li.setIfInBounds i true).getD x false = true → ∀ e ∈ y.after.toList, Region.binds .any e = true → (li.setIfInBounds i true).getD e.on false = true) := by
   intro li i o hs hio ho ha hcl x y hy hx e he hb
   rw [getD_set (by omega)] at hx ⊢
   by_cases hxi : x = i
   · subst hxi
     rw [ho] at hy; cases hy
     split
     · rfl
     · exact ha e he hb
   · rw [if_neg hxi] at hx
     split
     · rfl
     · exact hcl x y hy hx e he hb
 have hfl : ∀ f ∈ F, f < m ∧ ∃ o s, ops[f]? = some o ∧ o.guard = none ∧ o.op = .move (.tmp s) ∧ (∀ e ∈ o.after.toList, Region.binds .any e = false) ∧ Region.free .any ops (Array.replicate ops.size false) f = true := by
   intro f hf
   have := List.all_eq_true.1 k8 f hf
   simp only [Bool.and_eq_true, decide_eq_true_eq] at this
   obtain ⟨⟨q1, q2⟩, q3⟩ := this
   refine ⟨q1, ?_⟩
   cases ho : ops[f]? with
   | none => rw [ho] at q2; simp at q2
   | some o =>
     rw [ho] at q2
     simp only [Bool.and_eq_true] at q2
     obtain ⟨⟨q4, q5⟩, q6⟩ := q2
     cases hop : o.op <;> rw [hop] at q5 <;> first | (simp at q5; done) | skip
     rename_i x
     cases x <;> first | (simp at q5; done) | skip
     rename_i s
     refine ⟨o, s, rfl, by simpa using q4, hop, fun e he => ?_, q3⟩
     have := List.all_eq_true.1 q6 e he
     simpa using this
 -- one of the first operations that is ready
 have step : ∀ (li : Array Bool) (a : Act) (w : World) (i : Nat) (o : Oper), li.size = ops.size → (∀ x y, ops[x]? = some y → li.getD x false = true → ∀ e ∈ y.after.toList, Region.binds .any e = true → li.getD e.on false = true) →
     Rel n A M w0 (slotOf fr ((ops.toList.take m).map (·.dst)) ds li m) h a w → i < m → ops[i]? = some o → li.getD i false = false → (∀ e ∈ o.after.toList, Region.binds .any e = true → li.getD e.on false = true) →
     wpOpIn (Wd ro) 0 P ops (Conc n A M w0 Q) i (fun a' w' => Rel n A M w0 (slotOf fr ((ops.toList.take m).map (·.dst)) ds (li.setIfInBounds i true) m) h a' w') a w := by
   intro li a w i o hs hcl r him ho hl ha
   have hio := (Array.getElem?_eq_some_iff.1 ho).1
   have hotl : (ops.toList.take m)[i]? = some o := by rw [List.getElem?_take, if_pos him]; exact (oget i o).1 ho
   have hdi : ∃ d, ds[i]? = some d := ⟨_, List.getElem?_eq_getElem (by rw [hds.length]; simp; omega)⟩
   obtain ⟨d, hd⟩ := hdi
   have hstep := hds.nth i o d hotl hd
   -- the slots that it reads
   have hslot : ∀ t, (∀ j : Nat, (((ops.toList.take m).map (·.dst))[j]? = some (some t)) → ((L.getD i []).contains j = true ∧ j < i) ∨ ((L.getD j []).contains i = true ∧ i < j)) →
       slotOf fr ((ops.toList.take m).map (·.dst)) ds li m t = runFr fr ((ops.toList.take m).take i) (ds.take i) t := by
     intro t ht
     have e1 : (ops.toList.take m).take i = ops.toList.take i := by rw [List.take_take]; congr 1; omega
     have hlen : (ds.take i).length = (ops.toList.take i).length := by simp [hds.length]; omega
     have hnd : nodupB ((ops.toList.take i).map (·.dst)) = true := by
       have := nodupB_take _ i k4
       rwa [← List.map_take, e1] at this
     rw [e1]
     obtain ⟨g1, g2⟩ := runFr_get (ops.toList.take i) (ds.take i) fr t hlen hnd
     by_cases hex : ∃ j : Nat, ((ops.toList.take m).map (·.dst))[j]? = some (some t)
     · obtain ⟨j, hj⟩ := hex
       rcases ht j hj with ⟨hb, hji⟩ | ⟨hb, hij⟩
       · have hjl := hbef li hcl i i o (Nat.le_refl _) ho ha j hb
         rw [slotOf_hit k4 (by omega) hjl hj]
         rw [take_dsts, if_pos (by omega)] at hj
         rw [g1 j (by rw [take_dsts, if_pos hji]; exact hj)]
         simp [hji]
       · -- what is written behind it has not been written yet
         have hjm : j < m := by have := (List.getElem?_eq_some_iff.1 hj).1; simp at this; omega
         have hjf : li.getD j false = false := by
           cases hv : li.getD j false with
           | false => rfl
           | true =>
             have hoj : ops[j]? = some ops[j] := Array.getElem?_eq_getElem (by omega)
             have := hbef li hcl j j _ (Nat.le_refl _) hoj (hcl j _ hoj hv) i hb
             rw [hl] at this; simp at this
         rw [slotOf_miss (fun q h1 h2 h3 => by
           have := (nodupB_spec _ k4 q j _ _ h3 hj rfl).1
           subst this
           rw [hjf] at h2; simp at h2), g2 (fun q hq => by
           rw [take_dsts] at hq
           split at hq
           · have hq' : ((ops.toList.take m).map (·.dst))[q]? = some (some t) := by rw [take_dsts, if_pos (by omega)]; exact hq
             have := (nodupB_spec _ k4 q j _ _ hq' hj rfl).1
             omega
           · simp at hq)]
     · rw [slotOf_miss (fun j _ _ hj => hex ⟨j, hj⟩), g2 (fun j hj => by
         rw [take_dsts] at hj
         split at hj
         · apply hex; refine ⟨j, ?_⟩; rw [take_dsts, if_pos (by omega)]; exact hj
         · simp at hj)]
   have hops : ∀ x, x ∈ o.op.operands → ev (slotOf fr ((ops.toList.take m).map (·.dst)) ds li m) x = ev (runFr fr ((ops.toList.take m).take i) (ds.take i)) x := by
     intro x hx
     cases x with
     | tmp t =>
       apply hslot
       intro j hj
       have h5 := zipIdx_all k5 i o hotl
       simp only [List.all_eq_true] at h5
       have htm : t ∈ tmpsOf o := List.mem_filterMap.2 ⟨.tmp t, by simpa using hx, rfl⟩
       have := h5 t htm
       have := zipIdx_all (List.all_eq_true.2 this) j _ hj
       simp only [beq_self_eq_true, Bool.not_true, Bool.false_or, Bool.or_eq_true, Bool.and_eq_true, decide_eq_true_eq] at this
       exact this
     | const v => rfl
     | global g => rfl
     | func f => rfl
   -- the state behind it
   have hdst : ∃ dd, o.dst = some dd := by
     have hq : ((ops.toList.take m).map (·.dst))[i]? = some o.dst := by rw [List.getElem?_map, hotl]; rfl
     have := (nodupB_spec _ k4 i i _ _ hq hq rfl).2
     exact Option.isSome_iff_exists.1 this
   obtain ⟨dd, hdd⟩ := hdst
   have hddn : dd < n := by
     rw [List.all_eq_true] at hn
     have := hn o (List.mem_of_getElem? hotl)
     rw [hdd] at this
     simpa [Nat.blt_eq] using this
   have hnext : slotOf fr ((ops.toList.take m).map (·.dst)) ds (li.setIfInBounds i true) m = upd (slotOf fr ((ops.toList.take m).map (·.dst)) ds li m) dd d := by
     funext t
     have hqi : ((ops.toList.take m).map (·.dst))[i]? = some (some dd) := by rw [List.getElem?_map, hotl, Option.map_some, hdd]
     by_cases htd : t = dd
     · subst htd
       rw [upd_same, slotOf_hit k4 him (by rw [getD_set (by omega)]; simp) hqi]
       simp [hd]
     · rw [upd_ne _ _ htd]
       by_cases hex : ∃ j : Nat, j < m ∧ li.getD j false = true ∧ ((ops.toList.take m).map (·.dst))[j]? = some (some t)
       · obtain ⟨j, hj1, hj2, hj3⟩ := hex
         rw [slotOf_hit k4 hj1 hj2 hj3, slotOf_hit k4 hj1 (by rw [getD_set (by omega)]; split <;> simp [hj2]) hj3]
       · rw [slotOf_miss (fun j h1 h2 h3 => hex ⟨j, h1, h2, h3⟩), slotOf_miss]
         intro j h1 h2 h3
         rw [getD_set (by omega)] at h2
         by_cases hji : j = i
         · subst hji
           rw [hqi] at h3
           simp at h3; exact htd h3.symm
         · rw [if_neg hji] at h2
           exact hex ⟨j, h1, h2, h3⟩
   have hgo : ∀ (v : Value) (w' : World), HRel A M w0 h w' → Mono w (XX A h) w' (XX A h) → V w' (XX A h) d v → Rel n A M w0 (slotOf fr ((ops.toList.take m).map (·.dst)) ds (li.setIfInBounds i true) m) h (a.put o.dst v) w' := by
     intro v w' hr' hm' hv'
     rw [hnext, hdd]
     exact r.put hr' hm' hddn hv'
   have hrun : OpA P o (runFr fr ((ops.toList.take m).take i) (ds.take i)) h (fun d' h' => d' = d ∧ h' = h) → o.wpIn (Wd ro) 0 P a w (fun a' w' => Rel n A M w0 (slotOf fr ((ops.toList.take m).map (·.dst)) ds (li.setIfInBounds i true) m) h a' w') (Conc n A M w0 Q) := by
     intro hop
     refine hop A M w0 a w r.heap (fun x hx => by rw [← hops x hx]; exact r.ev x) _ _ ?_ ro
     rintro v w' d' h' ⟨rfl, rfl⟩ hr' hm' hv'
     exact hgo v w' hr' hm' hv'
   unfold wpOpIn
   simp only [ho]
   rcases hstep with ⟨hg, hop⟩ | ⟨j, want, s, b, hg, hj, hb, hcase⟩ | ⟨j, want, s, hg, hj, hb, rfl⟩
   · rw [if_pos (by simp [Region.wanted, hg])]
     exact hrun hop
   · have hsl : slotOf fr ((ops.toList.take m).map (·.dst)) ds li m s = .b b := by
       rw [hslot s, hb]
       intro j' hj'
       have h6 := zipIdx_all k6 i o hotl
       simp only [hg, Bool.and_eq_true, decide_eq_true_eq] at h6
       left
       have hjs : ((ops.toList.take m).map (·.dst))[j]? = some (some s) := by
         rw [take_dsts, if_pos (by omega)]
         obtain ⟨oj, hoj, hojd⟩ := Option.bind_eq_some_iff.1 hj
         have := (oget j oj).1 hoj
         rw [this]; simp [hojd]
       have := (nodupB_spec _ k4 j' j _ _ hj' hjs rfl).1
       subst this
       exact h6
     have hy := yielded_of r hj hsl
     rcases hcase with ⟨hne, hop⟩ | ⟨hne, rfl⟩
     · have hw : Region.wanted o (yielded ops a.tmps) = true := by
         simp only [Region.wanted, hg, hy]
         cases b <;> cases want <;> first | rfl | simp at hne
       rw [if_pos hw]
       exact hrun hop
     · have hw : ¬ Region.wanted o (yielded ops a.tmps) = true := by
         simp only [Region.wanted, hg, hy]
         cases b <;> cases want <;> first | (simp at hne; done) | simp
       rw [if_neg hw]
       exact ⟨fun _ _ => trivial, hgo undef w r.heap (Mono.refl _ _) (.v _)⟩
   · have hsl : slotOf fr ((ops.toList.take m).map (·.dst)) ds li m s = .v undef := by
       rw [hslot s, hb]
       intro j' hj'
       have h6 := zipIdx_all k6 i o hotl
       simp only [hg, Bool.and_eq_true, decide_eq_true_eq] at h6
       left
       have hjs : ((ops.toList.take m).map (·.dst))[j]? = some (some s) := by
         rw [take_dsts, if_pos (by omega)]
         obtain ⟨oj, hoj, hojd⟩ := Option.bind_eq_some_iff.1 hj
         have := (oget j oj).1 hoj
         rw [this]; simp [hojd]
       have := (nodupB_spec _ k4 j' j _ _ hj' hjs rfl).1
       subst this
       exact h6
     have hy := yielded_undef r hj hsl
     have hw : ¬ Region.wanted o (yielded ops a.tmps) = true := by
       simp only [Region.wanted, hg, hy]; simp
     rw [if_neg hw]
     exact ⟨fun _ _ => trivial, hgo undef w r.heap (Mono.refl _ _) (.v _)⟩
 refine wpIn_region_any hm ?_
 -- the first operations, in whatever order
 have key : ∀ (fuel : Nat) (li : Array Bool) (a : Act) (w : World), li.size = ops.size → cnt li ops.size = fuel → (∀ x y, ops[x]? = some y → li.getD x false = true → ∀ e ∈ y.after.toList, Region.binds .any e = true → li.getD e.on false = true) →
     (∀ i, m ≤ i → li.getD i false = false) → Rel n A M w0 (slotOf fr ((ops.toList.take m).map (·.dst)) ds li m) h a w → (∀ f ∈ F, li.getD f false = true) → wpAnyIn (Wd ro) 0 P .any ops (Conc n A M w0 Q) fuel li a w := by
   intro fuel
   induction fuel with
   | zero =>
     intro li a w hs hc hcl hpre r hFd
     have hall := cnt_zero hc
     have hmm : m = ops.size := by
       rcases Nat.lt_or_ge m ops.size with hlt | hge
       · have := hall m hlt; rw [hpre m (Nat.le_refl _)] at this; simp at this
       · omega
     have hfr : slotOf fr ((ops.toList.take m).map (·.dst)) ds li m = runFr fr (ops.toList.take m) ds := by
       funext t
       obtain ⟨g1, g2⟩ := runFr_get (ops.toList.take m) ds fr t (hds.length) k4
       by_cases hex : ∃ i : Nat, ((ops.toList.take m).map (·.dst))[i]? = some (some t)
       · obtain ⟨i, hi⟩ := hex
         have him : i < m := by have := (List.getElem?_eq_some_iff.1 hi).1; simp at this; omega
         rw [slotOf_hit k4 him (hall i (by omega)) hi, g1 i hi]
       · rw [slotOf_miss (fun i _ _ hi => hex ⟨i, hi⟩), g2 (fun i hi => hex ⟨i, hi⟩)]
     rw [hfr] at r
     have := hrest A M w0 a w r ro
     have hd : ops.toList.drop m = [] := List.drop_eq_nil_of_le (by simp; omega)
     rw [hd] at this
     refine ⟨?_, this⟩
     apply List.eq_nil_iff_forall_not_mem.2
     intro i hi
     obtain ⟨o, ho, hl, _⟩ := (mem_ready hs).1 hi
     rw [hall i (Array.getElem?_eq_some_iff.1 ho).1] at hl
     simp at hl
   | succ fuel ih =>
     intro li a w hs hc hcl hpre r hFd
     by_cases hdone : ∀ i, i < m → li.getD i false = true
     · -- all the first ones are done
       have hfr : slotOf fr ((ops.toList.take m).map (·.dst)) ds li m = runFr fr (ops.toList.take m) ds := by
         funext t
         obtain ⟨g1, g2⟩ := runFr_get (ops.toList.take m) ds fr t (hds.length) k4
         by_cases hex : ∃ i : Nat, ((ops.toList.take m).map (·.dst))[i]? = some (some t)
         · obtain ⟨i, hi⟩ := hex
           have him : i < m := by have := (List.getElem?_eq_some_iff.1 hi).1; simp at this; omega
           rw [slotOf_hit k4 him (hdone i him) hi, g1 i hi]
         · rw [slotOf_miss (fun i _ _ hi => hex ⟨i, hi⟩), g2 (fun i hi => hex ⟨i, hi⟩)]
       rw [hfr] at r
       have hcnt : ∀ k, m ≤ k → cnt li k = k - m := by
         intro k
         induction k with
         | zero => intro _; simp [cnt]
         | succ k ihk =>
           intro hk
           simp only [cnt]
           by_cases hkm : m ≤ k
           · rw [ihk hkm, hpre k hkm]; simp; omega
           · have hkk : m = k + 1 := by omega
             have hz : ∀ q, q ≤ k → cnt li q = 0 := by
               intro q
               induction q with
               | zero => intro _; rfl
               | succ q ihq => intro hq; simp only [cnt]; rw [ihq (by omega), hdone q (by omega)]; simp
             rw [hz k (Nat.le_refl _), hdone k (by omega)]; simp; omega
       have hf := hcnt ops.size hml
       refine wpAny_tailF (F := F) hback (fuel + 1) m li a w hs (fun i hi => ?_) (by omega) (fun f hf => (hfl f hf).1) ?_ (hrest A M w0 a w r ro)
       · by_cases him : i < m
         · rw [hdone i him]; simp [him]
         · rw [hpre i (by omega)]; simp [him]
       · intro i o hmi ho j hj li' hF' hs' hcl' ha'
         have h7 := zipIdx_all k7 i o ((oget i o).1 ho)
         simp only [Bool.or_eq_true, decide_eq_true_eq, List.all_eq_true] at h7
         rcases h7 with h7 | h7
         · omega
         · rcases h7 j (List.mem_range.2 hj) with h8 | h8
           · exact hF' j (by simpa using h8)
           · exact hbef li' hcl' i i o (Nat.le_refl _) ho ha' j h8
     · -- one of the first ones is next
       have hnot : ∃ i, i < m ∧ li.getD i false = false := by
         apply Classical.byContradiction
         intro hno
         apply hdone
         intro i hi
         cases hv : li.getD i false with
         | true => rfl
         | false => exact absurd ⟨i, hi, hv⟩ hno
       have hfirst : ∀ i, i ∈ Region.ready .any ops li → i < m := by
         intro i hi
         obtain ⟨o, ho, hl, ha⟩ := (mem_ready hs).1 hi
         rcases Nat.lt_or_ge i m with h1 | h1
         · exact h1
         · exfalso
           obtain ⟨j, hj, hjf⟩ := hnot
           have h7 := zipIdx_all k7 i o ((oget i o).1 ho)
           simp only [Bool.or_eq_true, decide_eq_true_eq, List.all_eq_true] at h7
           rcases h7 with h7 | h7
           · omega
           · rcases h7 j (List.mem_range.2 (by omega)) with h8 | h8
             · have := hFd j (by simpa using h8)
               rw [hjf] at this; simp at this
             · have := hbef li hcl i i o (Nat.le_refl _) ho ha j h8
               rw [hjf] at this; simp at this
       refine ⟨fun hr => ?_, fun i hi => ?_⟩
       · -- the least that is left is ready
         exfalso
         obtain ⟨j, hj, hjf⟩ := hnot
         have : ∀ N i, i ≤ N → i < ops.size → li.getD i false = false → False := by
           intro N
           induction N with
           | zero =>
             intro i hiN his hif
             have hmem : i ∈ Region.ready .any ops li := (mem_ready hs).2 ⟨_, Array.getElem?_eq_getElem his, hif, fun e he hb => by
               have := hback i _ (Array.getElem?_eq_getElem his) e he hb; omega⟩
             rw [hr] at hmem; simp at hmem
           | succ N ihN =>
             intro i hiN his hif
             have hmem : i ∈ Region.ready .any ops li := (mem_ready hs).2 ⟨_, Array.getElem?_eq_getElem his, hif, fun e he hb => by
               have := hback i _ (Array.getElem?_eq_getElem his) e he hb
               cases hv : li.getD e.on false with
               | true => rfl
               | false => exact (ihN e.on (by omega) (by omega) hv).elim⟩
             rw [hr] at hmem; simp at hmem
         exact this j j (Nat.le_refl _) (by omega) hjf
       · have him := hfirst i hi
         obtain ⟨o, ho, hl, ha⟩ := (mem_ready hs).1 hi
         have hio := (Array.getElem?_eq_some_iff.1 ho).1
         refine wpOpIn_mono (fun a' w' r' => ih _ a' w' (by simp [hs]) ?_ (closed li i o hs hio ho ha hcl) ?_ r' ?_) (step li a w i o hs hcl r him ho hl ha)
         · have := cnt_set (li := li) (i := i) (by omega) hl ops.size
           rw [if_pos hio] at this
           omega
         · intro j hj
           rw [getD_set (by omega), if_neg (by omega)]
           exact hpre j hj
         · intro f hf
           rw [getD_set (by omega)]
           split
           · rfl
           · exact hFd f hf
 -- the floating ones first
 have pre : ∀ (G : List Nat), (∀ g ∈ G, g ∈ F) → G.Nodup → ∀ (fuel : Nat) (li : Array Bool) (a : Act) (w : World), li.size = ops.size → cnt li ops.size = fuel → (∀ x y, ops[x]? = some y → li.getD x false = true → ∀ e ∈ y.after.toList, Region.binds .any e = true → li.getD e.on false = true) →
     (∀ i, m ≤ i → li.getD i false = false) → Rel n A M w0 (slotOf fr ((ops.toList.take m).map (·.dst)) ds li m) h a w → (∀ f ∈ F, f ∈ G ∨ li.getD f false = true) → (∀ g ∈ G, li.getD g false = false) → wpAnyIn (Wd ro) 0 P .any ops (Conc n A M w0 Q) fuel li a w := by
   intro G
   induction G with
   | nil =>
     intro _ _ fuel li a w hs hc hcl hpre r hF _
     exact key fuel li a w hs hc hcl hpre r fun f hf => (hF f hf).resolve_left (by simp)
   | cons g G ihG =>
     intro hGF hnd fuel li a w hs hc hcl hpre r hF hun
     obtain ⟨hgm, o, s, ho, hgu, hop, hae, hfree⟩ := hfl g (hGF g (by simp))
     have hio := (Array.getElem?_eq_some_iff.1 ho).1
     have hl := hun g (by simp)
     have hcs := cnt_set (li := li) (i := g) (by omega) hl ops.size
     rw [if_pos hio] at hcs
     obtain ⟨fuel, rfl⟩ : ∃ k, fuel = k + 1 := ⟨cnt (li.setIfInBounds g true) ops.size, by omega⟩
     have hy : Yields P ops o (a.eval (.tmp s)) a := .inl ⟨by simp [Region.wanted, hgu], fun w => by simp [execOp, hop]⟩
     have ha : ∀ e ∈ o.after.toList, Region.binds .any e = true → li.getD e.on false = true := fun e he hb => by rw [hae e he] at hb; simp at hb
     have hst := step li a w g o hs hcl r hgm ho hl ha
     have r' : Rel n A M w0 (slotOf fr ((ops.toList.take m).map (·.dst)) ds (li.setIfInBounds g true) m) h (a.put o.dst (a.eval (.tmp s))) w := by
       unfold wpOpIn at hst
       simp only [ho] at hst
       rw [if_pos (by simp [Region.wanted, hgu])] at hst
       have e : (execOp a.eval o).run P w = .ok (.value (a.eval (.tmp s))) w := by simp [execOp, hop]
       have hst := hst.2
       rw [show (o.semAt (Wd ro).round a.eval).run P w = _ from semAt_run e (by simp)] at hst
       exact hst
     have hGn := List.nodup_cons.1 hnd
     refine wpAnyW_first ho (fun j oj cs b => Region.noSelect_spec k9 j oj cs b) (fun c a w hc => by
         obtain ⟨fr', h', hq, _⟩ := hc
         exact (hQ c fr' h' hq).elim) fuel li a w (fun j oj hj hne _ hno => Region.free_spec ho hfree j oj hj hne (by
         have := (Array.getElem?_eq_some_iff.1 hj).1
         simp [this]) hno) (Lic.mem_ready hs |>.2 ⟨o, ho, hl, ha⟩) hy ?_
     refine ihG (fun g' hg' => hGF g' (by simp [hg'])) hGn.2 fuel _ _ w (by simp [hs]) (by omega) (closed li g o hs hio ho ha hcl) ?_ r' ?_ ?_
     · intro j hj
       rw [getD_set (by omega), if_neg (by omega)]
       exact hpre j hj
     · intro f hf
       rcases hF f hf with hf' | hf'
       · rcases List.mem_cons.1 hf' with rfl | hf'
         · right; rw [getD_set (by omega)]; simp
         · exact .inl hf'
       · right; rw [getD_set (by omega)]; split <;> simp [hf']
     · intro g' hg'
       rw [getD_set (by omega), if_neg (fun e => hGn.1 (by rw [← e]; exact hg'))]
       exact hun g' (by simp [hg'])
 refine pre F (fun _ h => h) (by simpa using k10) ops.size (Array.replicate ops.size false) a0 w1.drew (by simp) ?_ ?_ ?_ ?_ (fun f hf => .inl hf) (fun g hg => by
   by_cases hi : g < ops.size <;> simp [hi])
 · have : ∀ k, k ≤ ops.size → cnt (Array.replicate ops.size false) k = k := by
     intro k
     induction k with
     | zero => intro _; rfl
     | succ k ihk => intro hk; simp only [cnt]; rw [ihk (by omega)]; simp [show k < ops.size from by omega]
   exact this _ (Nat.le_refl _)
 · intro x y hy hx
   have := (Array.getElem?_eq_some_iff.1 hy).1
   simp [this] at hx
 · intro i _
   by_cases hi : i < ops.size <;> simp [hi]
 · obtain ⟨q1, q2⟩ := r0.heap.quiet (w' := w1.drew) rfl rfl rfl rfl (Nat.le_succ _)
   have e0 : slotOf fr ((ops.toList.take m).map (·.dst)) ds (Array.replicate ops.size false) m = fr := by
     funext t
     apply slotOf_miss
     intro i _ hi
     exfalso
     by_cases hi2 : i < ops.size <;> simp [hi2] at hi
   rw [e0]
   exact r0.turn q1 q2
end
end Go.Lic
