/-
  Calls: contracts of functions in abstract data, from a body and at a call.
-/
import Derived.Test.YtkifpidbpoghlaaGreatDoorOps
set_option linter.all false
namespace Go.Lic
variable [Fl]
inductive Plain : D → Prop
 | v (x : Value) : Plain (.v x)
 | agg {ds : List D} (h : ∀ d ∈ ds, Plain d) : Plain (.agg ds)
 | tup {ds : List D} (h : ∀ d ∈ ds, Plain d) : Plain (.tup ds)
mutual
theorem V.plain {w w' : World} {X X' : Nat → Prop} : ∀ {d : D} {x : Value}, V w X d x → Plain d → V w' X' d x
 | _, _, .v x, _ => .v x
 | _, _, .agg h, .agg hp => .agg (h.plain hp)
 | _, _, .tup h, .tup hp => .tup (h.plain hp)
 | _, _, .list .., hp => by cases hp
 | _, _, .own .., hp => by cases hp
 | _, _, .ptr .., hp => by cases hp
 | _, _, .iptr .., hp => by cases hp
 | _, _, .map .., hp => by cases hp
 | _, _, .fn .., hp => by cases hp
 | _, _, .iface .., hp => by cases hp
 | _, _, .top .., hp => by cases hp
 | _, _, .tself .., hp => by cases hp
 | _, _, .tbuf .., hp => by cases hp
theorem VL.plain {w w' : World} {X X' : Nat → Prop} : ∀ {ds : List D} {xs : List Value}, VL w X ds xs → (∀ d ∈ ds, Plain d) → VL w' X' ds xs
 | _, _, .nil, _ => .nil
 | _, _, .cons h hs, hp => .cons (h.plain (hp _ (by simp))) (hs.plain fun d hd => hp d (List.mem_cons_of_mem _ hd))
end
inductive Snap (f : Bool) (h : Heap) : List D → List D → Prop
 | nil : Snap f h [] []
 | same {d : D} {ds ds' : List D} (hd : f = false) (hs : Snap f h ds ds') : Snap f h (d :: ds) (d :: ds')
 | plain {d : D} {ds ds' : List D} (hd : Plain d) (hs : Snap f h ds ds') : Snap f h (d :: ds) (d :: ds')
 | own {c sz i len : Nat} {es es' ds ds' : List D} (hh : Has c (.cells sz es) h) (hl : i + len ≤ es.length) (hok : ∀ d ∈ es', d.ok sz) (hlen : es'.length = len) (he : Snap f h (D.flats ((es.drop i).take len)) (D.flats es')) (hs : Snap f h ds ds') : Snap f h (.own c sz i len :: ds) (.list sz es' :: ds')
 | ownp {c sz i len : Nat} {es ds ds' : List D} (hh : Has c (.cells sz es) h) (hl : i + len ≤ es.length) (he : f = true → ∀ d ∈ D.flats ((es.drop i).take len), Plain d) (hs : Snap f h ds ds') : Snap f h (.own c sz i len :: ds) (.list sz ((es.drop i).take len) :: ds')
 | nilv {sz : Nat} {ds ds' : List D} (hs : Snap f h ds ds') : Snap f h (.v (.slice none 0 0) :: ds) (.list sz [] :: ds')
 | ptr {c sz i k : Nat} {es ds ds' : List D} {e e' : D} (hh : Has c (.cells sz es) h) (he : es[i]? = some e) (hok : ∀ x ∈ e'.flat, x.cell = true) (hse : Snap f h e.flat e'.flat) (hs : Snap f h ds ds') : Snap f h (.ptr c sz i k :: ds) (.iptr e' k :: ds')
 | ptrp {c sz i k : Nat} {es ds ds' : List D} {e : D} (hf : f = false) (hh : Has c (.cells sz es) h) (he : es[i]? = some e) (hs : Snap f h ds ds') : Snap f h (.ptr c sz i k :: ds) (.iptr e k :: ds')
 | agg {es es' ds ds' : List D} (he : Snap f h es es') (hs : Snap f h ds ds') : Snap f h (.agg es :: ds) (.agg es' :: ds')
 | tup {es es' ds ds' : List D} (he : Snap f h es es') (hs : Snap f h ds ds') : Snap f h (.tup es :: ds) (.tup es' :: ds')
 | fn {g : Fn} {as as' cs cs' ds ds' : List D} (ha : Snap f h as as') (hc : Snap f h cs cs') (hs : Snap f h ds ds') : Snap f h (.fn g as cs :: ds) (.fn g as' cs' :: ds')
 | iface {t : TypeId} {d d' : D} {ds ds' : List D} (hd : Snap f h [d] [d']) (hs : Snap f h ds ds') : Snap f h (.iface t d :: ds) (.iface t d' :: ds')
theorem Snap.sound {A M : Nat → Prop} {w0 w : World} {h g : Heap} (hr : HRel A M w0 h w) (hg : ∀ c b, Has c b g → Has c b h) {f : Bool} {X' : Nat → Prop} (hX : f = false → ∀ b, X' b → XX A h b) (hk : ∀ c, c ∈ keys g → c % 2 = 0 → ¬ X' (c / 2)) {ds ds' : List D} (hs : Snap f g ds ds') :
   ∀ vs, VL w (XX A h) ds vs → VL w X' ds' vs := by
 have own : ∀ {c sz i len : Nat} {es : List D} {v : Value}, Has c (.cells sz es) g → i + len ≤ es.length → V w (XX A h) (.own c sz i len) v → ∀ (es' : List D), (∀ d ∈ es', d.ok sz) → es'.length = len →
     (∀ cs, VL w (XX A h) (D.flats ((es.drop i).take len)) cs → VL w X' (D.flats es') cs) → V w X' (.list sz es') v := by
   intro c sz i len es v hh hl hv es' hok hlen hconv
   cases hv with
   | @own _ _ _ _ cap a hc hd =>
     obtain ⟨hoke, hb⟩ := hr.cells (hg _ _ hh)
     rcases hb with ⟨_, hb⟩ | ⟨hc2, arr, et, ocs, ha, hov, hop⟩
     · subst hb
       have hz : len = 0 := by simp at hl; omega
       subst hz
       have : es' = [] := List.eq_nil_of_length_eq_zero hlen
       subst this
       exact .list (sz := sz) (ds := []) (cs := []) (b := 0) (o := 0) (by simp) .nil (by simp) (.inl rfl) (by simp)
     · have hmid : VL w (XX A h) (D.flats ((es.drop i).take len)) ((ocs.drop (i * sz)).take (len * sz)) := by
         rw [flats_take _ (fun x hx => hoke x (List.mem_of_mem_drop hx)), flats_drop _ hoke]
         exact (hov.drop _).take _
       have hcs := hconv _ hmid
       subst hlen
       rcases hd with ⟨_, rfl, _⟩ | ⟨hz, _⟩
       · refine .list hok hcs (b := c / 2) (o := i * sz) (fun _ => rfl) (.inr ⟨hk c hh.key hc2, fun j c' hj => ?_⟩) (by omega)
         have hlt := (List.getElem?_eq_some_iff.1 hj).1
         rw [List.length_take] at hlt
         rw [List.getElem?_take_of_lt (by omega), List.getElem?_drop] at hj
         exact own_cell ha hop _ _ hj
       · have h0 : es' = [] := List.eq_nil_of_length_eq_zero hz
         subst h0
         exact .list (sz := sz) (ds := []) (cs := []) (b := 0) (o := 0) (by simp) .nil (by simp) (.inl rfl) (by simp)
 have ptr : ∀ {c sz i k : Nat} {es : List D} {e e' : D} {v : Value}, Has c (.cells sz es) g → es[i]? = some e → V w (XX A h) (.ptr c sz i k) v → (∀ x ∈ e'.flat, x.cell = true) →
     (∀ cs, VL w (XX A h) e.flat cs → VL w X' e'.flat cs) → V w X' (.iptr e' k) v := by
   intro c sz i k es e e' v hh he hv hok hconv
   cases hv with
   | ptr hc =>
     have hle := ((hr.cells (hg _ _ hh)).1 e (List.mem_of_getElem? he)).1
     obtain ⟨_, cs, hcs, hcl, hcell⟩ := own_part (k := 0) (n := sz) hr (hg _ _ hh) he (by omega)
     have ht : (e.flat.drop 0).take sz = e.flat := by simp [← hle]
     rw [ht] at hcs
     exact .iptr (b := c / 2) (o := i * sz) (cs := cs) hok (hconv _ hcs) (.inr ⟨hk c hh.key hc, fun j c' hj => by have := hcell j c' hj; simpa using this⟩)
 induction hs with
 | nil => intro vs hv; cases hv; exact .nil
 | same hd _ ih => intro vs hv; cases hv with | cons h1 h2 => exact .cons (h1.mono (.less (hX hd))) (ih _ h2)
 | plain hd _ ih => intro vs hv; cases hv with | cons h1 h2 => exact .cons (h1.plain hd) (ih _ h2)
 | own hh hl hok hlen _ _ ihe ih => intro vs hv; cases hv with | cons h1 h2 => exact .cons (own hh hl h1 _ hok hlen ihe) (ih _ h2)
 | @ownp c sz i len es ds ds' hh hl he _ ih =>
   intro vs hv
   cases hv with
   | cons h1 h2 =>
     refine .cons (own hh hl h1 _ (fun x hx => (hr.cells (hg _ _ hh)).1 x (List.mem_of_mem_drop (List.mem_of_mem_take hx))) (by simp; omega) (fun cs hcs => ?_)) (ih _ h2)
     cases f with
     | false => exact hcs.mono (.less (hX rfl))
     | true => exact hcs.plain (he rfl)
 | nilv _ ih =>
   intro vs hv
   cases hv with
   | cons h1 h2 =>
     refine .cons ?_ (ih _ h2)
     cases h1
     exact .list (ds := []) (cs := []) (b := 0) (o := 0) (by simp) .nil (by simp) (.inl rfl) (by simp)
 | ptr hh he hok _ _ ihe ih => intro vs hv; cases hv with | cons h1 h2 => exact .cons (ptr hh he h1 hok ihe) (ih _ h2)
 | ptrp hf hh he _ ih =>
   intro vs hv
   cases hv with
   | cons h1 h2 => exact .cons (ptr hh he h1 ((hr.cells (hg _ _ hh)).1 _ (List.mem_of_getElem? he)).2 (fun cs hcs => hcs.mono (.less (hX hf)))) (ih _ h2)
 | agg _ _ ihe ih => intro vs hv; cases hv with | cons h1 h2 => cases h1 with | agg h1 => exact .cons (.agg (ihe _ h1)) (ih _ h2)
 | tup _ _ ihe ih => intro vs hv; cases hv with | cons h1 h2 => cases h1 with | tup h1 => exact .cons (.tup (ihe _ h1)) (ih _ h2)
 | fn _ _ _ iha ihc ih => intro vs hv; cases hv with | cons h1 h2 => cases h1 with | fn h1 h3 => exact .cons (.fn (iha _ h1) (ihc _ h3)) (ih _ h2)
 | iface _ _ ihd ih =>
   intro vs hv
   cases hv with
   | cons h1 h2 =>
     cases h1 with
     | iface h1 =>
       cases ihd _ (.cons h1 .nil) with
       | cons h3 _ => exact .cons (.iface h3) (ih _ h2)
def Fun (fresh : Bool) (P : Program) (f : Nat) (ds : List D) (R : D → Prop) : Prop :=
 ∀ (A : Nat → Prop) (w : World) (vs : List Value), (∃ N, ∀ c, A c → c < N) → (∀ b, A (2 * b) → b < w.heap.size) → Glob w (fun b => A (2 * b)) → VL w (fun b => A (2 * b)) ds vs →
   Calls P f vs.toArray w fun e w' => ∃ v d, e = .returned v ∧ R d ∧ V w' (fun b => cond fresh (b < w.heap.size) (A (2 * b))) d v ∧ Ext (fun _ => False) w w'
def CallH (P : Program) (f : Nat) (ds : List D) (h : Heap) (K : D → Heap → Prop) : Prop :=
 ∀ (A : Nat → Prop) (w : World) (vs : List Value), HRel A (fun b => 2 * b ∈ keys h) w h w → VL w (XX A h) ds vs →
   Calls P f vs.toArray w fun e w' => ∃ v d h', e = .returned v ∧ K d h' ∧ HRel A (fun b => 2 * b ∈ keys h) w h' w' ∧ Mono w (XX A h) w' (XX A h') ∧ V w' (XX A h') d v
@[reducible] def frOf : List D → Nat → D
 | [], _ => .v undef
 | d :: _, 0 => d
 | _ :: ds, i + 1 => frOf ds i
theorem frOf_get : ∀ (ds : List D) (i : Nat), frOf ds i = (ds[i]?).getD (.v undef)
 | [], i => by simp [frOf]
 | d :: ds, 0 => rfl
 | d :: ds, i + 1 => by simpa [frOf] using frOf_get ds i
def LoadA (P : Program) (t : TypeId) (fr : Nat → D) (s : Nat) (h : Heap) (d : D) : Prop :=
 ∀ A M w0 w x, HRel A M w0 h w → V w (XX A h) (fr s) x → ∃ v, (do loadVar t (← asAddr x) : Sem Value).run P w = .ok v w ∧ V w (XX A h) d v
theorem LoadA.agg {P : Program} {t : TypeId} {fr : Nat → D} {s : Nat} {h : Heap} {c sz i k n : Nat} {es ds : List D} {e : D} (ht : TI P t n true) (hx : fr s = .ptr c sz i k) (hh : Has c (.cells sz es) h) (he : es[i]? = some e) (hkn : k + n ≤ e.flat.length)
   (hd : (e.flat.drop k).take n = ds) : LoadA P t fr s h (.agg ds) := by
 intro A M w0 w x hr hv
 rw [hx] at hv
 cases hv with
 | ptr hc =>
   obtain ⟨_, cs, hcs, hcl, hcell⟩ := own_part hr hh he hkn
   rw [hd] at hcs
   obtain ⟨v, hv1, hv2⟩ := (run_loadVar' ht hcs hcell (by rw [hcs.length, hcl])).1 rfl
   exact ⟨v, by simp [asAddr, hv1], hv2⟩
theorem LoadA.whole {P : Program} {t : TypeId} {fr : Nat → D} {s : Nat} {h : Heap} {c sz i n : Nat} {es : List D} {e : D} (ht : TI P t n true) (hx : fr s = .ptr c sz i 0) (hn : Nat.beq sz n = true) (hh : Has c (.cells sz es) h) (he : es[i]? = some e)
   (hag : ∃ ds, e = .agg ds) : LoadA P t fr s h e := by
 intro A M w0 w x hr hv
 obtain ⟨ds, rfl⟩ := hag
 have hok := (hr.cells hh).1 _ (List.mem_of_getElem? he)
 have hn := Nat.eq_of_beq_eq_true hn
 have hl : ds.length = n := by rw [← hn]; exact hok.1
 exact LoadA.agg (ds := ds) ht hx hh he (by simp [D.flat, hl]) (by simp [D.flat, ← hl]) A M w0 w x hr hv
inductive ResL (P : Program) (fr : Nat → D) (h : Heap) : List ResultVar → List D → Prop
 | nil : ResL P fr h [] []
 | tmp {t : Nat} {d : D} {rs : List ResultVar} {ds : List D} (hd : fr t = d) (hs : ResL P fr h rs ds) : ResL P fr h (.tmp t :: rs) (d :: ds)
 | cell {s : Nat} {t : TypeId} {d : D} {rs : List ResultVar} {ds : List D} (hd : LoadA P t fr s h d) (hs : ResL P fr h rs ds) : ResL P fr h (.cell s t :: rs) (d :: ds)
@[reducible] def tupD : List D → D
 | [d] => d
 | ds => .tup ds
def resRun (tmps : Array Value) : ResultVar → Sem Value
 | .tmp t => pure (tmps.getD t undef)
 | .cell b t => do loadVar t (← asAddr (tmps.getD b undef))
theorem ResL.run {P : Program} {fr : Nat → D} {h : Heap} {n : Nat} {A M : Nat → Prop} {w0 w : World} {a : Act} (r : Rel n A M w0 fr h a w) : ∀ {rs : List ResultVar} {ds : List D}, ResL P fr h rs ds →
   ∃ vs, (rs.mapM (resRun a.tmps) : Sem (List Value)).run P w = .ok vs w ∧ VL w (XX A h) ds vs
 | _, _, .nil => ⟨[], by simp, .nil⟩
 | _, _, .tmp (t := t) hd hs => by
   obtain ⟨vs, h1, h2⟩ := hs.run r
   refine ⟨a.tmps.getD t undef :: vs, ?_, .cons (hd ▸ r.frame t) h2⟩
   rw [List.mapM_cons]
   simp only [Sem.run_bind, resRun, Sem.run_pure, Result.andThen_ok]
   rw [h1]
   rfl
 | _, _, .cell (s := s) (t := t) hd hs => by
   obtain ⟨vs, h1, h2⟩ := hs.run r
   obtain ⟨v, h3, h4⟩ := hd A M w0 w _ r.heap (r.frame s)
   refine ⟨v :: vs, ?_, .cons h4 h2⟩
   rw [List.mapM_cons]
   rw [Sem.run_bind, show (resRun a.tmps (.cell s t)).run P w = .ok v w from h3]
   simp only [Result.andThen_ok, Sem.run_bind, Sem.run_pure]
   rw [h1]
   rfl
theorem ResL.results {P : Program} {fr : Nat → D} {h : Heap} {n : Nat} {A M : Nat → Prop} {w0 w : World} {a : Act} (r : Rel n A M w0 fr h a w) {fn : Func} {ds : List D} (hr : ResL P fr h fn.results.toList ds) :
   ∃ v, (results fn a.tmps).run P w = .ok v w ∧ V w (XX A h) (tupD ds) v := by
 obtain ⟨vs, h1, h2⟩ := hr.run r
 have hrun : (fn.results.mapM (resRun a.tmps) : Sem (Array Value)).run P w = .ok vs.toArray w := by
   rw [Array.mapM_eq_mapM_toList]
   simp only [Sem.run_map]
   rw [h1]
   rfl
 have hres : Go.results fn a.tmps = (do let vs ← fn.results.mapM (resRun a.tmps); pure (if h : vs.size = 1 then vs[0] else .tuple vs) : Sem Value) := by
   unfold Go.results
   congr 1
 rw [hres]
 simp only [Sem.run_bind]
 rw [hrun]
 cases h2 with
 | nil => exact ⟨.tuple #[], by simp, .tup (vs := []) .nil⟩
 | @cons d ds x xs h3 h4 =>
   cases h4 with
   | nil => exact ⟨x, by simp, h3⟩
   | @cons d' ds' x' xs' h5 h6 =>
     refine ⟨.tuple (x :: x' :: xs').toArray, by simp, ?_⟩
     exact .tup (.cons h3 (.cons h5 h6))
theorem Lie.other {w w' : World} {X : Nat → Prop} {b : Nat} (hk : ∀ k, k ≠ b → w'.heap[k]? = w.heap[k]?) (hc : ∀ o, w.cell? ⟨b, o, none⟩ = none) {b' o : Nat} {cs : List Value} (h : Lie w X b' o cs) : Lie w' X b' o cs := by
 rcases h with h | ⟨hx, h⟩
 · exact .inl h
 · cases cs with
   | nil => exact .inl rfl
   | cons c cs =>
     have hne : b' ≠ b := fun e => by subst e; have := h 0 c rfl; rw [hc] at this; cases this
     exact .inr ⟨hx, fun j c' hj => (World.cell?_of_block (hk b' hne)).trans (h j c' hj)⟩
theorem Rel.init {n : Nat} {A M : Nat → Prop} {w : World} {h : Heap} {ds : List D} {vs : List Value} (hr : HRel A M w h w) (hv : VL w (XX A h) ds vs) (hn : ds.length ≤ n) :
   Rel n A M w (frOf ds) h { tmps := vs.toArray ++ Array.replicate (n - vs.toArray.size) undef, defers := [] } w where
 size := by have := hv.length; simp; omega
 frame := fun i => by
   rw [frOf_get]
   cases hd : ds[i]? with
   | some d =>
     obtain ⟨x, h1, h2⟩ := hv.get i d hd
     have hlt := (List.getElem?_eq_some_iff.1 h1).1
     have : (vs.toArray ++ Array.replicate (n - vs.toArray.size) undef).getD i undef = x := by
       simp [Array.getElem?_append, hlt]
       have := (List.getElem?_eq_some_iff.1 h1).2
       exact this
     rw [this]; exact h2
   | none =>
     have hge : vs.length ≤ i := by
       rw [← hv.length]
       rcases Nat.lt_or_ge i ds.length with h | h
       · rw [List.getElem?_eq_getElem h] at hd; simp at hd
       · exact h
     have : (vs.toArray ++ Array.replicate (n - vs.toArray.size) undef).getD i undef = undef := by
       simp only [Array.getD_eq_getD_getElem?, Array.getElem?_append, List.size_toArray, if_neg (Nat.not_lt.2 hge), Array.getElem?_replicate]
       split <;> rfl
     rw [this]; exact .v _
 defers := Marks.nil _ _ _
 heap := hr
theorem Mono.of_rel {A : Nat → Prop} {w w' : World} {h h' : Heap} (r : HRel A (fun b => 2 * b ∈ keys h) w h' w') : Mono w (XX A h) w' (XX A h') where
 size := r.ext.size
 keep := fun b hb hx => r.ext.keep b hb fun hm => hx (.inr hm)
 shape := r.ext.shape
 avoid := fun b hb hx => by
   rcases hx with hx | hx
   · exact .inl hx
   · rcases r.mine _ hx (by omega) with hm | hm
     · rw [show 2 * b / 2 = b from by omega] at hm; exact .inr hm
     · omega
mutual
theorem V.other {w w' : World} {X : Nat → Prop} {b : Nat} (hk : ∀ k, k ≠ b → w'.heap[k]? = w.heap[k]?) (hc : ∀ o, w.cell? ⟨b, o, none⟩ = none) (hs : w.shape? b = none) : ∀ {d : D} {x : Value}, V w X d x → V w' X d x
 | _, _, .v x => .v x
 | _, _, .agg h => .agg (h.other hk hc hs)
 | _, _, .list hok h ha hl hcp => .list hok (h.other hk hc hs) ha (Lie.other hk hc hl) hcp
 | _, _, .own hcp h => .own hcp (h.imp (fun ⟨h1, h2, e, n, h3, hn⟩ => ⟨h1, h2, e, n, (shape_of_heap (hk _ (fun e => by rw [e, hs] at h3; cases h3))).trans h3, hn⟩) id)
 | _, _, .ptr hcp => .ptr hcp
 | _, _, .iptr hok h hl => .iptr hok (h.other hk hc hs) (Lie.other hk hc hl)
 | _, _, .map hcp => .map hcp
 | _, _, .fn h h' => .fn (h.other hk hc hs) (h'.other hk hc hs)
 | _, _, .tup h => .tup (h.other hk hc hs)
 | _, _, .iface h => .iface (h.other hk hc hs)
 | _, _, .top x => .top x
 | _, _, .tself hcp h3 => .tself hcp ((shape_of_heap (hk _ (fun e => by rw [e, hs] at h3; cases h3))).trans h3)
 | _, _, .tbuf hcp ⟨h1, h2, h3, n, h4, hn⟩ => .tbuf hcp ⟨h1, h2, h3, n, (shape_of_heap (hk _ (fun e => by rw [e, hs] at h4; cases h4))).trans h4, hn⟩
 | _, _, .clip hok h ha hl => .clip hok (h.other hk hc hs) ha (Lie.other hk hc hl)
theorem VL.other {w w' : World} {X : Nat → Prop} {b : Nat} (hk : ∀ k, k ≠ b → w'.heap[k]? = w.heap[k]?) (hc : ∀ o, w.cell? ⟨b, o, none⟩ = none) (hs : w.shape? b = none) : ∀ {ds : List D} {xs : List Value}, VL w X ds xs → VL w' X ds xs
 | _, _, .nil => .nil
 | _, _, .cons h hs' => .cons (h.other hk hc hs) (hs'.other hk hc hs)
end
theorem BlkRel.other {w w' : World} {X : Nat → Prop} {b c : Nat} {blk : Blk} (hb : BlkRel w X c blk) (hk : ∀ k, k ≠ b → w'.heap[k]? = w.heap[k]?) (hc : ∀ o, w.cell? ⟨b, o, none⟩ = none) (hs : w.shape? b = none) (hne : c % 2 = 0 → c / 2 ≠ b) : BlkRel w' X c blk := by
 cases blk with
 | cells sz es =>
   refine ⟨hb.1, hb.2.imp id ?_⟩
   rintro ⟨h1, arr, e, cs, h2, h3, h4⟩
   exact ⟨h1, arr, e, cs, h2.eq (hk _ (hne h1)), h3.other hk hc hs, h4⟩
 | map es =>
   obtain ⟨h1, ents, clock, h2, h3, h4, h5⟩ := hb
   exact ⟨h1, ents, clock, (hk _ (hne h1)).trans h2, h3, h4.other hk hc hs, h5⟩
 | raw o => exact ⟨hb.1, (hk _ (hne hb.1)).trans hb.2⟩
 | loop n fr ps assign body =>
   obtain ⟨h1, fn, tmps, D, h2, h3, h4⟩ := hb
   exact ⟨h1, fn, tmps, D, (hk _ (hne h1)).trans h2, h3, fun i => (h4 i).other hk hc hs⟩
theorem HRel.other {A M : Nat → Prop} {w0 w w' : World} {h : Heap} (hr : HRel A M w0 h w) {b : Nat} (hk : ∀ k, k ≠ b → w'.heap[k]? = w.heap[k]?) (hc : ∀ o, w.cell? ⟨b, o, none⟩ = none) (hs : w.shape? b = none)
   (hx : ¬ XX A h b) (h0 : w0.heap.size ≤ b) (hg : b ∉ globIds) (hsz : w'.heap.size = w.heap.size) (ho : w'.os = w.os) (ht : w'.tape = w.tape) (hp : w'.output = w.output) (hd : w.drawn ≤ w'.drawn) : HRel A M w0 h w' := by
 have hkey : ∀ c, c ∈ keys h → c % 2 = 0 → c / 2 ≠ b := fun c hc1 hc2 e => hx (.inr (by rw [← e, show 2 * (c / 2) = c from by omega]; exact hc1))
 refine ⟨hr.nodup, fun c blk hm => ?_, hr.free, hr.mine, hr.bound, by rw [hsz]; exact hr.old, ⟨ho.trans hr.ext.os, ht.trans hr.ext.tape, hp.trans hr.ext.output, by rw [hsz]; exact hr.ext.size, fun k hk1 hk2 => (hk k (by omega)).trans (hr.ext.keep k hk1 hk2), fun k hk1 => (shape_of_heap (hk k (by omega))).trans (hr.ext.shape k hk1), fun o_ => Nat.le_trans (hr.ext.drawn o_) hd⟩, ?_⟩
 · exact (hr.blk c blk hm).other hk hc hs (hkey c (List.mem_map.2 ⟨_, hm, rfl⟩))
 · obtain ⟨W0, g0, g1⟩ := hr.glob
   exact ⟨W0, g0, fun g hgm => ⟨(g1 g hgm).1, by rw [hsz]; exact (g1 g hgm).2.1, (hk g (fun e => hg (e ▸ hgm))).trans (g1 g hgm).2.2⟩⟩
def cellsB : Obj → Bool
 | .cells .. => true
 | _ => false
theorem noncell {w : World} {b : Nat} {o : Obj} (h : w.heap[b]? = some o) (hn : cellsB o = false) : (∀ i, w.cell? ⟨b, i, none⟩ = none) ∧ w.shape? b = none := by
 constructor
 · intro i; unfold World.cell?; simp only [h]; cases o <;> first | rfl | simp [cellsB] at hn
 · unfold World.shape?; rw [h]; cases o <;> first | rfl | simp [cellsB] at hn
theorem leaves_marks {P : Program} {fn : Func} {tmps : Array Value} {R : Ending → World → Prop} {A M : Nat → Prop} {w0 : World} {fr : Nat → D} {h : Heap}
   (hR : ∀ w, HRel A M w0 h w → (∀ i, V w (XX A h) (fr i) (tmps.getD i undef)) → ∃ v, (results fn tmps).run P w = .ok v w ∧ R (.returned v) w) :
   ∀ (Ds : List Nat) (w : World), Ds.Nodup → (∀ b ∈ Ds, w.heap[b]? = some (.deferred (some [])) ∧ ¬ XX A h b ∧ w0.heap.size ≤ b ∧ b ∉ globIds) → HRel A M w0 h w → (∀ i, V w (XX A h) (fr i) (tmps.getD i undef)) →
     LeavesInM Fence.wide 0 P fn tmps R (Ds.map fun b => { target := .collected b, args := #[] }) .returning w
 | [], w, _, _, hr, hf => hR w hr hf
 | b :: Ds, w, hn, hb, hr, hf => by
   obtain ⟨a1, a2, a3, a4⟩ := hb b (by simp)
   obtain ⟨n1, n2⟩ := List.nodup_cons.1 hn
   obtain ⟨c1, c2⟩ := noncell a1 rfl
   have hk : ∀ k, k ≠ b → (w.putObj b (.deferred none)).heap[k]? = w.heap[k]? := fun k hk => World.putObj_heap_other hk
   refine ⟨by simp, .inl ⟨b, w.putObj b (.deferred none), rfl, run_takeDeferred a1, ?_⟩⟩
   refine leaves_marks hR Ds _ n2 (fun d hd => ?_) (hr.other hk c1 c2 a2 a3 a4 (by simp [World.putObj]) rfl rfl rfl (Nat.le_refl _)) (fun i => (hf i).other hk c1 c2)
   obtain ⟨d1, d2, d3, d4⟩ := hb d (by simp [hd])
   exact ⟨(hk d (fun e => n1 (e ▸ hd))).trans d1, d2, d3, d4⟩
abbrev RetA (P : Program) (fn : Func) (K : D → Heap → Prop) : Post
 | .normal, fr, h => ∃ ds, ResL P fr h fn.results.toList ds ∧ K (tupD ds) h
 | .ret, fr, h => ∃ ds, ResL P fr h fn.results.toList ds ∧ K (tupD ds) h
 | _, _, _ => False
theorem CallH.of_body {P : Program} {f : Nat} {fn : Func} {c : Code} {n : Nat} {ds : List D} {h : Heap} {K : D → Heap → Prop} (hf : P.funcs[f]? = some fn) (hb : fn.body = some c) (hn : fn.ntmps = n) (hd : Nat.ble ds.length n = true)
   (hh : wpA P n c (RetA P fn K) (frOf ds) h) : CallH P f ds h K := by
 intro A w vs hr hv
 refine (callsIn_wide (n := 0)).1 (callsIn_of_wp_marks (F := Fence.wide) hf hb trivial (wpIn_mono (hh A (fun b => 2 * b ∈ keys h) w _ w ?_ none (.inl rfl)) ?_))
 · rw [hn]; exact Rel.init hr hv (Nat.le_of_ble_eq_true hd)
 · rintro e a' w' ⟨fr', h', hq, r⟩
   cases e with
   | normal =>
     obtain ⟨ds', h1, h2⟩ := hq
     obtain ⟨Ds, e1, e2, e3⟩ := r.defers
     show LeavesInM Fence.wide 0 P fn a'.tmps _ a'.defers .returning w'
     rw [e1]
     refine leaves_marks (fun w'' hr' hf' => ?_) Ds w' e2 e3 r.heap r.frame
     obtain ⟨v, h3, h4⟩ := h1.results (a := { tmps := a'.tmps, defers := [] }) ⟨r.size, hf', Marks.nil _ _ _, hr'⟩
     exact ⟨v, h3, v, _, h', rfl, h2, hr', Mono.of_rel hr', h4⟩
   | ret =>
     obtain ⟨ds', h1, h2⟩ := hq
     obtain ⟨Ds, e1, e2, e3⟩ := r.defers
     show LeavesInM Fence.wide 0 P fn a'.tmps _ a'.defers .returning w'
     rw [e1]
     refine leaves_marks (fun w'' hr' hf' => ?_) Ds w' e2 e3 r.heap r.frame
     obtain ⟨v, h3, h4⟩ := h1.results (a := { tmps := a'.tmps, defers := [] }) ⟨r.size, hf', Marks.nil _ _ _, hr'⟩
     exact ⟨v, h3, v, _, h', rfl, h2, hr', Mono.of_rel hr', h4⟩
   | exit id => exact hq.elim
   | goto l => exact hq.elim
   | panic ch => exact hq.elim
   | outgrown => exact hq.elim
theorem HRel.empty {A : Nat → Prop} {w : World} (hb : ∃ N, ∀ c, A c → c < N) (ho : ∀ b, A (2 * b) → b < w.heap.size) (hg : Glob w (fun b => A (2 * b))) (M : Nat → Prop) : HRel A M w [] w :=
 ⟨by simp, by simp, by simp, by simp, hb, ho, Ext.refl _ _, hg.mono (.less fun b hb => hb.elim id (by simp))⟩
theorem XX_nil (A : Nat → Prop) : XX A [] = fun b => A (2 * b) := by funext b; simp [XX]
abbrev OutA (fresh : Bool) (R : D → Prop) (d : D) (h : Heap) : Prop := ∃ d', Snap fresh h [d] [d'] ∧ R d'
theorem Fun.of_body {fresh : Bool} {P : Program} {f : Nat} {fn : Func} {c : Code} {n : Nat} {ds : List D} {R : D → Prop} (hf : P.funcs[f]? = some fn) (hb : fn.body = some c) (hn : fn.ntmps = n) (hd : Nat.ble ds.length n = true)
   (hh : wpA P n c (RetA P fn (OutA fresh R)) (frOf ds) []) : Fun fresh P f ds R := by
 intro A w vs hbd ho hgl hv
 refine (CallH.of_body hf hb hn hd hh A w vs (HRel.empty hbd ho hgl _) (by rw [XX_nil]; exact hv)).mono ?_
 rintro e w' ⟨v, d, h', rfl, ⟨d', hs, hR⟩, hr, hm, hvv⟩
 have hsz : ∀ c, c ∈ keys h' → c % 2 = 0 → w.heap.size ≤ c / 2 := fun c hc he => by
   rcases hr.mine c hc he with h | h
   · simp at h
   · exact h
 have := hs.sound (X' := fun b => cond fresh (b < w.heap.size) (A (2 * b))) hr (fun _ _ h => h) (by
     intro hff b hx
     subst hff
     exact .inl hx) (by
     intro c hc he hx
     cases fresh with
     | true => have := hsz c hc he; simp only [cond_true] at hx; omega
     | false =>
       simp only [cond_false] at hx
       rw [show 2 * (c / 2) = c from by omega] at hx
       exact hr.free c hc hx) [v] (.cons hvv .nil)
 cases this with
 | cons h1 _ => exact ⟨v, d', rfl, hR, h1, hr.ext.more (by simp)⟩
def entersB (P : Program) (f : Nat) : Bool :=
 match P.funcs[f]? with
 | some fn => !(fn.name == "runtime.NumGoroutine") && fn.body.isSome
 | none => false
theorem run_enter {P : Program} {f : Nat} (h : entersB P f = true) (args : Array Value) (w : World) : (callFunc f args).run P w = .ok (.enter f args) w := by
 unfold entersB at h
 split at h
 · rename_i fn hfn
   simp only [Bool.and_eq_true, Bool.not_eq_true'] at h
   have h2 : fn.body.isNone = false := by cases hb : fn.body <;> simp_all
   simp only [callFunc, Sem.run_bind, run_program, Result.andThen_ok, hfn, h.1, h2, Bool.false_eq_true, if_false, Sem.run_pure]
 · simp at h
section
variable {P : Program} {o : Oper} {fr : Nat → D} {h : Heap} {K : D → Heap → Prop}
theorem evs_VL {w : World} {X : Nat → Prop} {ac : Act} : ∀ (xs : List Operand), (∀ x ∈ xs, V w X (ev fr x) (ac.eval x)) → VL w X (xs.map (ev fr)) (xs.map ac.eval)
 | [], _ => .nil
 | x :: xs, hv => .cons (hv x (by simp)) (evs_VL xs fun y hy => hv y (List.mem_cons_of_mem _ hy))
theorem call_wp {A M : Nat → Prop} {w0 w : World} {cl : Call} {g : Operand} {f : Nat} {fs cs : List D} {ac : Act} (ho : o.op = .call cl) (hc : cl.callee = .value g) (hg : ev fr g = .fn (.func f) fs cs) (he : entersB P f = true)
   (_hr : HRel A M w0 h w) (hv : ∀ x, x ∈ o.op.operands → V w (XX A h) (ev fr x) (ac.eval x)) :
   ∃ vs, VL w (XX A h) (fs ++ cl.args.toList.map (ev fr) ++ cs) vs ∧ (execOp ac.eval o).run P w = .ok (.enter f vs.toArray) w := by
 have h1 := hv g (by simp [ho, Op.operands, Call.operands, hc])
 have h2 := evs_VL (ac := ac) cl.args.toList (fun x hx => hv x (by simp [ho, Op.operands, Call.operands, hc]; exact .inr (by simpa using hx)))
 rw [hg] at h1
 generalize hu : ac.eval g = u at h1
 cases h1 with
 | @fn _ _ _ fv cv h3 h4 =>
   refine ⟨fv ++ cl.args.toList.map ac.eval ++ cv, (h3.append h2).append h4, ?_⟩
   have e1 : fv.toArray ++ cl.args.map ac.eval ++ cv.toArray = (fv ++ cl.args.toList.map ac.eval ++ cv).toArray := by
     apply Array.toList_inj.1; simp
   simp only [execOp, ho, resolve, hc, hu, Deferred.ofValue, Sem.run_bind, Sem.run_pure, Result.andThen_ok, invoke, e1, run_enter he]
theorem HRel.avoid {A M : Nat → Prop} {w0 w : World} (hr : HRel A M w0 h w) : (∃ N, ∀ c, (A c ∨ c ∈ keys h) → c < N) ∧ ∀ b, (A (2 * b) ∨ 2 * b ∈ keys h) → b < w.heap.size := by
 refine ⟨?_, fun b hb => hr.xlt hb⟩
 obtain ⟨N, hN⟩ := hr.bound
 obtain ⟨m, hm⟩ : ∃ m, ∀ c, c ∈ keys h → c ≤ m := by
   generalize keys h = l
   induction l with
   | nil => exact ⟨0, by simp⟩
   | cons x l ih =>
     obtain ⟨m, hm⟩ := ih
     refine ⟨max x m, fun c hc => ?_⟩
     rcases List.mem_cons.1 hc with h | h
     · subst h; omega
     · have := hm c h; omega
 refine ⟨N + m + 1, fun c hc => ?_⟩
 rcases hc with hc | hc
 · have := hN c hc; omega
 · have := hm c hc; omega
theorem HRel.extend {A M : Nat → Prop} {w0 w w' : World} (hr : HRel A M w0 h w) (he : Ext (fun _ => False) w w') : HRel A M w0 h w' ∧ Mono w (XX A h) w' (XX A h) := by
 have hm : Mono w (XX A h) w' (XX A h) := ⟨he.size, fun b hb _ => he.keep b hb (fun h => h), he.shape, fun _ _ hx => hx⟩
 refine ⟨⟨hr.nodup, fun c b hc => (hr.blk c b hc).mono hm (fun hev => he.keep _ ((hr.blk c b hc).lt hev) (fun h => h)), hr.free, hr.mine, hr.bound, fun b hb => Nat.lt_of_lt_of_le (hr.old b hb) he.size, ?_, hr.glob.mono hm⟩, hm⟩
 exact hr.ext.trans (he.more (by simp))
theorem OpA.call {fresh : Bool} {cl : Call} {g : Operand} {f : Nat} {fs cs : List D} {R : D → Prop} (ho : o.op = .call cl) (hc : cl.callee = .value g) (hg : ev fr g = .fn (.func f) fs cs) (he : entersB P f = true)
   (hf : Fun fresh P f (fs ++ cl.args.toList.map (ev fr) ++ cs) R) (hk : ∀ d, R d → K d h) : OpA P o fr h K :=
 fun A M w0 ac w hr hv next Q hn => by
   obtain ⟨vs, h1, h2⟩ := call_wp ho hc hg he hr hv
   obtain ⟨hb1, hb2⟩ := hr.avoid
   intro ro
   refine wd_op h2 (by simp) ⟨fun h => (by cases h), wd_calls ?_⟩
   refine (hf (fun c => A c ∨ c ∈ keys h) w vs hb1 hb2 hr.glob h1).mono ?_
   rintro e w' ⟨v, d, rfl, hR, hvv, hext⟩
   obtain ⟨r1, r2⟩ := hr.extend hext
   refine hn v w' d h (hk d hR) r1 r2 (hvv.mono (.less fun b hb => ?_))
   cases fresh with
   | false => exact hb
   | true => exact hr.xlt hb
theorem OpA.callH {cl : Call} {g : Operand} {f : Nat} {fs cs : List D} {h1 h2 : Heap} {K' : D → Heap → Prop} (ho : o.op = .call cl) (hc : cl.callee = .value g) (hg : ev fr g = .fn (.func f) fs cs) (he : entersB P f = true)
   (hp : h.Perm (h1 ++ h2)) (hf : CallH P f (fs ++ cl.args.toList.map (ev fr) ++ cs) h1 K') (hk : ∀ d h', K' d h' → K d (h' ++ h2)) : OpA P o fr h K :=
 fun A M w0 ac w hr hv next Q hn => by
   obtain ⟨vs, hvs, h4⟩ := call_wp ho hc hg he hr hv
   intro ro
   refine wd_op h4 (by simp) ⟨fun h => (by cases h), wd_calls ?_⟩
   obtain ⟨hr', hm'⟩ := hr.perm hp
   have hvs' := hvs.mono hm'
   have hnd := hr'.nodup
   simp only [keys_append, List.nodup_append] at hnd
   have hxx : XX (fun c => A c ∨ c ∈ keys h2) h1 = XX A (h1 ++ h2) := by
     funext b; simp only [XX, keys_append, List.mem_append, eq_iff_iff]
     constructor
     · rintro ((h | h) | h)
       · exact .inl h
       · exact .inr (.inr h)
       · exact .inr (.inl h)
     · rintro (h | h | h)
       · exact .inl (.inl h)
       · exact .inr h
       · exact .inl (.inr h)
   have hcall : HRel (fun c => A c ∨ c ∈ keys h2) (fun b => 2 * b ∈ keys h1) w h1 w := by
     refine ⟨hnd.1, fun c b hc => by rw [hxx]; exact hr'.blk c b (List.mem_append.2 (.inl hc)), ?_, ?_, ?_, ?_, Ext.refl _ _, by rw [hxx]; exact hr'.glob⟩
     · rintro c hc (ha | ha)
       · exact hr'.free c (by simp [hc]) ha
       · exact hnd.2.2 c hc c ha rfl
     · intro c hc hev; left; show 2 * (c / 2) ∈ keys h1; rw [show 2 * (c / 2) = c from by omega]; exact hc
     · obtain ⟨N, hN⟩ := hr'.avoid.1
       exact ⟨N, fun c hc => hN c (hc.imp id (fun h => by simp [h]))⟩
     · intro b hb
       exact hr'.avoid.2 b (hb.imp id (fun h => by simp [h]))
   refine (hf _ w vs hcall (by rw [hxx]; exact hvs')).mono ?_
   rintro e w' ⟨v, d, h', rfl, hK, hrr, hmm, hvv⟩
   have hnd2 : (keys (h' ++ h2)).Nodup := by
     simp only [keys_append, List.nodup_append]
     exact ⟨hrr.nodup, hnd.2.1, fun c hc c' hc' he => hrr.free c hc (.inr (he ▸ hc'))⟩
   have hxx2 : XX (fun c => A c ∨ c ∈ keys h2) h' = XX A (h' ++ h2) := by
     funext b; simp only [XX, keys_append, List.mem_append, eq_iff_iff]
     constructor
     · rintro ((h | h) | h)
       · exact .inl h
       · exact .inr (.inr h)
       · exact .inr (.inl h)
     · rintro (h | h | h)
       · exact .inl (.inl h)
       · exact .inr h
       · exact .inl (.inr h)
   rw [hxx, hxx2] at hmm
   have hmono := hm'.trans hmm
   have hin1 : ∀ b, 2 * b ∈ keys h1 → b < w.heap.size → M b ∨ w0.heap.size ≤ b := fun b hb _ => by
     have := hr'.mine (2 * b) (by simp [hb]) (by omega)
     rwa [show 2 * b / 2 = b from by omega] at this
   refine hn v w' d (h' ++ h2) (hk d h' hK) ⟨hnd2, ?_, ?_, ?_, hr.bound, fun b hb => Nat.lt_of_lt_of_le (hr.old b hb) hrr.ext.size, ?_, by rw [← hxx2]; exact hrr.glob⟩ hmono (by rw [← hxx2]; exact hvv)
   · intro c b hc
     rcases List.mem_append.1 hc with hc | hc
     · rw [← hxx2]; exact hrr.blk c b hc
     · have hb := hr'.blk c b (List.mem_append.2 (.inr hc))
       refine hb.mono hmm (fun hev => ?_)
       refine hrr.ext.keep _ (hb.lt hev) (fun hx => ?_)
       have hx : 2 * (c / 2) ∈ keys h1 := hx
       rw [show 2 * (c / 2) = c from by omega] at hx
       exact hnd.2.2 c hx c (List.mem_map.2 ⟨_, hc, rfl⟩) rfl
   · intro c hc ha
     simp only [keys_append, List.mem_append] at hc
     rcases hc with hc | hc
     · exact hrr.free c hc (.inl ha)
     · exact hr'.free c (by simp [hc]) ha
   · intro c hc hev
     simp only [keys_append, List.mem_append] at hc
     rcases hc with hc | hc
     · rcases hrr.mine c hc hev with hmn | hmn
       · have hmn : 2 * (c / 2) ∈ keys h1 := hmn
         rw [show 2 * (c / 2) = c from by omega] at hmn
         exact hr'.mine c (by simp [hmn]) hev
       · right; have := hr.ext.size; omega
     · exact hr'.mine c (by simp [hc]) hev
   · refine ⟨hrr.ext.os.trans hr.ext.os, hrr.ext.tape.trans hr.ext.tape, hrr.ext.output.trans hr.ext.output, Nat.le_trans hr.ext.size hrr.ext.size, fun b hb hn' => ?_, fun b hb => (hrr.ext.shape b (Nat.lt_of_lt_of_le hb hr.ext.size)).trans (hr.ext.shape b hb), fun o_ => Nat.le_trans (hr.ext.drawn o_) (hrr.ext.drawn o_)⟩
     refine (hrr.ext.keep b (Nat.lt_of_lt_of_le hb hr.ext.size) (fun hx => ?_)).trans (hr.ext.keep b hb hn')
     rcases hin1 b hx (Nat.lt_of_lt_of_le hb hr.ext.size) with hq | hq
     · exact hn' hq
     · omega
end
end Go.Lic
