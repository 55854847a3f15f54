/-
  Maps of our own with keys of any plain type (structures too) to plain values; ranges over them.
-/
import Derived.Test.YtglclijalehcmaaGreatDoorMapR
import Derived.Test.YtglclijalehcmaaGreatDoorLib
set_option linter.all false
namespace Go.Lic
def entsK {U T : Type} (kf : U → Value) (vf : T → Value) : Nat → List (U × T) → List MapEntry
 | _, [] => []
 | n, p :: l => { key := kf p.1, val := vf p.2, born := n } :: entsK kf vf (n + 1) l
def mapK {U T : Type} (kf : U → Value) (vf : T → Value) (l : List (U × T)) : Obj := .map (entsK kf vf 0 l).toArray l.length
section
variable {U T : Type} [DecidableEq U]
def kget (d : T) : List (U × T) → U → T
 | [], _ => d
 | p :: l, k => if p.1 = k then p.2 else kget d l k
def kset : List (U × T) → U → T → List (U × T)
 | [], k, v => [(k, v)]
 | p :: l, k, v => if p.1 = k then (k, v) :: l else p :: kset l k v
def kfind : List (U × T) → U → Nat → Option (Nat × T)
 | [], _, _ => none
 | p :: l, k, i => if p.1 = k then some (i, p.2) else kfind l k (i + 1)
end
structure KeyT (P : Program) (kt : TypeId) {U : Type} [DecidableEq U] (kf : U → Value) : Prop where
 find : ∀ (w : World) (k : U) (T : Type) (vf : T → Value) (l : List (U × T)) (n : Nat), (Instr.findKey kt (kf k) (entsK kf vf n l)).run P w = .ok ((kfind l k 0).map fun q => (q.1, vf q.2)) w
 check : ∀ (w : World) (b : Bool) (k : U), (Instr.checkKey b 10000 kt (kf k)).run P w = .ok () w
 same : ∀ k : U, Instr.sameBits 10000 (kf k) (kf k) = true
section
variable {P : Program} {kt : TypeId} {U T : Type} [DecidableEq U] {kf : U → Value} {vf : T → Value}
theorem findAsking_ents (heq : ∀ (w : World) (a b : U), (Op.equal kt (kf a) (kf b)).run P w = .ok (decide (a = b)) w) (w : World) (k : U) : ∀ (l : List (U × T)) (n i : Nat), (Instr.findAsking kt (kf k) (entsK kf vf n l) i).run P w = .ok ((kfind l k i).map fun q => (q.1, vf q.2)) w
 | [], _, _ => by simp [entsK, Instr.findAsking, kfind, Sem.run_pure]
 | p :: l, n, i => by
   simp only [entsK, Instr.findAsking, Sem.run_bind, heq, Result.andThen_ok, kfind]
   by_cases h : p.1 = k
   · simp [h, Sem.run_pure]
   · have h2 : ¬ k = p.1 := fun e => h e.symm
     simp only [h2, decide_false, Bool.false_eq_true, if_false, if_neg h]
     exact findAsking_ents heq w k l (n + 1) (i + 1)
theorem KeyT.asking {d : TypeDesc} (ht : P.underlying kt = some d) (hn : ∀ a b : U, Instr.sameNow d (kf a) (kf b) = none) (heq : ∀ (w : World) (a b : U), (Op.equal kt (kf a) (kf b)).run P w = .ok (decide (a = b)) w)
   (hc : ∀ (w : World) (b : Bool) (k : U), (Instr.checkKey b 10000 kt (kf k)).run P w = .ok () w) (hs : ∀ k : U, Instr.sameBits 10000 (kf k) (kf k) = true) : KeyT P kt kf :=
 ⟨fun w k T vf l n => by
   simp only [Instr.findKey, Sem.run_bind, run_underlying ht, Result.andThen_ok]
   cases l with
   | nil => simp [entsK, Instr.findNow, kfind, Sem.run_pure]
   | cons p l =>
     have e : Instr.findNow d (kf k) (entsK kf vf n (p :: l)) 0 = none := by simp only [entsK, Instr.findNow, hn]
     rw [e]
     exact findAsking_ents heq w k (p :: l) n 0, hc, hs⟩
theorem findNow_entsK {d : TypeDesc} (hn : ∀ a b : U, Instr.sameNow d (kf a) (kf b) = some (decide (a = b))) (k : U) : ∀ (l : List (U × T)) (n i : Nat), Instr.findNow d (kf k) (entsK kf vf n l) i = some ((kfind l k i).map fun q => (q.1, vf q.2))
 | [], _, _ => rfl
 | p :: l, n, i => by
   simp only [entsK, Instr.findNow, hn, kfind]
   by_cases h : p.1 = k
   · simp [h]
   · have h2 : ¬ k = p.1 := fun e => h e.symm
     simp only [h2, decide_false, if_neg h]
     exact findNow_entsK hn k l (n + 1) (i + 1)
theorem KeyT.now {d : TypeDesc} (ht : P.underlying kt = some d) (hn : ∀ a b : U, Instr.sameNow d (kf a) (kf b) = some (decide (a = b))) (hc : ∀ (w : World) (b : Bool) (k : U), (Instr.checkKey b 10000 kt (kf k)).run P w = .ok () w) (hs : ∀ k : U, Instr.sameBits 10000 (kf k) (kf k) = true) : KeyT P kt kf :=
 ⟨fun w k T vf l n => by simp only [Instr.findKey, Sem.run_bind, run_underlying ht, Result.andThen_ok, findNow_entsK hn, Sem.run_pure], hc, hs⟩
theorem kfind_get (d : T) (k : U) : ∀ (l : List (U × T)) (i : Nat), kget d l k = ((kfind l k i).map (·.2)).getD d
 | [], _ => rfl
 | p :: l, i => by
   simp only [kget, kfind]
   split
   · rfl
   · exact kfind_get d k l (i + 1)
theorem entsK_length : ∀ (l : List (U × T)) (n : Nat), (entsK kf vf n l).length = l.length
 | [], _ => rfl
 | p :: l, n => by simp [entsK, entsK_length l (n + 1)]
theorem kset_none {k : U} {v : T} : ∀ {l : List (U × T)} {i : Nat}, kfind l k i = none → ∀ n, entsK kf vf n (kset l k v) = entsK kf vf n l ++ [{ key := kf k, val := vf v, born := n + l.length }] ∧ (kset l k v).length = l.length + 1
 | [], _, _, n => by simp [kset, entsK]
 | p :: l, i, h, n => by
   simp only [kfind] at h
   split at h
   · cases h
   · next hp =>
     obtain ⟨h1, h2⟩ := kset_none (v := v) h (n + 1)
     simp only [kset, if_neg hp, entsK, h1, List.cons_append, List.length_cons, h2]
     refine ⟨?_, trivial⟩
     congr 3
     simp; omega
theorem kset_some {k : U} {v : T} : ∀ {l : List (U × T)} {i j : Nat} {u : T}, kfind l k i = some (j, u) → ∀ n, i ≤ j ∧ entsK kf vf n (kset l k v) = (entsK kf vf n l).modify (j - i) (fun e => { e with key := kf k, val := vf v }) ∧ (kset l k v).length = l.length ∧ ((entsK kf vf n l)[j - i]?).map (·.key) = some (kf k)
 | [], _, _, _, h, _ => by cases h
 | p :: l, i, j, u, h, n => by
   simp only [kfind] at h
   split at h
   · next hp =>
     cases h
     simp [kset, hp, entsK]
   · next hp =>
     obtain ⟨h0, h1, h2, h3⟩ := kset_some (v := v) h (n + 1)
     have e : j - i = (j - (i + 1)) + 1 := by omega
     refine ⟨by omega, ?_, ?_, ?_⟩
     · simp only [kset, if_neg hp, entsK, h1, e, List.modify_succ_cons]
     · simp only [kset, if_neg hp, List.length_cons, h2]
     · rw [e]; simpa [entsK] using h3
end
theorem entsK_mem {U T : Type} {kf : U → Value} {vf : T → Value} : ∀ {l : List (U × T)} {n : Nat} {e : MapEntry}, e ∈ entsK kf vf n l → ∃ k, ∃ h : k < l.length, e = { key := kf (l[k]).1, val := vf (l[k]).2, born := n + k }
 | [], _, _, h => by cases h
 | p :: l, n, e, h => by
   rcases List.mem_cons.1 h with rfl | h
   · exact ⟨0, by simp, by simp⟩
   · obtain ⟨k, hk, rfl⟩ := entsK_mem h
     exact ⟨k + 1, by simpa using hk, by simp; omega⟩
theorem entsK_at {U T : Type} (kf : U → Value) (vf : T → Value) : ∀ {l : List (U × T)} (n : Nat) {k : Nat} (h : k < l.length), { key := kf (l[k]).1, val := vf (l[k]).2, born := n + k } ∈ entsK kf vf n l
 | p :: l, n, 0, _ => by simp [entsK]
 | p :: l, n, k + 1, h => by
   have := entsK_at kf vf (l := l) (n + 1) (k := k) (by simpa using h)
   simp only [entsK, List.mem_cons, List.getElem_cons_succ]
   right
   rw [show n + (k + 1) = n + 1 + k by omega]; exact this
theorem entsK_born {U T : Type} (kf : U → Value) (vf : T → Value) : ∀ (l : List (U × T)) (n : Nat), ((entsK kf vf n l).map (·.born)).Nodup ∧ ∀ b ∈ (entsK kf vf n l).map (·.born), n ≤ b
 | [], _ => ⟨.nil, fun _ h => by cases h⟩
 | p :: l, n => by
   obtain ⟨h1, h2⟩ := entsK_born kf vf l (n + 1)
   simp only [entsK, List.map_cons]
   refine ⟨List.nodup_cons.2 ⟨fun hx => by have := h2 _ hx; omega, h1⟩, fun b hb => ?_⟩
   rcases List.mem_cons.1 hb with rfl | hb
   · omega
   · have := h2 b hb; omega
section
variable {P : Program} {o : Oper} {fr : Nat → D} {h : Heap} {K : D → Heap → Prop} {U T : Type} [DecidableEq U] {kf : U → Value} {vf : T → Value} {kd : U → D} {vd : T → D}
def PlainK {U : Type} (kd : U → D) (kf : U → Value) : Prop := ∀ (w : World) (X : Nat → Prop) (k : U), V w X (kd k) (kf k) ∧ ∀ v, V w X (kd k) v → v = kf k
theorem OpA.makeMapK {t : TypeId} (kf : U → Value) (vf : T → Value) (ho : o.op = .makeMap t none) (hk : ∀ c, K (.map c) ((c, .raw (mapK kf vf [])) :: h)) : OpA P o fr h K :=
 .of_run fun A M w0 ac w hr hv => by
   obtain ⟨_, h5, h6⟩ := hr.allocRaw (mapK kf vf [])
   refine ⟨.map (some w.heap.size), _, _, _, ?_, hk (2 * w.heap.size), h5, h6, ?_⟩
   · simp only [execOp, ho, Option.map_none, Instr.makeMap, Sem.run_bind, Sem.run_pure, Result.andThen_ok, run_newObj]
     rfl
   · have := V.map (w := w.alloc (mapK kf vf [])) (X := XX A ((2 * w.heap.size, .raw (mapK kf vf [])) :: h)) (c := 2 * w.heap.size) (by omega)
     rwa [show 2 * w.heap.size / 2 = w.heap.size from by omega] at this
theorem OpA.mapGetK {mt kt et : TypeId} {x y : Operand} {c : Nat} {k : U} {l : List (U × T)} (d : T) (hK : KeyT P kt kf) (hkd : PlainK kd kf) (hvd : PlainK vd vf) (ho : o.op = .lookup mt x y false) (ht : P.underlying mt = some (.map kt et)) (hzi : (P.info? et).bind (·.zero) = some (vf d))
   (hx : ev fr x = .map c) (hy : ev fr y = kd k) (hh : Has c (.raw (mapK kf vf l)) h) (hk : K (vd (kget d l k)) h) : OpA P o fr h K :=
 .of_run fun A M w0 ac w hr hv => by
   obtain ⟨i0, hi0, hi1⟩ := Option.bind_eq_some_iff.1 hzi
   have hz : ∀ w, (zeroValue et).run P w = .ok (vf d) w := fun w => by simp [zeroValue, typeInfo, hi0, hi1]
   have h1 := hv x (by simp [ho, Op.operands])
   have h2 := hv y (by simp [ho, Op.operands])
   rw [hx] at h1; rw [hy] at h2
   have hu2 := (hkd _ _ _).2 _ h2
   generalize hu : ac.eval x = u at h1
   cases h1 with
   | map hc =>
     obtain ⟨_, hb⟩ := hr.blk _ _ hh.mem
     refine ⟨vf (kget d l k), w, _, _, ?_, hk, hr, Mono.refl _ _, (hvd _ _ _).1⟩
     have hb' : w.heap[c / 2]? = some (.map (entsK kf vf 0 l).toArray l.length) := hb
     simp only [execOp, ho, hu, hu2, Instr.lookup, Sem.run_bind, run_underlying ht, Result.andThen_ok, getObj, Sem.run, hb', hK.check, hK.find, Sem.run_pure, Result.andThen]
     rw [kfind_get d k l 0]
     cases kfind l k 0 with
     | none => simp only [Option.map_none, Option.getD_none, Sem.run_bind, hz, Result.andThen_ok, Sem.run_pure]; rfl
     | some q => simp only [Option.map_some, Option.getD_some, Sem.run_pure, Result.andThen_ok]; rfl
theorem OpA.mapSetK {mt kt et : TypeId} {x y z : Operand} {c : Nat} {k : U} {l : List (U × T)} {v : T} {h' : Heap} (hK : KeyT P kt kf) (hkd : PlainK kd kf) (hvd : PlainK vd vf) (ho : o.op = .mapUpdate mt x y z) (ht : P.underlying mt = some (.map kt et))
   (hx : ev fr x = .map c) (hy : ev fr y = kd k) (hz : ev fr z = vd v) (hh : Repl c (.raw (mapK kf vf l)) c (.raw (mapK kf vf (kset l k v))) h h') (hk : K (.v undef) h') : OpA P o fr h K :=
 .of_skip fun A M w0 ac w hr hv => by
   have h1 := hv x (by simp [ho, Op.operands])
   have h2 := hv y (by simp [ho, Op.operands])
   have h3 := hv z (by simp [ho, Op.operands])
   rw [hx] at h1; rw [hy] at h2; rw [hz] at h3
   have hu2 := (hkd _ _ _).2 _ h2
   have hu3 := (hvd _ _ _).2 _ h3
   generalize hu : ac.eval x = u at h1
   cases h1 with
   | map hc =>
     obtain ⟨_, hb⟩ := hr.blk _ _ hh.has.mem
     have hlt : c / 2 < w.heap.size := (Array.getElem?_eq_some_iff.1 hb).1
     have hb' : w.heap[c / 2]? = some (.map (entsK kf vf 0 l).toArray l.length) := hb
     obtain ⟨h5, h6⟩ := hr.setRaw hh hc (w' := { w with heap := w.heap.setIfInBounds (c / 2) (mapK kf vf (kset l k v)) }) (by simp [hlt]) (by simp) (fun b hb => by simp [Array.getElem?_setIfInBounds, Ne.symm hb]) (by
       have e1 : w.shape? (c / 2) = none := by unfold World.shape?; rw [hb']
       rw [e1]; unfold World.shape?; simp [hlt, mapK]) rfl rfl ⟨rfl, rfl⟩
     have eg : (getObj (c / 2)).run P w = .ok (.map (entsK kf vf 0 l).toArray l.length) w := by simp [getObj, Sem.run, hb']
     have es : ∀ o, (setObj (c / 2) o).run P w = .ok () { w with heap := w.heap.setIfInBounds (c / 2) o } := fun o => by simp [setObj, Sem.run, hb']
     refine ⟨_, _, ?_, hk, h5, h6⟩
     simp only [execOp, ho, hu, hu2, hu3, Instr.mapUpdate, Sem.run_bind, run_underlying ht, Result.andThen_ok, eg, hK.check, hK.find]
     cases hf : kfind l k 0 with
     | none =>
       obtain ⟨e1, e2⟩ := kset_none (kf := kf) (vf := vf) (v := v) hf 0
       simp only [Option.map_none, es, Result.andThen_ok]
       simp [mapK, e1, e2]
     | some q =>
       obtain ⟨j, u⟩ := q
       obtain ⟨_, e1, e2, e3⟩ := kset_some (kf := kf) (vf := vf) (v := v) hf 0
       simp only [Nat.sub_zero] at e1 e3
       have e4 : ((entsK kf vf 0 l).toArray[j]?).map (·.key) = some (kf k) := by simpa using e3
       simp only [Option.map_some, e4, Option.getD_some, Instr.keyThatStays, hK.same, Sem.run_bind, es]
       simp [mapK, e1, e2, es]
theorem OpA.rangeMapK {t kt et : TypeId} {x : Operand} {cm : Nat} {l : List (U × T)} (ho : o.op = .range t x) (ht : P.underlying t = some (.map kt et)) (hx : ev fr x = .map cm) (hm : Has cm (.raw (mapK kf vf l)) h)
   (hk : ∀ c, K (.ptr c 1 0 0) ((c, .raw (itO cm l.length [])) :: h)) : OpA P o fr h K :=
 .of_run fun A M w0 ac w hr hv => by
   have h1 := hv x (by simp [ho, Op.operands])
   rw [hx] at h1
   generalize hu : ac.eval x = u at h1
   cases h1 with
   | map hc =>
     obtain ⟨_, hb⟩ := hr.blk _ _ hm.mem
     have hb' : w.heap[cm / 2]? = some (.map (entsK kf vf 0 l).toArray l.length) := hb
     obtain ⟨_, h5, h6⟩ := hr.allocRaw (itO cm l.length [])
     refine ⟨.pointer (some ⟨w.heap.size, 0, none⟩), _, _, _, ?_, hk (2 * w.heap.size), h5, h6, ?_⟩
     · simp only [execOp, ho, hu, Sem.run_bind, run_range_map w t kt et (cm / 2) _ _ ht hb', Result.andThen_ok, Sem.run_pure]
       rfl
     · have := V.ptr (w := w.alloc (itO cm l.length [])) (X := XX A ((2 * w.heap.size, .raw (itO cm l.length [])) :: h)) (c := 2 * w.heap.size) (sz := 1) (i := 0) (k := 0) (by omega)
       rwa [show 2 * w.heap.size / 2 = w.heap.size from by omega] at this
theorem OpA.nextMapK [Inhabited U] [Inhabited T] {x : Operand} {c cm : Nat} {l : List (U × T)} {seen : List Nat} {h' : Nat → Heap} (hkd : PlainK kd kf) (hvd : PlainK vd vf) (ho : o.op = .next x false) (hx : ev fr x = .ptr c 1 0 0) (hm : Has cm (.raw (mapK kf vf l)) h)
   (hrepl : ∀ k, Repl c (.raw (itO cm l.length seen)) c (.raw (itO cm l.length (seen ++ [k]))) h (h' k)) (hover : (∀ k : Nat, k < l.length → k ∈ seen) → K (.tup [.b false]) h)
   (hnext : ∀ k : Nat, k < l.length → k ∉ seen → K (.tup [.b true, kd (gi l (k : Int)).1, vd (gi l (k : Int)).2]) (h' k)) : OpA P o fr h K :=
 .of_run fun A M w0 ac w hr hv => by
   have h1 := hv x (by simp [ho, Op.operands])
   rw [hx] at h1
   generalize hu : ac.eval x = u at h1
   cases h1 with
   | ptr hc =>
     obtain ⟨hcm, hb⟩ := hr.blk _ _ hm.mem
     have hb' : w.heap[cm / 2]? = some (.map (entsK kf vf 0 l).toArray l.length) := hb
     obtain ⟨_, hi⟩ := hr.blk _ _ (hrepl 0).has.mem
     have hi' : w.heap[c / 2]? = some (.mapIter (some (cm / 2)) l.length seen.toArray l.length) := hi
     have e0 : 0 * 1 + 0 = 0 := rfl
     rcases run_next_at (P := P) w o.type (c / 2) (cm / 2) l.length l.length seen.toArray _ _ hi' hb' (fun e he => by
       obtain ⟨k, hk, rfl⟩ := entsK_mem (by simpa using he)
       simpa using hk) (Nat.le_refl _) with ⟨g1, g2⟩ | ⟨e, g1, w1, g2, g3⟩
     · refine ⟨.tuple #[.bool false], w, _, _, ?_, hover (fun k hk => ?_), hr, Mono.refl _ _, .tup (.cons (.v _) .nil)⟩
       · simp only [execOp, ho, hu, e0, Sem.run_bind, g2, Result.andThen_ok, Sem.run_pure]
       · have := entsK_at kf vf (l := l) 0 hk
         have hz : Go.leftOf (entsK kf vf 0 l).toArray seen.toArray = #[] := Array.eq_empty_of_size_eq_zero g1
         unfold Go.leftOf at hz
         rw [Array.filter_eq_empty_iff] at hz
         have := hz _ (by simpa using this)
         simpa using this
     · unfold Go.leftOf at g1
       have g1' : e ∈ entsK kf vf 0 l ∧ e.born ∉ seen := by
         have := g1
         simp only [Array.toList_filter, List.mem_filter, Bool.not_eq_true', List.contains_toArray] at this
         simpa using this
       obtain ⟨k, hk, rfl⟩ := entsK_mem g1'.1
       have hkn : k ∉ seen := by simpa using g1'.2
       obtain ⟨q1, m1⟩ : HRel A M w0 h w1 ∧ Mono w (XX A h) w1 (XX A h) := by
         rcases g2 with rfl | rfl
         · exact ⟨hr, Mono.refl _ _⟩
         · exact hr.quiet (w' := w.drew) rfl rfl rfl rfl (Nat.le_succ _)
       have hi1 : w1.heap[c / 2]? = some (.mapIter (some (cm / 2)) l.length seen.toArray l.length) := by rcases g2 with rfl | rfl <;> exact hi'
       have hlt1 : c / 2 < w1.heap.size := (Array.getElem?_eq_some_iff.1 hi1).1
       obtain ⟨h5, h6⟩ := q1.setRaw (hrepl k) hc (w' := { w1 with heap := w1.heap.setIfInBounds (c / 2) (itO cm l.length (seen ++ [k])) }) (by simp [hlt1]) (by simp) (fun b hb => by simp [Array.getElem?_setIfInBounds, Ne.symm hb]) (by
         have e1 : w1.shape? (c / 2) = none := by unfold World.shape?; rw [hi1]
         rw [e1]; unfold World.shape?; simp [hlt1, itO]) rfl rfl ⟨rfl, rfl⟩
       have hn2 := hnext k hk hkn
       rw [gi_nat hk] at hn2
       refine ⟨.tuple #[.bool true, kf (l[k]).1, vf (l[k]).2], _, _, _, ?_, hn2, h5, m1.trans h6, .tup (.cons (.v _) (.cons (hkd _ _ _).1 (.cons (hvd _ _ _).1 .nil)))⟩
       simp only [execOp, ho, hu, e0, Sem.run_bind, g3, Result.andThen_ok, Sem.run_pure]
       simp [ChangeMaps.setBlock, itO]
theorem OpA.entryK [Inhabited U] [Inhabited T] {x : Operand} {c cm : Nat} {l : List (U × T)} {seen : List Nat} {k : Nat} (hkd : PlainK kd kf) (hvd : PlainK vd vf) (ho : o.op = .entry x) (hx : ev fr x = .ptr c 1 0 0) (hm : Has cm (.raw (mapK kf vf l)) h) (hi : Has c (.raw (itO cm l.length (seen ++ [k]))) h) (hk0 : k < l.length)
   (hk : K (.tup [kd (gi l (k : Int)).1, vd (gi l (k : Int)).2]) h) : OpA P o fr h K :=
 .of_run fun A M w0 ac w hr hv => by
   have h1 := hv x (by simp [ho, Op.operands])
   rw [hx] at h1
   generalize hu : ac.eval x = u at h1
   cases h1 with
   | ptr hc =>
     obtain ⟨hcm, hb⟩ := hr.blk _ _ hm.mem
     have hb' : w.heap[cm / 2]? = some (.map (entsK kf vf 0 l).toArray l.length) := hb
     obtain ⟨_, hi1⟩ := hr.blk _ _ hi.mem
     have hi' : w.heap[c / 2]? = some (.mapIter (some (cm / 2)) l.length (seen.toArray.push k) l.length) := by rw [hi1]; simp [itO]
     have e0 : 0 * 1 + 0 = 0 := rfl
     rw [gi_nat hk0] at hk
     have he := entsK_at kf vf (l := l) 0 hk0
     rw [Nat.zero_add] at he
     have hrun := run_entry_at (P := P) w (c / 2) (cm / 2) l.length seen.toArray (entsK kf vf 0 l).toArray l.length { key := kf (l[k]).1, val := vf (l[k]).2, born := k } hi' hb' (by simpa using he) (by simpa using (entsK_born kf vf l 0).1)
     refine ⟨.tuple #[kf (l[k]).1, vf (l[k]).2], w, _, _, ?_, hk, hr, Mono.refl _ _, .tup (.cons (hkd _ _ _).1 (.cons (hvd _ _ _).1 .nil))⟩
     simp only [execOp, ho, hu, e0, Sem.run_bind, hrun, Result.andThen_ok, Sem.run_pure]
theorem OpA.mlenK {t kt et : TypeId} {c : Call} {x : Operand} {cm : Nat} {l : List (U × T)} (ho : o.op = .call c) (hc : c.callee = .builtin .len) (ha : c.args = #[x]) (hty : c.argTypes = #[t]) (ht : P.underlying t = some (.map kt et))
   (hx : ev fr x = .map cm) (hm : Has cm (.raw (mapK kf vf l)) h) (hk : K (.i l.length) h) : OpA P o fr h K :=
 .of_run fun A M w0 ac w hr hv => by
   have h1 := hv x (by simp [ho, Op.operands, Call.operands, hc, ha])
   rw [hx] at h1
   generalize hu : ac.eval x = u at h1
   cases h1 with
   | map hc2 =>
     obtain ⟨_, hb⟩ := hr.blk _ _ hm.mem
     have hb' : w.heap[cm / 2]? = some (.map (entsK kf vf 0 l).toArray l.length) := hb
     refine ⟨.int .i64 l.length, w, _, _, ?_, hk, hr, Mono.refl _ _, .v _⟩
     simp [execOp, ho, hc, resolve, invoke, builtin, Builtin.len_, hty, ha, hu, run_underlying ht, goInt, getObj, Sem.run, hb', entsK_length, Result.andThen]
end
end Go.Lic
