/-
  Maps of our own from whole numbers to slices of our own: while such a map grows, the blocks of its slices stand at the heap's end; then the slices are frozen.
-/
import Derived.Test.YtkifpidbpoghlaaGreatDoorMapK
set_option linter.all false
namespace Go.Lic
variable [Fl]
abbrev GS := Nat × List D × List D
def gup (γ : Int → GS) (k : Int) (g : GS) : Int → GS := fun j => if j = k then g else γ j
section
variable {T : Type}
def mdel : List (Int × T) → Int → List (Int × T)
 | [], _ => []
 | p :: l, k => if p.1 = k then l else p :: mdel l k
abbrev mnd (L : List (Int × T)) : Prop := (L.map (·.1)).Nodup
def smD (sz : Nat) (γ : Int → GS) (L : List (Int × List T)) : List (Value × D) := L.map fun p => (.int .i64 p.1, .own (γ p.1).1 sz (γ p.1).2.1.length p.2.length)
def smB (sz : Nat) (enc : T → D) (γ : Int → GS) (L : List (Int × List T)) : Heap := L.map fun p => ((γ p.1).1, .cells sz (winL enc (γ p.1).2.1 p.2 (γ p.1).2.2))
def smF (sz : Nat) (enc : T → D) (L : List (Int × List T)) : List (Value × D) := L.map fun p => (.int .i64 p.1, encL sz enc p.2)
end
inductive Tl (T T' : Heap) : Heap → Heap → Prop
 | here : Tl T T' T T'
 | cons {x : Nat × Blk} {h h' : Heap} (t : Tl T T' h h') : Tl T T' (x :: h) (x :: h')
theorem Tl.split {T T' h h' : Heap} (t : Tl T T' h h') : ∃ p, h = p ++ T ∧ h' = p ++ T' := by
 induction t with
 | here => exact ⟨[], rfl, rfl⟩
 | @cons x _ _ _ ih => obtain ⟨p, rfl, rfl⟩ := ih; exact ⟨x :: p, rfl, rfl⟩
section
variable {T : Type}
theorem msplit (k : Int) : ∀ L : List (Int × T), k ∉ L.map (·.1) ∨ ∃ L1 x L2, L = L1 ++ (k, x) :: L2 ∧ k ∉ L1.map (·.1)
 | [] => .inl (by simp)
 | (j, x) :: L => by
   by_cases h : j = k
   · subst h; exact .inr ⟨[], x, L, rfl, by simp⟩
   · rcases msplit k L with h1 | ⟨L1, y, L2, rfl, h2⟩
     · left; simp only [List.map_cons, List.mem_cons, not_or]; exact ⟨fun e => h e.symm, h1⟩
     · refine .inr ⟨(j, x) :: L1, y, L2, rfl, ?_⟩
       simp only [List.map_cons, List.mem_cons, not_or]; exact ⟨fun e => h e.symm, h2⟩
theorem mget_no (d : T) {k : Int} : ∀ {L : List (Int × T)}, k ∉ L.map (·.1) → mget d L k = d
 | [], _ => rfl
 | p :: L, h => by
   simp only [List.map_cons, List.mem_cons, not_or] at h
   rw [mget, if_neg (fun e => h.1 e.symm)]; exact mget_no d h.2
theorem mget_at (d : T) {k : Int} {x : T} {L2 : List (Int × T)} : ∀ {L1 : List (Int × T)}, k ∉ L1.map (·.1) → mget d (L1 ++ (k, x) :: L2) k = x
 | [], _ => by simp [mget]
 | p :: L, h => by
   simp only [List.map_cons, List.mem_cons, not_or] at h
   rw [List.cons_append, mget, if_neg (fun e => h.1 e.symm)]; exact mget_at d h.2
theorem mdel_no {k : Int} : ∀ {L : List (Int × T)}, k ∉ L.map (·.1) → mdel L k = L
 | [], _ => rfl
 | p :: L, h => by
   simp only [List.map_cons, List.mem_cons, not_or] at h
   rw [mdel, if_neg (fun e => h.1 e.symm), mdel_no h.2]
theorem mdel_at {k : Int} {x : T} {L2 : List (Int × T)} : ∀ {L1 : List (Int × T)}, k ∉ L1.map (·.1) → mdel (L1 ++ (k, x) :: L2) k = L1 ++ L2
 | [], _ => by simp [mdel]
 | p :: L, h => by
   simp only [List.map_cons, List.mem_cons, not_or] at h
   rw [List.cons_append, mdel, if_neg (fun e => h.1 e.symm), mdel_at h.2]; rfl
theorem mset_no {k : Int} {y : T} : ∀ {L : List (Int × T)}, k ∉ L.map (·.1) → mset L k y = L ++ [(k, y)]
 | [], _ => rfl
 | p :: L, h => by
   simp only [List.map_cons, List.mem_cons, not_or] at h
   rw [mset, if_neg (fun e => h.1 e.symm), mset_no h.2]; rfl
theorem mset_at {k : Int} {x y : T} {L2 : List (Int × T)} : ∀ {L1 : List (Int × T)}, k ∉ L1.map (·.1) → mset (L1 ++ (k, x) :: L2) k y = L1 ++ (k, y) :: L2
 | [], _ => by simp [mset]
 | p :: L, h => by
   simp only [List.map_cons, List.mem_cons, not_or] at h
   rw [List.cons_append, mset, if_neg (fun e => h.1 e.symm), mset_at h.2]; rfl
end
theorem modify_mid {α : Type} (f : α → α) (x : α) (b : List α) : ∀ a : List α, (a ++ x :: b).modify a.length f = a ++ f x :: b
 | [] => rfl
 | y :: a => by simp only [List.cons_append, List.length_cons, List.modify_succ_cons, modify_mid f x b a]
theorem findNow_no {k : Int} : ∀ {es : List MapEntry} {ks : List Int} (i : Nat), es.map (·.key) = ks.map (fun j => Value.int .i64 j) → k ∉ ks → Instr.findNow (.int .i64) (.int .i64 k) es i = some none
 | [], _, _, _, _ => rfl
 | e :: es, [], _, h, _ => by simp at h
 | e :: es, j :: ks, i, h, hk => by
   simp only [List.map_cons, List.cons.injEq] at h
   simp only [List.mem_cons, not_or] at hk
   simp only [Instr.findNow, h.1, Instr.sameNow, if_true]
   rw [show (k == j) = false from by simpa using hk.1]
   exact findNow_no (i + 1) h.2 hk.2
theorem findNow_at {k : Int} {k2 : List Int} : ∀ {es : List MapEntry} {k1 : List Int} (i : Nat), es.map (·.key) = (k1 ++ k :: k2).map (fun j => Value.int .i64 j) → k ∉ k1 →
   ∃ e1 e e2, es = e1 ++ e :: e2 ∧ e1.length = k1.length ∧ e.key = .int .i64 k ∧ Instr.findNow (.int .i64) (.int .i64 k) es i = some (some (i + k1.length, e.val))
 | [], k1, _, h, _ => by simp at h
 | e :: es, [], i, h, _ => by
   simp only [List.nil_append, List.map_cons, List.cons.injEq] at h
   refine ⟨[], e, es, rfl, rfl, h.1, ?_⟩
   simp [Instr.findNow, h.1, Instr.sameNow]
 | e :: es, j :: k1, i, h, hk => by
   simp only [List.cons_append, List.map_cons, List.cons.injEq] at h
   simp only [List.mem_cons, not_or] at hk
   obtain ⟨e1, e', e2, q1, q2, q3, q4⟩ := findNow_at (k2 := k2) (i + 1) h.2 hk.2
   refine ⟨e :: e1, e', e2, by rw [q1]; rfl, by simp [q2], q3, ?_⟩
   simp only [Instr.findNow, h.1, Instr.sameNow, if_true]
   rw [show (k == j) = false from by simpa using hk.1]
   rw [q4]; simp; omega
section
variable {A M : Nat → Prop} {w0 w : World} {h : Heap}
theorem HRel.setBlk (hr : HRel A M w0 h w) {h' : Heap} {c : Nat} {o o' : Blk} (ht : Repl c o c o' h h') (hc : c % 2 = 0) {w' : World} (hw : ∀ X', Mono w (XX A h) w' X' → BlkRel w' X' c o') (hs : w'.heap.size = w.heap.size)
   (hk : ∀ b, b ≠ c / 2 → w'.heap[b]? = w.heap[b]?) (hsh : w'.shape? (c / 2) = w.shape? (c / 2)) (ho : w'.os = w.os) (htp : w'.tape = w.tape) (hout : w'.output = w.output ∧ w'.drawn = w.drawn) : HRel A M w0 h' w' ∧ Mono w (XX A h) w' (XX A h') := by
 have hkeys := ht.keys_eq
 have hin : XX A h (c / 2) := .inr (by have := ht.has.key; rwa [show 2 * (c / 2) = c from by omega])
 have hxx : XX A h' = XX A h := by funext b; simp [XX, hkeys]
 have hm : Mono w (XX A h) w' (XX A h') := by
   rw [hxx]
   refine ⟨by omega, fun b _ hx => hk b (fun e => hx (e ▸ hin)), fun b _ => ?_, fun _ _ hx => hx⟩
   by_cases hb : b = c / 2
   · subst hb; exact hsh
   · exact shape_of_heap (hk b hb)
 refine ⟨⟨by rw [hkeys]; exact hr.nodup, ?_, fun c hc => hr.free c (hkeys ▸ hc), fun c hc => hr.mine c (hkeys ▸ hc), hr.bound, by rw [hs]; exact hr.old, ?_, hr.glob.mono hm⟩, hm⟩
 · intro c1 b1 hc1
   obtain ⟨h1, h2, e1, e2⟩ := ht.split
   subst e1; subst e2
   have hnd := hr.nodup
   simp only [keys_append, keys_cons, List.nodup_append, List.nodup_cons] at hnd
   rcases List.mem_append.1 hc1 with hc1 | hc1
   · have hne : c1 ≠ c := fun e => hnd.2.2 c1 (List.mem_map.2 ⟨_, hc1, rfl⟩) c (by simp) e
     exact (hr.blk c1 b1 (by simp [hc1])).mono hm (fun he => hk _ (by omega))
   · rcases List.mem_cons.1 hc1 with hc1 | hc1
     · cases hc1; exact hw _ hm
     · have hne : c1 ≠ c := fun e => hnd.2.1.1 (e ▸ List.mem_map.2 ⟨_, hc1, rfl⟩)
       exact (hr.blk c1 b1 (by simp [hc1])).mono hm (fun he => hk _ (by omega))
 · refine ⟨ho.trans hr.ext.os, htp.trans hr.ext.tape, hout.1.trans hr.ext.output, by rw [hs]; exact hr.ext.size, fun b hb hn => ?_, fun b hb => (hm.shape b (Nat.lt_of_lt_of_le hb hr.ext.size)).trans (hr.ext.shape b hb), fun o_ => by rw [hout.2]; exact hr.ext.drawn o_⟩
   by_cases hbc : b = c / 2
   · subst hbc
     rcases hr.mine c ht.has.key hc with hmm | hmm
     · exact absurd hmm hn
     · omega
   · exact (hk b hbc).trans (hr.ext.keep b hb hn)
theorem HRel.allocMap (hr : HRel A M w0 h w) :
   HRel A M w0 ((2 * w.heap.size, .map []) :: h) (w.alloc (.map #[] 0)) ∧ Mono w (XX A h) (w.alloc (.map #[] 0)) (XX A ((2 * w.heap.size, .map []) :: h)) := by
 obtain ⟨_, h5, h6⟩ := hr.allocRaw (.map #[] 0)
 have e : XX A ((2 * w.heap.size, .map []) :: h) = XX A ((2 * w.heap.size, .raw (.map #[] 0)) :: h) := rfl
 refine ⟨⟨h5.nodup, fun c b hc => ?_, h5.free, h5.mine, h5.bound, h5.old, h5.ext, h5.glob⟩, h6⟩
 rcases List.mem_cons.1 hc with hc | hc
 · cases hc
   refine ⟨by omega, #[], 0, ?_, by simp, .nil, by simp, by simp⟩
   have := (h5.blk _ _ (List.mem_cons_self ..)).2
   exact this
 · rw [e]; exact h5.blk c b (List.mem_cons_of_mem _ hc)
end
section
variable {P : Program} {o : Oper} {fr : Nat → D} {h : Heap} {K : D → Heap → Prop} {T : Type} {enc : T → D} {sz : Nat} {γ : Int → GS} {L : List (Int × List T)}
theorem OpA.makeSm {t : TypeId} (T : Type) (enc : T → D) (sz : Nat) {hm : Nat → Heap} (ho : o.op = .makeMap t none) (hT : ∀ c, Tl [] (smB sz enc (fun _ => (0, [], [])) ([] : List (Int × List T))) ((c, .map (smD (T := T) sz (fun _ => (0, [], [])) [])) :: h) (hm c)) (hk : ∀ c, K (.map c) (hm c)) : OpA P o fr h K :=
 .of_run fun A M w0 ac w hr hv => by
   obtain ⟨h5, h6⟩ := hr.allocMap
   have e : hm (2 * w.heap.size) = (2 * w.heap.size, .map []) :: h := by
     obtain ⟨p, e1, e2⟩ := (hT (2 * w.heap.size)).split
     rw [e2, ← show _ = p from by simpa using e1]
     simp [smB, smD]
   refine ⟨.map (some w.heap.size), _, _, _, ?_, hk (2 * w.heap.size), by rw [e]; exact h5, by rw [e]; exact h6, ?_⟩
   · simp only [execOp, ho, Option.map_none, Instr.makeMap, Sem.run_bind, Sem.run_pure, Result.andThen_ok, run_newObj]
     rfl
   · have := V.map (w := w.alloc (.map #[] 0)) (X := XX A (hm (2 * w.heap.size))) (c := 2 * w.heap.size) (by omega)
     rwa [show 2 * w.heap.size / 2 = w.heap.size from by omega] at this
theorem keys_of {α : Type} {ents : Array MapEntry} {f : (Int × α) → D} {L : List (Int × α)} (h : ents.toList.map (·.key) = (L.map fun p => (Value.int .i64 p.1, f p)).map (·.1)) : ents.toList.map (·.key) = (L.map (·.1)).map (fun j => Value.int .i64 j) := by
 rw [h]; simp
theorem OpA.smGet {mt kt et : TypeId} {x y : Operand} {c : Nat} {k : Int} {h' : Heap} (ho : o.op = .lookup mt x y false) (ht : P.underlying mt = some (.map kt et)) (hkt : P.underlying kt = some (.int .i64)) (hzi : (P.info? et).bind (·.zero) = some (.slice none 0 0))
   (hx : ev fr x = .map c) (hy : ev fr y = .i k) (hh : Has c (.map (smD sz γ L)) h) (hT : Tl (smB sz enc γ L) (smB sz enc γ (mdel L k)) h h') (hk : ∀ g pre post, K (.own g sz (List.length pre) (mget [] L k).length) ((g, .cells sz (winL enc pre (mget [] L k) post)) :: h')) : OpA P o fr h K :=
 .of_run fun A M w0 ac w hr hv => by
   obtain ⟨i0, hi0, hi1⟩ := Option.bind_eq_some_iff.1 hzi
   have hz : ∀ w, (zeroValue et).run P w = .ok (.slice none 0 0) w := fun w => by simp [zeroValue, typeInfo, hi0, hi1]
   have h1 := hv x (by simp [ho, Op.operands])
   have h2 := hv y (by simp [ho, Op.operands])
   rw [hx] at h1; rw [hy] at h2
   generalize hu : ac.eval x = u at h1
   generalize hu2 : ac.eval y = u2 at h2
   cases h2
   cases h1 with
   | map hc =>
     obtain ⟨_, ents, clock, hb, hkeys, hvals, hborn, hnd⟩ := hr.blk _ _ hh.mem
     have hkeys := keys_of hkeys
     obtain ⟨p, e1, e2⟩ := hT.split
     rcases msplit k L with hno | ⟨L1, xs, L2, hL, hno⟩
     · obtain ⟨g, _, _, hr', hm⟩ := hr.ghost sz
       have hk' := hk g [] []
       rw [mget_no [] hno] at hk'
       rw [mdel_no hno] at e2
       have ehh : h' = h := by rw [e1, e2]
       rw [ehh] at hk'
       refine ⟨.slice none 0 0, w, _, _, ?_, hk', hr', hm, .own (by simp) (.inr ⟨rfl, rfl⟩)⟩
       simp only [execOp, ho, hu, hu2, Instr.lookup, Sem.run_bind, run_underlying ht, Result.andThen_ok, getObj, Sem.run, hb, run_checkKey hkt, Sem.run_pure, Result.andThen, Instr.findKey, run_underlying hkt, findNow_no 0 hkeys hno, hz]
       simp [Sem.run, Result.andThen]
     · subst hL
       have hks : ents.toList.map (·.key) = ((L1.map (·.1)) ++ k :: (L2.map (·.1))).map (fun j => Value.int .i64 j) := by rw [hkeys]; simp
       obtain ⟨a1, e, a2, q1, q2, q3, q4⟩ := findNow_at 0 hks hno
       have hk' := hk (γ k).1 (γ k).2.1 (γ k).2.2
       rw [mget_at [] hno] at hk'
       rw [mdel_at hno] at e2
       have hp : h.Perm (((γ k).1, .cells sz (winL enc (γ k).2.1 xs (γ k).2.2)) :: h') := by
         rw [e1, e2]
         simp only [smB, List.map_append, List.map_cons, ← List.append_assoc]
         exact List.perm_middle
       obtain ⟨hr', hm⟩ := hr.perm hp
       have hvv : V w (XX A h) (.own (γ k).1 sz (γ k).2.1.length xs.length) e.val := by
         obtain ⟨x', g1, g2⟩ := hvals.get L1.length (.own (γ k).1 sz (γ k).2.1.length xs.length) (by simp [smD])
         have : (ents.toList.map (·.val))[L1.length]? = some e.val := by
           rw [q1]; simp only [List.map_append, List.map_cons]
           rw [show L1.length = (a1.map (·.val)).length from by simp [q2]]
           simp
         rw [this] at g1; cases g1; exact g2
       refine ⟨e.val, w, _, _, ?_, hk', hr', hm, hvv.mono hm⟩
       simp only [execOp, ho, hu, hu2, Instr.lookup, Sem.run_bind, run_underlying ht, Result.andThen_ok, getObj, Sem.run, hb, run_checkKey hkt, Sem.run_pure, Result.andThen, Instr.findKey, run_underlying hkt, q4]
       simp [Sem.run, Result.andThen]
theorem OpA.fmGet {mt kt et : TypeId} {x y : Operand} {c : Nat} {k : Int} (ho : o.op = .lookup mt x y false) (ht : P.underlying mt = some (.map kt et)) (hkt : P.underlying kt = some (.int .i64)) (hzi : (P.info? et).bind (·.zero) = some (.slice none 0 0))
   (hx : ev fr x = .map c) (hy : ev fr y = .i k) (hh : Has c (.map (smF sz enc L)) h) (hk : K (encL sz enc (mget [] L k)) h) : OpA P o fr h K :=
 .of_run fun A M w0 ac w hr hv => by
   obtain ⟨i0, hi0, hi1⟩ := Option.bind_eq_some_iff.1 hzi
   have hz : ∀ w, (zeroValue et).run P w = .ok (.slice none 0 0) w := fun w => by simp [zeroValue, typeInfo, hi0, hi1]
   have h1 := hv x (by simp [ho, Op.operands])
   have h2 := hv y (by simp [ho, Op.operands])
   rw [hx] at h1; rw [hy] at h2
   generalize hu : ac.eval x = u at h1
   generalize hu2 : ac.eval y = u2 at h2
   cases h2
   cases h1 with
   | map hc =>
     obtain ⟨_, ents, clock, hb, hkeys, hvals, hborn, hnd⟩ := hr.blk _ _ hh.mem
     have hkeys := keys_of hkeys
     rcases msplit k L with hno | ⟨L1, xs, L2, hL, hno⟩
     · rw [mget_no [] hno] at hk
       refine ⟨.slice none 0 0, w, _, _, ?_, hk, hr, Mono.refl _ _, V.nilL⟩
       simp only [execOp, ho, hu, hu2, Instr.lookup, Sem.run_bind, run_underlying ht, Result.andThen_ok, getObj, Sem.run, hb, run_checkKey hkt, Sem.run_pure, Result.andThen, Instr.findKey, run_underlying hkt, findNow_no 0 hkeys hno, hz]
       simp [Sem.run, Result.andThen]
     · subst hL
       have hks : ents.toList.map (·.key) = ((L1.map (·.1)) ++ k :: (L2.map (·.1))).map (fun j => Value.int .i64 j) := by rw [hkeys]; simp
       obtain ⟨a1, e, a2, q1, q2, q3, q4⟩ := findNow_at 0 hks hno
       rw [mget_at [] hno] at hk
       have hvv : V w (XX A h) (encL sz enc xs) e.val := by
         obtain ⟨x', g1, g2⟩ := hvals.get L1.length (encL sz enc xs) (by simp [smF])
         have : (ents.toList.map (·.val))[L1.length]? = some e.val := by
           rw [q1]; simp only [List.map_append, List.map_cons]
           rw [show L1.length = (a1.map (·.val)).length from by simp [q2]]
           simp
         rw [this] at g1; cases g1; exact g2
       refine ⟨e.val, w, _, _, ?_, hk, hr, Mono.refl _ _, hvv⟩
       simp only [execOp, ho, hu, hu2, Instr.lookup, Sem.run_bind, run_underlying ht, Result.andThen_ok, getObj, Sem.run, hb, run_checkKey hkt, Sem.run_pure, Result.andThen, Instr.findKey, run_underlying hkt, q4]
       simp [Sem.run, Result.andThen]
theorem smB_up {k : Int} {g : GS} : ∀ {L : List (Int × List T)}, k ∉ L.map (·.1) → smB sz enc (gup γ k g) L = smB sz enc γ L
 | [], _ => rfl
 | p :: L, h => by
   simp only [List.map_cons, List.mem_cons, not_or] at h
   simp only [smB, List.map_cons] at *
   rw [show (L.map fun p => ((gup γ k g p.1).1, Blk.cells sz (winL enc (gup γ k g p.1).2.1 p.2 (gup γ k g p.1).2.2))) = _ from smB_up h.2]
   have hp : ¬ p.1 = k := fun e => h.1 e.symm
   simp only [gup, if_neg hp]; rfl
theorem smD_up {k : Int} {g : GS} : ∀ {L : List (Int × List T)}, k ∉ L.map (·.1) → smD sz (gup γ k g) L = smD sz γ L
 | [], _ => rfl
 | p :: L, h => by
   simp only [List.map_cons, List.mem_cons, not_or] at h
   simp only [smD, List.map_cons] at *
   rw [show (L.map fun p => (Value.int .i64 p.1, D.own (gup γ k g p.1).1 sz (gup γ k g p.1).2.1.length p.2.length)) = _ from smD_up h.2]
   have hp : ¬ p.1 = k := fun e => h.1 e.symm
   simp only [gup, if_neg hp]; rfl
theorem OpA.smSet {mt kt et : TypeId} {x y z : Operand} {c g : Nat} {k : Int} {pre post : List D} {xs : List T} {h1 hm h2 : Heap} (hnd : (L.map (·.1)).Nodup) (ho : o.op = .mapUpdate mt x y z) (ht : P.underlying mt = some (.map kt et)) (hkt : P.underlying kt = some (.int .i64))
   (hx : ev fr x = .map c) (hy : ev fr y = .i k) (hz : ev fr z = .own g sz pre.length xs.length) (hp : h.Perm ((g, .cells sz (winL enc pre xs post)) :: h1))
   (hR : Repl c (.map (smD sz γ L)) c (.map (smD sz (gup γ k (g, pre, post)) (mset L k xs))) h1 hm) (hT : Tl (smB sz enc γ (mdel L k)) (smB sz enc (gup γ k (g, pre, post)) (mset L k xs)) hm h2) (hk : K (.v undef) h2) : OpA P o fr h K :=
 .of_skip fun A M w0 ac w hr hv => by
   have h1' := hv x (by simp [ho, Op.operands])
   have h2' := hv y (by simp [ho, Op.operands])
   have h3 := hv z (by simp [ho, Op.operands])
   rw [hx] at h1'; rw [hy] at h2'; rw [hz] at h3
   generalize hu : ac.eval x = u at h1'
   generalize hu2 : ac.eval y = u2 at h2'
   generalize hu3 : ac.eval z = u3 at h3
   cases h2'
   cases h1' with
   | map hc =>
     obtain ⟨r1, m1⟩ := hr.perm hp
     have hR1 : Repl c (.map (smD sz γ L)) c (.map (smD sz (gup γ k (g, pre, post)) (mset L k xs))) ((g, .cells sz (winL enc pre xs post)) :: h1) ((g, .cells sz (winL enc pre xs post)) :: hm) := .tail hR
     obtain ⟨_, ents, clock, hb, hkeys0, hvals, hborn, hnb⟩ := r1.blk _ _ hR1.has.mem
     have hkeys := keys_of hkeys0
     have hlt : c / 2 < w.heap.size := (Array.getElem?_eq_some_iff.1 hb).1
     have eg : (getObj (c / 2)).run P w = .ok (.map ents clock) w := by simp [getObj, Sem.run, hb]
     have es : ∀ o, (setObj (c / 2) o).run P w = .ok () { w with heap := w.heap.setIfInBounds (c / 2) o } := fun o => by simp [setObj, Sem.run, hb]
     have hv3 := h3.mono m1
     obtain ⟨p, t1, t2⟩ := hT.split
     have key : ∀ (ents' : Array MapEntry) (clock' : Nat), (∀ X', Mono w (XX A ((g, .cells sz (winL enc pre xs post)) :: h1)) { w with heap := w.heap.setIfInBounds (c / 2) (.map ents' clock') } X' → BlkRel { w with heap := w.heap.setIfInBounds (c / 2) (.map ents' clock') } X' c (.map (smD sz (gup γ k (g, pre, post)) (mset L k xs)))) →
         ((g, Blk.cells sz (winL enc pre xs post)) :: hm).Perm h2 → HRel A M w0 h2 { w with heap := w.heap.setIfInBounds (c / 2) (.map ents' clock') } ∧ Mono w (XX A h) { w with heap := w.heap.setIfInBounds (c / 2) (.map ents' clock') } (XX A h2) := fun ents' clock' hbr hpm => by
       obtain ⟨r2, m2⟩ := r1.setBlk hR1 hc (w' := { w with heap := w.heap.setIfInBounds (c / 2) (.map ents' clock') }) hbr (by simp) (fun b hb => by simp [Array.getElem?_setIfInBounds, Ne.symm hb]) (by
         have e1 : w.shape? (c / 2) = none := by unfold World.shape?; rw [hb]
         rw [e1]; unfold World.shape?; simp [hlt]) rfl rfl ⟨rfl, rfl⟩
       obtain ⟨r3, m3⟩ := r2.perm hpm
       exact ⟨r3, (m1.trans m2).trans m3⟩
     rcases msplit k L with hno | ⟨L1, ys, L2, hL, hno⟩
     · have hpm : ((g, Blk.cells sz (winL enc pre xs post)) :: hm).Perm h2 := by
         rw [t1, t2, mdel_no hno, mset_no hno]
         have e : smB sz enc (gup γ k (g, pre, post)) (L ++ [(k, xs)]) = smB sz enc γ L ++ [(g, Blk.cells sz (winL enc pre xs post))] := by
           have := smB_up (sz := sz) (enc := enc) (γ := γ) (g := (g, pre, post)) hno
           unfold smB at *
           rw [List.map_append, this]; simp [gup]
         rw [e, ← List.append_assoc]
         exact List.perm_append_comm (l₁ := [(g, Blk.cells sz (winL enc pre xs post))])
       obtain ⟨r3, m3⟩ := key (ents.push { key := .int .i64 k, val := u3, born := clock }) (clock + 1) (fun X' hm' => by
         refine ⟨hc, ents.push { key := .int .i64 k, val := u3, born := clock }, clock + 1, by simp [hlt], ?_, ?_, ?_, ?_⟩
         · rw [Array.toList_push, List.map_append, hkeys, mset_no hno]; simp [smD]
         · rw [Array.toList_push, List.map_append, mset_no hno]
           have e : (smD sz (gup γ k (g, pre, post)) (L ++ [(k, xs)])).map (·.2) = (smD sz γ L).map (·.2) ++ [.own g sz pre.length xs.length] := by
             have := smD_up (sz := sz) (γ := γ) (g := (g, pre, post)) hno
             unfold smD at *
             rw [List.map_append, this]; simp [gup]
           rw [e]
           exact (hvals.mono hm').append (.cons (hv3.mono hm') .nil)
         · intro e he
           rw [Array.toList_push, List.mem_append] at he
           rcases he with he | he
           · exact Nat.lt_succ_of_lt (hborn e he)
           · simp at he; subst he; simp
         · rw [Array.toList_push, List.map_append, List.nodup_append]
           refine ⟨hnb, by simp, fun a ha b hb => ?_⟩
           simp at hb; subst hb
           obtain ⟨e, he, rfl⟩ := List.mem_map.1 ha
           have := hborn e he; omega) hpm
       refine ⟨_, _, ?_, hk, r3, m3⟩
       simp only [execOp, ho, hu, hu2, hu3, Instr.mapUpdate, Sem.run_bind, run_underlying ht, Result.andThen_ok, eg, run_checkKey hkt, Instr.findKey, run_underlying hkt, findNow_no 0 hkeys hno, Sem.run_pure, es]
     · subst hL
       have hks : ents.toList.map (·.key) = ((L1.map (·.1)) ++ k :: (L2.map (·.1))).map (fun j => Value.int .i64 j) := by rw [hkeys]; simp
       obtain ⟨a1, e, a2, q1, q2, q3, q4⟩ := findNow_at 0 hks hno
       have hno2 : k ∉ L2.map (·.1) := by
         simp only [List.map_append, List.map_cons, List.nodup_append, List.nodup_cons] at hnd
         exact hnd.2.1.1
       have hpm : ((g, Blk.cells sz (winL enc pre xs post)) :: hm).Perm h2 := by
         rw [t1, t2, mdel_at hno, mset_at hno]
         have e : smB sz enc (gup γ k (g, pre, post)) (L1 ++ (k, xs) :: L2) = smB sz enc γ L1 ++ (g, Blk.cells sz (winL enc pre xs post)) :: smB sz enc γ L2 := by
           have e1 := smB_up (sz := sz) (enc := enc) (γ := γ) (g := (g, pre, post)) hno
           have e2 := smB_up (sz := sz) (enc := enc) (γ := γ) (g := (g, pre, post)) hno2
           unfold smB at *
           rw [List.map_append, List.map_cons, e1, e2]; simp [gup]
         rw [e, ← List.append_assoc, show smB sz enc γ (L1 ++ L2) = smB sz enc γ L1 ++ smB sz enc γ L2 from by simp [smB], ← List.append_assoc]
         exact List.perm_middle.symm
       have hm1 : ents.toList.modify L1.length (fun e => { e with key := Value.int .i64 k, val := u3 }) = a1 ++ { e with key := Value.int .i64 k, val := u3 } :: a2 := by
         rw [q1, show L1.length = a1.length from by simp [q2]]
         exact modify_mid _ _ _ _
       obtain ⟨r3, m3⟩ := key (ents.modify L1.length fun e => { e with key := Value.int .i64 k, val := u3 }) clock (fun X' hm' => by
         have hmm : (ents.modify L1.length fun e => { e with key := Value.int .i64 k, val := u3 }).toList = a1 ++ { e with key := Value.int .i64 k, val := u3 } :: a2 := by rw [Array.toList_modify, hm1]
         have hb1 : (a1 ++ { e with key := Value.int .i64 k, val := u3 } :: a2).map (·.born) = ents.toList.map (·.born) := by rw [q1]; simp
         refine ⟨hc, ents.modify L1.length (fun e => { e with key := Value.int .i64 k, val := u3 }), clock, by simp [hlt], ?_, ?_, ?_, ?_⟩
         · rw [hmm, mset_at hno]
           have : (a1 ++ { e with key := Value.int .i64 k, val := u3 } :: a2).map (·.key) = ents.toList.map (·.key) := by rw [q1]; simp [q3]
           rw [this, hkeys]; simp [smD, Function.comp_def]
         · rw [hmm, mset_at hno]
           have e0 : (smD sz (gup γ k (g, pre, post)) (L1 ++ (k, xs) :: L2)).map (·.2) = ((smD sz γ (L1 ++ (k, ys) :: L2)).map (·.2)).set L1.length (.own g sz pre.length xs.length) := by
             have e1 := smD_up (sz := sz) (γ := γ) (g := (g, pre, post)) hno
             have e2 := smD_up (sz := sz) (γ := γ) (g := (g, pre, post)) hno2
             unfold smD at *
             rw [List.map_append, List.map_cons, e1, e2]
             simp only [List.map_append, List.map_cons, List.map_map]
             rw [List.set_append_right _ _ (by simp)]
             simp [gup]
           have e1 : (a1 ++ { e with key := Value.int .i64 k, val := u3 } :: a2).map (·.val) = (ents.toList.map (·.val)).set L1.length u3 := by
             rw [q1, show L1.length = (a1.map (·.val)).length from by simp [q2]]
             simp
           rw [e0, e1]
           exact VL.set _ (hv3.mono hm') (hvals.mono hm')
         · intro e' he'
           rw [hmm] at he'
           have : e'.born ∈ ents.toList.map (·.born) := by rw [← hb1]; exact List.mem_map.2 ⟨_, he', rfl⟩
           obtain ⟨e'', h1'', h2''⟩ := List.mem_map.1 this
           rw [← h2'']; exact hborn _ h1''
         · rw [hmm, hb1]; exact hnb) hpm
       refine ⟨_, _, ?_, hk, r3, m3⟩
       have e4 : ((ents[L1.length]?).map (·.key)) = some (.int .i64 k) := by
         rw [← Array.getElem?_toList, q1, show L1.length = a1.length from by simp [q2]]
         simp [q3]
       simp only [execOp, ho, hu, hu2, hu3, Instr.mapUpdate, Sem.run_bind, run_underlying ht, Result.andThen_ok, eg, run_checkKey hkt, Instr.findKey, run_underlying hkt, q4, Sem.run_pure]
       simp only [Nat.zero_add, List.length_map, e4, Option.getD_some, Instr.keyThatStays, Instr.sameBits, Sem.run_bind, es]
       simp [Sem.run_pure, es]
theorem Has.of_mem {c : Nat} {b : Blk} : ∀ {h : Heap}, (c, b) ∈ h → Has c b h
 | [], hm => by cases hm
 | x :: h, hm => by
   rcases List.mem_cons.1 hm with e | hm
   · subst e; exact .head
   · exact .tail (Has.of_mem hm)
theorem snap_sm [Inhabited T] {g : Heap} : ∀ (L : List (Int × List T)), (∀ p ∈ L, Has (γ p.1).1 (.cells sz (winL enc (γ p.1).2.1 p.2 (γ p.1).2.2)) g) → Snap false g ((smD sz γ L).map (·.2)) ((smF sz enc L).map (·.2))
 | [], _ => .nil
 | p :: L, h => .win (h p (by simp)) (by intro hf; cases hf) (snap_sm (g := g) L (fun q hq => h q (List.mem_cons_of_mem _ hq)))
theorem wpA_smFrz [Inhabited T] {n : Nat} {Q : Post} {c0 : Code} {c : Nat} {hm h' : Heap} (hT : Tl (smB sz enc γ L) [] h hm) (hR : Repl c (.map (smD sz γ L)) c (.map (smF sz enc L)) hm h') (hh : wpA P n c0 Q fr h') : wpA P n c0 Q fr h :=
 fun A M w0 a w r => by
   obtain ⟨p, e1, e2⟩ := hT.split
   rw [List.append_nil] at e2
   have hs : List.Sublist hm h := by rw [e1, e2]; exact List.sublist_append_left _ _
   have r1 := r.sub hs
   have hc0 : (c, Blk.map (smD sz γ L)) ∈ h := hs.subset hR.has.mem
   obtain ⟨hc, ents, clock, hb, hkeys, hvals, hborn, hnb⟩ := r.heap.blk _ _ hc0
   have hsn := snap_sm (sz := sz) (enc := enc) (γ := γ) (g := smB sz enc γ L) L (fun q hq => Has.of_mem (List.mem_map.2 ⟨q, hq, rfl⟩))
   have hv2 : VL w (XX A hm) ((smF sz enc L).map (·.2)) (ents.toList.map (·.val)) := by
     refine hsn.sound (X' := XX A hm) r.heap (fun c b hh => by rw [e1]; exact Has.of_mem (List.mem_append_right _ hh.mem)) (fun _ b hb => hb.imp id (fun hb => (hs.map _).subset hb)) (fun c' hc' he hx => ?_) _ hvals
     have e3 : 2 * (c' / 2) = c' := by omega
     have hin : c' ∈ keys h := by rw [e1, keys_append]; exact List.mem_append_right _ hc'
     rcases hx with hx | hx
     · rw [e3] at hx; exact r.heap.free c' hin hx
     · rw [e3, e2] at hx
       have hnd := r.heap.nodup
       rw [e1, keys_append, List.nodup_append] at hnd
       exact hnd.2.2 c' hx c' hc' rfl
   obtain ⟨r2, m2⟩ := r1.heap.setBlk hR hc (w' := w) (fun X' hm' => ⟨hc, ents, clock, hb, by rw [hkeys]; simp [smD, smF], hv2.mono hm', hborn, hnb⟩) rfl (fun _ _ => rfl) rfl rfl rfl ⟨rfl, rfl⟩
   exact hh A M w0 a w (r1.turn r2 m2)
end
end Go.Lic
