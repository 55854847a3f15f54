/-
  Loops over functions: the statement, one round, a call of yield; in abstract data.
-/
import Derived.Test.YtkifpidbpoghlaaGreatDoorVr
set_option linter.all false
namespace Go.Lic
variable [Fl]
section
variable {A M : Nat → Prop} {w0 w : World} {h : Heap}
theorem HRel.setHd {c : Nat} {b b' : Blk} {h1 : Heap} (hr : HRel A M w0 ((c, b) :: h1) w) (hc : c % 2 = 0) {w' : World} (hs : w'.heap.size = w.heap.size) (hk : ∀ k, k ≠ c / 2 → w'.heap[k]? = w.heap[k]?) (hsh : w'.shape? (c / 2) = w.shape? (c / 2))
   (ho : w'.os = w.os) (ht : w'.tape = w.tape) (hp : w'.output = w.output) (hd : w'.drawn = w.drawn) (hb : BlkRel w' (XX A ((c, b) :: h1)) c b') : HRel A M w0 ((c, b') :: h1) w' ∧ Mono w (XX A ((c, b) :: h1)) w' (XX A ((c, b') :: h1)) := by
 have hin : XX A ((c, b) :: h1) (c / 2) := .inr (by simp; left; omega)
 have hm : Mono w (XX A ((c, b) :: h1)) w' (XX A ((c, b') :: h1)) := ⟨by omega, fun k _ hx => hk k (fun e => hx (e ▸ hin)), fun k _ => by
     by_cases hb : k = c / 2
     · subst hb; exact hsh
     · exact shape_of_heap (hk k hb), fun _ _ hx => hx⟩
 have hnd := hr.nodup
 simp only [keys_cons, List.nodup_cons] at hnd
 refine ⟨⟨hr.nodup, fun c1 b1 hm1 => ?_, hr.free, hr.mine, hr.bound, by rw [hs]; exact hr.old, ?_, hr.glob.mono hm⟩, hm⟩
 · rcases List.mem_cons.1 hm1 with e | hm1
   · cases e; exact hb
   · refine (hr.blk c1 b1 (by simp [hm1])).mono hm (fun he => hk _ (fun e => hnd.1 ?_))
     rw [show c = c1 by omega]
     exact List.mem_map.2 ⟨_, hm1, rfl⟩
 · refine ⟨ho.trans hr.ext.os, ht.trans hr.ext.tape, hp.trans hr.ext.output, by rw [hs]; exact hr.ext.size, fun k hk1 hk2 => ?_, fun k hk1 => (hm.shape k (Nat.lt_of_lt_of_le hk1 hr.ext.size)).trans (hr.ext.shape k hk1), fun o_ => by rw [hd]; exact hr.ext.drawn o_⟩
   refine (hk k (fun e => ?_)).trans (hr.ext.keep k hk1 hk2)
   rcases hr.mine c (by simp) hc with hm | hm
   · exact hk2 (e ▸ hm)
   · omega
theorem HRel.allocB (hr : HRel A M w0 h w) (o : Obj) (b : Blk) (hb : BlkRel (w.alloc o) (XX A ((2 * w.heap.size, b) :: h)) (2 * w.heap.size) b) :
   2 * w.heap.size ∉ keys h ∧ HRel A M w0 ((2 * w.heap.size, b) :: h) (w.alloc o) := by
 have hnew : 2 * w.heap.size ∉ keys h := fun hc => by have := hr.lt hc (by omega); omega
 have hx : ∀ k, k < w.heap.size → XX A ((2 * w.heap.size, b) :: h) k → XX A h k := fun k hk hx => by
   rcases hx with hx | hx
   · exact .inl hx
   · simp at hx; rcases hx with hx | hx
     · omega
     · exact .inr hx
 have hm : Mono w (XX A h) (w.alloc o) (XX A ((2 * w.heap.size, b) :: h)) :=
   ⟨by simp, fun b hb _ => get_alloc w _ b hb, fun b hb => shape_of_heap (get_alloc w _ b hb), hx⟩
 refine ⟨hnew, ⟨?_, ?_, ?_, ?_, hr.bound, fun b hb => by have := hr.old b hb; simp; omega, ?_, hr.glob.mono hm⟩⟩
 · simp only [keys_cons, List.nodup_cons]; exact ⟨hnew, hr.nodup⟩
 · intro c b1 hc
   rcases List.mem_cons.1 hc with hc | hc
   · cases hc; exact hb
   · exact (hr.blk c b1 hc).mono hm (fun he => get_alloc w _ _ ((hr.blk c b1 hc).lt he))
 · intro c hc ha
   rcases List.mem_cons.1 (by simpa using hc) with hc | hc
   · subst hc; have := hr.old _ ha; omega
   · exact hr.free c hc ha
 · intro c hc he
   rcases List.mem_cons.1 (by simpa using hc) with hc | hc
   · subst hc; have := hr.ext.size; right; omega
   · exact hr.mine c hc he
 · exact hr.ext.trans ⟨rfl, rfl, rfl, by simp, fun b hb _ => get_alloc w _ b hb, fun b hb => shape_of_heap (get_alloc w _ b hb), fun _ => Nat.le_refl _⟩
theorem XX.part {h1 h2 : Heap} : XX (fun c => A c ∨ c ∈ keys h2) h1 = XX A (h1 ++ h2) := by
 funext b; simp only [XX, keys_append, List.mem_append, eq_iff_iff]
 constructor
 · rintro ((h | h) | h)
   · exact .inl h
   · exact .inr (.inr h)
   · exact .inr (.inl h)
 · rintro (h | h | h)
   · exact .inl (.inl h)
   · exact .inr h
   · exact .inl (.inr h)
theorem HRel.part {h1 h2 : Heap} (hr : HRel A M w0 (h1 ++ h2) w) : HRel (fun c => A c ∨ c ∈ keys h2) (fun b => 2 * b ∈ keys h1) w h1 w := by
 have hnd := hr.nodup
 simp only [keys_append, List.nodup_append] at hnd
 refine ⟨hnd.1, fun c b hc => by rw [XX.part]; exact hr.blk c b (List.mem_append.2 (.inl hc)), ?_, ?_, ?_, ?_, Ext.refl _ _, by rw [XX.part]; exact hr.glob⟩
 · rintro c hc (ha | ha)
   · exact hr.free c (by simp [hc]) ha
   · exact hnd.2.2 c hc c ha rfl
 · intro c hc hev; left; show 2 * (c / 2) ∈ keys h1; rw [show 2 * (c / 2) = c from by omega]; exact hc
 · obtain ⟨N, hN⟩ := hr.avoid.1
   exact ⟨N, fun c hc => hN c (hc.imp id (fun h => by simp [h]))⟩
 · intro b hb
   exact hr.avoid.2 b (hb.imp id (fun h => by simp [h]))
theorem HRel.whole {h1 h2 h' : Heap} {w' : World} (hr : HRel A M w0 (h1 ++ h2) w) (hrr : HRel (fun c => A c ∨ c ∈ keys h2) (fun b => 2 * b ∈ keys h1) w h' w') : HRel A M w0 (h' ++ h2) w' ∧ Mono w (XX A (h1 ++ h2)) w' (XX A (h' ++ h2)) := by
 have hmm := Mono.of_rel hrr
 rw [XX.part, XX.part] at hmm
 have hnd := hr.nodup
 simp only [keys_append, List.nodup_append] at hnd
 have hnd2 : (keys (h' ++ h2)).Nodup := by
   simp only [keys_append, List.nodup_append]
   exact ⟨hrr.nodup, hnd.2.1, fun c hc c' hc' he => hrr.free c hc (.inr (he ▸ hc'))⟩
 have hin1 : ∀ b, 2 * b ∈ keys h1 → M b ∨ w0.heap.size ≤ b := fun b hb => by
   have := hr.mine (2 * b) (by simp [hb]) (by omega)
   rwa [show 2 * b / 2 = b from by omega] at this
 refine ⟨⟨hnd2, ?_, ?_, ?_, hr.bound, fun b hb => Nat.lt_of_lt_of_le (hr.old b hb) hrr.ext.size, ?_, by rw [← XX.part]; exact hrr.glob⟩, hmm⟩
 · intro c b hc
   rcases List.mem_append.1 hc with hc | hc
   · rw [← XX.part]; exact hrr.blk c b hc
   · have hb := hr.blk c b (List.mem_append.2 (.inr hc))
     refine hb.mono hmm (fun hev => hrr.ext.keep _ (hb.lt hev) (fun hx => ?_))
     have hx : 2 * (c / 2) ∈ keys h1 := hx
     rw [show 2 * (c / 2) = c from by omega] at hx
     exact hnd.2.2 c hx c (List.mem_map.2 ⟨_, hc, rfl⟩) rfl
 · intro c hc ha
   simp only [keys_append, List.mem_append] at hc
   rcases hc with hc | hc
   · exact hrr.free c hc (.inl ha)
   · exact hr.free c (by simp [hc]) ha
 · intro c hc hev
   simp only [keys_append, List.mem_append] at hc
   rcases hc with hc | hc
   · rcases hrr.mine c hc hev with hmn | hmn
     · have hmn : 2 * (c / 2) ∈ keys h1 := hmn
       rw [show 2 * (c / 2) = c from by omega] at hmn
       exact hr.mine c (by simp [hmn]) hev
     · right; have := hr.ext.size; omega
   · exact hr.mine c (by simp [hc]) hev
 · refine ⟨hrr.ext.os.trans hr.ext.os, hrr.ext.tape.trans hr.ext.tape, hrr.ext.output.trans hr.ext.output, Nat.le_trans hr.ext.size hrr.ext.size, fun b hb hn' => ?_, fun b hb => (hrr.ext.shape b (Nat.lt_of_lt_of_le hb hr.ext.size)).trans (hr.ext.shape b hb), fun o_ => Nat.le_trans (hr.ext.drawn o_) (hrr.ext.drawn o_)⟩
   refine (hrr.ext.keep b (Nat.lt_of_lt_of_le hb hr.ext.size) (fun hx => ?_)).trans (hr.ext.keep b hb hn')
   rcases hin1 b hx with hq | hq
   · exact hn' hq
   · omega
end
theorem Rel.swap {n : Nat} {A M : Nat → Prop} {w0 w : World} {fr : Nat → D} {h : Heap} {a : Act} (r : Rel n A M w0 fr h a w) {b : Nat} {o o' : Obj} (ho : w.heap[b]? = some o) (hn : cellsB o = false) (hn' : cellsB o' = false) (hb : b < w0.heap.size)
   (hkeys : 2 * b ∉ keys h) (hg : b ∉ globIds) : Rel n A M (w0.putObj b o') fr h a (w.putObj b o') := by
 obtain ⟨c1, c2⟩ := noncell ho hn
 have hk : ∀ k, k ≠ b → (w.putObj b o').heap[k]? = w.heap[k]? := fun k hk => World.putObj_heap_other hk
 have hk0 : ∀ k, k ≠ b → (w0.putObj b o').heap[k]? = w0.heap[k]? := fun k hk => World.putObj_heap_other hk
 have hlt : b < w.heap.size := (Array.getElem?_eq_some_iff.1 ho).1
 have hs1 : (w.putObj b o').heap.size = w.heap.size := by simp [World.putObj]
 have hs0 : (w0.putObj b o').heap.size = w0.heap.size := by simp [World.putObj]
 have e1 : (w.putObj b o').heap[b]? = some o' := World.putObj_heap_same hlt
 have e0 : (w0.putObj b o').heap[b]? = some o' := World.putObj_heap_same hb
 have hkey : ∀ c, c ∈ keys h → c % 2 = 0 → c / 2 ≠ b := fun c hc1 hc2 e => hkeys (by rw [← e, show 2 * (c / 2) = c from by omega]; exact hc1)
 refine ⟨r.size, fun i => (r.frame i).other hk c1 c2, ?_, ⟨r.heap.nodup, fun c blk hm => (r.heap.blk c blk hm).other hk c1 c2 (hkey c (List.mem_map.2 ⟨_, hm, rfl⟩)), r.heap.free, fun c hc he => by rw [hs0]; exact r.heap.mine c hc he, r.heap.bound, by rw [hs1]; exact r.heap.old, ?_, ?_⟩⟩
 · obtain ⟨Ds, d1, d2, d3⟩ := r.defers
   refine ⟨Ds, d1, d2, fun k hk1 => ?_⟩
   obtain ⟨a1, a2, a3, a4⟩ := d3 k hk1
   exact ⟨(hk k (by omega)).trans a1, a2, by rw [hs0]; exact a3, a4⟩
 · refine ⟨r.heap.ext.os, r.heap.ext.tape, r.heap.ext.output, by rw [hs0, hs1]; exact r.heap.ext.size, fun k hk1 hk2 => ?_, fun k hk1 => ?_, r.heap.ext.drawn⟩
   · by_cases e : k = b
     · subst e; rw [e1, e0]
     · rw [hk k e, hk0 k e]; exact r.heap.ext.keep k (by rw [hs0] at hk1; exact hk1) hk2
   · by_cases e : k = b
     · subst e; exact shape_of_heap (by rw [e1, e0])
     · rw [shape_of_heap (hk k e), shape_of_heap (hk0 k e)]; exact r.heap.ext.shape k (by rw [hs0] at hk1; exact hk1)
 · obtain ⟨W0, g0, g1⟩ := r.heap.glob
   exact ⟨W0, g0, fun g hgm => ⟨(g1 g hgm).1, by rw [hs1]; exact (g1 g hgm).2.1, (hk g (fun e => hg (e ▸ hgm))).trans (g1 g hgm).2.2⟩⟩
@[reducible] def setP (fr : Nat → D) : List Nat → List D → Nat → D
 | p :: ps, d :: ds => setP (upd fr p d) ps ds
 | _, _ => fr
theorem setP_ok {w : World} {X : Nat → Prop} : ∀ (ps : List Nat) (ds : List D) (vs : List Value) (fr : Nat → D) (tmps : Array Value), VL w X ds vs → (∀ i, V w X (fr i) (tmps.getD i undef)) → (∀ p ∈ ps, p < tmps.size) →
   (∀ i, V w X (setP fr ps ds i) (((ps.zip vs).foldl (fun t (x : Nat × Value) => t.setIfInBounds x.1 x.2) tmps).getD i undef)) ∧ ((ps.zip vs).foldl (fun t (x : Nat × Value) => t.setIfInBounds x.1 x.2) tmps).size = tmps.size
 | [], ds, vs, fr, tmps, _, h, _ => ⟨by cases ds <;> simpa [setP] using h, by simp⟩
 | p :: ps, [], vs, fr, tmps, hv, h, _ => by cases hv; exact ⟨by simpa [setP] using h, by simp⟩
 | p :: ps, d :: ds, vs, fr, tmps, hv, h, hp => by
   cases hv with
   | @cons _ _ x xs h1 h2 =>
     have := setP_ok ps ds xs (upd fr p d) (tmps.setIfInBounds p x) h2 (fun i => by
       by_cases hi : i = p
       · subst hi
         rw [upd_same]
         have : i < tmps.size := hp i (by simp)
         simpa [Array.getElem?_setIfInBounds, this] using h1
       · rw [upd_ne _ _ hi]
         have : ((tmps.setIfInBounds p x).getD i undef) = tmps.getD i undef := by simp [Ne.symm hi]
         rw [this]; exact h i) (fun q hq => by simpa using hp q (by simp [hq]))
     refine ⟨this.1, this.2.trans (by simp)⟩
def RoundA (P : Program) (n : Nat) (fr : Nat → D) (ps : Array Tmp) (assign body : Code) (ds : List D) (h : Heap) (K : Heap → Prop) : Prop :=
 (noRange assign && noRange body && ps.toList.all (fun p => Nat.blt p n) && Nat.beq ps.size ds.length) = true ∧
 wpA P n assign (fun e fr1 h1 => match e with | .normal => wpA P n body (fun e _ h2 => match e with | .normal => K h2 | _ => False) fr1 h1 | _ => False) (setP fr ps.toList ds) h
section
variable {P : Program} {n : Nat} {o : Oper} {fr : Nat → D} {h : Heap} {K : D → Heap → Prop} {Q : Post}
theorem OpA.yield {m : Nat} {cl : Call} {g : Operand} {c : Nat} {fr' : Nat → D} {ps : Array Tmp} {assign body : Code} {h1 hf : Heap} {K' : Heap → Prop} (ho : o.op = .call cl) (hc : cl.callee = .value g) (hg : ev fr g = .fn (.yield (c / 2)) [] [])
   (hp : h.Perm (h1 ++ ((c, .loop m fr' ps assign body) :: hf))) (hround : RoundA P m fr' ps assign body (cl.args.toList.map (ev fr)) h1 K') (hk : ∀ h2, K' h2 → K (.b true) (h2 ++ ((c, .loop m fr' ps assign body) :: hf))) : OpA P o fr h K := by
 intro A M w0 ac w hr hv next Q hn ro
 obtain ⟨hb, hround⟩ := hround
 simp only [Bool.and_eq_true, List.all_eq_true] at hb
 obtain ⟨⟨⟨hb1, hb2⟩, hb3⟩, hb4⟩ := hb
 obtain ⟨hr1, hm1⟩ := hr.perm hp
 obtain ⟨hc2, fn, tmps, bD, hrec, hsz, hfr⟩ := hr1.blk c (.loop m fr' ps assign body) (by simp)
 have hargs := evs_VL (ac := ac) cl.args.toList (fun x hx => hv x (by simp [ho, Op.operands, Call.operands, hc]; exact .inr (by simpa using hx)))
 have hargs1 := hargs.mono hm1
 have hgv := hv g (by simp [ho, Op.operands, Call.operands, hc])
 rw [hg] at hgv
 have hlen : (cl.args.map ac.eval).size = ps.size := by
   rw [Nat.eq_of_beq_eq_true hb4]; simp
 have hrun : (execOp ac.eval o).run P w = .ok (.round (c / 2) fn ((ps.zip (cl.args.map ac.eval)).foldl (fun t (x : Nat × Value) => t.setIfInBounds x.1 x.2) tmps) assign body) w := by
   generalize hu : ac.eval g = u at hgv
   cases hgv with
   | @fn _ _ _ fv cv h3 h4 =>
     cases h3; cases h4
     have hy := run_yield (P := P) (args := cl.args.map ac.eval) hrec hlen
     simp only [execOp, ho, resolve, hc, hu, Deferred.ofValue, Sem.run_bind, Sem.run_pure, Result.andThen_ok, invoke]
     simpa using hy
 refine wd_op hrun (by simp) ⟨fun h => (by cases h), roundIn_of_wpIn (F := Wd ro) trivial ?_⟩
 show assign.wpIn (Wd (some (c / 2))) 0 P _ _ w
 have hkeys1 : 2 * (c / 2) ∉ keys h1 := fun hx => by
   have hnd := hr1.nodup
   simp only [keys_append, List.nodup_append] at hnd
   exact hnd.2.2 _ hx c (by simp) (by omega)
 have hglob : c / 2 ∉ globIds := fun hx => by
   obtain ⟨W0, g0, g1⟩ := hr1.glob
   exact (g1 _ hx).1 (.inr (by rw [show 2 * (c / 2) = c from by omega]; simp))
 have hltB : c / 2 < w.heap.size := (Array.getElem?_eq_some_iff.1 hrec).1
 have hpart := hr1.part
 have hfr1 := setP_ok ps.toList _ _ fr' tmps hargs1 hfr (fun p hp => by rw [hsz]; simpa [Nat.blt_eq] using hb3 p hp)
 have ezip : (ps.zip (cl.args.map ac.eval)).foldl (fun t (x : Nat × Value) => t.setIfInBounds x.1 x.2) tmps = (ps.toList.zip (cl.args.toList.map ac.eval)).foldl (fun t (x : Nat × Value) => t.setIfInBounds x.1 x.2) tmps := by
   rw [← Array.foldl_toList]; simp
 rw [ezip]
 generalize hT : (ps.toList.zip (cl.args.toList.map ac.eval)).foldl (fun t (x : Nat × Value) => t.setIfInBounds x.1 x.2) tmps = T at hfr1
 have r0 : Rel m (fun k => A k ∨ k ∈ keys ((c, .loop m fr' ps assign body) :: hf)) (fun b => 2 * b ∈ keys h1) w (setP fr' ps.toList (cl.args.toList.map (ev fr))) h1 { tmps := T, defers := [] } w :=
   ⟨hfr1.2.trans hsz, fun i => by rw [XX.part]; exact hfr1.1 i, Marks.nil _ _ _, hpart⟩
 have keep : ∀ {v v' : World} {fr2 : Nat → D} {h2 : Heap} {a2 : Act} {ob : Obj}, v.heap.size = w.heap.size → v.heap[c / 2]? = some ob → Rel m (fun k => A k ∨ k ∈ keys ((c, .loop m fr' ps assign body) :: hf)) (fun b => 2 * b ∈ keys h1) v fr2 h2 a2 v' → v'.heap[c / 2]? = some ob ∧ 2 * (c / 2) ∉ keys h2 := by
   intro v v' fr2 h2 a2 ob e1 e2 r
   exact ⟨(r.heap.ext.keep _ (by omega) hkeys1).trans e2, fun hx => r.heap.free _ hx (.inr (by simp; left; omega))⟩
 refine wpIn_mono (hround _ _ w _ w r0 (some (c / 2)) (.inr hb1)) ?_
 rintro e a1 w1 ⟨fr1, h1', hq, r1⟩
 cases e with
 | normal =>
   obtain ⟨k1, k2⟩ := keep rfl hrec r1
   refine ⟨_, run_beginRound k1 rfl, ?_⟩
   have r2 := r1.swap (o' := .loop { state := .busy, pending := none, fn := fn, tmps := tmps, params := ps, assign := assign, body := body, defers := bD }) k1 rfl rfl hltB k2 hglob
   refine wpIn_mono (hq _ _ _ _ _ r2 (some (c / 2)) (.inr hb2)) ?_
   rintro e a3 w3 ⟨fr2, h2, hq2, r3⟩
   cases e with
   | normal =>
     obtain ⟨k3, k4⟩ := keep (by simp [World.putObj]) (World.putObj_heap_same hltB) r3
     refine ⟨_, _, run_endRound none k3, ?_⟩
     have r4 := r3.swap (o' := .loop { state := .ready, pending := none, fn := fn, tmps := tmps, params := ps, assign := assign, body := body, defers := bD }) k3 rfl rfl (by simp [World.putObj]; exact hltB) k4 hglob
     have ew : ((w.putObj (c / 2) (.loop { state := .busy, pending := none, fn := fn, tmps := tmps, params := ps, assign := assign, body := body, defers := bD })).putObj (c / 2) (.loop { state := .ready, pending := none, fn := fn, tmps := tmps, params := ps, assign := assign, body := body, defers := bD })) = w := by
       obtain ⟨g1, g2⟩ := Array.getElem?_eq_some_iff.1 hrec
       simp only [World.putObj]
       rw [Array.setIfInBounds_setIfInBounds]
       rw [← g2]
       simp [Array.setIfInBounds, g1]
     rw [ew] at r4
     obtain ⟨f1, f2⟩ := hr1.whole r4.heap
     exact hn _ _ _ _ (hk h2 hq2) f1 (hm1.trans f2) (.v _)
   | _ => exact hq2.elim
 | _ => exact hq.elim
theorem wpA_rangeFunc {f : Operand} {g : Nat} {cs : List D} {ps : Array Tmp} {assign body : Code} {I : Heap → Prop} (hf : ev fr f = .fn (.func g) [] cs) (he : entersB P g = true)
   (hit : ∀ c, CallH P g (.fn (.yield (c / 2)) [] [] :: cs) ((c, .loop n fr ps assign body) :: h) (fun _ h' => ∃ h1, h'.Perm ((c, .loop n fr ps assign body) :: h1) ∧ I h1)) (hq : ∀ h1, I h1 → ∃ h0, List.Sublist h0 h1 ∧ Q .normal fr h0) : wpA P n (.rangeFunc f ps assign body) Q fr h := by
 intro A M w0 a w r ro hro
 obtain rfl : ro = none := hro.resolve_right (by simp [noRange])
 refine wpIn_rangeFunc (fun fn hfn => ?_)
 obtain ⟨q1, m1⟩ := r.heap.allocOut (.deferred (some []))
 obtain ⟨w1, hw1⟩ : ∃ w1, w.alloc (.deferred (some [])) = w1 := ⟨_, rfl⟩
 have hs1 : w1.heap.size = w.heap.size + 1 := by rw [← hw1]; simp
 rw [hw1] at q1 m1
 obtain ⟨ob, hob⟩ : ∃ ob : Obj, ob = .loop { state := .ready, pending := none, fn := fn, tmps := a.tmps, params := ps, assign := assign, body := body, defers := w.heap.size } := ⟨_, rfl⟩
 have m2 : Mono w1 (XX A h) (w1.alloc ob) (XX A ((2 * w1.heap.size, .loop n fr ps assign body) :: h)) := ⟨by simp, fun b hb _ => get_alloc w1 _ b hb, fun b hb => shape_of_heap (get_alloc w1 _ b hb), fun k hk hx => by
   rcases hx with hx | hx
   · exact .inl hx
   · simp at hx; rcases hx with hx | hx
     · omega
     · exact .inr hx⟩
 have e2 : 2 * w1.heap.size / 2 = w1.heap.size := by omega
 obtain ⟨hnew, q2⟩ := q1.allocB ob (.loop n fr ps assign body) ⟨by omega, fn, a.tmps, w.heap.size, by rw [e2, ← hob]; exact get_alloc_new w1 ob, r.size, fun i => ((r.frame i).mono m1).mono m2⟩
 have hfv := r.ev f
 rw [hf] at hfv
 generalize hu : a.eval f = u at hfv
 cases hfv with
 | @fn _ _ _ fv lb h3 h4 =>
 cases h3
 refine ⟨w.heap.size + 1, [{ target := .collected w.heap.size, args := #[] }], w1.alloc ob, { target := .fn (.func g) lb.toArray, args := #[.func (.yield (w.heap.size + 1)) #[] #[]] }, w1.alloc ob, g,
   #[.func (.yield (w.heap.size + 1)) #[] #[]] ++ lb.toArray, w1.alloc ob, ?_, ?_, fun _ _ => trivial, ?_, fun h => (by cases h), ?_⟩
 · rw [← hw1, hob]; exact run_enterLoop_outer _ _ _ _ _
 · simp only [resolve, hu]
   simp [go_sem]
 · simp [invoke, run_enter he]
 · refine wd_calls ?_
   have hcall := hit (2 * w1.heap.size) A (w1.alloc ob) (.func (.yield (w.heap.size + 1)) #[] #[] :: lb) q2.base (.cons (by rw [e2, hs1]; exact .fn (vs := []) (us := []) .nil .nil) ((h4.mono m1).mono m2))
   have ea : (#[.func (.yield (w.heap.size + 1)) #[] #[]] ++ lb.toArray : Array Value) = (.func (.yield (w.heap.size + 1)) #[] #[] :: lb).toArray := by simp
   rw [ea]
   refine hcall.mono ?_
   rintro e w' ⟨v, d, h', rfl, ⟨h1, hp, hI⟩, q3, m3, hvv⟩
   have q4 := q2.join q3
   obtain ⟨q5, m5⟩ := q4.perm hp
   obtain ⟨_, fn', tmps', D', hrec, _, _⟩ := q5.blk _ _ (List.mem_cons_self ..)
   rw [e2, hs1] at hrec
   refine ⟨none, _, run_endLoop hrec (by simp), ?_⟩
   have hlt : w.heap.size + 1 < w'.heap.size := (Array.getElem?_eq_some_iff.1 hrec).1
   have e3 : 2 * w1.heap.size / 2 = w.heap.size + 1 := by omega
   obtain ⟨q6, m6⟩ := q5.setHd (b' := .raw (.loop { state := .exhausted, pending := none, fn := fn', tmps := tmps', params := ps, assign := assign, body := body, defers := D' })) (w' := w'.putObj (w.heap.size + 1) (.loop { state := .exhausted, pending := none, fn := fn', tmps := tmps', params := ps, assign := assign, body := body, defers := D' })) (by omega) (by simp [World.putObj])
     (fun k hk => World.putObj_heap_other (by omega)) (by
       rw [e3]; unfold World.shape?; rw [World.putObj_heap_same hlt, hrec]) rfl rfl rfl rfl ⟨by omega, by rw [e3]; exact World.putObj_heap_same hlt⟩
   obtain ⟨q7, m7⟩ := q6.tail
   have mm := ((((m1.trans m2).trans m3).trans m5).trans m6).trans m7
   have mm1 := (((m2.trans m3).trans m5).trans m6).trans m7
   obtain ⟨h0, hsub, hq0⟩ := hq h1 hI
   refine ⟨fr, h0, hq0, Rel.sub hsub ⟨r.size, fun i => (r.frame i).mono mm, ?_, q7⟩⟩
   obtain ⟨Ds, d1, d2, d3⟩ := r.defers
   refine Marks.mono mm1 ⟨w.heap.size :: Ds, by simp [d1], List.nodup_cons.2 ⟨fun hx => ?_, d2⟩, fun b hb => ?_⟩
   · have := (Array.getElem?_eq_some_iff.1 (d3 _ hx).1).1; omega
   · rcases List.mem_cons.1 hb with rfl | hb
     · refine ⟨by rw [← hw1]; exact get_alloc_new w _, fun hx => ?_, r.heap.ext.size, fun hx => ?_⟩
       · have := r.heap.xlt hx; omega
       · obtain ⟨W0, g0, g1⟩ := r.heap.glob
         have := (g1 _ hx).2.1; omega
     · obtain ⟨a1, a2, a3, a4⟩ := d3 b hb
       have hlt : b < w.heap.size := (Array.getElem?_eq_some_iff.1 a1).1
       exact ⟨(m1.keep b hlt a2).trans a1, a2, a3, a4⟩
end
end Go.Lic
