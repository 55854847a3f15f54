/-
  Rules for walks that are printed beside the conditions of a function (words of XGo): each side condition is handed in; own slices are told as windows pre ++ (xs ++ post).
-/
import Derived.Test.YtkifpidbpoghlaaGreatDoorPa
import Derived.Test.YtkifpidbpoghlaaGreatDoorRule
import Derived.Laws.BytesArg
import Derived.Lib.ConvBytes
set_option linter.all false
namespace Go.Lic
variable [Fl]
theorem HRel.sub {A M : Nat → Prop} {w0 w : World} {h h0 : Heap} (hs : List.Sublist h0 h) (hr : HRel A M w0 h w) : HRel A M w0 h0 w ∧ Mono w (XX A h) w (XX A h0) := by
 have hk : List.Sublist (keys h0) (keys h) := hs.map _
 have hm : Mono w (XX A h) w (XX A h0) := .less fun b hb => by
   rcases hb with hb | hb
   · exact .inl hb
   · exact .inr (hk.subset hb)
 exact ⟨⟨hr.nodup.sublist hk, fun c b hc => (hr.blk c b (hs.subset hc)).mono hm (fun _ => rfl), fun c hc => hr.free c (hk.subset hc), fun c hc => hr.mine c (hk.subset hc), hr.bound, hr.old, hr.ext, hr.glob.mono hm⟩, hm⟩
theorem Rel.sub {n : Nat} {A M : Nat → Prop} {w0 : World} {fr : Nat → D} {h h0 : Heap} {a : Act} {w : World} (hs : List.Sublist h0 h) (r : Rel n A M w0 fr h a w) : Rel n A M w0 fr h0 a w :=
 have ⟨r1, m1⟩ := r.heap.sub hs
 r.turn r1 m1
section
variable {P : Program} {n : Nat} {Q : Post} {fr fr0 : Nat → D} {h : Heap}
theorem wpA_freezeB {c0 : Code} {c sz : Nat} {es es' : List D} {x : Nat × Blk} {h0 : Heap} (hp : h.Perm (x :: (c, .cells sz es) :: h0)) (hsn : Snap false [x] (D.flats es) (D.flats es')) (hok : ∀ d ∈ es', d.ok sz) (hlen : es'.length = es.length)
   (hh : wpA P n c0 Q fr ((c, .cells sz es') :: h0)) : wpA P n c0 Q fr h :=
 fun A M w0 a w r => by
   obtain ⟨r1, m1⟩ := r.heap.perm hp
   obtain ⟨r2, m2⟩ := r1.tail
   have hx : x.1 ∉ keys ((c, .cells sz es) :: h0) := (List.nodup_cons.1 (by simpa using r1.nodup)).1
   have hb := r1.blk c (.cells sz es) (by simp)
   have hs : ∀ cs, VL w (XX A (x :: (c, .cells sz es) :: h0)) (D.flats es) cs → VL w (XX A ((c, .cells sz es) :: h0)) (D.flats es') cs := fun cs hv => by
     refine hsn.sound (X' := XX A ((c, .cells sz es) :: h0)) r1 (fun c b hh => by cases hh with | head => exact .head | tail t => cases t) (fun _ b hb => by
       rcases hb with hb | hb
       · exact .inl hb
       · exact .inr (List.mem_cons_of_mem _ hb)) (fun c' hc hev hxx => ?_) cs hv
     simp at hc; subst hc
     rcases hxx with hxx | hxx
     · rw [show 2 * (x.1 / 2) = x.1 from by omega] at hxx
       exact r1.free x.1 (by simp) hxx
     · rw [show 2 * (x.1 / 2) = x.1 from by omega] at hxx
       exact hx hxx
   have hr' : HRel A M w0 ((c, .cells sz es') :: h0) w := by
     refine ⟨r2.nodup, fun c1 b1 hc1 => ?_, r2.free, r2.mine, r2.bound, r2.old, r2.ext, r2.glob⟩
     rcases List.mem_cons.1 hc1 with e | hc1
     · cases e
       refine ⟨hok, ?_⟩
       rcases hb.2 with ⟨q1, q2⟩ | ⟨q1, arr, e, cs, q2, q3, q4⟩
       · rw [q2] at hlen; exact .inl ⟨q1, List.eq_nil_of_length_eq_zero hlen⟩
       · exact .inr ⟨q1, arr, e, cs, q2, hs cs q3, q4⟩
     · exact r2.blk c1 b1 (List.mem_cons_of_mem _ hc1)
   exact hh A M w0 a w (r.turn hr' (m1.trans m2))
theorem wpA_heq {c : Code} {h' : Heap} (e : h = h') (hh : wpA P n c Q fr h') : wpA P n c Q fr h := by subst e; exact hh
theorem wpA_sub {c : Code} {h0 : Heap} (hs : List.Sublist h0 h) (hh : wpA P n c Q fr h0) : wpA P n c Q fr h := fun A M w0 a w r => hh A M w0 a w (r.sub hs)
theorem wpA_lfp {S G : Type} {body : (S → Prop) → S → Prop} {s0 : S} {c : Code} (g0 : G) (F : G → S → Nat → D) (H : G → S → Heap) (hl : lfp body s0) (hc : Cov fr (F g0 s0)) (hh : List.Sublist (H g0 s0) h)
   (round : ∀ again : S → Prop, ∀ g s, body again s →
     wpA P n c (fun e fr' h' => match e with | .normal => ∃ g s, again s ∧ Cov fr' (F g s) ∧ List.Sublist (H g s) h' | e => Q e fr' h') (F g s) (H g s)) : wpA P n (.loop c) Q fr h := by
 have key : ∀ g A M w0 a w, Rel n A M w0 (F g s0) (H g s0) a w → ∀ ro, RoOk ro c → ∀ (b : Frame) (ks : List Item) (cs : List Frame), b.roundOf = (Wd ro).round → (Wd ro).fn b.fn → ∃ e a' w', Conc n A M w0 Q e a' w' ∧ ArrivesIn (Machine.fenced P (Wd ro)) P (lone (b.atR a (.code c :: .inLoop c :: ks)) cs w) b ks cs e a' w' := by
   refine hl (fun s => ∀ g A M w0 a w, Rel n A M w0 (F g s) (H g s) a w → ∀ ro, RoOk ro c → ∀ (b : Frame) (ks : List Item) (cs : List Frame), b.roundOf = (Wd ro).round → (Wd ro).fn b.fn → ∃ e a' w', Conc n A M w0 Q e a' w' ∧ ArrivesIn (Machine.fenced P (Wd ro)) P (lone (b.atR a (.code c :: .inLoop c :: ks)) cs w) b ks cs e a' w') ?_
   intro s hbd g A M w0 a w r ro hro b ks cs hbr hb
   obtain ⟨e, a₁, w₁, ⟨fr₁, h₁, hq, r₁⟩, harr⟩ := round _ g s hbd A M w0 a w r ro hro b (.inLoop c :: ks) cs hbr hb (wd_room ro _)
   cases e with
   | normal =>
     obtain ⟨g', s', hs', hc', hh'⟩ := hq
     obtain ⟨e₂, a₂, w₂, hq₂, harr₂⟩ := hs' g' A M w0 a₁ w₁ ((r₁.cov hc').sub hh') ro hro b ks cs hbr hb
     exact ⟨e₂, a₂, w₂, hq₂, .of_steps (StepsIn.trans harr (.one (fenced_calm hb (wd_room ro (cs.length + 1 + 0)) rfl) stepR_inLoop)) harr₂⟩
   | exit id => exact ⟨_, a₁, w₁, ⟨fr₁, h₁, hq, r₁⟩, .pass (x := .inLoop c) rfl (fun _ _ => .inl (by simp)) harr⟩
   | goto l => exact ⟨_, a₁, w₁, ⟨fr₁, h₁, hq, r₁⟩, .pass (x := .inLoop c) rfl (fun _ _ => .inl (by simp)) harr⟩
   | ret => exact ⟨_, a₁, w₁, ⟨fr₁, h₁, hq, r₁⟩, .pass (x := .inLoop c) rfl (fun _ _ => .inl (by simp)) harr⟩
   | panic ch => exact ⟨_, a₁, w₁, ⟨fr₁, h₁, hq, r₁⟩, .pass (x := .inLoop c) rfl (fun _ _ => .inl (by simp)) harr⟩
   | outgrown => exact ⟨_, a₁, w₁, ⟨fr₁, h₁, hq, r₁⟩, .pass (x := .inLoop c) rfl (fun _ _ => .inl (by simp)) harr⟩
 intro A M w0 a w r ro hro b ks cs hbr hb hr
 obtain ⟨e, a', w', hq, harr⟩ := key g0 A M w0 a w ((r.cov hc).sub hh) ro hro.lp b ks cs hbr hb
 exact ⟨e, a', w', hq, .of_steps (.one (fenced_calm hb hr rfl) stepR_loop) harr⟩
theorem wpA_join {S G : Type} {c : Code} (F : G → S → Nat → D) (H : G → S → Heap) (J : S → Prop)
   (hx : wpA P n c (fun e fr' h' => match e with | .normal => ∃ g s, J s ∧ Cov fr' (F g s) ∧ List.Sublist (H g s) h' | e => Q e fr' h') fr h)
   (hy : ∀ g s, J s → Q .normal (F g s) (H g s)) : wpA P n c Q fr h := by
 intro A M w0 a w r ro hro
 refine wpIn_mono (hx A M w0 a w r ro hro) ?_
 rintro e a' w' ⟨fr', h', hq, r'⟩
 cases e with
 | normal =>
   obtain ⟨g, s, hs, hc, hh⟩ := hq
   exact ⟨_, _, hy g s hs, (r'.cov hc).sub hh⟩
 | exit id => exact ⟨fr', h', hq, r'⟩
 | goto l => exact ⟨fr', h', hq, r'⟩
 | ret => exact ⟨fr', h', hq, r'⟩
 | panic ch => exact ⟨fr', h', hq, r'⟩
 | outgrown => exact ⟨fr', h', hq, r'⟩
theorem wpA_mid {c : Code} (fr0 : Nat → D) (h0 : Heap) (hx : wpA P n c (fun e fr' h' => match e with | .normal => Cov fr' fr0 ∧ List.Sublist h0 h' | e => Q e fr' h') fr h) (hy : Q .normal fr0 h0) : wpA P n c Q fr h :=
 wpA_join (S := Unit) (G := Unit) (fun _ _ => fr0) (fun _ _ => h0) (fun _ => True) (wpA_mono hx fun e fr' h' q => by
   cases e with
   | normal => exact ⟨(), (), trivial, q⟩
   | _ => exact q) (fun _ _ _ => hy)
end
abbrev winL {T : Type} (enc : T → D) (pre : List D) (xs : List T) (post : List D) : List D := pre ++ (xs.map enc ++ post)
section
variable {T : Type} [Inhabited T] {enc : T → D} {pre post : List D} {xs : List T} {i : Int}
theorem getV (h : inL i xs.length) : (winL enc pre xs post)[pre.length + i.toNat]? = some (enc (gi xs i)) := by
 rw [winL, List.getElem?_append_right (by omega), Nat.add_sub_cancel_left, List.getElem?_append_left (by simp; omega), List.getElem?_map, gi_get? h]; rfl
theorem setV {v : T} (h : inL i xs.length) : (winL enc pre xs post).set (pre.length + i.toNat) (enc v) = winL enc pre (si xs i v) post := by
 rw [winL, List.set_append_right _ _ (by omega), Nat.add_sub_cancel_left, List.set_append_left _ _ (by simp; omega), ← List.map_set]; rfl
theorem winL_mid (xs : List T) : ((winL enc pre xs post).drop pre.length).take xs.length = xs.map enc := by
 rw [winL, List.drop_left]; exact List.take_left' (by simp)
theorem winL_cut {lo hi : Int} (h : inS lo hi xs.length) : winL enc pre xs post = winL enc (pre ++ (xs.take lo.toNat).map enc) (lsub xs lo hi) ((xs.drop hi.toNat).map enc ++ post) := by
 have e : xs = xs.take lo.toNat ++ (lsub xs lo hi ++ xs.drop hi.toNat) := by
   have h1 : xs = xs.take hi.toNat ++ xs.drop hi.toNat := (List.take_append_drop _ _).symm
   have h2 : xs.take hi.toNat = (xs.take hi.toNat).take lo.toNat ++ (xs.take hi.toNat).drop lo.toNat := (List.take_append_drop _ _).symm
   rw [List.take_take, Nat.min_eq_left (by omega)] at h2
   rw [← List.append_assoc, lsub, ← h2]; exact h1
 unfold winL
 conv => lhs; rw [e]
 simp [List.map_append, List.append_assoc]
end
inductive SrcV {T : Type} (enc : T → D) (h : Heap) (sz : Nat) : D → List T → Prop
 | list {ys : List T} : SrcV enc h sz (.list sz (ys.map enc)) ys
 | own {c : Nat} {pre post : List D} {ys : List T} (hh : Has c (.cells sz (winL enc pre ys post)) h) : SrcV enc h sz (.own c sz pre.length ys.length) ys
 | nil : SrcV enc h sz (.v (.slice none 0 0)) []
theorem SrcV.is {T : Type} [Inhabited T] {enc : T → D} {h : Heap} {sz : Nat} {d : D} {ys : List T} (hs : SrcV enc h sz d ys) : SrcIs h sz d (ys.map enc) := by
 cases hs with
 | list => exact .list
 | @own c pre post ys hh => have := SrcIs.own (i := pre.length) (len := ys.length) hh (by simp); rwa [winL_mid] at this
 | nil => exact .nil
theorem Snap.win {T : Type} [Inhabited T] {enc : T → D} {f : Bool} {h : Heap} {c sz : Nat} {pre post ds ds' : List D} {xs : List T} (hh : Has c (.cells sz (winL enc pre xs post)) h) (hp : f = true → ∀ d ∈ D.flats (xs.map enc), Plain d) (hs : Snap f h ds ds') :
   Snap f h (.own c sz pre.length xs.length :: ds) (.list sz (xs.map enc) :: ds') := by
 have := Snap.ownp (f := f) (ds := ds) (ds' := ds') (i := pre.length) (len := xs.length) hh (by simp) (by rw [winL_mid]; exact hp) hs
 rwa [winL_mid] at this
section
variable {P : Program} {o : Oper} {fr : Nat → D} {h : Heap} {K : D → Heap → Prop} {T : Type} [Inhabited T] {enc : T → D}
theorem OpA.iixV {t et : TypeId} {bytes : Nat} {agg : Bool} {x ix : Operand} {kd : IntKind} {i : Int} {sz : Nat} {l : List T} (ho : o.op = .indexAddr t x ix) (ht : TS P t et sz bytes agg) (hsz : Nat.blt 0 sz = true) (hx : ev fr x = .list sz (l.map enc))
   (hi : ev fr ix = .v (.int kd i)) (hb : inL i l.length) (hk : K (.iptr (enc (gi l i)) 0) h) : OpA P o fr h K :=
 .iindexAddr ho ht hsz hx hi hb.1 (by rw [List.getElem?_map, gi_get? hb]; rfl) hk
theorem OpA.ixV {t et : TypeId} {bytes : Nat} {agg : Bool} {x ix : Operand} {kd : IntKind} {i : Int} {c sz k len : Nat} (ho : o.op = .indexAddr t x ix) (ht : TS P t et sz bytes agg) (hx : ev fr x = .own c sz k len)
   (hi : ev fr ix = .v (.int kd i)) (hb : inL i len) (hk : K (.ptr c sz (k + i.toNat) 0) h) : OpA P o fr h K :=
 .indexAddr ho ht hx hi hb.1 (by omega) hk
theorem OpA.sixV {t : TypeId} {x ix : Operand} {k : IntKind} {j : Int} {s : ByteArray} (ho : o.op = .index t x ix) (ht : P.underlying t = some .string) (hx : ev fr x = .s s) (hi : ev fr ix = .v (.int k j)) (hb : inL j s.size)
   (hk : K (.v (.int .u8 (sgi s j))) h) : OpA P o fr h K :=
 .sindex (u := s.data.toList.getD j.toNat 0) ho ht hx hi hb.1 (by
   have e : s.data.toList.length = s.size := rfl
   have : j.toNat < s.data.toList.length := by rw [e]; omega
   rw [List.getD_eq_getElem?_getD, List.getElem?_eq_getElem this]; rfl) hk
inductive BdV (fr : Nat → D) : Option Operand → Int → Int → Prop
 | none (n : Int) : BdV fr none n n
 | some {x : Operand} {k : IntKind} {i d : Int} (hx : ev fr x = .v (.int k i)) : BdV fr (some x) d i
theorem BdV.bd {lo : Option Operand} {d i : Int} {dn : Nat} (hb : BdV fr lo d i) (hd : d = dn) (h0 : 0 ≤ i) : Bd fr lo dn i.toNat := by
 cases hb with
 | none => subst hd; exact .none _
 | some hx => exact .some hx h0
theorem OpA.isliceV {t et : TypeId} {bytes : Nat} {agg : Bool} {x : Operand} {lo hi : Option Operand} {sz : Nat} {l : List T} {a b : Int} (ho : o.op = .slice t x lo hi none) (ht : TS P t et sz bytes agg) (hx : ev fr x = .list sz (l.map enc))
   (hl : BdV fr lo 0 a) (hh : BdV fr hi l.length b) (hb : inS a b l.length) (hk : K (.list sz ((lsub l a b).map enc)) h) : OpA P o fr h K :=
 .islice ho ht hx (hl.bd (dn := 0) rfl hb.1) (hh.bd (dn := (l.map enc).length) (by simp) (by omega)) (by omega) (by simp; omega) (by
   rw [lsub, List.map_drop, List.map_take] at hk; exact hk)
theorem OpA.ssliceV {t : TypeId} {x : Operand} {lo hi : Option Operand} {a b : Int} {s : ByteArray} (ho : o.op = .slice t x lo hi none) (ht : P.underlying t = some .string) (hx : ev fr x = .s s)
   (hl : BdV fr lo 0 a) (hh : BdV fr hi s.size b) (hb : inS a b s.size) (hk : K (.s (ssub s a b)) h) : OpA P o fr h K :=
 .sslice ho ht hx (hl.bd (dn := 0) rfl hb.1) (hh.bd rfl (by omega)) (by omega) (by omega) hk
theorem OpA.sliceV {t et : TypeId} {bytes : Nat} {agg : Bool} {x : Operand} {lo hi : Option Operand} {c sz : Nat} {pre post : List D} {xs : List T} {a b : Int} {h' : Heap} (ho : o.op = .slice t x lo hi none) (ht : TS P t et sz bytes agg) (hx : ev fr x = .own c sz pre.length xs.length)
   (hl : BdV fr lo 0 a) (hh : BdV fr hi xs.length b) (hb : inS a b xs.length) (hr : Repl c (.cells sz (winL enc pre xs post)) c (.cells sz (winL enc (pre ++ (xs.take a.toNat).map enc) (lsub xs a b) ((xs.drop b.toNat).map enc ++ post))) h h')
   (hk : K (.own c sz (pre ++ (xs.take a.toNat).map enc).length (lsub xs a b).length) h') : OpA P o fr h K := by
 have e : h' = h := by
   rw [← winL_cut hb] at hr
   obtain ⟨h1, h2, e1, e2⟩ := hr.split
   rw [e1, e2]
 subst e
 have e1 : (pre ++ (xs.take a.toNat).map enc).length = pre.length + a.toNat := by simp; omega
 rw [e1, lsub_length hb, show (b - a).toNat = b.toNat - a.toNat by omega] at hk
 exact .slice ho ht hx (hl.bd (dn := 0) rfl hb.1) (hh.bd rfl (by omega)) (by omega) (by omega) hk
theorem OpA.appendW {t e : TypeId} {sz bytes : Nat} {agg : Bool} {cl : Call} {s x : Operand} {c : Nat} {pre post : List D} {xs ys : List T} {hf : Nat → Blk → Heap} (ho : o.op = .call cl) (hc : cl.callee = .builtin .append) (ha : cl.args = #[s, x]) (hty : cl.argTypes = #[t, t])
   (ht : TS P t e sz bytes agg) (hs : ev fr s = .own c sz pre.length xs.length) (hrepl : ∀ c' b', Repl c (.cells sz (winL enc pre xs post)) c' b' h (hf c' b')) (hx : SrcV enc h sz (ev fr x) ys)
   (hb : (xs.length + ys.length) * bytes ≤ 140737488355328 ∧ xs.length + ys.length ≤ 9223372036854775807) (hk : ∀ c' pre', K (.own c' sz pre'.length (xs ++ ys).length) (hf c' (.cells sz (winL enc pre' (xs ++ ys) [])))) : OpA P o fr h K :=
 .append ho hc ha hty ht hs hrepl hx.is (by simp) (by simpa using hb.1) (by simpa using hb.2) (fun c' pre' => by
   have := hk c' pre'
   rw [winL_mid, List.length_map, List.append_assoc]
   rw [List.length_append, winL, List.append_nil, List.map_append] at this
   exact this)
theorem OpA.makeSliceV {t e : TypeId} {sz bytes : Nat} {agg : Bool} {x y : Operand} {kl kc : IntKind} {l c : Int} {z : Value} {v0 : T} (ho : o.op = .makeSlice t x y) (ht : TS P t e sz bytes agg) (hx : ev fr x = .v (.int kl l)) (hy : ev fr y = .v (.int kc c))
   (hz : (P.info? e).bind (·.zero) = some z) (hd : ∀ w X, V w X (enc v0) z) (hok : (enc v0).ok sz) (hb : (0 ≤ l ∧ l ≤ c) ∧ (bytes : Int) * c ≤ 281474976710656 ∧ c ≤ 9223372036854775807)
   (hk : ∀ b, K (.own b sz ([] : List D).length (List.replicate l.toNat v0).length) ((b, .cells sz (winL enc [] (List.replicate l.toNat v0) [])) :: h)) : OpA P o fr h K :=
 .makeSlice ho ht hx hy hz hd hok hb.1.1 hb.1.2 hb.2.1 hb.2.2 (fun b => by
   have := hk b
   simpa [winL] using this)
theorem OpA.asnG {x : Operand} {sz : Nat} (ho : o.op = .assign x) (hd : ev fr x = .v (.slice none 0 0)) (hk : ∀ g, K (.own g sz ([] : List D).length ([] : List T).length) ((g, .cells sz (winL enc [] ([] : List T) [])) :: h)) : OpA P o fr h K :=
 fun A M w0 a w hr hv next Q hn => by
   have h1 := hv x (by simp [ho, Op.operands])
   rw [hd] at h1
   generalize hu : a.eval x = u at h1
   cases h1
   obtain ⟨g, _, _, hr', hm⟩ := hr.ghost sz
   have e : (execOp a.eval o).run P w = .ok (.value (.slice none 0 0)) w := by simp [execOp, ho, hu]
   exact fun ro => wd_op e (by simp) (hn _ w _ _ (hk g) hr' hm (.own (Nat.le_refl _) (.inr ⟨rfl, rfl⟩)))
theorem OpA.asnN {x : Operand} {sz : Nat} (ho : o.op = .assign x) (hd : ev fr x = .v (.slice none 0 0)) (hk : K (.list sz (([] : List T).map enc)) h) : OpA P o fr h K :=
 .of_quiet (d := .list sz (([] : List T).map enc)) (fun A M w0 a w _ hv => by
   have h1 := hv x (by simp [ho, Op.operands])
   rw [hd] at h1
   generalize hu : a.eval x = u at h1
   cases h1
   exact ⟨.slice none 0 0, by simp [execOp, ho, hu], .list (ds := []) (cs := []) (b := 0) (o := 0) (by simp) .nil (by simp) (.inl rfl) (by simp)⟩) hk
theorem OpA.buildSliceV {t e : TypeId} {sz bytes len : Nat} {agg : Bool} {parts : Array (Nat × Operand)} {xs : List T} (ho : o.op = .buildSlice t len parts) (ht : TS P t e sz bytes agg) (hidx : parts.toList.map (·.1) = List.range len)
   (hok : OkL fr sz parts.toList) (hb : len * sz ≤ 16777216) (hxs : (parts.toList.map fun p => ev fr p.2) = xs.map enc) (hk : ∀ c, K (.own c sz ([] : List D).length xs.length) ((c, .cells sz (winL enc [] xs [])) :: h)) : OpA P o fr h K :=
 .buildSliceO ho ht hidx hok hb (fun c => by
   have hl : len = xs.length := by have := congrArg List.length hidx; have h2 := congrArg List.length hxs; simp at this h2; omega
   rw [hxs, hl]
   simpa [winL] using hk c)
theorem OpA.storeV {t : TypeId} {x y : Operand} {c sz : Nat} {agg : Bool} {pre post : List D} {xs : List T} {i : Int} {v : T} {h' : Heap} (ho : o.op = .store t x y) (ht : TI P t sz agg) (hx : ev fr x = .ptr c sz (pre.length + i.toNat) 0)
   (hy : ev fr y = enc v) (hok : (enc v).ok sz) (hl : (enc (gi xs i)).flat.length = sz) (hb : inL i xs.length) (hh : Repl c (.cells sz (winL enc pre xs post)) c (.cells sz (winL enc pre (si xs i v) post)) h h') (hk : K (.v undef) h') : OpA P o fr h K :=
 .store (e' := enc v) ho ht hx (by rw [hy]; exact hok) (getV hb) (by rw [hl]; omega) (by rw [hy, setAt_all _ _ (by rw [hl, hok.1])]) (by rw [setV hb]; exact hh) hk
theorem OpA.storeVf {t : TypeId} {x y : Operand} {c sz k n : Nat} {agg : Bool} {pre post : List D} {xs : List T} {i : Int} {v : T} {h' : Heap} (ho : o.op = .store t x y) (ht : TI P t n agg) (hx : ev fr x = .ptr c sz (pre.length + i.toNat) k)
   (hok : (ev fr y).ok n) (hkn : k + n ≤ (enc (gi xs i)).flat.length) (he : (enc v).flat = setAt (enc (gi xs i)).flat k (ev fr y).flat) (hb : inL i xs.length) (hh : Repl c (.cells sz (winL enc pre xs post)) c (.cells sz (winL enc pre (si xs i v) post)) h h') (hk : K (.v undef) h') : OpA P o fr h K :=
 .store (e' := enc v) ho ht hx hok (getV hb) hkn he (by rw [setV hb]; exact hh) hk
end
theorem Fun.at {P : Program} {f : Nat} {ds : List D} {T : Type} {enc : T → D} {v : T} (h : Fun false P f ds (fun d => ∃ r, d = enc r ∧ r = v)) : Fun false P f ds (fun d => d = enc v) :=
 fun A w vs h1 h2 hg h3 => (h A w vs h1 h2 hg h3).mono fun e w' ⟨x, d, he, ⟨r, h4, h5⟩, h6⟩ => ⟨x, d, he, by rw [h4, h5], h6⟩
end Go.Lic
set_option linter.all false
namespace Go.Lic
variable [Fl]
section
variable {P : Program} {o : Oper} {fr : Nat → D} {h : Heap} {K : D → Heap → Prop}
theorem OpA.int2 {op : BinOp} {t t2 : TypeId} {x y : Operand} {k k2 : IntKind} {a b r : Int} (ho : o.op = .binOp op t x y t2) (hx : ev fr x = .v (.int k a)) (hy : ev fr y = .v (.int k2 b))
   (hr : ∀ w, (binOp op t (.int k a) (.int k2 b)).run P w = .ok (.int k r) w) (hg : ∀ (ax ay : Operand) w, (eqGuard op t ax ay (.int k a) (.int k2 b)).run P w = .ok () w) (hk : K (.v (.int k r)) h) : OpA P o fr h K :=
 .of_quiet (fun A M w0 ac w _ hv => by
   have h1 := hv x (by simp [ho, Op.operands])
   have h2 := hv y (by simp [ho, Op.operands])
   rw [hx] at h1; rw [hy] at h2
   generalize hu : ac.eval x = u at h1
   generalize hu2 : ac.eval y = u2 at h2
   cases h1; cases h2
   exact ⟨_, by simp only [execOp, ho, hu, hu2, Sem.run_bind, hg, hr, Result.andThen_ok, Sem.run_pure], .v _⟩) hk
theorem OpA.quoN {t t2 : TypeId} {x y : Operand} {a b : Int} (ho : o.op = .binOp .quo t x y t2) (hx : ev fr x = .i a) (hy : ev fr y = .i b) (hb : (0 ≤ a ∧ 0 < b) ∧ a ≤ 9223372036854775807) (hk : K (.i (a / b)) h) : OpA P o fr h K :=
 .int2 ho hx hy (by
   intro w
   have h1 : b ≠ 0 := by omega
   have h2 : a.tdiv b = a / b := Int.tdiv_eq_ediv_of_nonneg hb.1.1
   have h3 : 0 ≤ a / b := Int.ediv_nonneg hb.1.1 (by omega)
   have h4 : a / b ≤ a := Int.ediv_le_self _ hb.1.1
   have h5 : IntKind.i64.wrap (a / b) = a / b := wrap64_in (by omega)
   simp [binOp, Op.intDiv, h1, h2, h5]) (by intro ax ay w; simp [eqGuard_at_int]) hk
theorem OpA.remN {t t2 : TypeId} {x y : Operand} {k : IntKind} {a b : Int} (ho : o.op = .binOp .rem t x y t2) (hx : ev fr x = .v (.int k a)) (hy : ev fr y = .v (.int k b)) (hb : 0 ≤ a ∧ 0 < b) (hk : K (.v (.int k (a % b))) h) : OpA P o fr h K :=
 .int2 ho hx hy (by
   intro w
   have h1 : b ≠ 0 := by omega
   have h2 : a.tmod b = a % b := Int.tmod_eq_emod_of_nonneg hb.1
   simp [binOp, Op.intDiv, h1, h2]) (by intro ax ay w; simp [eqGuard_at_int]) hk
theorem OpA.band {t t2 : TypeId} {x y : Operand} {k : IntKind} {a b : Int} (ho : o.op = .binOp .and t x y t2) (hx : ev fr x = .v (.int k a)) (hy : ev fr y = .v (.int k b)) (hk : K (.v (.int k (gand k a b))) h) : OpA P o fr h K :=
 .int2 ho hx hy (by intro w; simp [binOp, Op.intBits, gand]) (by intro ax ay w; simp [eqGuard_at_int]) hk
theorem OpA.bor {t t2 : TypeId} {x y : Operand} {k : IntKind} {a b : Int} (ho : o.op = .binOp .or t x y t2) (hx : ev fr x = .v (.int k a)) (hy : ev fr y = .v (.int k b)) (hk : K (.v (.int k (gor k a b))) h) : OpA P o fr h K :=
 .int2 ho hx hy (by intro w; simp [binOp, Op.intBits, gor]) (by intro ax ay w; simp [eqGuard_at_int]) hk
theorem OpA.shl {t t2 : TypeId} {x y : Operand} {k k2 : IntKind} {a b : Int} (ho : o.op = .binOp .shl t x y t2) (hx : ev fr x = .v (.int k a)) (hy : ev fr y = .v (.int k2 b)) (hb : 0 ≤ b) (hk : K (.v (.int k (gshl k a b))) h) : OpA P o fr h K :=
 .int2 ho hx hy (by intro w; simp [binOp, Op.shift, gshl, show ¬ b < 0 by omega]) (by intro ax ay w; simp [eqGuard]) hk
theorem OpA.shr {t t2 : TypeId} {x y : Operand} {k k2 : IntKind} {a b : Int} (ho : o.op = .binOp .shr t x y t2) (hx : ev fr x = .v (.int k a)) (hy : ev fr y = .v (.int k2 b)) (hb : 0 ≤ b) (hk : K (.v (.int k (gshr k a b))) h) : OpA P o fr h K :=
 .int2 ho hx hy (by intro w; simp [binOp, Op.shift, gshr, show ¬ b < 0 by omega]) (by intro ax ay w; simp [eqGuard]) hk
theorem OpA.conv {s d : TypeId} {x : Operand} {k1 k2 : IntKind} {a : Int} (ho : o.op = .convert s d x) (hs : P.underlying s = some (.int k1)) (hd : P.underlying d = some (.int k2)) (hx : ev fr x = .v (.int k1 a)) (hk : K (.v (.int k2 (k2.wrap a))) h) : OpA P o fr h K :=
 .of_quiet (fun A M w0 ac w _ hv => by
   have h1 := hv x (by simp [ho, Op.operands])
   rw [hx] at h1
   generalize hu : ac.eval x = u at h1
   cases h1
   exact ⟨.int k2 (k2.wrap a), by simp [execOp, ho, hu, convert, run_underlying hs, run_underlying hd, Conv.intToInt], .v _⟩) hk
end
end Go.Lic
set_option linter.all false
namespace Go.Lic
variable [Fl]
section
variable {P : Program} {o : Oper} {fr : Nat → D} {h : Heap} {K : D → Heap → Prop}
theorem flats_u8 (k : IntKind) (xs : List Int) : D.flats (xs.map (D.k k)) = (xs.map (Value.int k)).map D.v := by
 induction xs with
 | nil => rfl
 | cons x xs ih => rw [List.map_cons, flats_cons, ih]; rfl
theorem HRel.allocG {A M : Nat → Prop} {w0 w w' : World} {h : Heap} (hr : HRel A M w0 h w) {sz : Nat} {es : List D} {cs : List Value} {arr : Array Value} {e : TypeId} (hsz : w'.heap.size = w.heap.size + 1) (hold : ∀ b, b < w.heap.size → w'.heap[b]? = w.heap[b]?)
   (hnewb : OwnCells w' w.heap.size arr e) (hos : w'.os = w.os) (htp : w'.tape = w.tape) (hout : w'.output = w.output ∧ w.drawn ≤ w'.drawn) (hok : ∀ d ∈ es, d.ok sz) (hv : VL w (XX A h) (D.flats es) cs) (hp : cs <+: arr.toList) :
   2 * w.heap.size ∉ keys h ∧ HRel A M w0 ((2 * w.heap.size, .cells sz es) :: h) w' ∧ Mono w (XX A h) w' (XX A ((2 * w.heap.size, .cells sz es) :: h)) := by
 have hnew : 2 * w.heap.size ∉ keys h := fun hc => by have := hr.lt hc (by omega); omega
 have hx : ∀ b, b < w.heap.size → XX A ((2 * w.heap.size, .cells sz es) :: h) b → XX A h b := fun b hb hx => by
   rcases hx with hx | hx
   · exact .inl hx
   · simp at hx; rcases hx with hx | hx
     · omega
     · exact .inr hx
 have hm : Mono w (XX A h) w' (XX A ((2 * w.heap.size, .cells sz es) :: h)) :=
   ⟨by omega, fun b hb _ => hold b hb, fun b hb => shape_of_heap (hold b hb), hx⟩
 refine ⟨hnew, ⟨?_, ?_, ?_, ?_, hr.bound, fun b hb => by have := hr.old b hb; omega, ?_, hr.glob.mono hm⟩, hm⟩
 · simp only [keys_cons, List.nodup_cons]; exact ⟨hnew, hr.nodup⟩
 · intro c b hc
   rcases List.mem_cons.1 hc with hc | hc
   · cases hc
     have e2 : 2 * w.heap.size / 2 = w.heap.size := by omega
     refine ⟨hok, .inr ⟨by omega, arr, e, cs, ?_, hv.mono hm, hp⟩⟩
     rw [e2]; exact hnewb
   · exact (hr.blk c b hc).mono hm (fun he => hold _ ((hr.blk c b hc).lt he))
 · intro c hc ha
   rcases List.mem_cons.1 (by simpa using hc) with hc | hc
   · subst hc; have := hr.old _ ha; have := hr.ext.size; omega
   · exact hr.free c hc ha
 · intro c hc he
   rcases List.mem_cons.1 (by simpa using hc) with hc | hc
   · subst hc; have := hr.ext.size; right; omega
   · exact hr.mine c hc he
 · exact hr.ext.trans ⟨hos, htp, hout.1, by omega, fun b hb _ => hold b hb, fun b hb => shape_of_heap (hold b hb), fun _ => hout.2⟩
end
end Go.Lic
set_option linter.all false
namespace Go.Lic
variable [Fl]
section
variable {α : Type} [Inhabited α] {e : α → D} {n off : Nat} {l : List α} {A B : List D} {j : Int}
end
section
variable {P : Program} {o : Oper} {fr : Nat → D} {h : Heap} {K : D → Heap → Prop}
theorem OpA.istrBytes {s d e : TypeId} {x : Operand} {y : ByteArray} (ho : o.op = .convert s d x) (hs : P.underlying s = some .string) (hd : P.underlying d = some (.slice e)) (he : P.underlying e = some (.int .u8)) (hx : ev fr x = .s y)
   (hk : K (.list 1 ((sbytes y).map (D.k .u8))) h) : OpA P o fr h K :=
 .of_run fun A M w0 a w hr hv => by
   have h1 := hv x (by simp [ho, Op.operands])
   rw [hx] at h1
   generalize hu : a.eval x = u at h1
   cases h1
   have hrun := Lib.run_convert_string_bytes (P := P) w s d e y hs hd he
   have hnew : OwnCells (Lib.bytesWorld w e y) w.heap.size (Lib.bytesCells w e y) e := ⟨_, Lib.bytesWorld_at_new w e y, .inr (Nat.le_refl _)⟩
   have hvl : VL w (XX A h) (D.flats ((sbytes y).map (D.k .u8))) (y.data.toList.map fun b => Value.int .u8 b.toNat) := by
     rw [flats_u8, sbytes]
     generalize y.data.toList = l
     induction l with
     | nil => exact .nil
     | cons x l ih => exact .cons (.v _) ih
   have hokb : ∀ d ∈ (sbytes y).map (D.k .u8), d.ok 1 := fun d hd => by obtain ⟨n, _, rfl⟩ := List.mem_map.1 hd; exact .of rfl
   obtain ⟨hnk, h5, h6⟩ := hr.allocG (w' := Lib.bytesWorld w e y) (sz := 1) (es := (sbytes y).map (D.k .u8)) (cs := y.data.toList.map fun b => Value.int .u8 b.toNat) (Lib.bytesWorld_size w e y) (fun b hb => Lib.bytesWorld_at_old w e y b hb) hnew rfl rfl ⟨rfl, by show w.drawn ≤ w.drawn + 1; omega⟩ hokb hvl (by simp [Lib.bytesCells])
   obtain ⟨h7, h8⟩ := h5.tail
   have hsz : (sbytes y).length = y.size := by simp [sbytes]
   have hnA : ¬ XX A h w.heap.size := fun hx => by
     rcases hx with hx | hx
     · have := hr.old _ hx; omega
     · exact hnk hx
   refine ⟨.slice (some ⟨w.heap.size, 0, none⟩) y.size (grownCap w y.size 0 e), Lib.bytesWorld w e y, _, _, by simp only [execOp, ho, hu, Sem.run_bind, hrun, Result.andThen_ok, Sem.run_pure], hk, h7, h6.trans h8, ?_⟩
   have hl : ((sbytes y).map (D.k .u8)).length = y.size := by simp [sbytes]
   rw [← hl]
   refine .list (b := w.heap.size) (o := 0) hokb (hvl.mono (h6.trans h8)) (fun _ => rfl) (.inr ⟨hnA, fun j c hj => ?_⟩) (by rw [hl]; simp [grownCap, Question.cut])
   have := own_cell hnew (cs := y.data.toList.map fun b => Value.int .u8 b.toNat) (by simp [Lib.bytesCells]) j c hj
   simpa using this
end
end Go.Lic
namespace Go.Lic
variable [Fl]
section
variable {P : Program} {n : Nat} {ops : Array Oper} {Q : Post} {fr : Nat → D} {h : Heap} {o : Oper} {l : List Oper} {K : D → Heap → Prop}
theorem wL {d : Nat} (hh : OpA P o fr h fun x h' => wpL P n ops l Q (upd fr d x) h') (hg : o.guard = none := by exact rfl) (hd : o.dst = some d := by exact rfl) (hn : Nat.blt d n = true := by exact rfl) : wpL P n ops (o :: l) Q fr h := wpL_op hg hd hn hh
theorem wE (hh : OpA P o fr h fun _ h' => wpL P n ops l Q fr h') (hg : o.guard = none := by exact rfl) (hd : o.dst = none := by exact rfl) : wpL P n ops (o :: l) Q fr h := wpL_eff hg hd hh
theorem wG {d j s : Nat} {want b : Bool} (hh : OpA P o fr h fun x h' => wpL P n ops l Q (upd fr d x) h') (hg : o.guard = some (j, want) := by exact rfl) (hj : (ops[j]?).bind (·.dst) = some s := by exact rfl) (hb : fr s = .b b := by exact rfl) (hne : (b == want) = true := by exact rfl) (hd : o.dst = some d := by exact rfl) (hn : Nat.blt d n = true := by exact rfl) : wpL P n ops (o :: l) Q fr h := wpL_opg hg hj hb hne hd hn hh
theorem wS {d j s : Nat} {want b : Bool} (hh : wpL P n ops l Q (upd fr d (.v undef)) h) (hg : o.guard = some (j, want) := by exact rfl) (hj : (ops[j]?).bind (·.dst) = some s := by exact rfl) (hb : fr s = .b b := by exact rfl) (hne : (b == want) = false := by exact rfl) (hd : o.dst = some d := by exact rfl) (hn : Nat.blt d n = true := by exact rfl) : wpL P n ops (o :: l) Q fr h := wpL_skip hg hj hb hne hd hn hh
theorem OpA.m {x : Operand} {d : D} (hk : K d h) (ho : o.op = .move x := by exact rfl) (hd : ev fr x = d := by with_reducible conv => lhs; whnf) : OpA P o fr h K := .mv ho hd hk
theorem OpA.a {x : Operand} {d : D} (hk : K d h) (ho : o.op = .assign x := by exact rfl) (hd : ev fr x = d := by with_reducible conv => lhs; whnf) : OpA P o fr h K := .asn ho hd hk
theorem OpA.p {c x y : Operand} {b : Bool} {d : D} (hk : K d h) (ho : o.op = .pick c x y := by exact rfl) (hc : ev fr c = .b b := by exact rfl) (hd : sel b (ev fr x) (ev fr y) = d := by with_reducible conv => lhs; whnf) : OpA P o fr h K := .pck ho hc hd hk
end
section
variable {P : Program} {ops : Array Oper} {h : Heap} {fr : Nat → D} {C : (Nat → D) → Prop} {o : Oper} {l : List Oper} {d : D}
theorem dL (h1 : OpA P o fr h fun d' h' => d' = d ∧ h' = h) (h2 : DetK P ops h l (updO fr o.dst d) C) (hg : o.guard = none := by exact rfl) : DetK P ops h (o :: l) fr C := .op hg h1 h2
theorem dG {j s : Nat} {want b : Bool} (h1 : OpA P o fr h fun d' h' => d' = d ∧ h' = h) (h2 : DetK P ops h l (updO fr o.dst d) C) (hg : o.guard = some (j, want) := by exact rfl) (hj : (ops[j]?).bind (·.dst) = some s := by exact rfl) (hb : fr s = .b b := by exact rfl) (hne : (b == want) = true := by exact rfl) : DetK P ops h (o :: l) fr C := .opg hg hj hb hne h1 h2
theorem dS {j s : Nat} {want b : Bool} (h2 : DetK P ops h l (updO fr o.dst (.v undef)) C) (hg : o.guard = some (j, want) := by exact rfl) (hj : (ops[j]?).bind (·.dst) = some s := by exact rfl) (hb : fr s = .b b := by exact rfl) (hne : (b == want) = false := by exact rfl) : DetK P ops h (o :: l) fr C := .skip hg hj hb hne h2
end
end Go.Lic
