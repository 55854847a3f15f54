/-
  Rules for walks that are printed beside the conditions of a function (words of XGo): each side condition is handed in; own slices are told as windows pre ++ (xs ++ post).
-/
import Derived.Test.YtjncggaheahjiaaGreatDoorGo
import Derived.Test.YtjncggaheahjiaaGreatDoorRule
import Derived.Laws.BytesArg
import Derived.Lib.ConvBytes
set_option linter.all false
namespace Go.Lic
variable [Fl]
theorem HRel.sub {A M : Nat → Prop} {w0 w : World} {h h0 : Heap} (hs : List.Sublist h0 h) (hr : HRel A M w0 h w) : HRel A M w0 h0 w ∧ Mono w (XX A h) w (XX A h0) := by
 have hk : List.Sublist (keys h0) (keys h) := hs.map _
 have hm : Mono w (XX A h) w (XX A h0) := .less fun b hb => by
   rcases hb with hb | hb
   · exact .inl hb
   · exact .inr (hk.subset hb)
 exact ⟨⟨hr.nodup.sublist hk, fun c b hc => (hr.blk c b (hs.subset hc)).mono hm (fun _ => rfl), fun c hc => hr.free c (hk.subset hc), fun c hc => hr.mine c (hk.subset hc), hr.bound, hr.old, hr.ext, hr.glob.mono hm⟩, hm⟩
theorem Rel.sub {n : Nat} {A M : Nat → Prop} {w0 : World} {fr : Nat → D} {h h0 : Heap} {a : Act} {w : World} (hs : List.Sublist h0 h) (r : Rel n A M w0 fr h a w) : Rel n A M w0 fr h0 a w :=
 have ⟨r1, m1⟩ := r.heap.sub hs
 r.turn r1 m1
section
variable {P : Program} {n : Nat} {Q : Post} {fr fr0 : Nat → D} {h : Heap}
theorem wpA_sub {c : Code} {h0 : Heap} (hs : List.Sublist h0 h) (hh : wpA P n c Q fr h0) : wpA P n c Q fr h := fun A M w0 a w r => hh A M w0 a w (r.sub hs)
theorem wpA_lfp {S G : Type} {body : (S → Prop) → S → Prop} {s0 : S} {c : Code} (g0 : G) (F : G → S → Nat → D) (H : G → S → Heap) (hl : lfp body s0) (hc : Cov fr (F g0 s0)) (hh : List.Sublist (H g0 s0) h)
   (round : ∀ again : S → Prop, ∀ g s, body again s →
     wpA P n c (fun e fr' h' => match e with | .normal => ∃ g s, again s ∧ Cov fr' (F g s) ∧ List.Sublist (H g s) h' | e => Q e fr' h') (F g s) (H g s)) : wpA P n (.loop c) Q fr h := by
 have key : ∀ g A M w0 a w, Rel n A M w0 (F g s0) (H g s0) a w → ∀ ro, RoOk ro c → ∀ (b : Frame) (ks : List Item) (cs : List Frame), b.roundOf = (Wd ro).round → (Wd ro).fn b.fn → ∃ e a' w', Conc n A M w0 Q e a' w' ∧ ArrivesIn (Machine.fenced P (Wd ro)) P (lone (b.atR a (.code c :: .inLoop c :: ks)) cs w) b ks cs e a' w' := by
   refine hl (fun s => ∀ g A M w0 a w, Rel n A M w0 (F g s) (H g s) a w → ∀ ro, RoOk ro c → ∀ (b : Frame) (ks : List Item) (cs : List Frame), b.roundOf = (Wd ro).round → (Wd ro).fn b.fn → ∃ e a' w', Conc n A M w0 Q e a' w' ∧ ArrivesIn (Machine.fenced P (Wd ro)) P (lone (b.atR a (.code c :: .inLoop c :: ks)) cs w) b ks cs e a' w') ?_
   intro s hbd g A M w0 a w r ro hro b ks cs hbr hb
   obtain ⟨e, a₁, w₁, ⟨fr₁, h₁, hq, r₁⟩, harr⟩ := round _ g s hbd A M w0 a w r ro hro b (.inLoop c :: ks) cs hbr hb (wd_room ro _)
   cases e with
   | normal =>
     obtain ⟨g', s', hs', hc', hh'⟩ := hq
     obtain ⟨e₂, a₂, w₂, hq₂, harr₂⟩ := hs' g' A M w0 a₁ w₁ ((r₁.cov hc').sub hh') ro hro b ks cs hbr hb
     exact ⟨e₂, a₂, w₂, hq₂, .of_steps (StepsIn.trans harr (.one (fenced_calm hb (wd_room ro (cs.length + 1 + 0)) rfl) stepR_inLoop)) harr₂⟩
   | exit id => exact ⟨_, a₁, w₁, ⟨fr₁, h₁, hq, r₁⟩, .pass (x := .inLoop c) rfl (fun _ _ => .inl (by simp)) harr⟩
   | goto l => exact ⟨_, a₁, w₁, ⟨fr₁, h₁, hq, r₁⟩, .pass (x := .inLoop c) rfl (fun _ _ => .inl (by simp)) harr⟩
   | ret => exact ⟨_, a₁, w₁, ⟨fr₁, h₁, hq, r₁⟩, .pass (x := .inLoop c) rfl (fun _ _ => .inl (by simp)) harr⟩
   | panic ch => exact ⟨_, a₁, w₁, ⟨fr₁, h₁, hq, r₁⟩, .pass (x := .inLoop c) rfl (fun _ _ => .inl (by simp)) harr⟩
   | outgrown => exact ⟨_, a₁, w₁, ⟨fr₁, h₁, hq, r₁⟩, .pass (x := .inLoop c) rfl (fun _ _ => .inl (by simp)) harr⟩
 intro A M w0 a w r ro hro b ks cs hbr hb hr
 obtain ⟨e, a', w', hq, harr⟩ := key g0 A M w0 a w ((r.cov hc).sub hh) ro hro.lp b ks cs hbr hb
 exact ⟨e, a', w', hq, .of_steps (.one (fenced_calm hb hr rfl) stepR_loop) harr⟩
theorem wpA_join {S G : Type} {c : Code} (F : G → S → Nat → D) (H : G → S → Heap) (J : S → Prop)
   (hx : wpA P n c (fun e fr' h' => match e with | .normal => ∃ g s, J s ∧ Cov fr' (F g s) ∧ List.Sublist (H g s) h' | e => Q e fr' h') fr h)
   (hy : ∀ g s, J s → Q .normal (F g s) (H g s)) : wpA P n c Q fr h := by
 intro A M w0 a w r ro hro
 refine wpIn_mono (hx A M w0 a w r ro hro) ?_
 rintro e a' w' ⟨fr', h', hq, r'⟩
 cases e with
 | normal =>
   obtain ⟨g, s, hs, hc, hh⟩ := hq
   exact ⟨_, _, hy g s hs, (r'.cov hc).sub hh⟩
 | exit id => exact ⟨fr', h', hq, r'⟩
 | goto l => exact ⟨fr', h', hq, r'⟩
 | ret => exact ⟨fr', h', hq, r'⟩
 | panic ch => exact ⟨fr', h', hq, r'⟩
 | outgrown => exact ⟨fr', h', hq, r'⟩
theorem wpA_mid {c : Code} (fr0 : Nat → D) (h0 : Heap) (hx : wpA P n c (fun e fr' h' => match e with | .normal => Cov fr' fr0 ∧ List.Sublist h0 h' | e => Q e fr' h') fr h) (hy : Q .normal fr0 h0) : wpA P n c Q fr h :=
 wpA_join (S := Unit) (G := Unit) (fun _ _ => fr0) (fun _ _ => h0) (fun _ => True) (wpA_mono hx fun e fr' h' q => by
   cases e with
   | normal => exact ⟨(), (), trivial, q⟩
   | _ => exact q) (fun _ _ _ => hy)
end
abbrev winL {T : Type} (enc : T → D) (pre : List D) (xs : List T) (post : List D) : List D := pre ++ (xs.map enc ++ post)
section
variable {T : Type} [Inhabited T] {enc : T → D} {pre post : List D} {xs : List T} {i : Int}
theorem getV (h : inL i xs.length) : (winL enc pre xs post)[pre.length + i.toNat]? = some (enc (gi xs i)) := by
 rw [winL, List.getElem?_append_right (by omega), Nat.add_sub_cancel_left, List.getElem?_append_left (by simp; omega), List.getElem?_map, gi_get? h]; rfl
theorem setV {v : T} (h : inL i xs.length) : (winL enc pre xs post).set (pre.length + i.toNat) (enc v) = winL enc pre (si xs i v) post := by
 rw [winL, List.set_append_right _ _ (by omega), Nat.add_sub_cancel_left, List.set_append_left _ _ (by simp; omega), ← List.map_set]; rfl
theorem winL_mid (xs : List T) : ((winL enc pre xs post).drop pre.length).take xs.length = xs.map enc := by
 rw [winL, List.drop_left]; exact List.take_left' (by simp)
theorem winL_cut {lo hi : Int} (h : inS lo hi xs.length) : winL enc pre xs post = winL enc (pre ++ (xs.take lo.toNat).map enc) (lsub xs lo hi) ((xs.drop hi.toNat).map enc ++ post) := by
 have e : xs = xs.take lo.toNat ++ (lsub xs lo hi ++ xs.drop hi.toNat) := by
   have h1 : xs = xs.take hi.toNat ++ xs.drop hi.toNat := (List.take_append_drop _ _).symm
   have h2 : xs.take hi.toNat = (xs.take hi.toNat).take lo.toNat ++ (xs.take hi.toNat).drop lo.toNat := (List.take_append_drop _ _).symm
   rw [List.take_take, Nat.min_eq_left (by omega)] at h2
   rw [← List.append_assoc, lsub, ← h2]; exact h1
 unfold winL
 conv => lhs; rw [e]
 simp [List.map_append, List.append_assoc]
end
inductive SrcV {T : Type} (enc : T → D) (h : Heap) (sz : Nat) : D → List T → Prop
 | list {ys : List T} : SrcV enc h sz (.list sz (ys.map enc)) ys
 | own {c : Nat} {pre post : List D} {ys : List T} (hh : Has c (.cells sz (winL enc pre ys post)) h) : SrcV enc h sz (.own c sz pre.length ys.length) ys
 | nil : SrcV enc h sz (.v (.slice none 0 0)) []
theorem SrcV.is {T : Type} [Inhabited T] {enc : T → D} {h : Heap} {sz : Nat} {d : D} {ys : List T} (hs : SrcV enc h sz d ys) : SrcIs h sz d (ys.map enc) := by
 cases hs with
 | list => exact .list
 | @own c pre post ys hh => have := SrcIs.own (i := pre.length) (len := ys.length) hh (by simp); rwa [winL_mid] at this
 | nil => exact .nil
theorem Snap.win {T : Type} [Inhabited T] {enc : T → D} {f : Bool} {h : Heap} {c sz : Nat} {pre post ds ds' : List D} {xs : List T} (hh : Has c (.cells sz (winL enc pre xs post)) h) (hp : f = true → ∀ d ∈ D.flats (xs.map enc), Plain d) (hs : Snap f h ds ds') :
   Snap f h (.own c sz pre.length xs.length :: ds) (.list sz (xs.map enc) :: ds') := by
 have := Snap.ownp (f := f) (ds := ds) (ds' := ds') (i := pre.length) (len := xs.length) hh (by simp) (by rw [winL_mid]; exact hp) hs
 rwa [winL_mid] at this
section
variable {P : Program} {o : Oper} {fr : Nat → D} {h : Heap} {K : D → Heap → Prop} {T : Type} [Inhabited T] {enc : T → D}
theorem OpA.iixV {t et : TypeId} {bytes : Nat} {agg : Bool} {x ix : Operand} {kd : IntKind} {i : Int} {sz : Nat} {l : List T} (ho : o.op = .indexAddr t x ix) (ht : TS P t et sz bytes agg) (hsz : Nat.blt 0 sz = true) (hx : ev fr x = .list sz (l.map enc))
   (hi : ev fr ix = .v (.int kd i)) (hb : inL i l.length) (hk : K (.iptr (enc (gi l i)) 0) h) : OpA P o fr h K :=
 .iindexAddr ho ht hsz hx hi hb.1 (by rw [List.getElem?_map, gi_get? hb]; rfl) hk
theorem OpA.ixV {t et : TypeId} {bytes : Nat} {agg : Bool} {x ix : Operand} {kd : IntKind} {i : Int} {c sz k len : Nat} (ho : o.op = .indexAddr t x ix) (ht : TS P t et sz bytes agg) (hx : ev fr x = .own c sz k len)
   (hi : ev fr ix = .v (.int kd i)) (hb : inL i len) (hk : K (.ptr c sz (k + i.toNat) 0) h) : OpA P o fr h K :=
 .indexAddr ho ht hx hi hb.1 (by omega) hk
theorem OpA.sixV {t : TypeId} {x ix : Operand} {k : IntKind} {j : Int} {s : ByteArray} (ho : o.op = .index t x ix) (ht : P.underlying t = some .string) (hx : ev fr x = .s s) (hi : ev fr ix = .v (.int k j)) (hb : inL j s.size)
   (hk : K (.v (.int .u8 (sgi s j))) h) : OpA P o fr h K :=
 .sindex (u := s.data.toList.getD j.toNat 0) ho ht hx hi hb.1 (by
   have e : s.data.toList.length = s.size := rfl
   have : j.toNat < s.data.toList.length := by rw [e]; omega
   rw [List.getD_eq_getElem?_getD, List.getElem?_eq_getElem this]; rfl) hk
inductive BdV (fr : Nat → D) : Option Operand → Int → Int → Prop
 | none (n : Int) : BdV fr none n n
 | some {x : Operand} {k : IntKind} {i d : Int} (hx : ev fr x = .v (.int k i)) : BdV fr (some x) d i
theorem BdV.bd {lo : Option Operand} {d i : Int} {dn : Nat} (hb : BdV fr lo d i) (hd : d = dn) (h0 : 0 ≤ i) : Bd fr lo dn i.toNat := by
 cases hb with
 | none => subst hd; exact .none _
 | some hx => exact .some hx h0
theorem OpA.isliceV {t et : TypeId} {bytes : Nat} {agg : Bool} {x : Operand} {lo hi : Option Operand} {sz : Nat} {l : List T} {a b : Int} (ho : o.op = .slice t x lo hi none) (ht : TS P t et sz bytes agg) (hx : ev fr x = .list sz (l.map enc))
   (hl : BdV fr lo 0 a) (hh : BdV fr hi l.length b) (hb : inS a b l.length) (hk : K (.list sz ((lsub l a b).map enc)) h) : OpA P o fr h K :=
 .islice ho ht hx (hl.bd (dn := 0) rfl hb.1) (hh.bd (dn := (l.map enc).length) (by simp) (by omega)) (by omega) (by simp; omega) (by
   rw [lsub, List.map_drop, List.map_take] at hk; exact hk)
theorem OpA.ssliceV {t : TypeId} {x : Operand} {lo hi : Option Operand} {a b : Int} {s : ByteArray} (ho : o.op = .slice t x lo hi none) (ht : P.underlying t = some .string) (hx : ev fr x = .s s)
   (hl : BdV fr lo 0 a) (hh : BdV fr hi s.size b) (hb : inS a b s.size) (hk : K (.s (ssub s a b)) h) : OpA P o fr h K :=
 .sslice ho ht hx (hl.bd (dn := 0) rfl hb.1) (hh.bd rfl (by omega)) (by omega) (by omega) hk
theorem OpA.sliceV {t et : TypeId} {bytes : Nat} {agg : Bool} {x : Operand} {lo hi : Option Operand} {c sz : Nat} {pre post : List D} {xs : List T} {a b : Int} {h' : Heap} (ho : o.op = .slice t x lo hi none) (ht : TS P t et sz bytes agg) (hx : ev fr x = .own c sz pre.length xs.length)
   (hl : BdV fr lo 0 a) (hh : BdV fr hi xs.length b) (hb : inS a b xs.length) (hr : Repl c (.cells sz (winL enc pre xs post)) c (.cells sz (winL enc (pre ++ (xs.take a.toNat).map enc) (lsub xs a b) ((xs.drop b.toNat).map enc ++ post))) h h')
   (hk : K (.own c sz (pre ++ (xs.take a.toNat).map enc).length (lsub xs a b).length) h') : OpA P o fr h K := by
 have e : h' = h := by
   rw [← winL_cut hb] at hr
   obtain ⟨h1, h2, e1, e2⟩ := hr.split
   rw [e1, e2]
 subst e
 have e1 : (pre ++ (xs.take a.toNat).map enc).length = pre.length + a.toNat := by simp; omega
 rw [e1, lsub_length hb, show (b - a).toNat = b.toNat - a.toNat by omega] at hk
 exact .slice ho ht hx (hl.bd (dn := 0) rfl hb.1) (hh.bd rfl (by omega)) (by omega) (by omega) hk
theorem OpA.appendW {t e : TypeId} {sz bytes : Nat} {agg : Bool} {cl : Call} {s x : Operand} {c : Nat} {pre post : List D} {xs ys : List T} {hf : Nat → Blk → Heap} (ho : o.op = .call cl) (hc : cl.callee = .builtin .append) (ha : cl.args = #[s, x]) (hty : cl.argTypes = #[t, t])
   (ht : TS P t e sz bytes agg) (hs : ev fr s = .own c sz pre.length xs.length) (hrepl : ∀ c' b', Repl c (.cells sz (winL enc pre xs post)) c' b' h (hf c' b')) (hx : SrcV enc h sz (ev fr x) ys)
   (hb : (xs.length + ys.length) * bytes ≤ 140737488355328 ∧ xs.length + ys.length ≤ 9223372036854775807) (hk : ∀ c' pre', K (.own c' sz pre'.length (xs ++ ys).length) (hf c' (.cells sz (winL enc pre' (xs ++ ys) [])))) : OpA P o fr h K :=
 .append ho hc ha hty ht hs hrepl hx.is (by simp) (by simpa using hb.1) (by simpa using hb.2) (fun c' pre' => by
   have := hk c' pre'
   rw [winL_mid, List.length_map, List.append_assoc]
   rw [List.length_append, winL, List.append_nil, List.map_append] at this
   exact this)
theorem OpA.makeSliceV {t e : TypeId} {sz bytes : Nat} {agg : Bool} {x y : Operand} {kl kc : IntKind} {l c : Int} {z : Value} {v0 : T} (ho : o.op = .makeSlice t x y) (ht : TS P t e sz bytes agg) (hx : ev fr x = .v (.int kl l)) (hy : ev fr y = .v (.int kc c))
   (hz : (P.info? e).bind (·.zero) = some z) (hd : ∀ w X, V w X (enc v0) z) (hok : (enc v0).ok sz) (hb : (0 ≤ l ∧ l ≤ c) ∧ (bytes : Int) * c ≤ 281474976710656 ∧ c ≤ 9223372036854775807)
   (hk : ∀ b, K (.own b sz ([] : List D).length (List.replicate l.toNat v0).length) ((b, .cells sz (winL enc [] (List.replicate l.toNat v0) [])) :: h)) : OpA P o fr h K :=
 .makeSlice ho ht hx hy hz hd hok hb.1.1 hb.1.2 hb.2.1 hb.2.2 (fun b => by
   have := hk b
   simpa [winL] using this)
theorem OpA.asnG {x : Operand} {sz : Nat} (ho : o.op = .assign x) (hd : ev fr x = .v (.slice none 0 0)) (hk : ∀ g, K (.own g sz ([] : List D).length ([] : List T).length) ((g, .cells sz (winL enc [] ([] : List T) [])) :: h)) : OpA P o fr h K :=
 fun A M w0 a w hr hv next Q hn => by
   have h1 := hv x (by simp [ho, Op.operands])
   rw [hd] at h1
   generalize hu : a.eval x = u at h1
   cases h1
   obtain ⟨g, _, _, hr', hm⟩ := hr.ghost sz
   have e : (execOp a.eval o).run P w = .ok (.value (.slice none 0 0)) w := by simp [execOp, ho, hu]
   exact fun ro => wd_op e (by simp) (hn _ w _ _ (hk g) hr' hm (.own (Nat.le_refl _) (.inr ⟨rfl, rfl⟩)))
theorem OpA.asnN {x : Operand} {sz : Nat} (ho : o.op = .assign x) (hd : ev fr x = .v (.slice none 0 0)) (hk : K (.list sz (([] : List T).map enc)) h) : OpA P o fr h K :=
 .of_quiet (d := .list sz (([] : List T).map enc)) (fun A M w0 a w _ hv => by
   have h1 := hv x (by simp [ho, Op.operands])
   rw [hd] at h1
   generalize hu : a.eval x = u at h1
   cases h1
   exact ⟨.slice none 0 0, by simp [execOp, ho, hu], .list (ds := []) (cs := []) (b := 0) (o := 0) (by simp) .nil (by simp) (.inl rfl) (by simp)⟩) hk
theorem OpA.freeze {x : Operand} {c : Nat} {b : Blk} {d d' : D} {h0 : Heap} (ho : o.op = .move x ∨ o.op = .assign x) (hd : ev fr x = d) (hp : h.Perm ((c, b) :: h0)) (hsn : Snap false [(c, b)] [d] [d']) (hk : K d' h0) : OpA P o fr h K :=
 fun A M w0 a w hr hv next Q hn => by
   have h1 := hv x (by rcases ho with ho | ho <;> simp [ho, Op.operands])
   rw [hd] at h1
   obtain ⟨r1, m1⟩ := hr.perm hp
   obtain ⟨r2, m2⟩ := r1.tail
   have hk' : c ∉ keys h0 := (List.nodup_cons.1 (by simpa using r1.nodup)).1
   have hv' := hsn.sound (X' := XX A h0) r1 (fun c b hh => by cases hh with | head => exact .head | tail t => cases t) (fun _ b hb => by
       rcases hb with hb | hb
       · exact .inl hb
       · exact .inr (by simp [hb])) (fun c' hc hev hx => by
       simp at hc; subst hc
       rcases hx with hx | hx
       · rw [show 2 * (c' / 2) = c' from by omega] at hx
         exact r1.free c' (by simp) hx
       · rw [show 2 * (c' / 2) = c' from by omega] at hx
         exact hk' hx) [_] (.cons (h1.mono m1) .nil)
   have e : (execOp a.eval o).run P w = .ok (.value (a.eval x)) w := by rcases ho with ho | ho <;> simp [execOp, ho]
   cases hv' with
   | cons h3 _ => exact fun ro => wd_op e (by simp) (hn _ w _ _ hk r2 (m1.trans m2) h3)
theorem OpA.storeV {t : TypeId} {x y : Operand} {c sz : Nat} {agg : Bool} {pre post : List D} {xs : List T} {i : Int} {v : T} {h' : Heap} (ho : o.op = .store t x y) (ht : TI P t sz agg) (hx : ev fr x = .ptr c sz (pre.length + i.toNat) 0)
   (hy : ev fr y = enc v) (hok : (enc v).ok sz) (hl : (enc (gi xs i)).flat.length = sz) (hb : inL i xs.length) (hh : Repl c (.cells sz (winL enc pre xs post)) c (.cells sz (winL enc pre (si xs i v) post)) h h') (hk : K (.v undef) h') : OpA P o fr h K :=
 .store (e' := enc v) ho ht hx (by rw [hy]; exact hok) (getV hb) (by rw [hl]; omega) (by rw [hy, setAt_all _ _ (by rw [hl, hok.1])]) (by rw [setV hb]; exact hh) hk
theorem OpA.storeVf {t : TypeId} {x y : Operand} {c sz k n : Nat} {agg : Bool} {pre post : List D} {xs : List T} {i : Int} {v : T} {h' : Heap} (ho : o.op = .store t x y) (ht : TI P t n agg) (hx : ev fr x = .ptr c sz (pre.length + i.toNat) k)
   (hok : (ev fr y).ok n) (hkn : k + n ≤ (enc (gi xs i)).flat.length) (he : (enc v).flat = setAt (enc (gi xs i)).flat k (ev fr y).flat) (hb : inL i xs.length) (hh : Repl c (.cells sz (winL enc pre xs post)) c (.cells sz (winL enc pre (si xs i v) post)) h h') (hk : K (.v undef) h') : OpA P o fr h K :=
 .store (e' := enc v) ho ht hx hok (getV hb) hkn he (by rw [setV hb]; exact hh) hk
end
theorem Fun.at {P : Program} {f : Nat} {ds : List D} {T : Type} {enc : T → D} {v : T} (h : Fun false P f ds (fun d => ∃ r, d = enc r ∧ r = v)) : Fun false P f ds (fun d => d = enc v) :=
 fun A w vs h1 h2 hg h3 => (h A w vs h1 h2 hg h3).mono fun e w' ⟨x, d, he, ⟨r, h4, h5⟩, h6⟩ => ⟨x, d, he, by rw [h4, h5], h6⟩
end Go.Lic
set_option linter.all false
namespace Go.Lic
variable [Fl]
section
variable {P : Program} {o : Oper} {fr : Nat → D} {h : Heap} {K : D → Heap → Prop}
theorem OpA.conv {s d : TypeId} {x : Operand} {k1 k2 : IntKind} {a : Int} (ho : o.op = .convert s d x) (hs : P.underlying s = some (.int k1)) (hd : P.underlying d = some (.int k2)) (hx : ev fr x = .v (.int k1 a)) (hk : K (.v (.int k2 (k2.wrap a))) h) : OpA P o fr h K :=
 .of_quiet (fun A M w0 ac w _ hv => by
   have h1 := hv x (by simp [ho, Op.operands])
   rw [hx] at h1
   generalize hu : ac.eval x = u at h1
   cases h1
   exact ⟨.int k2 (k2.wrap a), by simp [execOp, ho, hu, convert, run_underlying hs, run_underlying hd, Conv.intToInt], .v _⟩) hk
end
end Go.Lic
set_option linter.all false
namespace Go.Lic
variable [Fl]
section
variable {P : Program} {o : Oper} {fr : Nat → D} {h : Heap} {K : D → Heap → Prop}
theorem append_coreSX {A M : Nat → Prop} {w0 w : World} {t ty e : TypeId} {sz bytes : Nat} {agg : Bool} (ht : TS P t e sz bytes agg) (hr : HRel A M w0 h w) {c i len : Nat} {es ds : List D} {hf : Nat → Blk → Heap} {v : Value} {u : TypeId} {s : ByteArray} (hu : P.underlying u = some .string) (hds : ds = (sbytes s).map (D.k .u8)) (hs1 : sz = 1)
   (hrepl : ∀ c' b', Repl c (.cells sz es) c' b' h (hf c' b')) (hil : i + len ≤ es.length) (hv : V w (XX A h) (.own c sz i len) v) (hbytes : (len + ds.length) * bytes ≤ 140737488355328) (hmax : len + ds.length ≤ 9223372036854775807) :
   ∃ v' w' c' pre, (Builtin.append_ #[t, u] ty #[v, .string s]).run P w = .ok v' w' ∧ HRel A M w0 (hf c' (.cells sz (pre ++ (es.drop i).take len ++ ds))) w' ∧
     Mono w (XX A h) w' (XX A (hf c' (.cells sz (pre ++ (es.drop i).take len ++ ds)))) ∧ V w' (XX A (hf c' (.cells sz (pre ++ (es.drop i).take len ++ ds)))) (.own c' sz pre.length (len + ds.length)) v' ∧ (pre.length ≤ i ∧ ((c' = c ∧ ∀ a n cap, v = .slice a n cap → ∃ n', v' = .slice a n' cap) ∨ (∃ a cap, v' = .slice a (len + ds.length) cap ∧ 0 < cap ∧ 0 < len + ds.length ∧ ∃ n, w'.shape? (c' / 2) = some (e, n)))) := by
 have hlen : s.size = ds.length := by rw [hds]; simp [sbytes]
 obtain ⟨cs, hcsd⟩ : ∃ cs : List Value, cs = s.data.toList.map fun b => Value.int .u8 b.toNat := ⟨_, rfl⟩
 have hdok : ∀ x ∈ ds, x.ok sz := by
   intro x hx; rw [hds] at hx; obtain ⟨n, _, rfl⟩ := List.mem_map.1 hx; rw [hs1]; exact .of rfl
 have hdv : VL w (XX A h) (D.flats ds) cs := by
   rw [hds, hcsd, sbytes]
   generalize s.data.toList = l
   induction l with
   | nil => exact .nil
   | cons x l ih => exact .cons (.v _) ih
 have hcl : cs.length = ds.length * sz := by rw [hcsd, hds, hs1]; simp [sbytes]
 have hfirst : ∀ w', (Builtin.firstCells sz ds.length (.string s)).run P w' = .ok cs.toArray w' := by
   intro w'
   rw [← hlen]
   simp only [Builtin.firstCells, Sem.run_pure]
   congr 1
   apply Array.toList_inj.1
   rw [hcsd]
   have : s.extract 0 s.size = s := by simp
   rw [this]
   simp
 have hone : ∀ u ∈ cs, u.oneCell' = true := hdv.oneCell (fun x hx => by
   obtain ⟨y, hy, hxy⟩ := List.mem_flatMap.1 hx
   exact (hdok y hy).2 x hxy)
 obtain ⟨hok, hblk⟩ := hr.cells (hrepl c (.cells sz es)).has
 have hmid := SrcIs.val (SrcIs.own (hrepl c (.cells sz es)).has hil) hr hv
 have hmlen : ((es.drop i).take len).length = len := by simp; omega
 obtain ⟨a, cap, mcs, hve, hmcap, hmok, hmv, hmc⟩ := hmid
 rw [hmlen] at hve hmcap
 subst hve
 have hmcl : mcs.length = len * sz := by rw [← hmv.length, flats_length _ hmok, hmlen]
 have hfirstm := run_firstCells' (P := P) (w := w) (n := len) (cap := cap) hmcl hmc
 by_cases hroom : len + ds.length ≤ cap
 · -- within the capacity
   cases hv with
   | own hlc hd =>
     rcases hd with ⟨hc2, rfl, et0, n0, hsh, hn0⟩ | ⟨hz1, hz2⟩
     · rcases hblk with ⟨hodd, _⟩ | ⟨_, arr, et, ocs, ha, hov, hop⟩
       · omega
       · have hn : (i + cap) * sz ≤ arr.size := by
           simp only [ha.shape, Option.some.injEq, Prod.mk.injEq] at hsh
           rw [← hsh.2] at hn0; exact hn0
         have hfit : (i + len) * sz + cs.length ≤ arr.size := by
           rw [hcl, ← Nat.add_mul]
           exact Nat.le_trans (Nat.mul_le_mul_right _ (by omega)) hn
         obtain ⟨w', arr', g1, g2, g3, g4, g5, g6, g7, g8, g9⟩ := run_storeCells' (P := P) cs 0 ((i + len) * sz) w arr ha hone (by omega)
         simp only [Nat.add_zero] at g1 g3
         have hocl : ocs.length = es.length * sz := by rw [← hov.length, flats_length es hok]
         have hoarr : ocs.length ≤ arr.toList.length := hop.length_le
         have hle : (i + len) * sz ≤ ocs.length := by rw [hocl]; exact Nat.mul_le_mul_right _ hil
         have hpe : es.take i ++ (es.drop i).take len ++ ds = es.take (i + len) ++ ds := by rw [List.take_add]
         have hpl : (es.take i).length = i := by simp; omega
         obtain ⟨r1, r2⟩ := hr.write (sz' := sz) (es' := es.take i ++ (es.drop i).take len ++ ds) (cs' := ocs.take ((i + len) * sz) ++ cs) (hrepl c _) hc2 (by
             intro x hx; rw [hpe] at hx
             rcases List.mem_append.1 hx with hx | hx
             · exact hok x (List.mem_of_mem_take hx)
             · exact hdok x hx) ha g2 g4 (by
             rw [hpe, flats_append, flats_take _ hok]
             exact (hov.take _).append hdv) (by
             obtain ⟨tl, htl⟩ := hop
             rw [g3, setAt_eq _ _ _ (by simpa using hfit)]
             refine ⟨arr.toList.drop ((i + len) * sz + cs.length), ?_⟩
             congr 2
             rw [← htl, List.take_append_of_le_length hle]) g5 g6 g7 g8 g9
         refine ⟨.slice (some ⟨c / 2, i * sz, none⟩) (len + ds.length) cap, w', c, es.take i, ?_, r1, r2, ?_, by simp; omega, .inl ⟨rfl, fun a n cp hv => ⟨_, by cases hv; rfl⟩⟩⟩
         · simp only [Builtin.append_, Array.getElem?_eq_getElem, List.size_toArray, List.length_cons, List.length_nil, Nat.zero_add, Nat.reduceLT, Nat.reduceAdd, List.getElem_toArray, List.getElem_cons_zero, List.getElem_cons_succ,
             Sem.run_bind, run_underlying ht.desc, run_underlying hu, Result.andThen_ok, ht.elem.size, Sem.run_pure, Bool.false_eq_true, if_false, Builtin.lenOf, hlen, hroom, if_true, hfirst w, Addr.add_lit, Bool.not_false, Sem.run_ite]
           rw [show i * sz + len * sz = (i + len) * sz from by rw [Nat.add_mul], g1]
           rfl
         · rw [hpl]
           refine .own hroom (.inl ⟨hc2, rfl, et0, n0, ?_, hn0⟩)
           rw [r2.shape _ (lt_of_shape hsh)]; exact hsh
     · -- nothing is appended to nothing
       have hds0 : ds = [] := List.eq_nil_of_length_eq_zero (by omega)
       clear hds
       subst hds0; subst hz1; subst hz2
       have hcs0 : cs = [] := List.eq_nil_of_length_eq_zero (by simpa using hcl)
       subst hcs0
       have hlen0 : s.size = 0 := by simpa using hlen
       have hfirst0 : (Builtin.firstCells sz 0 (.string s)).run P w = .ok #[] w := by simpa using hfirst w
       refine ⟨.slice a 0 0, w, c, es.take i, ?_, ?_⟩
       · simp only [Builtin.append_, Array.getElem?_eq_getElem, List.size_toArray, List.length_cons, List.length_nil, Nat.zero_add, Nat.reduceLT, Nat.reduceAdd, List.getElem_toArray, List.getElem_cons_zero, List.getElem_cons_succ,
           Sem.run_bind, run_underlying ht.desc, run_underlying hu, Result.andThen_ok, ht.elem.size, Sem.run_pure, Bool.false_eq_true, if_false, Builtin.lenOf, hlen0, Nat.le_refl, if_true, hfirst0, Bool.not_false, Sem.run_ite]
         cases a <;> simp [storeCells]
       · have hpl : (es.take i).length = i := by simp; omega
         have hkeys := (hrepl c (.cells sz (es.take i ++ (es.drop i).take 0 ++ []))).keys_eq
         have hxx : XX A (hf c (.cells sz (es.take i ++ (es.drop i).take 0 ++ []))) = XX A h := by funext b; simp only [XX, hkeys]
         have htk : es.take i ++ (es.drop i).take 0 ++ [] = es.take i := by simp
         refine ⟨?_, by rw [hxx]; exact Mono.refl _ _, by rw [hpl]; exact .own (Nat.le_refl _) (.inr ⟨rfl, rfl⟩), by simp; omega, .inl ⟨rfl, fun a n cp hv => ⟨_, by cases hv; rfl⟩⟩⟩
         obtain ⟨h0, p1, p2⟩ := (hrepl c (.cells sz (es.take i ++ (es.drop i).take 0 ++ []))).perm
         obtain ⟨q1, q2⟩ := hr.perm p1
         refine (HRel.perm (h := (c, .cells sz (es.take i ++ (es.drop i).take 0 ++ [])) :: h0) ?_ p2.symm).1
         rw [htk]
         refine ⟨q1.nodup, ?_, q1.free, q1.mine, q1.bound, q1.old, q1.ext, q1.glob⟩
         intro c1 b1 hc1
         rcases List.mem_cons.1 hc1 with hc1 | hc1
         · cases hc1
           have := q1.blk c (.cells sz es) (by simp)
           have hxx2 : XX A ((c, .cells sz (es.take i)) :: h0) = XX A ((c, .cells sz es) :: h0) := rfl
           rw [hxx2]
           refine ⟨fun x hx => hok x (List.mem_of_mem_take hx), ?_⟩
           rcases this.2 with ⟨hodd, he⟩ | ⟨hev, arr, et, ocs, ha, hov, hop⟩
           · exact .inl ⟨hodd, by rw [he]; simp⟩
           · refine .inr ⟨hev, arr, et, ocs.take (i * sz), ha, by rw [flats_take _ hok]; exact hov.take _, ?_⟩
             exact (List.take_prefix _ _).trans hop
         · exact q1.blk c1 b1 (by simp [hc1])
 · -- a new array
   obtain ⟨z, hz, hzs, hzi⟩ := ht.zeroRun
   obtain ⟨bi, hbi, hbb⟩ := Option.map_eq_some_iff.1 ht.bytes
   have hgrow := growslice_fits (need := len + ds.length) (old := cap) (by omega) hbytes
   have hnm : ¬ ((len + ds.length : Nat) : Int) > IntKind.i64.max := by rw [IntKind.max_i64]; omega
   have hng : ¬ (Builtin.nextslicecap (len + ds.length) cap * bytes > 2 ^ 48) := by omega
   obtain ⟨ncap, hncap, hncapge⟩ : ∃ ncap, (Question.appendCap (len + ds.length) cap e).cut (w.tape w.drawn (.appendCap (len + ds.length) cap e)) = ncap ∧ len + ds.length ≤ ncap := ⟨_, rfl, by simp [Question.cut]⟩
   have hinfo : (typeInfo e).run P w = .ok bi w := by simp [typeInfo, hbi]
   have hinfo' : (typeInfo e).run P w.drew = .ok bi w.drew := by simp [typeInfo, hbi]
   obtain ⟨r1, m1⟩ := hr.quiet (w' := w.drew) rfl rfl rfl rfl (Nat.le_succ _)
   obtain ⟨h0, p1, _⟩ := (hrepl c (.cells sz es)).perm
   obtain ⟨q1, m2⟩ := r1.perm p1
   obtain ⟨q2, m3⟩ := q1.tail
   have hm : Mono w (XX A h) w.drew (XX A h0) := (m1.trans m2).trans m3
   obtain ⟨_, q3, m4⟩ := q2.alloc (sz := sz) (es := [] ++ (es.drop i).take len ++ ds) (cs := mcs ++ cs) (mcs.toArray ++ cs.toArray ++ Builtin.zeroCells z.cells (ncap - (len + ds.length))) e (by
       intro x hx
       simp only [List.nil_append, List.mem_append] at hx
       rcases hx with hx | hx
       · exact hmok x hx
       · exact hdok x hx) (by
       rw [List.nil_append, flats_append]
       exact (hmv.append hdv).mono hm) (by simp)
   obtain ⟨h0', p1', p2'⟩ := (hrepl (2 * w.heap.size) (.cells sz ([] ++ (es.drop i).take len ++ ds))).perm
   have hp00 : h0'.Perm h0 := List.Perm.cons_inv (p1'.symm.trans p1)
   have hp3 : ((2 * w.heap.size, Blk.cells sz ([] ++ (es.drop i).take len ++ ds)) :: h0).Perm (hf (2 * w.heap.size) (.cells sz ([] ++ (es.drop i).take len ++ ds))) := (List.Perm.cons _ hp00.symm).trans p2'.symm
   obtain ⟨q4, m5⟩ := q3.perm hp3
   refine ⟨.slice (some ⟨w.heap.size, 0, none⟩) (len + ds.length) ncap, _, 2 * w.heap.size, [], ?_, q4, (hm.trans m4).trans m5, ?_, by simp, .inr ⟨_, _, rfl, by omega, by omega, (mcs.toArray ++ cs.toArray ++ Builtin.zeroCells z.cells (ncap - (len + ds.length))).size, by rw [show 2 * w.heap.size / 2 = w.drew.heap.size from by show 2 * w.heap.size / 2 = w.heap.size; omega]; exact shape_alloc_new _ _ _⟩⟩
   · have hz' := hz w.drew
     have hfd := hfirst w.drew
     have hfm : (Builtin.firstCells sz len (.slice a len cap)).run P w.drew = .ok mcs.toArray w.drew := run_firstCells' (P := P) (w := w.drew) hmcl hmc
     have hfalse : ¬ (((len + ds.length : Nat) : Int) > IntKind.i64.max ∧ (False ∨ bi.bytes = 0)) := fun hh => hnm hh.1
     simp only [Builtin.append_, Array.getElem?_eq_getElem, List.size_toArray, List.length_cons, List.length_nil, Nat.zero_add, Nat.reduceLT, Nat.reduceAdd, List.getElem_toArray, List.getElem_cons_zero, List.getElem_cons_succ,
       Sem.run_bind, run_underlying ht.desc, run_underlying hu, Result.andThen_ok, ht.elem.size, Sem.run_pure, Bool.false_eq_true, if_false, Builtin.lenOf, hlen, hroom, hinfo, hinfo', hbb, hnm, false_and, hng, run_choose, Question.forced, World.drew_eq, hncap, run_askRoom, hfm, hfd, hz',
       Bool.not_false, if_true, newRow, run_newObj, World.alloc_eq, Sem.run_ite]
     rfl
   · refine .own hncapge (.inl ⟨by omega, by simp, e, (mcs.toArray ++ cs.toArray ++ Builtin.zeroCells z.cells (ncap - (len + ds.length))).size, ?_, ?_⟩)
     · rw [show 2 * w.heap.size / 2 = w.drew.heap.size from by show 2 * w.heap.size / 2 = w.heap.size; omega]; exact shape_alloc_new _ _ _
     · simp only [Array.size_append, List.size_toArray, hmcl, hcl, size_zeroCells, hzs, List.length_nil, Nat.zero_add]
       rw [← Nat.add_mul, ← Nat.add_mul]
       apply Nat.mul_le_mul_right
       omega
theorem flats_u8 (k : IntKind) (xs : List Int) : D.flats (xs.map (D.k k)) = (xs.map (Value.int k)).map D.v := by
 induction xs with
 | nil => rfl
 | cons x xs ih => rw [List.map_cons, flats_cons, ih]; rfl
def gcopy (xs ys : List Int) : List Int := ys.take (min ys.length xs.length) ++ xs.drop (min ys.length xs.length)
theorem gcopy_length (xs ys : List Int) : (gcopy xs ys).length = xs.length := by simp [gcopy]; omega
end
end Go.Lic
set_option linter.all false
namespace Go.Lic
variable [Fl]
section
variable {α : Type} [Inhabited α] {e : α → D} {n off : Nat} {l : List α} {A B : List D} {j : Int}
end
section
variable {P : Program} {o : Oper} {fr : Nat → D} {h : Heap} {K : D → Heap → Prop}
theorem OkL.of {fr : Nat → D} {sz : Nat} : ∀ {l : List (Nat × Operand)}, (∀ p ∈ l, (ev fr p.2).ok sz) → OkL fr sz l
 | [], _ => .nil
 | p :: l, h => .cons (h p (by simp)) (OkL.of fun q hq => h q (by simp [hq]))
end
end Go.Lic
namespace Go.Lic
variable [Fl]
section
variable {P : Program} {n : Nat} {ops : Array Oper} {Q : Post} {fr : Nat → D} {h : Heap} {o : Oper} {l : List Oper} {K : D → Heap → Prop}
theorem wL {d : Nat} (hh : OpA P o fr h fun x h' => wpL P n ops l Q (upd fr d x) h') (hg : o.guard = none := by exact rfl) (hd : o.dst = some d := by exact rfl) (hn : Nat.blt d n = true := by exact rfl) : wpL P n ops (o :: l) Q fr h := wpL_op hg hd hn hh
theorem wE (hh : OpA P o fr h fun _ h' => wpL P n ops l Q fr h') (hg : o.guard = none := by exact rfl) (hd : o.dst = none := by exact rfl) : wpL P n ops (o :: l) Q fr h := wpL_eff hg hd hh
theorem wG {d j s : Nat} {want b : Bool} (hh : OpA P o fr h fun x h' => wpL P n ops l Q (upd fr d x) h') (hg : o.guard = some (j, want) := by exact rfl) (hj : (ops[j]?).bind (·.dst) = some s := by exact rfl) (hb : fr s = .b b := by exact rfl) (hne : (b == want) = true := by exact rfl) (hd : o.dst = some d := by exact rfl) (hn : Nat.blt d n = true := by exact rfl) : wpL P n ops (o :: l) Q fr h := wpL_opg hg hj hb hne hd hn hh
theorem wS {d j s : Nat} {want b : Bool} (hh : wpL P n ops l Q (upd fr d (.v undef)) h) (hg : o.guard = some (j, want) := by exact rfl) (hj : (ops[j]?).bind (·.dst) = some s := by exact rfl) (hb : fr s = .b b := by exact rfl) (hne : (b == want) = false := by exact rfl) (hd : o.dst = some d := by exact rfl) (hn : Nat.blt d n = true := by exact rfl) : wpL P n ops (o :: l) Q fr h := wpL_skip hg hj hb hne hd hn hh
theorem OpA.m {x : Operand} {d : D} (hk : K d h) (ho : o.op = .move x := by exact rfl) (hd : ev fr x = d := by with_reducible conv => lhs; whnf) : OpA P o fr h K := .mv ho hd hk
theorem OpA.a {x : Operand} {d : D} (hk : K d h) (ho : o.op = .assign x := by exact rfl) (hd : ev fr x = d := by with_reducible conv => lhs; whnf) : OpA P o fr h K := .asn ho hd hk
theorem OpA.p {c x y : Operand} {b : Bool} {d : D} (hk : K d h) (ho : o.op = .pick c x y := by exact rfl) (hc : ev fr c = .b b := by exact rfl) (hd : sel b (ev fr x) (ev fr y) = d := by with_reducible conv => lhs; whnf) : OpA P o fr h K := .pck ho hc hd hk
end
section
variable {P : Program} {ops : Array Oper} {h : Heap} {fr : Nat → D} {C : (Nat → D) → Prop} {o : Oper} {l : List Oper} {d : D}
theorem dL (h1 : OpA P o fr h fun d' h' => d' = d ∧ h' = h) (h2 : DetK P ops h l (updO fr o.dst d) C) (hg : o.guard = none := by exact rfl) : DetK P ops h (o :: l) fr C := .op hg h1 h2
theorem dG {j s : Nat} {want b : Bool} (h1 : OpA P o fr h fun d' h' => d' = d ∧ h' = h) (h2 : DetK P ops h l (updO fr o.dst d) C) (hg : o.guard = some (j, want) := by exact rfl) (hj : (ops[j]?).bind (·.dst) = some s := by exact rfl) (hb : fr s = .b b := by exact rfl) (hne : (b == want) = true := by exact rfl) : DetK P ops h (o :: l) fr C := .opg hg hj hb hne h1 h2
theorem dS {j s : Nat} {want b : Bool} (h2 : DetK P ops h l (updO fr o.dst (.v undef)) C) (hg : o.guard = some (j, want) := by exact rfl) (hj : (ops[j]?).bind (·.dst) = some s := by exact rfl) (hb : fr s = .b b := by exact rfl) (hne : (b == want) = false := by exact rfl) : DetK P ops h (o :: l) fr C := .skip hg hj hb hne h2
end
end Go.Lic
