/-
  Tables of our own: a slice of slices whose rows are written to; while this goes on, the blocks of the rows stand at the heap's end; then the table becomes data.
-/
import Derived.Test.YtkifpidbpoghlaaGreatDoorSm
set_option linter.all false
namespace Go.Lic
variable [Fl]
def gpn (γ : Nat → Nat) (i g : Nat) : Nat → Nat := fun j => if j = i then g else γ j
section
variable {T : Type}
def mxC (sz : Nat) (γ : Nat → Nat) : Nat → List (List T) → List D
 | _, [] => []
 | i, r :: L => .own (γ i) sz ([] : List D).length r.length :: mxC sz γ (i + 1) L
def mxB (sz : Nat) (enc : T → D) (γ : Nat → Nat) : Nat → List (List T) → Heap
 | _, [] => []
 | i, r :: L => (γ i, .cells sz (winL enc [] r [])) :: mxB sz enc γ (i + 1) L
variable {sz : Nat} {enc : T → D} {γ : Nat → Nat}
theorem mxC_length : ∀ (k : Nat) (L : List (List T)), (mxC sz γ k L).length = L.length
 | _, [] => rfl
 | k, r :: L => by simp [mxC, mxC_length (k + 1) L]
theorem mxC_ok : ∀ (k : Nat) (L : List (List T)), ∀ d ∈ mxC sz γ k L, d.ok 1
 | _, [], d, h => by cases h
 | k, r :: L, d, h => by
   rcases List.mem_cons.1 h with h | h
   · subst h; exact .of rfl
   · exact mxC_ok (k + 1) L d h
theorem mxC_get : ∀ (k i : Nat) (L : List (List T)), (mxC sz γ k L)[i]? = (L[i]?).map (fun r => .own (γ (k + i)) sz ([] : List D).length r.length)
 | _, _, [] => by simp [mxC]
 | k, 0, r :: L => by simp [mxC]
 | k, i + 1, r :: L => by rw [mxC, List.getElem?_cons_succ, mxC_get (k + 1) i L, List.getElem?_cons_succ, show k + 1 + i = k + (i + 1) by omega]
theorem mxC_far {j g : Nat} : ∀ (k : Nat) (L : List (List T)), (j < k ∨ k + L.length ≤ j) → mxC sz (gpn γ j g) k L = mxC sz γ k L
 | _, [], _ => rfl
 | k, r :: L, h => by
   simp only [List.length_cons] at h
   rw [mxC, mxC, mxC_far (k + 1) L (by omega)]
   have : gpn γ j g k = γ k := by unfold gpn; rw [if_neg (by omega)]
   rw [this]
theorem mxB_far {j g : Nat} : ∀ (k : Nat) (L : List (List T)), (j < k ∨ k + L.length ≤ j) → mxB sz enc (gpn γ j g) k L = mxB sz enc γ k L
 | _, [], _ => rfl
 | k, r :: L, h => by
   simp only [List.length_cons] at h
   rw [mxB, mxB, mxB_far (k + 1) L (by omega)]
   have : gpn γ j g k = γ k := by unfold gpn; rw [if_neg (by omega)]
   rw [this]
theorem mxC_set {g : Nat} {r : List T} : ∀ (k i : Nat) (L : List (List T)), i < L.length → (mxC sz γ k L).set i (.own g sz ([] : List D).length r.length) = mxC sz (gpn γ (k + i) g) k (L.set i r)
 | _, _, [], h => by simp at h
 | k, 0, q :: L, _ => by
   rw [mxC, List.set_cons_zero, List.set_cons_zero, mxC, Nat.add_zero, mxC_far (k + 1) L (by omega)]
   simp [gpn]
 | k, i + 1, q :: L, h => by
   simp only [List.length_cons] at h
   rw [mxC, List.set_cons_succ, List.set_cons_succ, mxC, mxC_set (k + 1) i L (by omega), show k + 1 + i = k + (i + 1) by omega]
   have : gpn γ (k + (i + 1)) g k = γ k := by unfold gpn; rw [if_neg (by omega)]
   rw [this]
theorem mxC_same {i : Nat} {r : List T} : ∀ (k : Nat) (L : List (List T)), (∀ q, L[i]? = some q → q.length = r.length) → mxC sz γ k (L.set i r) = mxC sz γ k L := by
 induction i with
 | zero =>
   intro k L h
   cases L with
   | nil => rfl
   | cons q L => rw [List.set_cons_zero, mxC, mxC, h q rfl]
 | succ i ih =>
   intro k L h
   cases L with
   | nil => rfl
   | cons q L => rw [List.set_cons_succ, mxC, mxC, ih (k + 1) L (fun q hq => h q (by simpa using hq))]
theorem mxB_has : ∀ (k i : Nat) (L : List (List T)) {r : List T}, L[i]? = some r → Has (γ (k + i)) (.cells sz (winL enc [] r [])) (mxB sz enc γ k L)
 | _, _, [], _, h => by simp at h
 | k, 0, q :: L, r, h => by simp at h; subst h; exact .head
 | k, i + 1, q :: L, r, h => by
   have := mxB_has (k + 1) i L (r := r) (by simpa using h)
   rw [show k + 1 + i = k + (i + 1) by omega] at this
   exact .tail this
theorem mxB_repl {r' : List T} : ∀ (k i : Nat) (L : List (List T)) {r : List T}, L[i]? = some r → Repl (γ (k + i)) (.cells sz (winL enc [] r [])) (γ (k + i)) (.cells sz (winL enc [] r' [])) (mxB sz enc γ k L) (mxB sz enc γ k (L.set i r'))
 | _, _, [], _, h => by simp at h
 | k, 0, q :: L, r, h => by simp at h; subst h; exact .head
 | k, i + 1, q :: L, r, h => by
   have := mxB_repl (r' := r') (k + 1) i L (r := r) (by simpa using h)
   rw [show k + 1 + i = k + (i + 1) by omega] at this
   exact .tail this
theorem mxB_put {g : Nat} {r : List T} : ∀ (k i : Nat) (L : List (List T)), i < L.length → ∃ x, ((g, .cells sz (winL enc [] r [])) :: mxB sz enc γ k L).Perm (x :: mxB sz enc (gpn γ (k + i) g) k (L.set i r))
 | _, _, [], h => by simp at h
 | k, 0, q :: L, _ => by
   refine ⟨(γ k, .cells sz (winL enc [] q [])), ?_⟩
   rw [mxB, List.set_cons_zero, mxB, mxB_far (k + 1) L (by omega)]
   rw [show gpn γ (k + 0) g k = g by simp [gpn]]
   exact .swap ..
 | k, i + 1, q :: L, h => by
   simp only [List.length_cons] at h
   obtain ⟨x, hx⟩ := mxB_put (g := g) (r := r) (k + 1) i L (by omega)
   refine ⟨x, ?_⟩
   rw [mxB, List.set_cons_succ, mxB, show k + (i + 1) = k + 1 + i by omega]
   have : gpn γ (k + 1 + i) g k = γ k := by unfold gpn; rw [if_neg (by omega)]
   rw [this]
   exact (List.Perm.swap ..).trans ((List.Perm.cons _ hx).trans (.swap ..))
theorem getMx {L : List (List T)} {i : Int} (h : inL i L.length) : (mxC sz γ 0 L)[([] : List D).length + i.toNat]? = some (.own (γ i.toNat) sz ([] : List D).length (gi L i).length) := by
 rw [List.length_nil, Nat.zero_add, mxC_get, gi_get? h, Nat.zero_add]; rfl
end
section
variable {A M : Nat → Prop} {w0 w : World} {h : Heap}
theorem HRel.recell {c sz : Nat} {es es' : List D} (hr : HRel A M w0 ((c, .cells sz es) :: h) w) (hok : ∀ d ∈ es', d.ok sz) (hlen : es'.length = es.length)
   (hs : ∀ cs, VL w (XX A ((c, .cells sz es) :: h)) (D.flats es) cs → VL w (XX A ((c, .cells sz es) :: h)) (D.flats es') cs) : HRel A M w0 ((c, .cells sz es') :: h) w ∧ Mono w (XX A ((c, .cells sz es) :: h)) w (XX A ((c, .cells sz es') :: h)) := by
 have e : XX A ((c, .cells sz es') :: h) = XX A ((c, .cells sz es) :: h) := by funext b; simp [XX]
 refine ⟨⟨by simpa using hr.nodup, fun c1 b1 hc1 => ?_, fun c1 hc1 => hr.free c1 (by simpa using hc1), fun c1 hc1 => hr.mine c1 (by simpa using hc1), hr.bound, hr.old, hr.ext, by rw [e]; exact hr.glob⟩, by rw [e]; exact Mono.refl _ _⟩
 rw [e]
 rcases List.mem_cons.1 hc1 with q | hc1
 · cases q
   have hb := hr.blk c (.cells sz es) (by simp)
   refine ⟨hok, ?_⟩
   rcases hb.2 with ⟨q1, q2⟩ | ⟨q1, arr, et, cs, q2, q3, q4⟩
   · rw [q2] at hlen; exact .inl ⟨q1, List.eq_nil_of_length_eq_zero hlen⟩
   · exact .inr ⟨q1, arr, et, cs, q2, hs cs q3, q4⟩
 · exact hr.blk c1 b1 (List.mem_cons_of_mem _ hc1)
theorem HRel.ghosts {T : Type} (sz : Nat) (enc : T → D) (hr : HRel A M w0 h w) : ∀ (n k : Nat), ∃ γ, HRel A M w0 (h ++ mxB sz enc γ k (List.replicate n ([] : List T))) w ∧ Mono w (XX A h) w (XX A (h ++ mxB sz enc γ k (List.replicate n ([] : List T))))
 | 0, k => ⟨fun _ => 0, by simpa [mxB] using hr, by simpa [mxB] using Mono.refl _ _⟩
 | n + 1, k => by
   obtain ⟨γ, r1, m1⟩ := hr.ghosts sz enc n (k + 1)
   obtain ⟨g, _, _, r2, m2⟩ := r1.ghost sz
   have hp : ((g, Blk.cells sz []) :: (h ++ mxB sz enc γ (k + 1) (List.replicate n ([] : List T)))).Perm (h ++ mxB sz enc (gpn γ k g) k (List.replicate (n + 1) ([] : List T))) := by
     rw [List.replicate_succ, mxB, mxB_far (k + 1) _ (by omega), show gpn γ k g k = g by simp [gpn]]
     exact List.perm_middle.symm
   obtain ⟨r3, m3⟩ := r2.perm hp
   exact ⟨gpn γ k g, r3, (m1.trans m2).trans m3⟩
end
section
variable {P : Program} {o : Oper} {fr : Nat → D} {h : Heap} {K : D → Heap → Prop} {T : Type} {enc : T → D} {sz : Nat} {γ : Nat → Nat} {L : List (List T)}
theorem OpA.turn (hh : OpA P o fr h (fun d h1 => ∃ h2 h3, K d h3 ∧ h1.Perm h2 ∧ List.Sublist h3 h2)) : OpA P o fr h K :=
 fun A M w0 a w hr hv next Q hn => hh A M w0 a w hr hv next Q fun v w' d h1 ⟨h2, h3, k, hp, hs⟩ r m hv' => by
   obtain ⟨r1, m1⟩ := r.perm hp
   obtain ⟨r2, m2⟩ := r1.sub hs
   exact hn v w' d h3 k r2 (m.trans (m1.trans m2)) (hv'.mono (m1.trans m2))
theorem nil_own {w : World} {X : Nat → Prop} {sz : Nat} {γ : Nat → Nat} : ∀ (n k : Nat) (cs : List Value), VL w X (D.flats (List.replicate n (D.v (.slice none 0 0)))) cs → VL w X (D.flats (mxC sz γ k (List.replicate n ([] : List T)))) cs
 | 0, _, _, h => by simpa [mxC] using h
 | n + 1, k, cs, h => by
   rw [List.replicate_succ, flats_cons] at h
   rw [List.replicate_succ, mxC, flats_cons]
   cases h with
   | cons h1 h2 =>
     cases h1
     exact .cons (.own (by simp) (.inr ⟨rfl, rfl⟩)) (nil_own n (k + 1) _ h2)
theorem OpA.mxMake {t e : TypeId} {bytes : Nat} {agg : Bool} {x y : Operand} {kl kc : IntKind} {l c : Int} (T : Type) (enc : T → D) (sz : Nat) {hm : Nat → (Nat → Nat) → Heap} (ho : o.op = .makeSlice t x y) (ht : TS P t e 1 bytes agg) (hx : ev fr x = .v (.int kl l)) (hy : ev fr y = .v (.int kc c))
   (hz : (P.info? e).bind (·.zero) = some (.slice none 0 0)) (hb : (0 ≤ l ∧ l ≤ c) ∧ (bytes : Int) * c ≤ 281474976710656 ∧ c ≤ 9223372036854775807)
   (hT : ∀ c γ, Tl [] (mxB sz enc γ 0 (List.replicate l.toNat ([] : List T))) ((c, .cells 1 (mxC sz γ 0 (List.replicate l.toNat ([] : List T)))) :: h) (hm c γ)) (hk : ∀ c γ, K (.own c 1 ([] : List D).length (List.replicate l.toNat ([] : List T)).length) (hm c γ)) : OpA P o fr h K := by
 refine fun A M w0 a w hr hv next Q hn => OpA.makeSlice (d := .v (.slice none 0 0)) (K := fun d h1 => ∃ b, d = .own b 1 0 l.toNat ∧ h1 = (b, .cells 1 (List.replicate l.toNat (.v (.slice none 0 0)))) :: h) ho ht hx hy hz (fun _ _ => .v _) (.of rfl) hb.1.1 hb.1.2 hb.2.1 hb.2.2 (fun b => ⟨b, rfl, rfl⟩) A M w0 a w hr hv next Q ?_
 rintro v w' d h1 ⟨b, rfl, rfl⟩ r m hv'
 obtain ⟨γ, r1, m1⟩ := r.ghosts sz enc l.toNat 0
 obtain ⟨r2, m2⟩ := HRel.recell (es' := mxC sz γ 0 (List.replicate l.toNat ([] : List T))) (by simpa using r1) (mxC_ok _ _) (by simp [mxC_length]) (fun cs hc => nil_own _ _ _ hc)
 have e : (b, .cells 1 (mxC sz γ 0 (List.replicate l.toNat ([] : List T)))) :: (h ++ mxB sz enc γ 0 (List.replicate l.toNat ([] : List T))) = hm b γ := by
   obtain ⟨p, e1, e2⟩ := (hT b γ).split
   rw [List.append_nil] at e1
   rw [e2, ← e1]; rfl
 have k := hk b γ
 rw [List.length_replicate] at k
 rw [e] at r2 m2
 have m12 := Mono.trans (by simpa using m1) m2
 exact hn v w' _ _ k r2 (m.trans m12) (hv'.mono m12)
theorem OpA.mxSet {t : TypeId} {x y : Operand} {c g : Nat} {i : Int} {r : List T} {h1 hm h2 : Heap} (ho : o.op = .store t x y) (ht : TI P t 1 false) (hx : ev fr x = .ptr c 1 (([] : List D).length + i.toNat) 0) (hy : ev fr y = .own g sz ([] : List D).length r.length) (hb : inL i L.length)
   (hp : h.Perm ((g, .cells sz (winL enc [] r [])) :: h1)) (hR : Repl c (.cells 1 (mxC sz γ 0 L)) c (.cells 1 (mxC sz (gpn γ i.toNat g) 0 (si L i r))) h1 hm) (hT : Tl (mxB sz enc γ 0 L) (mxB sz enc (gpn γ i.toNat g) 0 (si L i r)) hm h2) (hk : K (.v undef) h2) : OpA P o fr h K := by
 have hR1 : Repl c (.cells 1 (mxC sz γ 0 L)) c (.cells 1 (mxC sz (gpn γ i.toNat g) 0 (si L i r))) ((g, .cells sz (winL enc [] r [])) :: h1) ((g, .cells sz (winL enc [] r [])) :: hm) := .tail hR
 have hlt : i.toNat < L.length := by obtain ⟨_, _⟩ := hb; omega
 have hset : (mxC sz γ 0 L).set (([] : List D).length + i.toNat) (.own g sz ([] : List D).length r.length) = mxC sz (gpn γ i.toNat g) 0 (si L i r) := by
   have := mxC_set (sz := sz) (γ := γ) (g := g) (r := r) 0 _ L hlt
   rw [Nat.zero_add] at this
   rw [show ([] : List D).length + i.toNat = i.toNat from Nat.zero_add _, this]; rfl
 obtain ⟨p, t1, t2⟩ := hT.split
 obtain ⟨q, hq⟩ := mxB_put (sz := sz) (enc := enc) (γ := γ) (g := g) (r := r) 0 i.toNat L hlt
 rw [Nat.zero_add] at hq
 refine fun A M w0 a w hr hv next Q hn => ?_
 obtain ⟨r0, m0⟩ := hr.perm hp
 refine (OpA.turn (OpA.store (e' := .own g sz ([] : List D).length r.length) ho ht hx (by rw [hy]; exact .of rfl) (getMx hb) (Nat.le_refl _) (by rw [hy]; rfl) (by rw [hset]; exact hR1) ⟨q :: h2, h2, hk, ?_, List.sublist_cons_self ..⟩) : OpA P o fr ((g, .cells sz (winL enc [] r [])) :: h1) K) A M w0 a w r0 (fun x hx => (hv x hx).mono m0) next Q (fun v w' d h' k r1 m1 hv' => hn v w' d h' k r1 (m0.trans m1) hv')
 rw [t1, t2]
 refine List.perm_middle.symm.trans ((List.Perm.append_left p hq).trans ?_)
 exact List.perm_middle
variable [Inhabited T]
theorem Tl.has {S S' h h' : Heap} {c : Nat} {b : Blk} (t : Tl S S' h h') (hh : Has c b S) : Has c b h := by
 induction t with
 | here => exact hh
 | cons _ ih => exact .tail ih
theorem Tl.repl {S S' h h' : Heap} {c c' : Nat} {b b' : Blk} (t : Tl S S' h h') (hh : Repl c b c' b' S S') : Repl c b c' b' h h' := by
 induction t with
 | here => exact hh
 | cons _ ih => exact .tail ih
theorem mxRow {i : Int} {h' : Heap} (hT : Tl (mxB sz enc γ 0 L) (mxB sz enc γ 0 L) h h') (hb : inL i L.length) : Has (γ i.toNat) (.cells sz (winL enc [] (gi L i) [])) h := by
 have := mxB_has (sz := sz) (enc := enc) (γ := γ) 0 i.toNat L (gi_get? hb)
 rw [Nat.zero_add] at this
 exact hT.has this
theorem OpA.mxPut {t : TypeId} {x y : Operand} {c : Nat} {agg : Bool} {i j : Int} {v : T} {h1 h2 : Heap} (ho : o.op = .store t x y) (ht : TI P t sz agg) (hx : ev fr x = .ptr (γ i.toNat) sz (([] : List D).length + j.toNat) 0) (hy : ev fr y = enc v) (hok : (enc v).ok sz) (hl : (enc (gi (gi L i) j)).flat.length = sz)
   (hb : inL i L.length) (hb2 : inL j (gi L i).length) (hT : Tl (mxB sz enc γ 0 L) (mxB sz enc γ 0 (si L i (si (gi L i) j v))) h h1) (hR : Repl c (.cells 1 (mxC sz γ 0 L)) c (.cells 1 (mxC sz γ 0 (si L i (si (gi L i) j v)))) h1 h2) (hk : K (.v undef) h2) : OpA P o fr h K := by
 have hr := mxB_repl (sz := sz) (enc := enc) (γ := γ) (r' := si (gi L i) j v) 0 i.toNat L (gi_get? hb)
 rw [Nat.zero_add] at hr
 have e : mxC sz γ 0 (si L i (si (gi L i) j v)) = mxC sz γ 0 L := mxC_same 0 L (fun q hq => by
   rw [gi_get? hb] at hq; cases hq; simp)
 rw [e] at hR
 rw [hR.same] at hk
 exact .storeV ho ht hx hy hok hl hb2 (hT.repl hr) hk
theorem snap_mx {g : Heap} : ∀ (k : Nat) (L : List (List T)), (∀ i r, L[i]? = some r → Has (γ (k + i)) (.cells sz (winL enc [] r [])) g) → Snap false g (D.flats (mxC sz γ k L)) (D.flats (winL (encL sz enc) [] L []))
 | _, [], _ => .nil
 | k, r :: L, h => .win (h 0 r rfl) (by intro hf; cases hf) (snap_mx (k + 1) L (fun i q hq => by
     have := h (i + 1) q (by simpa using hq)
     rwa [show k + (i + 1) = k + 1 + i by omega] at this))
theorem wpA_mxFrz {n : Nat} {Q : Post} {c0 : Code} {c : Nat} {hm h' : Heap} (hT : Tl (mxB sz enc γ 0 L) [] h hm) (hR : Repl c (.cells 1 (mxC sz γ 0 L)) c (.cells 1 (winL (encL sz enc) [] L [])) hm h') (hh : wpA P n c0 Q fr h') : wpA P n c0 Q fr h :=
 fun A M w0 a w r => by
   obtain ⟨p, e1, e2⟩ := hT.split
   rw [List.append_nil] at e2
   have hs : List.Sublist hm h := by rw [e1, e2]; exact List.sublist_append_left _ _
   have r1 := r.sub hs
   obtain ⟨h0, q1, q2⟩ := hR.perm
   have hsn := snap_mx (sz := sz) (enc := enc) (γ := γ) (g := mxB sz enc γ 0 L) 0 L (fun i q hq => mxB_has 0 i L hq)
   have hv2 : ∀ cs, VL w (XX A h) (D.flats (mxC sz γ 0 L)) cs → VL w (XX A hm) (D.flats (winL (encL sz enc) [] L [])) cs := fun cs hvals => by
     refine hsn.sound (X' := XX A hm) r.heap (fun c b hh => by rw [e1]; exact Has.of_mem (List.mem_append_right _ hh.mem)) (fun _ b hb => hb.imp id (fun hb => (hs.map _).subset hb)) (fun c' hc' he hx => ?_) _ hvals
     have e3 : 2 * (c' / 2) = c' := by omega
     have hin : c' ∈ keys h := by rw [e1, keys_append]; exact List.mem_append_right _ hc'
     rcases hx with hx | hx
     · rw [e3] at hx; exact r.heap.free c' hin hx
     · rw [e3, e2] at hx
       have hnd := r.heap.nodup
       rw [e1, keys_append, List.nodup_append] at hnd
       exact hnd.2.2 c' hx c' hc' rfl
   have hb0 : BlkRel w (XX A h) c (.cells 1 (mxC sz γ 0 L)) := r.heap.blk c _ (hs.subset hR.has.mem)
   obtain ⟨r2, m2⟩ := r1.heap.perm q1
   have hr3 : HRel A M w0 ((c, .cells 1 (winL (encL sz enc) [] L [])) :: h0) w ∧ Mono w (XX A hm) w (XX A ((c, .cells 1 (winL (encL sz enc) [] L [])) :: h0)) := by
     have e : XX A ((c, .cells 1 (winL (encL sz enc) [] L [])) :: h0) = XX A ((c, .cells 1 (mxC sz γ 0 L)) :: h0) := by funext b; simp [XX]
     refine ⟨⟨by simpa using r2.nodup, fun c1 b1 hc1 => ?_, fun c1 hc1 => r2.free c1 (by simpa using hc1), fun c1 hc1 => r2.mine c1 (by simpa using hc1), r2.bound, r2.old, r2.ext, by rw [e]; exact r2.glob⟩, by rw [e]; exact m2⟩
     rw [e]
     rcases List.mem_cons.1 hc1 with q | hc1
     · cases q
       refine ⟨fun d hd => ?_, ?_⟩
       · have hd : d ∈ L.map (encL sz enc) := by simpa [winL] using hd
         obtain ⟨x, _, rfl⟩ := List.mem_map.1 hd
         exact .of rfl
       rcases hb0.2 with ⟨k1, k2⟩ | ⟨k1, arr, et, cs, k2, k3, k4⟩
       · refine .inl ⟨k1, ?_⟩
         have : L.length = 0 := by rw [← mxC_length (sz := sz) (γ := γ) 0 L, k2]; rfl
         rw [List.eq_nil_of_length_eq_zero this]; rfl
       · exact .inr ⟨k1, arr, et, cs, k2, (hv2 cs k3).mono m2, k4⟩
     · exact r2.blk c1 b1 (List.mem_cons_of_mem _ hc1)
   obtain ⟨r4, m4⟩ := hr3.1.perm q2.symm
   exact hh A M w0 a w (r1.turn r4 (hr3.2.trans m4))
end
end Go.Lic
