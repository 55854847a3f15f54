/-
  Maps of our own from whole numbers to plain values: the object as it lies in memory.
-/
import Derived.Test.YtjncggaheahjiaaGreatDoorIter
set_option linter.all false
namespace Go.Lic
variable [Fl]
section
variable {T : Type} {vf : T → Value}
end
section
variable {P : Program} {o : Oper} {fr : Nat → D} {h : Heap} {K : D → Heap → Prop} {T : Type} {vf : T → Value}
theorem OpA.told {s : Nat} {d d' : D} (hd : fr s = d) (hsn : Snap false [] [d] [d']) (hh : OpA P o (upd fr s d') h K) : OpA P o fr h K := fun A M w0 a w hr hv next Q hn => by
 refine hh A M w0 a w hr (fun y hy => ?_) next Q hn
 have h1 := hv y hy
 by_cases hi : y = .tmp s
 · subst hi
   show V w (XX A h) (upd fr s d' s) _
   rw [upd_same]
   have e : ev fr (.tmp s) = d := hd
   rw [e] at h1
   have := hsn.sound (X' := XX A h) hr (fun c b hh => by cases hh) (fun _ b hb => hb) (fun c hc _ _ => by cases hc) [_] (.cons h1 .nil)
   cases this with | cons h _ => exact h
 · cases y with
   | tmp t =>
     have ht : t ≠ s := fun e => hi (by rw [e])
     show V w (XX A h) (upd fr s d' t) _
     rw [upd_ne _ _ ht]; exact h1
   | _ => exact h1
theorem OpA.frz {s : Nat} {d d' : D} {h0 : Heap} {x : Nat × Blk} (hp : h.Perm (x :: h0)) (hd : fr s = d) (hsn : Snap false [x] [d] [d']) (hh : OpA P o (upd fr s d') h0 K) : OpA P o fr h K := fun A M w0 a w hr hv next Q hn => by
 obtain ⟨r1, m1⟩ := hr.perm hp
 obtain ⟨r2, m2⟩ := r1.tail
 refine hh A M w0 a w r2 (fun y hy => ?_) next Q (fun v w' d h' hk hr' hm hv' => hn v w' d h' hk hr' ((m1.trans m2).trans hm) hv')
 have h1 := hv y hy
 by_cases hi : y = .tmp s
 · subst hi
   show V w (XX A h0) (upd fr s d' s) _
   rw [upd_same]
   have hv2 := h1.mono m1
   have e : ev fr (.tmp s) = d := hd
   rw [e] at hv2
   have hk : x.1 ∉ keys h0 := (List.nodup_cons.1 (by simpa using r1.nodup)).1
   have := hsn.sound (X' := XX A h0) r1 (fun c b hh => by cases hh with | head => exact .head | tail t => cases t) (fun _ b hb => by
       rcases hb with hb | hb
       · exact .inl hb
       · exact .inr (by simp [hb])) (fun c hc hev hx => by
       simp at hc; subst hc
       rcases hx with hx | hx
       · rw [show 2 * (x.1 / 2) = x.1 from by omega] at hx
         exact r1.free x.1 (by simp) hx
       · rw [show 2 * (x.1 / 2) = x.1 from by omega] at hx
         exact hk hx) [_] (.cons hv2 .nil)
   cases this with
   | cons h1 _ => exact h1
 · have e : ev (upd fr s d') y = ev fr y := by
     cases y with
     | tmp t => exact upd_ne _ _ (fun e => hi (by rw [e]))
     | _ => rfl
   rw [e]; exact (h1.mono m1).mono m2
end
end Go.Lic
