/-
  Maps of our own from whole numbers to plain values: the object as it lies in memory.
-/
import Derived.Test.YtjncggaheahjiaaGreatDoorIter
set_option linter.all false
namespace Go.Lic
variable [Fl]
section
variable {T : Type} {vf : T → Value}
end
section
variable {P : Program} {o : Oper} {fr : Nat → D} {h : Heap} {K : D → Heap → Prop} {T : Type} {vf : T → Value}
theorem OpA.told {s : Nat} {d d' : D} (hd : fr s = d) (hsn : Snap false [] [d] [d']) (hh : OpA P o (upd fr s d') h K) : OpA P o fr h K := fun A M w0 a w hr hv next Q hn => by
 refine hh A M w0 a w hr (fun y hy => ?_) next Q hn
 have h1 := hv y hy
 by_cases hi : y = .tmp s
 · subst hi
   show V w (XX A h) (upd fr s d' s) _
   rw [upd_same]
   have e : ev fr (.tmp s) = d := hd
   rw [e] at h1
   have := hsn.sound (X' := XX A h) hr (fun c b hh => by cases hh) (fun _ b hb => hb) (fun c hc _ _ => by cases hc) [_] (.cons h1 .nil)
   cases this with | cons h _ => exact h
 · cases y with
   | tmp t =>
     have ht : t ≠ s := fun e => hi (by rw [e])
     show V w (XX A h) (upd fr s d' t) _
     rw [upd_ne _ _ ht]; exact h1
   | _ => exact h1
end
end Go.Lic
