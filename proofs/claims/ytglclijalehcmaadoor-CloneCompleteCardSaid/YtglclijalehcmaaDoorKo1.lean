/-
  The conditions of the search for clones hold. No program in sight.
-/
import Derived.Test.YtglclijalehcmaaDoorKv
import Derived.Test.YtglclijalehcmaaDoorKq
set_option linter.all false
namespace Go.Lic
open Go.Proofs Go.Sort Go.Shelf
theorem eqAt_gi {A B : List Lexeme} {i j : Nat} : eqAt A B i j ↔ i < A.length ∧ j < B.length ∧ (gi A (i : Int)).text = (gi B (j : Int)).text := by
 constructor
 · rintro ⟨x, y, h1, h2, h3⟩
   obtain ⟨l1, e1⟩ := List.getElem?_eq_some_iff.1 h1
   obtain ⟨l2, e2⟩ := List.getElem?_eq_some_iff.1 h2
   exact ⟨l1, l2, by rw [gi_nat l1, gi_nat l2, e1, e2, h3]⟩
 · rintro ⟨h1, h2, h3⟩
   rw [gi_nat h1, gi_nat h2] at h3
   exact ⟨A[i], B[j], List.getElem?_eq_getElem h1, List.getElem?_eq_getElem h2, h3⟩
theorem eqAt_int {A B : List Lexeme} {i j : Int} (hi : 0 ≤ i) (hj : 0 ≤ j) : eqAt A B i.toNat j.toNat ↔ i < A.length ∧ j < B.length ∧ (gi A i).text = (gi B j).text := by
 rw [eqAt_gi, show ((i.toNat : Nat) : Int) = i by omega, show ((j.toNat : Nat) : Int) = j by omega]
 constructor <;> rintro ⟨h1, h2, h3⟩ <;> exact ⟨by omega, by omega, h3⟩
theorem toN_le (A B : List Lexeme) (i j : Nat) : toN A B i j ≤ A.length ∧ toN A B i j ≤ B.length := by
 have := common_le (A.drop i) (B.drop j)
 simp only [List.length_drop] at this
 unfold toN; omega
theorem klook_ok (texts : (List Text)) (least : Int) (seen : (List (CloneDiagonal × Int))) (found : (List (Clone × Unit))) (x : ClonePlace) (y : ClonePlace) (Q : (List (CloneDiagonal × Int)) × (List (Clone × Unit)) → Prop) (hp0 : okTs texts) (hp1 : OkP texts (x, y)) (h : Q (lookF texts least seen found x y)) : klook_vc texts least seen found x y Q := by
 obtain ⟨ha, hb, x0, x1, y0, y1⟩ := hp1
 simp only at ha hb x0 x1 y0 y1
 have hwa := (hp0.2 _ (gi_mem ha)).2.1
 have hwb := (hp0.2 _ (gi_mem hb)).2.1
 unfold lookF at h
 have eT : toP texts (x, y) = toN (gi texts x.text).words (gi texts y.text).words x.at_.toNat y.at_.toNat := rfl
 have eF : backP texts (x, y) = backN (gi texts x.text).words (gi texts y.text).words x.at_.toNat y.at_.toNat := rfl
 have ed : diagP (x, y) = CloneDiagonal.mk x.text y.text (y.at_ - x.at_) := rfl
 unfold cloneP at h
 simp only [eT, eF, ed] at h
 unfold klook_vc klook_L1 klook_L2
 generalize hA : (gi texts x.text).words = A at *
 generalize hB : (gi texts y.text).words = B at *
 obtain ⟨tA, tB⟩ := toN_le A B x.at_.toNat y.at_.toNat
 have hlt : ∀ s, s < toN A B x.at_.toNat y.at_.toNat → eqAt A B (x.at_.toNat + s) (y.at_.toNat + s) := fun s hs => toN_lt hs
 have hend : ¬ eqAt A B (x.at_.toNat + toN A B x.at_.toNat y.at_.toNat) (y.at_.toNat + toN A B x.at_.toNat y.at_.toNat) := toN_end
 obtain ⟨bA, bB⟩ := backN_le (A := A) (B := B) (i := x.at_.toNat) (j := y.at_.toNat) (by omega) (by omega)
 have hblt : ∀ s, s < backN A B x.at_.toNat y.at_.toNat → s < x.at_.toNat ∧ s < y.at_.toNat ∧ eqAt A B (x.at_.toNat - 1 - s) (y.at_.toNat - 1 - s) := fun s hs => backN_lt (by omega) (by omega) hs
 have hbend : backN A B x.at_.toNat y.at_.toNat < x.at_.toNat → backN A B x.at_.toNat y.at_.toNat < y.at_.toNat → ¬ eqAt A B (x.at_.toNat - 1 - backN A B x.at_.toNat y.at_.toNat) (y.at_.toNat - 1 - backN A B x.at_.toNat y.at_.toNat) := backN_end (by omega) (by omega)
 generalize toN A B x.at_.toNat y.at_.toNat = t at *
 generalize backN A B x.at_.toNat y.at_.toNat = f at *
 refine ⟨by omega, fun hgt => by rw [if_pos hgt] at h; exact h, fun hgt => ⟨ha, hb, ?_⟩⟩
 rw [if_neg hgt] at h
 refine lfp_of (fun to : Int => 0 ≤ to ∧ to ≤ t) (fun to => ((t : Int) + 1 - to).toNat) (fun to hto again hag => ?_) ⟨by omega, by omega⟩
 obtain ⟨t0, t1⟩ := hto
 by_cases hc : to < t
 · have hq := hlt to.toNat (by omega)
   rw [show x.at_.toNat + to.toNat = (x.at_ + to).toNat by omega, show y.at_.toNat + to.toNat = (y.at_ + to).toNat by omega, eqAt_int (by omega) (by omega)] at hq
   refine ⟨by omega, fun _ => by omega, fun _ => ⟨by omega, by omega, by omega⟩, fun _ => ⟨by omega, hag _ ⟨by omega, by omega⟩ (by omega)⟩, fun hn => ?_⟩
   exfalso
   rcases hn with (hn | hn) | hn
   · exact hn hq.1
   · exact hn hq.2.1
   · exact hn hq.2.2
 · have e : to = t := by omega
   subst e
   rw [show x.at_.toNat + t = (x.at_ + (t : Int)).toNat by omega, show y.at_.toNat + t = (y.at_ + (t : Int)).toNat by omega, eqAt_int (by omega) (by omega)] at hend
   refine ⟨by omega, fun _ => by omega, fun _ => ⟨by omega, by omega, by omega⟩, fun hq => absurd ⟨hq.1.1, hq.1.2, hq.2⟩ hend, fun _ => ⟨?_, ?_⟩⟩
   · simp only [gmax, List.foldl_cons, List.foldl_nil]; split <;> omega
   · have eg : gmax (t : Int) [1] = ((max t 1 : Nat) : Int) := by simp only [gmax, List.foldl_cons, List.foldl_nil]; split <;> omega
     rw [eg]
     rcases Nat.eq_zero_or_pos t with hz | hz
     · subst hz
       refine lfp_of (fun fr : Int => fr = 0) (fun _ => 0) (fun fr hfr again hag => ?_) rfl
       subst hfr
       refine ⟨fun hq => by omega, fun hq => by omega, fun _ => ⟨by omega, fun hq => by omega, fun _ => ?_⟩⟩
       rw [if_neg (by omega)] at h
       exact h
     · refine lfp_of (fun fr : Int => 0 ≤ fr ∧ fr ≤ f) (fun fr => ((f : Int) + 1 - fr).toNat) (fun fr hfr again hag => ?_) ⟨by omega, by omega⟩
       obtain ⟨f0, f1⟩ := hfr
       by_cases hc : fr < f
       · obtain ⟨q1, q2, q3⟩ := hblt fr.toNat (by omega)
         rw [show x.at_.toNat - 1 - fr.toNat = (x.at_ - fr - 1).toNat by omega, show y.at_.toNat - 1 - fr.toNat = (y.at_ - fr - 1).toNat by omega, eqAt_int (by omega) (by omega)] at q3
         refine ⟨fun _ => ⟨by omega, by omega, by omega, by omega, by omega, by omega⟩, fun _ => ⟨by omega, hag _ ⟨by omega, by omega⟩ (by omega)⟩, fun hn => ?_⟩
         exfalso
         rcases hn with ((hn | hn) | hn) | hn
         · omega
         · omega
         · omega
         · exact hn q3.2.2
       · have e : fr = f := by omega
         subst e
         refine ⟨fun hq => ⟨by omega, by omega, by omega, by omega, by omega, by omega⟩, fun hq => ?_, fun _ => ⟨by omega, fun hq => ⟨by omega, by omega, by omega, ?_⟩, fun hq => ?_⟩⟩
         · exfalso
           have := hbend (by omega) (by omega)
           rw [show x.at_.toNat - 1 - f = (x.at_ - (f : Int) - 1).toNat by omega, show y.at_.toNat - 1 - f = (y.at_ - (f : Int) - 1).toNat by omega, eqAt_int (by omega) (by omega)] at this
           exact this ⟨by omega, by omega, hq.2⟩
         · rw [if_pos ⟨by omega, by omega⟩] at h
           exact h
         · rw [if_neg (by omega)] at h
           exact h
end Go.Lic
