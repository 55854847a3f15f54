/-
  The conditions of functions that chapters 1 to 16 share, printed from their code.
-/
import Derived.Test.YtglclijalehcmaaDoorLa
import Derived.Test.YtglclijalehcmaaDoorIter
set_option linter.all false
namespace Go.Lic
open Go.Proofs Go.Sort
def gsplit_L1 (s_ : ByteArray) (sep : ByteArray) (sepSave : Int) (n1 : Int) (Q : (List ByteArray) → Prop) (again4 : (List ByteArray) × ByteArray × Int → Prop) (a : (List ByteArray)) (s_1 : ByteArray) (i : Int) : Prop :=
 ((i < ((gmin n1 [((s_.size : Int) + 1)]) - 1) → (sep.size = 1 ∧ (((indexF s_1 sep) < 0 → (inL i a.length ∧ (inI (i + 1) ∧ inS 0 (i + 1) (si a i s_1).length ∧ Q (lsub (si a i s_1) 0 (i + 1))))) ∧ (¬ (indexF s_1 sep) < 0 → (inI ((indexF s_1 sep) + sepSave) ∧ inS 0 ((indexF s_1 sep) + sepSave) s_1.size ∧ inL i a.length ∧ (inI ((indexF s_1 sep) + (sep.size : Int)) ∧ inS ((indexF s_1 sep) + (sep.size : Int)) (s_1.size : Int) s_1.size ∧ (inI (i + 1) ∧ again4 ((si a i (ssub s_1 0 ((indexF s_1 sep) + sepSave))), (ssub s_1 ((indexF s_1 sep) + (sep.size : Int)) (s_1.size : Int)), (i + 1))))))))) ∧ (¬ i < ((gmin n1 [((s_.size : Int) + 1)]) - 1) → (inL i a.length ∧ (inI (i + 1) ∧ inS 0 (i + 1) (si a i s_1).length ∧ Q (lsub (si a i s_1) 0 (i + 1))))))
def gsplit_J1 (s_ : ByteArray) (sep : ByteArray) (sepSave : Int) (Q : (List ByteArray) → Prop) (n1 : Int) : Prop :=
 (inI ((s_.size : Int) + 1) ∧ ((((0 : Int) ≤ (gmin n1 [((s_.size : Int) + 1)]) ∧ ((gmin n1 [((s_.size : Int) + 1)]) : Int) ≤ (gmin n1 [((s_.size : Int) + 1)])) ∧ (16 : Int) * (gmin n1 [((s_.size : Int) + 1)]) ≤ 281474976710656 ∧ ((gmin n1 [((s_.size : Int) + 1)]) : Int) ≤ 9223372036854775807) ∧ (inI ((gmin n1 [((s_.size : Int) + 1)]) - 1) ∧ lfp (S := (List ByteArray) × ByteArray × Int) (fun again4 ss => gsplit_L1 s_ sep sepSave n1 Q again4 ss.1 ss.2.1 ss.2.2) ((List.replicate (Int.toNat (gmin n1 [((s_.size : Int) + 1)])) ByteArray.empty), s_, 0))))
def gsplit_vc (s_ : ByteArray) (sep : ByteArray) (sepSave : Int) (n : Int) (Q : (List ByteArray) → Prop) : Prop :=
 ((n = 0 → Q []) ∧ (¬ n = 0 → ((sep = (⟨#[]⟩ : ByteArray) → False) ∧ (¬ sep = (⟨#[]⟩ : ByteArray) → ((n < 0 → (sep.size = 1 ∧ inI ((countF s_ sep) + 1) ∧ gsplit_J1 s_ sep sepSave Q ((countF s_ sep) + 1))) ∧ (¬ n < 0 → gsplit_J1 s_ sep sepSave Q n))))))
def split_vc (s_ : ByteArray) (sep : ByteArray) (Q : (List ByteArray) → Prop) : Prop :=
 (s_.size ≤ 1000000 ∧ sep.size = 1 ∧ 0 = (0 : Int) ∧ (-1) = (-1 : Int) ∧ Q (splitG s_ sep 0 (-1)))
def sixf_L1 (s_ : ByteArray) (p : Int → Bool) (pD : Int → Prop) (truth : Bool) (Q : Int → Prop) (again2 : Int → Prop) (pos : Int) : Prop :=
 ((pos < (s_.size : Int) → ((0 : Int) ≤ pos ∧ (pD (runeAt s_ pos) ∧ ((((p (runeAt s_ pos)) == truth) = true → Q pos) ∧ (((p (runeAt s_ pos)) == truth) = false → again2 (pos + runeW s_ pos)))))) ∧ (¬ pos < (s_.size : Int) → Q (-1)))
def sixf_vc (s_ : ByteArray) (p : Int → Bool) (pD : Int → Prop) (truth : Bool) (Q : Int → Prop) : Prop :=
 lfp (S := Int) (fun again2 ss => sixf_L1 s_ p pD truth Q again2 ss) 0
def sixF_vc (s_ : ByteArray) (p : Int → Bool) (pD : Int → Prop) (Q : Int → Prop) : Prop :=
 ((∀ z_, pD z_) ∧ Q (runeIx p s_ true))
def scf_vc (s_ : ByteArray) (p : Int → Bool) (pD : Int → Prop) (Q : Bool → Prop) : Prop :=
 ((∀ z_, pD z_) ∧ Q (decide ((runeIx p s_ true) ≥ 0)))
def ixStr_L1 (s_ : (List ByteArray)) (p : ByteArray → Bool) (pD : ByteArray → Prop) (Q : Int → Prop) (again1 : Int → Prop) (x : Int) : Prop :=
 ((x < (s_.length : Int) → (inL x s_.length ∧ pD (gi s_ x) ∧ (((p (gi s_ x)) = true → Q x) ∧ ((p (gi s_ x)) = false → (inI (x + 1) ∧ again1 (x + 1)))))) ∧ (¬ x < (s_.length : Int) → Q (-1)))
def ixStr_vc (s_ : (List ByteArray)) (p : ByteArray → Bool) (pD : ByteArray → Prop) (Q : Int → Prop) : Prop :=
 lfp (S := Int) (fun again1 ss => ixStr_L1 s_ p pD Q again1 ss) 0
def cfStr_vc (s_ : (List ByteArray)) (p : ByteArray → Bool) (pD : ByteArray → Prop) (Q : Bool → Prop) : Prop :=
 (s_.length ≤ 9223372036854775807 ∧ (∀ z_ ∈ s_, pD z_) ∧ Q (decide ((idxOf p s_) ≥ 0)))
def part1_vc (c : Int) (Q : Bool → Prop) : Prop :=
 Q (!((((((decide (c ≥ 97)) && (decide (c ≤ 122))) || ((decide (c ≥ 48)) && (decide (c ≤ 57)))) || (c == 46)) || (c == 95)) || (c == 45)))
def part_vc (s_ : ByteArray) (Q : Bool → Prop) : Prop :=
 (((¬ s_ = (⟨#[]⟩ : ByteArray) ∧ ¬ (s_.size : Int) > 32) → inL 0 s_.size) ∧ (((¬ s_ = (⟨#[]⟩ : ByteArray) ∧ ¬ (s_.size : Int) > 32) ∧ ¬ (sgi s_ 0) = 46) → inL 0 s_.size) ∧ (((((s_ = (⟨#[]⟩ : ByteArray) ∨ (s_.size : Int) > 32) ∨ (sgi s_ 0) = 46) ∨ (sgi s_ 0) = 45) → Q false) ∧ ((((¬ s_ = (⟨#[]⟩ : ByteArray) ∧ ¬ (s_.size : Int) > 32) ∧ ¬ (sgi s_ 0) = 46) ∧ ¬ (sgi s_ 0) = 45) → ((∀ z_, (fun (x0_ : Int) => True) z_) ∧ Q (!(decide (0 ≤ runeIx (fun (x0_ : Int) => badR x0_) s_ true)))))))
def path1_vc (s_ : ByteArray) (Q : Bool → Prop) : Prop :=
 (s_.size ≤ 1000000 ∧ Q (!(partF s_)))
def path_vc (path : ByteArray) (Q : Int → Prop) : Prop :=
 (path.size ≤ 1000000 ∧ (⟨#[47]⟩ : ByteArray).size = 1 ∧ (((¬ (path.size : Int) > 128 ∧ ¬ ((splitF path (⟨#[47]⟩ : ByteArray)).length : Int) > 8) → (splitF path (⟨#[47]⟩ : ByteArray)).length ≤ 9223372036854775807 ∧ (∀ z_ ∈ (splitF path (⟨#[47]⟩ : ByteArray)), (fun (x0_ : ByteArray) => x0_.size ≤ 1000000) z_)) ∧ (((((path.size : Int) > 128 ∨ ((splitF path (⟨#[47]⟩ : ByteArray)).length : Int) > 8) ∨ ((splitF path (⟨#[47]⟩ : ByteArray)).any (fun (x0_ : ByteArray) => (!partF x0_))) = true) → Q 2) ∧ (((¬ (path.size : Int) > 128 ∧ ¬ ((splitF path (⟨#[47]⟩ : ByteArray)).length : Int) > 8) ∧ ((splitF path (⟨#[47]⟩ : ByteArray)).any (fun (x0_ : ByteArray) => (!partF x0_))) = false) → Q 0))))
def or_L1 (vals : (List Int)) (Q : Int → Prop) (again1 : Int → Prop) (x : Int) : Prop :=
 ((x < (vals.length : Int) → (inL x vals.length ∧ ((¬ (gi vals x) = 0 → Q (gi vals x)) ∧ ((gi vals x) = 0 → (inI (x + 1) ∧ again1 (x + 1)))))) ∧ (¬ x < (vals.length : Int) → Q 0))
def or_vc (vals : (List Int)) (Q : Int → Prop) : Prop :=
 lfp (S := Int) (fun again1 ss => or_L1 vals Q again1 ss) 0
end Go.Lic
