/-
  Words in which the conditions of functions are written (seat-independent, no program in sight): reading and writing of lists at whole numbers, loops as least fixed points.
-/
import Derived.Test.YtjncggaheahjiaaGreatDoorBase
set_option linter.all false
namespace Go.Lic
def gi {α : Type} [Inhabited α] (l : List α) (i : Int) : α := l.getD i.toNat default
def si {α : Type} (l : List α) (i : Int) (v : α) : List α := l.set i.toNat v
def lsub {α : Type} (l : List α) (lo hi : Int) : List α := (l.take hi.toNat).drop lo.toNat
def ssub (s : ByteArray) (lo hi : Int) : ByteArray := s.extract lo.toNat hi.toNat
def sgi (s : ByteArray) (i : Int) : Int := (s.data.toList.getD i.toNat 0).toNat
abbrev inI (n : Int) : Prop := -9223372036854775808 ≤ n ∧ n ≤ 9223372036854775807
abbrev inL (i : Int) (n : Nat) : Prop := 0 ≤ i ∧ i < n
abbrev inS (lo hi : Int) (n : Nat) : Prop := 0 ≤ lo ∧ lo ≤ hi ∧ hi ≤ n
def sbytes (s : ByteArray) : List Int := s.data.toList.map fun b => (b.toNat : Int)
def bstr (l : List Int) : ByteArray := ⟨(l.map fun n => UInt8.ofNat n.toNat).toArray⟩
def lfp {S : Type} (body : (S → Prop) → S → Prop) (s : S) : Prop := ∀ I : S → Prop, (∀ s, body I s → I s) → I s
theorem lfp_of {S : Type} {body : (S → Prop) → S → Prop} (Inv : S → Prop) (m : S → Nat) (round : ∀ s, Inv s → ∀ again : S → Prop, (∀ s', Inv s' → m s' < m s → again s') → body again s) {s : S} (h : Inv s) : lfp body s := by
 intro I hI
 generalize hk : m s = k
 induction k using Nat.strongRecOn generalizing s with
 | _ k ih =>
   subst hk
   exact hI s (round s h I fun s' h' hlt => ih _ hlt h' rfl)
section
variable {α : Type} [Inhabited α]
theorem gi_lt {l : List α} {i : Int} (h : inL i l.length) : gi l i = l[i.toNat]'(by omega) := by
 unfold gi; rw [List.getD_eq_getElem?_getD, List.getElem?_eq_getElem (by omega)]; rfl
theorem gi_get? {l : List α} {i : Int} (h : inL i l.length) : l[i.toNat]? = some (gi l i) := by
 rw [gi_lt h]; exact List.getElem?_eq_getElem _
theorem gi_nat {l : List α} {i : Nat} (h : i < l.length) : gi l (i : Int) = l[i] := by
 rw [gi_lt (by omega)]; congr 1
theorem gi_mem {l : List α} {i : Int} (h : inL i l.length) : gi l i ∈ l := by rw [gi_lt h]; exact List.getElem_mem _
end
@[simp] theorem si_length {α : Type} (l : List α) (i : Int) (v : α) : (si l i v).length = l.length := by simp [si]
theorem lsub_length {α : Type} {l : List α} {lo hi : Int} (h : inS lo hi l.length) : (lsub l lo hi).length = (hi - lo).toNat := by simp [lsub]; omega
theorem lsub_to {α : Type} (l : List α) (hi : Int) : lsub l 0 hi = l.take hi.toNat := by simp [lsub]
theorem decT {p : Prop} [Decidable p] (h : decide p = true) : p := of_decide_eq_true h
theorem decF {p : Prop} [Decidable p] (h : decide p = false) : ¬ p := of_decide_eq_false h
theorem ndecT {p : Prop} [Decidable p] (h : (!decide p) = true) : ¬ p := by simpa using h
theorem ndecF {p : Prop} [Decidable p] (h : (!decide p) = false) : p := by simpa using h
theorem beqT {a b : Int} (h : (a == b) = true) : a = b := by simpa using h
theorem beqF {a b : Int} (h : (a == b) = false) : ¬ a = b := by simpa using h
theorem bneT {a b : Int} (h : (a != b) = true) : ¬ a = b := by simpa using h
theorem bneF {a b : Int} (h : (a != b) = false) : a = b := by simpa using h
theorem notT {b : Bool} (h : (!b) = true) : b = false := by simpa using h
theorem notF {b : Bool} (h : (!b) = false) : b = true := by simpa using h
theorem orS {a b : Bool} (h : a = true) : (a || b) = true := by simp [h]
theorem orN {a b v : Bool} (h : a = false) (h2 : b = v) : (a || b) = v := by simp [h, h2]
theorem andS {a b : Bool} (h : a = false) : (a && b) = false := by simp [h]
theorem andN {a b v : Bool} (h : a = true) (h2 : b = v) : (a && b) = v := by simp [h, h2]
theorem notFt {a : Bool} (h : a = true) : (!a) = false := by simp [h]
theorem or0 {a b : Bool} (h : (a || b) = true) : a = true ∨ b = true := by simpa using h
theorem or1 {a b : Bool} (h : (a || b) = false) : a = false := by simp at h; exact h.1
theorem or2 {a b : Bool} (h : (a || b) = false) : b = false := by simp at h; exact h.2
theorem and0 {a b : Bool} (h : (a && b) = false) : a = false ∨ b = false := by cases a <;> cases b <;> simp_all
theorem and1 {a b : Bool} (h : (a && b) = true) : a = true := by simp at h; exact h.1
theorem and2 {a b : Bool} (h : (a && b) = true) : b = true := by simp at h; exact h.2
abbrev gmin (z : Int) (l : List Int) : Int := l.foldl (fun x y => if y < x then y else x) z
abbrev gmax (z : Int) (l : List Int) : Int := l.foldl (fun x y => if x < y then y else x) z
abbrev encL {α : Type} (sz : Nat) (e : α → D) (l : List α) : D := .list sz (l.map e)
abbrev D.k (k : IntKind) (n : Int) : D := .v (.int k n)
end Go.Lic
set_option linter.all false
namespace Go.Lic
def fori {S : Type} (f : S → Nat → S) (s : S) (n : Nat) : S := (List.range n).foldl f s
@[simp] theorem fori_zero {S : Type} (f : S → Nat → S) (s : S) : fori f s 0 = s := rfl
end Go.Lic
