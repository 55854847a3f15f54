/-
  The conditions of functions that chapters 1 to 16 share, printed from their code.
-/
import Derived.Test.YtaofnefejkokdaaGreatDoorCm
import Derived.Test.YtaofnefejkokdaaGreatDoorStates
import Derived.Test.YtaofnefejkokdaaGreatDoorIter
set_option linter.all false
namespace Go.Lic
open Go.Proofs Go.Sort
def gsplit_L1 (s_ : ByteArray) (sep : ByteArray) (sepSave : Int) (n1 : Int) (Q : (List ByteArray) → Prop) (again4 : (List ByteArray) × ByteArray × Int → Prop) (a : (List ByteArray)) (s_1 : ByteArray) (i : Int) : Prop :=
  ((i < ((gmin n1 [((s_.size : Int) + 1)]) - 1) → (sep.size = 1 ∧ (((indexF s_1 sep) < 0 → (inL i a.length ∧ (inI (i + 1) ∧ inS 0 (i + 1) (si a i s_1).length ∧ Q (lsub (si a i s_1) 0 (i + 1))))) ∧ (¬ (indexF s_1 sep) < 0 → (inI ((indexF s_1 sep) + sepSave) ∧ inS 0 ((indexF s_1 sep) + sepSave) s_1.size ∧ inL i a.length ∧ (inI ((indexF s_1 sep) + (sep.size : Int)) ∧ inS ((indexF s_1 sep) + (sep.size : Int)) (s_1.size : Int) s_1.size ∧ (inI (i + 1) ∧ again4 ((si a i (ssub s_1 0 ((indexF s_1 sep) + sepSave))), (ssub s_1 ((indexF s_1 sep) + (sep.size : Int)) (s_1.size : Int)), (i + 1))))))))) ∧ (¬ i < ((gmin n1 [((s_.size : Int) + 1)]) - 1) → (inL i a.length ∧ (inI (i + 1) ∧ inS 0 (i + 1) (si a i s_1).length ∧ Q (lsub (si a i s_1) 0 (i + 1))))))
def gsplit_J1 (s_ : ByteArray) (sep : ByteArray) (sepSave : Int) (Q : (List ByteArray) → Prop) (n1 : Int) : Prop :=
  (inI ((s_.size : Int) + 1) ∧ ((((0 : Int) ≤ (gmin n1 [((s_.size : Int) + 1)]) ∧ ((gmin n1 [((s_.size : Int) + 1)]) : Int) ≤ (gmin n1 [((s_.size : Int) + 1)])) ∧ (16 : Int) * (gmin n1 [((s_.size : Int) + 1)]) ≤ 281474976710656 ∧ ((gmin n1 [((s_.size : Int) + 1)]) : Int) ≤ 9223372036854775807) ∧ (inI ((gmin n1 [((s_.size : Int) + 1)]) - 1) ∧ lfp (S := (List ByteArray) × ByteArray × Int) (fun again4 ss => gsplit_L1 s_ sep sepSave n1 Q again4 ss.1 ss.2.1 ss.2.2) ((List.replicate (Int.toNat (gmin n1 [((s_.size : Int) + 1)])) ByteArray.empty), s_, 0))))
def gsplit_vc (s_ : ByteArray) (sep : ByteArray) (sepSave : Int) (n : Int) (Q : (List ByteArray) → Prop) : Prop :=
  ((n = 0 → Q []) ∧ (¬ n = 0 → ((sep = (⟨#[]⟩ : ByteArray) → False) ∧ (¬ sep = (⟨#[]⟩ : ByteArray) → ((n < 0 → (sep.size = 1 ∧ inI ((countF s_ sep) + 1) ∧ gsplit_J1 s_ sep sepSave Q ((countF s_ sep) + 1))) ∧ (¬ n < 0 → gsplit_J1 s_ sep sepSave Q n))))))
def split_vc (s_ : ByteArray) (sep : ByteArray) (Q : (List ByteArray) → Prop) : Prop :=
  (s_.size ≤ 1000000 ∧ sep.size = 1 ∧ 0 = (0 : Int) ∧ (-1) = (-1 : Int) ∧ Q (splitG s_ sep 0 (-1)))
def sixf_L1 (s_ : ByteArray) (p : Int → Bool) (pD : Int → Prop) (truth : Bool) (Q : Int → Prop) (again2 : Int → Prop) (pos : Int) : Prop :=
  ((pos < (s_.size : Int) → ((0 : Int) ≤ pos ∧ (pD (runeAt s_ pos) ∧ ((((p (runeAt s_ pos)) == truth) = true → Q pos) ∧ (((p (runeAt s_ pos)) == truth) = false → again2 (pos + runeW s_ pos)))))) ∧ (¬ pos < (s_.size : Int) → Q (-1)))
def sixf_vc (s_ : ByteArray) (p : Int → Bool) (pD : Int → Prop) (truth : Bool) (Q : Int → Prop) : Prop :=
  lfp (S := Int) (fun again2 ss => sixf_L1 s_ p pD truth Q again2 ss) 0
def sixF_vc (s_ : ByteArray) (p : Int → Bool) (pD : Int → Prop) (Q : Int → Prop) : Prop :=
  ((∀ z_, pD z_) ∧ Q (runeIx p s_ true))
def scf_vc (s_ : ByteArray) (p : Int → Bool) (pD : Int → Prop) (Q : Bool → Prop) : Prop :=
  ((∀ z_, pD z_) ∧ Q (decide ((runeIx p s_ true) ≥ 0)))
def ixStr_L1 (s_ : (List ByteArray)) (p : ByteArray → Bool) (pD : ByteArray → Prop) (Q : Int → Prop) (again1 : Int → Prop) (x : Int) : Prop :=
  ((x < (s_.length : Int) → (inL x s_.length ∧ pD (gi s_ x) ∧ (((p (gi s_ x)) = true → Q x) ∧ ((p (gi s_ x)) = false → (inI (x + 1) ∧ again1 (x + 1)))))) ∧ (¬ x < (s_.length : Int) → Q (-1)))
def ixStr_vc (s_ : (List ByteArray)) (p : ByteArray → Bool) (pD : ByteArray → Prop) (Q : Int → Prop) : Prop :=
  lfp (S := Int) (fun again1 ss => ixStr_L1 s_ p pD Q again1 ss) 0
def cfStr_vc (s_ : (List ByteArray)) (p : ByteArray → Bool) (pD : ByteArray → Prop) (Q : Bool → Prop) : Prop :=
  (s_.length ≤ 9223372036854775807 ∧ (∀ z_ ∈ s_, pD z_) ∧ Q (decide ((idxOf p s_) ≥ 0)))
def part1_vc (c : Int) (Q : Bool → Prop) : Prop :=
  Q (!((((((decide (c ≥ 97)) && (decide (c ≤ 122))) || ((decide (c ≥ 48)) && (decide (c ≤ 57)))) || (c == 46)) || (c == 95)) || (c == 45)))
def part_vc (s_ : ByteArray) (Q : Bool → Prop) : Prop :=
  (((¬ s_ = (⟨#[]⟩ : ByteArray) ∧ ¬ (s_.size : Int) > 32) → inL 0 s_.size) ∧ (((¬ s_ = (⟨#[]⟩ : ByteArray) ∧ ¬ (s_.size : Int) > 32) ∧ ¬ (sgi s_ 0) = 46) → inL 0 s_.size) ∧ (((((s_ = (⟨#[]⟩ : ByteArray) ∨ (s_.size : Int) > 32) ∨ (sgi s_ 0) = 46) ∨ (sgi s_ 0) = 45) → Q false) ∧ ((((¬ s_ = (⟨#[]⟩ : ByteArray) ∧ ¬ (s_.size : Int) > 32) ∧ ¬ (sgi s_ 0) = 46) ∧ ¬ (sgi s_ 0) = 45) → ((∀ z_, (fun (x0_ : Int) => True) z_) ∧ Q (!(decide (0 ≤ runeIx (fun (x0_ : Int) => badR x0_) s_ true)))))))
def path1_vc (s_ : ByteArray) (Q : Bool → Prop) : Prop :=
  (s_.size ≤ 1000000 ∧ Q (!(partF s_)))
def path_vc (path : ByteArray) (Q : Int → Prop) : Prop :=
  (path.size ≤ 1000000 ∧ (⟨#[47]⟩ : ByteArray).size = 1 ∧ (((¬ (path.size : Int) > 128 ∧ ¬ ((splitF path (⟨#[47]⟩ : ByteArray)).length : Int) > 8) → (splitF path (⟨#[47]⟩ : ByteArray)).length ≤ 9223372036854775807 ∧ (∀ z_ ∈ (splitF path (⟨#[47]⟩ : ByteArray)), (fun (x0_ : ByteArray) => x0_.size ≤ 1000000) z_)) ∧ (((((path.size : Int) > 128 ∨ ((splitF path (⟨#[47]⟩ : ByteArray)).length : Int) > 8) ∨ ((splitF path (⟨#[47]⟩ : ByteArray)).any (fun (x0_ : ByteArray) => (!partF x0_))) = true) → Q 2) ∧ (((¬ (path.size : Int) > 128 ∧ ¬ ((splitF path (⟨#[47]⟩ : ByteArray)).length : Int) > 8) ∧ ((splitF path (⟨#[47]⟩ : ByteArray)).any (fun (x0_ : ByteArray) => (!partF x0_))) = false) → Q 0))))
def or_L1 (vals : (List Int)) (Q : Int → Prop) (again1 : Int → Prop) (x : Int) : Prop :=
  ((x < (vals.length : Int) → (inL x vals.length ∧ ((¬ (gi vals x) = 0 → Q (gi vals x)) ∧ ((gi vals x) = 0 → (inI (x + 1) ∧ again1 (x + 1)))))) ∧ (¬ x < (vals.length : Int) → Q 0))
def or_vc (vals : (List Int)) (Q : Int → Prop) : Prop :=
  lfp (S := Int) (fun again1 ss => or_L1 vals Q again1 ss) 0
end Go.Lic

set_option linter.all false
namespace Go.Lic
open Go.Proofs Go.Sort
def sorti_L2 (data : (List Span)) (a : Int) (p : Span → Span → Int) (pD : Span → Span → Prop) (i : Int) (again1 : Int → Prop) (again3 : Unit → Prop) : Prop :=
  ((i > a → inL i data.length ∧ inI (i - 1) ∧ inL (i - 1) data.length ∧ pD (gi data i) (gi data (i - 1))) ∧ (((i > a ∧ (p (gi data i) (gi data (i - 1))) < 0) → False) ∧ ((¬ i > a ∨ ¬ (p (gi data i) (gi data (i - 1))) < 0) → (inI (i + 1) ∧ again1 (i + 1)))))
def sorti_L1 (data : (List Span)) (a : Int) (b : Int) (p : Span → Span → Int) (pD : Span → Span → Prop) (Q : Unit → Prop) (again1 : Int → Prop) (i : Int) : Prop :=
  ((i < b → lfp (S := Unit) (fun again3 ss => sorti_L2 data a p pD i again1 again3 ) ()) ∧ (¬ i < b → Q ()))
def sorti_vc (data : (List Span)) (a : Int) (b : Int) (p : Span → Span → Int) (pD : Span → Span → Prop) (Q : Unit → Prop) : Prop :=
  (inI (a + 1) ∧ lfp (S := Int) (fun again1 ss => sorti_L1 data a b p pD Q again1 ss) (a + 1))
def sortp_L1 (data : (List Span)) (a : Int) (b : Int) (limit : Int) (Q : Unit → Prop) (again1 : Unit → Prop) : Prop :=
  (inI (b - a) ∧ (((b - a) ≤ 12 → (data = ([] : List Span) ∧ a = (0 : Int) ∧ b = (0 : Int) ∧ Q ())) ∧ (¬ (b - a) ≤ 12 → ((limit = 0 → False) ∧ (¬ limit = 0 → False)))))
def sortp_vc (data : (List Span)) (a : Int) (b : Int) (limit : Int) (p : Span → Span → Int) (pD : Span → Span → Prop) (Q : Unit → Prop) : Prop :=
  lfp (S := Unit) (fun again1 ss => sortp_L1 data a b limit Q again1 ) ()
def sort0_vc (x : (List Span)) (p : Span → Span → Int) (pD : Span → Span → Prop) (Q : Unit → Prop) : Prop :=
  ((0 : Int) ≤ (IntKind.u64.wrap (x.length : Int)) ∧ (IntKind.u64.wrap (x.length : Int)) ≤ (18446744073709551615 : Int) ∧ x = ([] : List Span) ∧ 0 = (0 : Int) ∧ (x.length : Int) = (0 : Int) ∧ Q ())
def inside_vc (s_ : Span) (Q : Bool → Prop) : Prop :=
  Q (((decide (0 ≤ s_.from_)) && (decide (s_.from_ < s_.to))) && (decide (s_.to ≤ 1024)))
def behind_vc (a : Span) (b : Span) (Q : Bool → Prop) : Prop :=
  Q ((sless a.path b.path) || ((decide (a.path = b.path)) && (decide (a.to < b.from_))))
def merge1_vc (a : Span) (b : Span) (Q : Int → Prop) : Prop :=
  (([(cmpB a.path b.path), (cmpI a.from_ b.from_)] : List Int).length ≤ 9223372036854775807 ∧ Q (orF ([(cmpB a.path b.path), (cmpI a.from_ b.from_)] : List Int)))
def merge_L1 (l : (List Span)) (Q : (List Span) → Prop) (again3 : (List Span) × Int → Prop) (out : (List Span)) (x : Int) : Prop :=
  ((x < ((sortF spanCmp l).length : Int) → (inL x (sortF spanCmp l).length ∧ (inI ((out.length : Int) - 1) ∧ ((((out.length : Int) - 1) ≥ 0 → inL ((out.length : Int) - 1) out.length) ∧ (((((out.length : Int) - 1) ≥ 0 ∧ (behindF (gi out ((out.length : Int) - 1)) (gi (sortF spanCmp l) x)) = false) → (inL ((out.length : Int) - 1) out.length ∧ (inI (x + 1) ∧ again3 ((si out ((out.length : Int) - 1) (Span.mk ((gi out ((out.length : Int) - 1)).path) ((gi out ((out.length : Int) - 1)).from_) (gmax ((gi out ((out.length : Int) - 1)).to) [(gi (sortF spanCmp l) x).to]))), (x + 1))))) ∧ ((¬ ((out.length : Int) - 1) ≥ 0 ∨ (behindF (gi out ((out.length : Int) - 1)) (gi (sortF spanCmp l) x)) = true) → (((out.length + ([(gi (sortF spanCmp l) x)] : List Span).length) * 32 ≤ 140737488355328 ∧ out.length + ([(gi (sortF spanCmp l) x)] : List Span).length ≤ 9223372036854775807) ∧ (inI (x + 1) ∧ again3 ((out ++ ([(gi (sortF spanCmp l) x)] : List Span)), (x + 1)))))))))) ∧ (¬ x < ((sortF spanCmp l).length : Int) → Q out))
def merge_vc (l : (List Span)) (Q : (List Span) → Prop) : Prop :=
  ((SWO (ltOf spanCmp) ∧ l.length < 4611686018427387904) ∧ lfp (S := (List Span) × Int) (fun again3 ss => merge_L1 l Q again3 ss.1 ss.2) (([] : List Span), 0))
def of_L1 (l : (List Line)) (Q : (List Span) × Int → Prop) (again2 : (List Span) × Int → Prop) (spans : (List Span)) (x : Int) : Prop :=
  ((x < (l.length : Int) → (inL x l.length ∧ (((gi l x).path).size ≤ 1000000 ∧ ((¬ (pathF ((gi l x).path)) = 0 → Q ([], 2)) ∧ ((pathF ((gi l x).path)) = 0 → (((insideF (Span.mk ((gi l x).path) ((gi l x).n) (IntKind.i64.wrap (((gi l x).n) + 1)))) = false → Q ([], 3)) ∧ ((insideF (Span.mk ((gi l x).path) ((gi l x).n) (IntKind.i64.wrap (((gi l x).n) + 1)))) = true → (((spans.length + ([(Span.mk ((gi l x).path) ((gi l x).n) (IntKind.i64.wrap (((gi l x).n) + 1)))] : List Span).length) * 32 ≤ 140737488355328 ∧ spans.length + ([(Span.mk ((gi l x).path) ((gi l x).n) (IntKind.i64.wrap (((gi l x).n) + 1)))] : List Span).length ≤ 9223372036854775807) ∧ again2 ((spans ++ ([(Span.mk ((gi l x).path) ((gi l x).n) (IntKind.i64.wrap (((gi l x).n) + 1)))] : List Span)), (IntKind.i64.wrap (x + 1))))))))))) ∧ (¬ x < (l.length : Int) → (spans.length ≤ 1000000 ∧ Q ((mergeF spans), 0))))
def of_vc (l : (List Line)) (Q : (List Span) × Int → Prop) : Prop :=
  ((((0 : Int) ≤ 0 ∧ (0 : Int) ≤ (l.length : Int)) ∧ (32 : Int) * (l.length : Int) ≤ 281474976710656 ∧ ((l.length : Int) : Int) ≤ 9223372036854775807) ∧ lfp (S := (List Span) × Int) (fun again2 ss => of_L1 l Q again2 ss.1 ss.2) ((List.replicate (Int.toNat 0) (Span.mk ByteArray.empty 0 0)), 0))
def valid_L1 (l : (List Span)) (Q : Bool → Prop) (again1 : Int → Prop) (x : Int) : Prop :=
  ((x < (l.length : Int) → (inL x l.length ∧ (((insideF (gi l x)) = true → (x > 0 → inI (x - 1) ∧ inL (x - 1) l.length)) ∧ (((insideF (gi l x)) = true ∧ (¬ x > 0 ∨ (behindF (gi l (x - 1)) (gi l x)) = true)) → ((gi l x).path).size ≤ 1000000) ∧ (((((insideF (gi l x)) = false ∨ (x > 0 ∧ (behindF (gi l (x - 1)) (gi l x)) = false)) ∨ ¬ (pathF ((gi l x).path)) = 0) → Q false) ∧ ((((insideF (gi l x)) = true ∧ (¬ x > 0 ∨ (behindF (gi l (x - 1)) (gi l x)) = true)) ∧ (pathF ((gi l x).path)) = 0) → (inI (x + 1) ∧ again1 (x + 1))))))) ∧ (¬ x < (l.length : Int) → Q true))
def valid_vc (l : (List Span)) (Q : Bool → Prop) : Prop :=
  lfp (S := Int) (fun again1 ss => valid_L1 l Q again1 ss) 0
def count_L1 (l : (List Span)) (Q : Int → Prop) (again2 : Int × Int → Prop) (n : Int) (x : Int) : Prop :=
  ((x < (l.length : Int) → (inL x l.length ∧ (inI (((gi l x).to) - ((gi l x).from_)) ∧ inI (n + (((gi l x).to) - ((gi l x).from_))) ∧ (inI (x + 1) ∧ again2 ((n + (((gi l x).to) - ((gi l x).from_))), (x + 1)))))) ∧ (¬ x < (l.length : Int) → Q n))
def count_vc (l : (List Span)) (Q : Int → Prop) : Prop :=
  (l.length ≤ 1000000 ∧ (∀ z_ ∈ l, z_.path.size ≤ 1000000) ∧ (((validF l) = false → Q 0) ∧ ((validF l) = true → lfp (S := Int × Int) (fun again2 ss => count_L1 l Q again2 ss.1 ss.2) (0, 0))))
end Go.Lic
