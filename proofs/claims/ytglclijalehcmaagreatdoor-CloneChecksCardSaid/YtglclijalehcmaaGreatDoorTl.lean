/-
  The conditions of functions of chapter 16 that chapter 30 uses, printed from their code.
-/
import Derived.Test.YtglclijalehcmaaGreatDoorCv0
import Derived.Test.YtglclijalehcmaaGreatDoorIter
set_option linter.all false
namespace Go.Lic
open Go.Proofs Go.Sort
def sorti_L2 (data : (List Span)) (a : Int) (p : Span → Span → Int) (pD : Span → Span → Prop) (i : Int) (again1 : Int → Prop) (again3 : Unit → Prop) : Prop :=
 ((i > a → inL i data.length ∧ inI (i - 1) ∧ inL (i - 1) data.length ∧ pD (gi data i) (gi data (i - 1))) ∧ (((i > a ∧ (p (gi data i) (gi data (i - 1))) < 0) → False) ∧ ((¬ i > a ∨ ¬ (p (gi data i) (gi data (i - 1))) < 0) → (inI (i + 1) ∧ again1 (i + 1)))))
def sorti_L1 (data : (List Span)) (a : Int) (b : Int) (p : Span → Span → Int) (pD : Span → Span → Prop) (Q : Unit → Prop) (again1 : Int → Prop) (i : Int) : Prop :=
 ((i < b → lfp (S := Unit) (fun again3 ss => sorti_L2 data a p pD i again1 again3 ) ()) ∧ (¬ i < b → Q ()))
def sorti_vc (data : (List Span)) (a : Int) (b : Int) (p : Span → Span → Int) (pD : Span → Span → Prop) (Q : Unit → Prop) : Prop :=
 (inI (a + 1) ∧ lfp (S := Int) (fun again1 ss => sorti_L1 data a b p pD Q again1 ss) (a + 1))
def sortp_L1 (data : (List Span)) (a : Int) (b : Int) (limit : Int) (Q : Unit → Prop) (again1 : Unit → Prop) : Prop :=
 (inI (b - a) ∧ (((b - a) ≤ 12 → (data = ([] : List Span) ∧ a = (0 : Int) ∧ b = (0 : Int) ∧ Q ())) ∧ (¬ (b - a) ≤ 12 → ((limit = 0 → False) ∧ (¬ limit = 0 → False)))))
def sortp_vc (data : (List Span)) (a : Int) (b : Int) (limit : Int) (p : Span → Span → Int) (pD : Span → Span → Prop) (Q : Unit → Prop) : Prop :=
 lfp (S := Unit) (fun again1 ss => sortp_L1 data a b limit Q again1 ) ()
def sort0_vc (x : (List Span)) (p : Span → Span → Int) (pD : Span → Span → Prop) (Q : Unit → Prop) : Prop :=
 ((0 : Int) ≤ (IntKind.u64.wrap (x.length : Int)) ∧ (IntKind.u64.wrap (x.length : Int)) ≤ (18446744073709551615 : Int) ∧ x = ([] : List Span) ∧ 0 = (0 : Int) ∧ (x.length : Int) = (0 : Int) ∧ Q ())
def inside_vc (s_ : Span) (Q : Bool → Prop) : Prop :=
 Q (((decide (0 ≤ s_.from_)) && (decide (s_.from_ < s_.to))) && (decide (s_.to ≤ 1024)))
def behind_vc (a : Span) (b : Span) (Q : Bool → Prop) : Prop :=
 Q ((sless a.path b.path) || ((decide (a.path = b.path)) && (decide (a.to < b.from_))))
def merge1_vc (a : Span) (b : Span) (Q : Int → Prop) : Prop :=
 (([(cmpB a.path b.path), (cmpI a.from_ b.from_)] : List Int).length ≤ 9223372036854775807 ∧ Q (orF ([(cmpB a.path b.path), (cmpI a.from_ b.from_)] : List Int)))
def merge_L1 (l : (List Span)) (Q : (List Span) → Prop) (again3 : (List Span) × Int → Prop) (out : (List Span)) (x : Int) : Prop :=
 ((x < ((sortF spanCmp l).length : Int) → (inL x (sortF spanCmp l).length ∧ (inI ((out.length : Int) - 1) ∧ ((((out.length : Int) - 1) ≥ 0 → inL ((out.length : Int) - 1) out.length) ∧ (((((out.length : Int) - 1) ≥ 0 ∧ (behindF (gi out ((out.length : Int) - 1)) (gi (sortF spanCmp l) x)) = false) → (inL ((out.length : Int) - 1) out.length ∧ (inI (x + 1) ∧ again3 ((si out ((out.length : Int) - 1) (Span.mk ((gi out ((out.length : Int) - 1)).path) ((gi out ((out.length : Int) - 1)).from_) (gmax ((gi out ((out.length : Int) - 1)).to) [(gi (sortF spanCmp l) x).to]))), (x + 1))))) ∧ ((¬ ((out.length : Int) - 1) ≥ 0 ∨ (behindF (gi out ((out.length : Int) - 1)) (gi (sortF spanCmp l) x)) = true) → (((out.length + ([(gi (sortF spanCmp l) x)] : List Span).length) * 32 ≤ 140737488355328 ∧ out.length + ([(gi (sortF spanCmp l) x)] : List Span).length ≤ 9223372036854775807) ∧ (inI (x + 1) ∧ again3 ((out ++ ([(gi (sortF spanCmp l) x)] : List Span)), (x + 1)))))))))) ∧ (¬ x < ((sortF spanCmp l).length : Int) → Q out))
def merge_vc (l : (List Span)) (Q : (List Span) → Prop) : Prop :=
 ((SWO (ltOf spanCmp) ∧ l.length < 4611686018427387904) ∧ lfp (S := (List Span) × Int) (fun again3 ss => merge_L1 l Q again3 ss.1 ss.2) (([] : List Span), 0))
def of_L1 (l : (List Line)) (Q : (List Span) × Int → Prop) (again2 : (List Span) × Int → Prop) (spans : (List Span)) (x : Int) : Prop :=
 ((x < (l.length : Int) → (inL x l.length ∧ (((gi l x).path).size ≤ 1000000 ∧ ((¬ (pathF ((gi l x).path)) = 0 → Q ([], 2)) ∧ ((pathF ((gi l x).path)) = 0 → (((insideF (Span.mk ((gi l x).path) ((gi l x).n) (IntKind.i64.wrap (((gi l x).n) + 1)))) = false → Q ([], 3)) ∧ ((insideF (Span.mk ((gi l x).path) ((gi l x).n) (IntKind.i64.wrap (((gi l x).n) + 1)))) = true → (((spans.length + ([(Span.mk ((gi l x).path) ((gi l x).n) (IntKind.i64.wrap (((gi l x).n) + 1)))] : List Span).length) * 32 ≤ 140737488355328 ∧ spans.length + ([(Span.mk ((gi l x).path) ((gi l x).n) (IntKind.i64.wrap (((gi l x).n) + 1)))] : List Span).length ≤ 9223372036854775807) ∧ again2 ((spans ++ ([(Span.mk ((gi l x).path) ((gi l x).n) (IntKind.i64.wrap (((gi l x).n) + 1)))] : List Span)), (IntKind.i64.wrap (x + 1))))))))))) ∧ (¬ x < (l.length : Int) → (spans.length ≤ 1000000 ∧ Q ((mergeF spans), 0))))
def of_vc (l : (List Line)) (Q : (List Span) × Int → Prop) : Prop :=
 ((((0 : Int) ≤ 0 ∧ (0 : Int) ≤ (l.length : Int)) ∧ (32 : Int) * (l.length : Int) ≤ 281474976710656 ∧ ((l.length : Int) : Int) ≤ 9223372036854775807) ∧ lfp (S := (List Span) × Int) (fun again2 ss => of_L1 l Q again2 ss.1 ss.2) ((List.replicate (Int.toNat 0) (Span.mk ByteArray.empty 0 0)), 0))
def valid_L1 (l : (List Span)) (Q : Bool → Prop) (again1 : Int → Prop) (x : Int) : Prop :=
 ((x < (l.length : Int) → (inL x l.length ∧ (((insideF (gi l x)) = true → (x > 0 → inI (x - 1) ∧ inL (x - 1) l.length)) ∧ (((insideF (gi l x)) = true ∧ (¬ x > 0 ∨ (behindF (gi l (x - 1)) (gi l x)) = true)) → ((gi l x).path).size ≤ 1000000) ∧ (((((insideF (gi l x)) = false ∨ (x > 0 ∧ (behindF (gi l (x - 1)) (gi l x)) = false)) ∨ ¬ (pathF ((gi l x).path)) = 0) → Q false) ∧ ((((insideF (gi l x)) = true ∧ (¬ x > 0 ∨ (behindF (gi l (x - 1)) (gi l x)) = true)) ∧ (pathF ((gi l x).path)) = 0) → (inI (x + 1) ∧ again1 (x + 1))))))) ∧ (¬ x < (l.length : Int) → Q true))
def valid_vc (l : (List Span)) (Q : Bool → Prop) : Prop :=
 lfp (S := Int) (fun again1 ss => valid_L1 l Q again1 ss) 0
def count_L1 (l : (List Span)) (Q : Int → Prop) (again2 : Int × Int → Prop) (n : Int) (x : Int) : Prop :=
 ((x < (l.length : Int) → (inL x l.length ∧ (inI (((gi l x).to) - ((gi l x).from_)) ∧ inI (n + (((gi l x).to) - ((gi l x).from_))) ∧ (inI (x + 1) ∧ again2 ((n + (((gi l x).to) - ((gi l x).from_))), (x + 1)))))) ∧ (¬ x < (l.length : Int) → Q n))
def count_vc (l : (List Span)) (Q : Int → Prop) : Prop :=
 (l.length ≤ 1000000 ∧ (∀ z_ ∈ l, z_.path.size ≤ 1000000) ∧ (((validF l) = false → Q 0) ∧ ((validF l) = true → lfp (S := Int × Int) (fun again2 ss => count_L1 l Q again2 ss.1 ss.2) (0, 0))))
def rpack_L1 (l : (List Line)) (Q : (List Span) → Prop) (again2 : (List Span) × Int → Prop) (out : (List Span)) (i : Int) : Prop :=
 ((i < (l.length : Int) → (inI ((out.length : Int) - 1) ∧ ((((out.length : Int) - 1) ≥ 0 → inL ((out.length : Int) - 1) out.length ∧ inL i l.length) ∧ ((((out.length : Int) - 1) ≥ 0 ∧ (gi out ((out.length : Int) - 1)).path = (gi l i).path) → inL i l.length ∧ inL ((out.length : Int) - 1) out.length) ∧ ((((((out.length : Int) - 1) ≥ 0 ∧ (gi out ((out.length : Int) - 1)).path = (gi l i).path) ∧ (gi l i).n < (gi out ((out.length : Int) - 1)).to) → (inI (i + 1) ∧ again2 (out, (i + 1)))) ∧ (((¬ ((out.length : Int) - 1) ≥ 0 ∨ ¬ (gi out ((out.length : Int) - 1)).path = (gi l i).path) ∨ ¬ (gi l i).n < (gi out ((out.length : Int) - 1)).to) → ((((out.length : Int) - 1) ≥ 0 → inL ((out.length : Int) - 1) out.length ∧ inL i l.length) ∧ ((((out.length : Int) - 1) ≥ 0 ∧ (gi out ((out.length : Int) - 1)).path = (gi l i).path) → inL i l.length ∧ inL ((out.length : Int) - 1) out.length) ∧ ((((((out.length : Int) - 1) ≥ 0 ∧ (gi out ((out.length : Int) - 1)).path = (gi l i).path) ∧ (gi l i).n = (gi out ((out.length : Int) - 1)).to) → (inL ((out.length : Int) - 1) out.length ∧ inI (((gi out ((out.length : Int) - 1)).to) + 1) ∧ (inI (i + 1) ∧ again2 ((si out ((out.length : Int) - 1) (Span.mk ((gi out ((out.length : Int) - 1)).path) ((gi out ((out.length : Int) - 1)).from_) (((gi out ((out.length : Int) - 1)).to) + 1))), (i + 1))))) ∧ (((¬ ((out.length : Int) - 1) ≥ 0 ∨ ¬ (gi out ((out.length : Int) - 1)).path = (gi l i).path) ∨ ¬ (gi l i).n = (gi out ((out.length : Int) - 1)).to) → (inL i l.length ∧ inI (((gi l i).n) + 1) ∧ ((out.length + ([(Span.mk ((gi l i).path) ((gi l i).n) (((gi l i).n) + 1))] : List Span).length) * 32 ≤ 140737488355328 ∧ out.length + ([(Span.mk ((gi l i).path) ((gi l i).n) (((gi l i).n) + 1))] : List Span).length ≤ 9223372036854775807) ∧ (inI (i + 1) ∧ again2 ((out ++ ([(Span.mk ((gi l i).path) ((gi l i).n) (((gi l i).n) + 1))] : List Span)), (i + 1)))))))))))) ∧ (¬ i < (l.length : Int) → Q out))
def rpack_vc (l : (List Line)) (Q : (List Span) → Prop) : Prop :=
 lfp (S := (List Span) × Int) (fun again2 ss => rpack_L1 l Q again2 ss.1 ss.2) (([] : List Span), 0)
def eqSpans_L1 (s1 : (List Span)) (s2 : (List Span)) (Q : Bool → Prop) (again2 : Int → Prop) (x : Int) : Prop :=
 ((x < (s1.length : Int) → (inL x s1.length ∧ inL x s2.length ∧ (((eqSpan (gi s1 x) (gi s2 x)) = false → Q false) ∧ ((eqSpan (gi s1 x) (gi s2 x)) = true → (inI (x + 1) ∧ again2 (x + 1)))))) ∧ (¬ x < (s1.length : Int) → Q true))
def eqSpans_vc (s1 : (List Span)) (s2 : (List Span)) (Q : Bool → Prop) : Prop :=
 ((¬ (s1.length : Int) = (s2.length : Int) → Q false) ∧ ((s1.length : Int) = (s2.length : Int) → lfp (S := Int) (fun again2 ss => eqSpans_L1 s1 s2 Q again2 ss) 0))
end Go.Lic
