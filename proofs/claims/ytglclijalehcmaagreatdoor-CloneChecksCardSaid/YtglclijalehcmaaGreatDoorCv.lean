/-
  The conditions of functions of chapters 23 to 26, printed from their code.
-/
import Derived.Test.YtglclijalehcmaaGreatDoorCp
import Derived.Test.YtglclijalehcmaaGreatDoorCv0
set_option linter.all false
namespace Go.Lic
open Go.Proofs Go.Sort
def blank_vc (c : Int) (Q : Bool → Prop) : Prop :=
 Q ((decide (c ≤ 32)) || (c == 127))
def ixB_L1 (s_ : (List Int)) (p : Int → Bool) (pD : Int → Prop) (Q : Int → Prop) (again1 : Int → Prop) (x : Int) : Prop :=
 ((x < (s_.length : Int) → (inL x s_.length ∧ pD (gi s_ x) ∧ (((p (gi s_ x)) = true → Q x) ∧ ((p (gi s_ x)) = false → (inI (x + 1) ∧ again1 (x + 1)))))) ∧ (¬ x < (s_.length : Int) → Q (-1)))
def ixB_vc (s_ : (List Int)) (p : Int → Bool) (pD : Int → Prop) (Q : Int → Prop) : Prop :=
 lfp (S := Int) (fun again1 ss => ixB_L1 s_ p pD Q again1 ss) 0
def cfB_vc (s_ : (List Int)) (p : Int → Bool) (pD : Int → Prop) (Q : Bool → Prop) : Prop :=
 (s_.length ≤ 9223372036854775807 ∧ (∀ z_ ∈ s_, pD z_) ∧ Q (decide ((idxOf p s_) ≥ 0)))
def nvalid_L1 (t : Text) (Q : Bool → Prop) (again3 : Int × Int → Prop) (least : Int) (x : Int) : Prop :=
 ((x < (t.words.length : Int) → (inL x t.words.length ∧ ((¬ (gi t.words x).text = (⟨#[]⟩ : ByteArray) → (sbytes ((gi t.words x).text)).length ≤ 9223372036854775807 ∧ (∀ z_ ∈ (sbytes ((gi t.words x).text)), (fun (x0_ : Int) => True) z_)) ∧ ((((((gi t.words x).text = (⟨#[]⟩ : ByteArray) ∨ ((sbytes ((gi t.words x).text)).any (fun (x0_ : Int) => blankF x0_)) = true) ∨ (gi t.words x).line < least) ∨ (gi t.words x).line ≥ 1024) → Q false) ∧ ((((¬ (gi t.words x).text = (⟨#[]⟩ : ByteArray) ∧ ((sbytes ((gi t.words x).text)).any (fun (x0_ : Int) => blankF x0_)) = false) ∧ ¬ (gi t.words x).line < least) ∧ ¬ (gi t.words x).line ≥ 1024) → (inI (x + 1) ∧ again3 ((gi t.words x).line, (x + 1)))))))) ∧ (¬ x < (t.words.length : Int) → Q true))
def nvalid_vc (t : Text) (Q : Bool → Prop) : Prop :=
 ((¬ (t.words.length : Int) > 8192 → t.path.size ≤ 1000000) ∧ ((((t.words.length : Int) > 8192 ∨ ¬ (pathF t.path) = 0) → Q false) ∧ ((¬ (t.words.length : Int) > 8192 ∧ (pathF t.path) = 0) → lfp (S := Int × Int) (fun again3 ss => nvalid_L1 t Q again3 ss.1 ss.2) (0, 0))))
def n23blank_vc (c : Int) (Q : Bool → Prop) : Prop :=
 Q ((decide (c ≤ 32)) || (c == 127))
def n23valid_L2 (t : Text) (i : Int) (Q : Bool → Prop) (again3 : Int → Prop) (again7 : Int → Prop) (k : Int) : Prop :=
 ((k < (((gi t.words i).text).size : Int) → (inL k ((gi t.words i).text).size ∧ (((blankF (sgi ((gi t.words i).text) k)) = true → Q false) ∧ ((blankF (sgi ((gi t.words i).text) k)) = false → (inI (k + 1) ∧ again7 (k + 1)))))) ∧ (¬ k < (((gi t.words i).text).size : Int) → (inI (i + 1) ∧ again3 (i + 1))))
def n23valid_L1 (t : Text) (Q : Bool → Prop) (again3 : Int → Prop) (i : Int) : Prop :=
 ((i < (t.words.length : Int) → (inL i t.words.length ∧ ((((¬ (gi t.words i).text = (⟨#[]⟩ : ByteArray) ∧ ¬ (gi t.words i).line < 0) ∧ ¬ (gi t.words i).line ≥ 1024) → (i > 0 → inI (i - 1) ∧ inL (i - 1) t.words.length)) ∧ ((((((gi t.words i).text = (⟨#[]⟩ : ByteArray) ∨ (gi t.words i).line < 0) ∨ (gi t.words i).line ≥ 1024) ∨ (i > 0 ∧ (gi t.words i).line < (gi t.words (i - 1)).line)) → Q false) ∧ ((((¬ (gi t.words i).text = (⟨#[]⟩ : ByteArray) ∧ ¬ (gi t.words i).line < 0) ∧ ¬ (gi t.words i).line ≥ 1024) ∧ (¬ i > 0 ∨ ¬ (gi t.words i).line < (gi t.words (i - 1)).line)) → lfp (S := Int) (fun again7 ss => n23valid_L2 t i Q again3 again7 ss) 0))))) ∧ (¬ i < (t.words.length : Int) → Q true))
def n23valid_vc (t : Text) (Q : Bool → Prop) : Prop :=
 (t.path.size ≤ 1000000 ∧ ((((pathB t.path) = false ∨ (t.words.length : Int) > 8192) → Q false) ∧ (((pathB t.path) = true ∧ ¬ (t.words.length : Int) > 8192) → lfp (S := Int) (fun again3 ss => n23valid_L1 t Q again3 ss) 0)))
def gadd_J1 (Q : Int → Prop) (n : Int) : Prop :=
 ((n ≥ 2305843009213693951 → (inI (n - 2305843009213693951) ∧ Q (n - 2305843009213693951))) ∧ (¬ n ≥ 2305843009213693951 → Q n))
def gadd_vc (a : Int) (b : Int) (Q : Int → Prop) : Prop :=
 (inI (a + b) ∧ (((a + b) ≥ 2305843009213693951 → (inI ((a + b) - 2305843009213693951) ∧ gadd_J1 Q ((a + b) - 2305843009213693951))) ∧ (¬ (a + b) ≥ 2305843009213693951 → gadd_J1 Q (a + b))))
def gmul_vc (a : Int) (b : Int) (Q : Int → Prop) : Prop :=
 ((0 : Int) ≤ (IntKind.u64.wrap a) ∧ (IntKind.u64.wrap a) ≤ (18446744073709551615 : Int) ∧ (0 : Int) ≤ (IntKind.u64.wrap b) ∧ (IntKind.u64.wrap b) ≤ (18446744073709551615 : Int) ∧ ((0 : Int) ≤ 3 ∧ (0 : Int) ≤ 61 ∧ (0 : Int) ≤ (IntKind.i64.wrap (gand .u64 ((mul64F (IntKind.u64.wrap a) (IntKind.u64.wrap b)).2) 2305843009213693951)) ∧ (IntKind.i64.wrap (gand .u64 ((mul64F (IntKind.u64.wrap a) (IntKind.u64.wrap b)).2) 2305843009213693951)) ≤ PR ∧ (0 : Int) ≤ (IntKind.i64.wrap (gor .u64 (gshl .u64 ((mul64F (IntKind.u64.wrap a) (IntKind.u64.wrap b)).1) 3) (gshr .u64 ((mul64F (IntKind.u64.wrap a) (IntKind.u64.wrap b)).2) 61))) ∧ (IntKind.i64.wrap (gor .u64 (gshl .u64 ((mul64F (IntKind.u64.wrap a) (IntKind.u64.wrap b)).1) 3) (gshr .u64 ((mul64F (IntKind.u64.wrap a) (IntKind.u64.wrap b)).2) 61))) ≤ PR ∧ Q (addP (IntKind.i64.wrap (gand .u64 ((mul64F (IntKind.u64.wrap a) (IntKind.u64.wrap b)).2) 2305843009213693951)) (IntKind.i64.wrap (gor .u64 (gshl .u64 ((mul64F (IntKind.u64.wrap a) (IntKind.u64.wrap b)).1) 3) (gshr .u64 ((mul64F (IntKind.u64.wrap a) (IntKind.u64.wrap b)).2) 61))))))
def gcode_L1 (word : ByteArray) (Q : Int → Prop) (again1 : Int × Int → Prop) (c : Int) (x : Int) : Prop :=
 ((x < (word.size : Int) → ((0 : Int) ≤ 257 ∧ 257 < PR ∧ (0 : Int) ≤ c ∧ c < PR ∧ inL x word.size ∧ inI ((IntKind.i64.wrap (sgi word x)) + 1) ∧ (0 : Int) ≤ (mulP 257 c) ∧ (mulP 257 c) ≤ PR ∧ (0 : Int) ≤ ((IntKind.i64.wrap (sgi word x)) + 1) ∧ ((IntKind.i64.wrap (sgi word x)) + 1) ≤ PR ∧ (inI (x + 1) ∧ again1 ((addP (mulP 257 c) ((IntKind.i64.wrap (sgi word x)) + 1)), (x + 1))))) ∧ (¬ x < (word.size : Int) → Q c))
def gcode_vc (word : ByteArray) (Q : Int → Prop) : Prop :=
 lfp (S := Int × Int) (fun again1 ss => gcode_L1 word Q again1 ss.1 ss.2) (0, 0)
def gpower_L1 (Q : Int → Prop) (again1 : Int × Int × Int → Prop) (n1 : Int) (out : Int) (square : Int) : Prop :=
 ((n1 > 0 → (((0 : Int) ≤ n1 ∧ (0 : Int) < 2) ∧ (((n1 % 2) = 1 → ((0 : Int) ≤ out ∧ out < PR ∧ (0 : Int) ≤ square ∧ square < PR ∧ ((0 : Int) ≤ square ∧ square < PR ∧ ((((0 : Int) ≤ n1 ∧ (0 : Int) < 2) ∧ n1 ≤ 9223372036854775807) ∧ again1 ((n1 / 2), (mulP out square), (mulP square square)))))) ∧ (¬ (n1 % 2) = 1 → ((0 : Int) ≤ square ∧ square < PR ∧ ((((0 : Int) ≤ n1 ∧ (0 : Int) < 2) ∧ n1 ≤ 9223372036854775807) ∧ again1 ((n1 / 2), out, (mulP square square)))))))) ∧ (¬ n1 > 0 → Q out))
def gpower_vc (n : Int) (Q : Int → Prop) : Prop :=
 lfp (S := Int × Int × Int) (fun again1 ss => gpower_L1 Q again1 ss.1 ss.2.1 ss.2.2) (n, 1, 1000003)
def gpush_vc (hash : Int) (word : ByteArray) (Q : Int → Prop) : Prop :=
 ((0 : Int) ≤ 1000003 ∧ 1000003 < PR ∧ (0 : Int) ≤ hash ∧ hash < PR ∧ word.size ≤ 1000000 ∧ (0 : Int) ≤ (codeF word) ∧ (codeF word) ≤ PR ∧ (0 : Int) ≤ 1 ∧ 1 ≤ PR ∧ (0 : Int) ≤ (mulP 1000003 hash) ∧ (mulP 1000003 hash) ≤ PR ∧ (0 : Int) ≤ (addP (codeF word) 1) ∧ (addP (codeF word) 1) ≤ PR ∧ Q (addP (mulP 1000003 hash) (addP (codeF word) 1)))
def ghash_L1 (l : (List Lexeme)) (Q : Int → Prop) (again1 : Int × Int → Prop) (h_ : Int) (x : Int) : Prop :=
 ((x < (l.length : Int) → (inL x l.length ∧ ((0 : Int) ≤ h_ ∧ h_ < PR ∧ ((gi l x).text).size ≤ 1000000 ∧ (inI (x + 1) ∧ again1 ((pushF h_ ((gi l x).text)), (x + 1)))))) ∧ (¬ x < (l.length : Int) → Q h_))
def ghash_vc (l : (List Lexeme)) (Q : Int → Prop) : Prop :=
 lfp (S := Int × Int) (fun again1 ss => ghash_L1 l Q again1 ss.1 ss.2) (0, 0)
def groll_vc (hash : Int) (out : ByteArray) (in_ : ByteArray) (top : Int) (Q : Int → Prop) : Prop :=
 (out.size ≤ 1000000 ∧ (0 : Int) ≤ (codeF out) ∧ (codeF out) ≤ PR ∧ (0 : Int) ≤ 1 ∧ 1 ≤ PR ∧ (0 : Int) ≤ (addP (codeF out) 1) ∧ (addP (codeF out) 1) < PR ∧ (0 : Int) ≤ top ∧ top < PR ∧ (inI (2305843009213693951 - (mulP (addP (codeF out) 1) top)) ∧ (0 : Int) ≤ hash ∧ hash ≤ PR ∧ (0 : Int) ≤ (2305843009213693951 - (mulP (addP (codeF out) 1) top)) ∧ (2305843009213693951 - (mulP (addP (codeF out) 1) top)) ≤ PR ∧ (0 : Int) ≤ (addP hash (2305843009213693951 - (mulP (addP (codeF out) 1) top))) ∧ (addP hash (2305843009213693951 - (mulP (addP (codeF out) 1) top))) < PR ∧ in_.size ≤ 1000000 ∧ Q (pushF (addP hash (2305843009213693951 - (mulP (addP (codeF out) 1) top))) in_)))
def ggrams_L1 (l : (List Lexeme)) (k : Int) (Q : (List Int) × Int → Prop) (again5 : (List Int) × Int → Prop) (out : (List Int)) (x : Int) : Prop :=
 ((x < ((lsub l k (l.length : Int)).length : Int) → (inL x (lsub l k (l.length : Int)).length ∧ (inL x out.length ∧ inL x l.length ∧ (0 : Int) ≤ (gi out x) ∧ (gi out x) < PR ∧ ((gi l x).text).size ≤ 1000000 ∧ ((gi (lsub l k (l.length : Int)) x).text).size ≤ 1000000 ∧ (0 : Int) ≤ (powF (k - 1)) ∧ (powF (k - 1)) < PR ∧ ((out.length + ([(rollF (gi out x) ((gi l x).text) ((gi (lsub l k (l.length : Int)) x).text) (powF (k - 1)))] : List Int).length) * 8 ≤ 140737488355328 ∧ out.length + ([(rollF (gi out x) ((gi l x).text) ((gi (lsub l k (l.length : Int)) x).text) (powF (k - 1)))] : List Int).length ≤ 9223372036854775807) ∧ (inI (x + 1) ∧ again5 ((out ++ ([(rollF (gi out x) ((gi l x).text) ((gi (lsub l k (l.length : Int)) x).text) (powF (k - 1)))] : List Int)), (x + 1)))))) ∧ (¬ x < ((lsub l k (l.length : Int)).length : Int) → Q (out, 0)))
def ggrams_vc (l : (List Lexeme)) (k : Int) (Q : (List Int) × Int → Prop) : Prop :=
 (((k < 1 ∨ k > 8192) → Q ([], 3)) ∧ ((¬ k < 1 ∧ ¬ k > 8192) → (((l.length : Int) > 8192 → Q ([], 10)) ∧ (¬ (l.length : Int) > 8192 → (((l.length : Int) < k → Q ([], 0)) ∧ (¬ (l.length : Int) < k → (inS 0 k l.length ∧ okW (lsub l 0 k) ∧ (inI (k - 1) ∧ (0 : Int) ≤ (k - 1) ∧ (k - 1) ≤ (8192 : Int) ∧ (inS k (l.length : Int) l.length ∧ lfp (S := (List Int) × Int) (fun again5 ss => ggrams_L1 l k Q again5 ss.1 ss.2) (([(hashF (lsub l 0 k))] : List Int), 0))))))))))
def g24few_L1 (l : (List Lexeme)) (Q : Bool → Prop) (again2 : Int → Prop) (i : Int) : Prop :=
 ((i < (l.length : Int) → (inL i l.length ∧ (((((gi l i).text).size : Int) > 40 → Q false) ∧ (¬ (((gi l i).text).size : Int) > 40 → (inI (i + 1) ∧ again2 (i + 1)))))) ∧ (¬ i < (l.length : Int) → Q true))
def g24few_vc (l : (List Lexeme)) (Q : Bool → Prop) : Prop :=
 (((l.length : Int) > 40 → Q false) ∧ (¬ (l.length : Int) > 40 → lfp (S := Int) (fun again2 ss => g24few_L1 l Q again2 ss) 0))
def wsize_vc (n : Int) (Q : Bool → Prop) : Prop :=
 Q ((decide (n ≥ 1)) && (decide (n ≤ 1024)))
def wselect_J1 (w : Int) (out : (List Int)) (x : Int) (again5 : (List Int) × (List Int) × Int → Prop) (list_2 : (List Int)) : Prop :=
 (inI (w - 1) ∧ (x ≥ (w - 1) → (¬ (out.length : Int) = 0 → inI ((out.length : Int) - 1) ∧ inL ((out.length : Int) - 1) out.length ∧ inL 0 list_2.length)) ∧ (((x ≥ (w - 1) ∧ ((out.length : Int) = 0 ∨ ¬ (gi out ((out.length : Int) - 1)) = (gi list_2 0))) → (inL 0 list_2.length ∧ ((out.length + ([(gi list_2 0)] : List Int).length) * 8 ≤ 140737488355328 ∧ out.length + ([(gi list_2 0)] : List Int).length ≤ 9223372036854775807) ∧ (inI (x + 1) ∧ again5 (list_2, (out ++ ([(gi list_2 0)] : List Int)), (x + 1))))) ∧ ((¬ x ≥ (w - 1) ∨ (¬ (out.length : Int) = 0 ∧ (gi out ((out.length : Int) - 1)) = (gi list_2 0))) → (inI (x + 1) ∧ again5 (list_2, out, (x + 1))))))
def wselect_L2 (l : (List Int)) (w : Int) (out : (List Int)) (x : Int) (again5 : (List Int) × (List Int) × Int → Prop) (again7 : (List Int) → Prop) (list_1 : (List Int)) : Prop :=
 (((list_1.length : Int) > 0 → inI ((list_1.length : Int) - 1) ∧ inL ((list_1.length : Int) - 1) list_1.length ∧ inL (gi list_1 ((list_1.length : Int) - 1)) l.length ∧ inL x l.length) ∧ ((((list_1.length : Int) > 0 ∧ (gi l (gi list_1 ((list_1.length : Int) - 1))) ≥ (gi l x)) → (inI ((list_1.length : Int) - 1) ∧ inS 0 ((list_1.length : Int) - 1) list_1.length ∧ again7 (lsub list_1 0 ((list_1.length : Int) - 1)))) ∧ ((¬ (list_1.length : Int) > 0 ∨ ¬ (gi l (gi list_1 ((list_1.length : Int) - 1))) ≥ (gi l x)) → (((list_1.length + ([x] : List Int).length) * 8 ≤ 140737488355328 ∧ list_1.length + ([x] : List Int).length ≤ 9223372036854775807) ∧ (inL 0 (list_1 ++ ([x] : List Int)).length ∧ inI (x - w) ∧ (((gi (list_1 ++ ([x] : List Int)) 0) ≤ (x - w) → (inS 1 ((list_1 ++ ([x] : List Int)).length : Int) (list_1 ++ ([x] : List Int)).length ∧ wselect_J1 w out x again5 (lsub (list_1 ++ ([x] : List Int)) 1 ((list_1 ++ ([x] : List Int)).length : Int)))) ∧ (¬ (gi (list_1 ++ ([x] : List Int)) 0) ≤ (x - w) → wselect_J1 w out x again5 (list_1 ++ ([x] : List Int)))))))))
def wselect_L1 (l : (List Int)) (w : Int) (Q : (List Int) × Int → Prop) (again5 : (List Int) × (List Int) × Int → Prop) (list_ : (List Int)) (out : (List Int)) (x : Int) : Prop :=
 ((x < (l.length : Int) → lfp (S := (List Int)) (fun again7 ss => wselect_L2 l w out x again5 again7 ss) list_) ∧ (¬ x < (l.length : Int) → Q (out, 0)))
def wselect_vc (l : (List Int)) (w : Int) (Q : (List Int) × Int → Prop) : Prop :=
 (((sizeF w) = false → Q ([], 3)) ∧ ((sizeF w) = true → (((l.length : Int) > 8192 → Q ([], 10)) ∧ (¬ (l.length : Int) > 8192 → lfp (S := (List Int) × (List Int) × Int) (fun again5 ss => wselect_L1 l w Q again5 ss.1 ss.2.1 ss.2.2) (([] : List Int), ([] : List Int), 0)))))
def wprints_L1 (t : Text) (k : Int) (w : Int) (Q : (List Print) × Int → Prop) (again7 : (List Print) × Int → Prop) (out : (List Print)) (x : Int) : Prop :=
 ((x < (((selectF ((gramsF t.words k).1) w).1).length : Int) → (inL x ((selectF ((gramsF t.words k).1) w).1).length ∧ (inL (gi ((selectF ((gramsF t.words k).1) w).1) x) ((gramsF t.words k).1).length ∧ ((out.length + ([(Print.mk (gi ((gramsF t.words k).1) (gi ((selectF ((gramsF t.words k).1) w).1) x)) (gi ((selectF ((gramsF t.words k).1) w).1) x))] : List Print).length) * 16 ≤ 140737488355328 ∧ out.length + ([(Print.mk (gi ((gramsF t.words k).1) (gi ((selectF ((gramsF t.words k).1) w).1) x)) (gi ((selectF ((gramsF t.words k).1) w).1) x))] : List Print).length ≤ 9223372036854775807) ∧ (inI (x + 1) ∧ again7 ((out ++ ([(Print.mk (gi ((gramsF t.words k).1) (gi ((selectF ((gramsF t.words k).1) w).1) x)) (gi ((selectF ((gramsF t.words k).1) w).1) x))] : List Print)), (x + 1)))))) ∧ (¬ x < (((selectF ((gramsF t.words k).1) w).1).length : Int) → Q (out, 0)))
def wprints_vc (t : Text) (k : Int) (w : Int) (Q : (List Print) × Int → Prop) : Prop :=
 (okT t ∧ (((validT t) = false → Q ([], 1)) ∧ ((validT t) = true → ((((sizeF k) = false ∨ (sizeF w) = false) → Q ([], 3)) ∧ (((sizeF k) = true ∧ (sizeF w) = true) → (okW t.words ∧ ((¬ (gramsF t.words k).2 = 0 → Q ([], (gramsF t.words k).2)) ∧ ((gramsF t.words k).2 = 0 → (((gramsF t.words k).1).length ≤ 1000000 ∧ ((¬ (selectF ((gramsF t.words k).1) w).2 = 0 → Q ([], (selectF ((gramsF t.words k).1) w).2)) ∧ ((selectF ((gramsF t.words k).1) w).2 = 0 → lfp (S := (List Print) × Int) (fun again7 ss => wprints_L1 t k w Q again7 ss.1 ss.2) (([] : List Print), 0))))))))))))
def wguar_vc (k : Int) (w : Int) (Q : Int × Int → Prop) : Prop :=
 ((((sizeF k) = false ∨ (sizeF w) = false) → Q (0, 3)) ∧ (((sizeF k) = true ∧ (sizeF w) = true) → (inI (k + w) ∧ inI ((k + w) - 1) ∧ Q (((k + w) - 1), 0))))
def c26fewt_L1 (l : (List Text)) (Q : Bool → Prop) (again2 : Int → Prop) (i : Int) : Prop :=
 ((i < (l.length : Int) → (inL i l.length ∧ ((((fewW ((gi l i).words)) = false ∨ (((gi l i).path).size : Int) > 200) → Q false) ∧ (((fewW ((gi l i).words)) = true ∧ ¬ (((gi l i).path).size : Int) > 200) → (inI (i + 1) ∧ again2 (i + 1)))))) ∧ (¬ i < (l.length : Int) → Q true))
def c26fewt_vc (l : (List Text)) (Q : Bool → Prop) : Prop :=
 (((l.length : Int) > 5 → Q false) ∧ (¬ (l.length : Int) > 5 → lfp (S := Int) (fun again2 ss => c26fewt_L1 l Q again2 ss) 0))
end Go.Lic
