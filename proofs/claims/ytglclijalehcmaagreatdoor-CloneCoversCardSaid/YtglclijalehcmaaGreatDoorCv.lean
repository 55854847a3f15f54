/-
  Posts: their order, their sorted list; texts in order.
-/
import Derived.Test.YtglclijalehcmaaGreatDoorCe
import Derived.Test.YtglclijalehcmaaGreatDoorLm
import Derived.Test.YtglclijalehcmaaGreatDoorCv0
set_option linter.all false
namespace Go.Lic
open Go.Proofs Go.Sort
structure Tot {T : Type} (lt : T → T → Prop) : Prop where
 irrefl : ∀ a, ¬ lt a a
 trans : ∀ a b c, lt a b → lt b c → lt a c
 tri : ∀ a b, lt a b ∨ a = b ∨ lt b a
section
variable {T : Type} {lt : T → T → Prop}
theorem Tot.ntrans (h : Tot lt) {a b c : T} (h1 : ¬ lt a b) (h2 : ¬ lt b c) : ¬ lt a c := by
 intro h3
 rcases h.tri a b with h4 | rfl | h4
 · exact h1 h4
 · exact h2 h3
 · exact h2 (h.trans _ _ _ h4 h3)
theorem Tot.swo (h : Tot lt) {cf : T → T → Int} (he : ∀ a b, cf a b < 0 ↔ lt a b) : SWO (ltOf cf) := by
 have h1 : ∀ a b, ltOf cf a b = true ↔ lt a b := fun a b => by unfold ltOf; rw [decide_eq_true_eq]; exact he a b
 have h2 : ∀ a b, ltOf cf a b = false ↔ ¬ lt a b := fun a b => by rw [← h1]; simp
 exact { irrefl := fun a => (h2 _ _).2 (h.irrefl a), trans := fun a b c k1 k2 => (h1 _ _).2 (h.trans _ _ _ ((h1 _ _).1 k1) ((h1 _ _).1 k2)), ntrans := fun a b c k1 k2 => (h2 _ _).2 (h.ntrans ((h2 _ _).1 k1) ((h2 _ _).1 k2)) }
end
abbrev PoLt (a b : Pst) : Prop := postLt a b = true
theorem poLt_iff (a b : Pst) : PoLt a b ↔ a.hash < b.hash ∨ (a.hash = b.hash ∧ (a.text < b.text ∨ (a.text = b.text ∧ a.at_ < b.at_))) := by
 unfold PoLt postLt; simp
theorem post_tot : Tot PoLt where
 irrefl a := by rw [poLt_iff]; omega
 trans a b c := by rw [poLt_iff, poLt_iff, poLt_iff]; omega
 tri a b := by
   rw [poLt_iff, poLt_iff]
   obtain ⟨a1, a2, a3⟩ := a; obtain ⟨b1, b2, b3⟩ := b
   simp only [Pst.mk.injEq]
   omega
theorem orF3 (x y z : Int) : orF [x, y, z] = if x ≠ 0 then x else if y ≠ 0 then y else z := by
 unfold orF
 by_cases h1 : x = 0
 · by_cases h2 : y = 0
   · by_cases h3 : z = 0 <;> simp [h1, h2, h3]
   · simp [h1, h2]
 · simp [h1]
theorem cmpI_neg (a b : Int) : cmpI a b < 0 ↔ a < b := by unfold cmpI; split <;> (try split) <;> omega
theorem cmpI_zero (a b : Int) : cmpI a b = 0 ↔ a = b := by unfold cmpI; split <;> (try split) <;> omega
theorem postCmp_neg (a b : Pst) : postCmp a b < 0 ↔ PoLt a b := by
 rw [poLt_iff]
 unfold postCmp
 rw [orF3]
 have h1 := cmpI_neg a.hash b.hash; have h2 := cmpI_zero a.hash b.hash
 have h3 := cmpI_neg a.text b.text; have h4 := cmpI_zero a.text b.text
 have h5 := cmpI_neg a.at_ b.at_
 generalize cmpI a.hash b.hash = x at *
 generalize cmpI a.text b.text = y at *
 generalize cmpI a.at_ b.at_ = z at *
 split
 · omega
 · split <;> omega
theorem postCmp_swo : SWO (ltOf postCmp) := post_tot.swo postCmp_neg
abbrev TLt (a b : Text) : Prop := sless a.path b.path = true
theorem checkT_iff : ∀ (l : List Text) (p : Option ByteArray), checkT p l = 0 ↔ (∀ t ∈ l, validT t = true) ∧ l.Pairwise TLt ∧ (∀ q t, p = some q → l.head? = some t → sless q t.path = true)
 | [], p => by simp [checkT]
 | t :: l, p => by
   unfold checkT
   by_cases hv : validT t = true
   · rw [if_pos hv]
     by_cases hp : (p.all fun q => sless q t.path) = true
     · rw [if_pos hp, checkT_iff l (some t.path)]
       constructor
       · rintro ⟨h1, h2, h3⟩
         refine ⟨fun u hu => ?_, List.pairwise_cons.2 ⟨fun u hu => ?_, h2⟩, fun q u hq hu => ?_⟩
         · rcases List.mem_cons.1 hu with rfl | hu
           · exact hv
           · exact h1 u hu
         · cases l with
           | nil => cases hu
           | cons v l =>
             have hv2 := h3 _ v rfl rfl
             rcases List.mem_cons.1 hu with rfl | hu
             · exact hv2
             · exact sl_trans hv2 ((List.pairwise_cons.1 h2).1 u hu)
         · subst hq; simp at hu; subst hu; simpa using hp
       · rintro ⟨h1, h2, h3⟩
         obtain ⟨h4, h5⟩ := List.pairwise_cons.1 h2
         refine ⟨fun u hu => h1 u (List.mem_cons_of_mem _ hu), h5, fun q u hq hu => ?_⟩
         cases hq
         exact h4 u (by cases l with | nil => cases hu | cons v l => simp at hu; simp [hu])
     · rw [if_neg hp]
       refine ⟨fun h => absurd h (by decide), fun ⟨_, _, h3⟩ => absurd ?_ hp⟩
       cases p with
       | none => rfl
       | some q => exact h3 q t rfl rfl
   · rw [if_neg hv]
     exact ⟨fun h => absurd h (by decide), fun ⟨h1, _⟩ => absurd (h1 t (by simp)) hv⟩
theorem checkT_none (l : List Text) : checkT none l = 0 ↔ (∀ t ∈ l, validT t = true) ∧ l.Pairwise TLt := by
 rw [checkT_iff]; simp
end Go.Lic
set_option linter.all false
namespace Go.Lic
open Go.Proofs Go.Sort
def blank_vc (c : Int) (Q : Bool → Prop) : Prop :=
 Q ((decide (c ≤ 32)) || (c == 127))
def ixB_L1 (s_ : (List Int)) (p : Int → Bool) (pD : Int → Prop) (Q : Int → Prop) (again1 : Int → Prop) (x : Int) : Prop :=
 ((x < (s_.length : Int) → (inL x s_.length ∧ pD (gi s_ x) ∧ (((p (gi s_ x)) = true → Q x) ∧ ((p (gi s_ x)) = false → (inI (x + 1) ∧ again1 (x + 1)))))) ∧ (¬ x < (s_.length : Int) → Q (-1)))
def ixB_vc (s_ : (List Int)) (p : Int → Bool) (pD : Int → Prop) (Q : Int → Prop) : Prop :=
 lfp (S := Int) (fun again1 ss => ixB_L1 s_ p pD Q again1 ss) 0
def cfB_vc (s_ : (List Int)) (p : Int → Bool) (pD : Int → Prop) (Q : Bool → Prop) : Prop :=
 (s_.length ≤ 9223372036854775807 ∧ (∀ z_ ∈ s_, pD z_) ∧ Q (decide ((idxOf p s_) ≥ 0)))
def nvalid_L1 (t : Text) (Q : Bool → Prop) (again3 : Int × Int → Prop) (least : Int) (x : Int) : Prop :=
 ((x < (t.words.length : Int) → (inL x t.words.length ∧ ((¬ (gi t.words x).text = (⟨#[]⟩ : ByteArray) → (sbytes ((gi t.words x).text)).length ≤ 9223372036854775807 ∧ (∀ z_ ∈ (sbytes ((gi t.words x).text)), (fun (x0_ : Int) => True) z_)) ∧ ((((((gi t.words x).text = (⟨#[]⟩ : ByteArray) ∨ ((sbytes ((gi t.words x).text)).any (fun (x0_ : Int) => blankF x0_)) = true) ∨ (gi t.words x).line < least) ∨ (gi t.words x).line ≥ 1024) → Q false) ∧ ((((¬ (gi t.words x).text = (⟨#[]⟩ : ByteArray) ∧ ((sbytes ((gi t.words x).text)).any (fun (x0_ : Int) => blankF x0_)) = false) ∧ ¬ (gi t.words x).line < least) ∧ ¬ (gi t.words x).line ≥ 1024) → (inI (x + 1) ∧ again3 ((gi t.words x).line, (x + 1)))))))) ∧ (¬ x < (t.words.length : Int) → Q true))
def nvalid_vc (t : Text) (Q : Bool → Prop) : Prop :=
 ((¬ (t.words.length : Int) > 8192 → t.path.size ≤ 1000000) ∧ ((((t.words.length : Int) > 8192 ∨ ¬ (pathF t.path) = 0) → Q false) ∧ ((¬ (t.words.length : Int) > 8192 ∧ (pathF t.path) = 0) → lfp (S := Int × Int) (fun again3 ss => nvalid_L1 t Q again3 ss.1 ss.2) (0, 0))))
def gadd_J1 (Q : Int → Prop) (n : Int) : Prop :=
 ((n ≥ 2305843009213693951 → (inI (n - 2305843009213693951) ∧ Q (n - 2305843009213693951))) ∧ (¬ n ≥ 2305843009213693951 → Q n))
def gadd_vc (a : Int) (b : Int) (Q : Int → Prop) : Prop :=
 (inI (a + b) ∧ (((a + b) ≥ 2305843009213693951 → (inI ((a + b) - 2305843009213693951) ∧ gadd_J1 Q ((a + b) - 2305843009213693951))) ∧ (¬ (a + b) ≥ 2305843009213693951 → gadd_J1 Q (a + b))))
def gmul_vc (a : Int) (b : Int) (Q : Int → Prop) : Prop :=
 ((0 : Int) ≤ (IntKind.u64.wrap a) ∧ (IntKind.u64.wrap a) ≤ (18446744073709551615 : Int) ∧ (0 : Int) ≤ (IntKind.u64.wrap b) ∧ (IntKind.u64.wrap b) ≤ (18446744073709551615 : Int) ∧ ((0 : Int) ≤ 3 ∧ (0 : Int) ≤ 61 ∧ (0 : Int) ≤ (IntKind.i64.wrap (gand .u64 ((mul64F (IntKind.u64.wrap a) (IntKind.u64.wrap b)).2) 2305843009213693951)) ∧ (IntKind.i64.wrap (gand .u64 ((mul64F (IntKind.u64.wrap a) (IntKind.u64.wrap b)).2) 2305843009213693951)) ≤ PR ∧ (0 : Int) ≤ (IntKind.i64.wrap (gor .u64 (gshl .u64 ((mul64F (IntKind.u64.wrap a) (IntKind.u64.wrap b)).1) 3) (gshr .u64 ((mul64F (IntKind.u64.wrap a) (IntKind.u64.wrap b)).2) 61))) ∧ (IntKind.i64.wrap (gor .u64 (gshl .u64 ((mul64F (IntKind.u64.wrap a) (IntKind.u64.wrap b)).1) 3) (gshr .u64 ((mul64F (IntKind.u64.wrap a) (IntKind.u64.wrap b)).2) 61))) ≤ PR ∧ Q (addP (IntKind.i64.wrap (gand .u64 ((mul64F (IntKind.u64.wrap a) (IntKind.u64.wrap b)).2) 2305843009213693951)) (IntKind.i64.wrap (gor .u64 (gshl .u64 ((mul64F (IntKind.u64.wrap a) (IntKind.u64.wrap b)).1) 3) (gshr .u64 ((mul64F (IntKind.u64.wrap a) (IntKind.u64.wrap b)).2) 61))))))
def gcode_L1 (word : ByteArray) (Q : Int → Prop) (again1 : Int × Int → Prop) (c : Int) (x : Int) : Prop :=
 ((x < (word.size : Int) → ((0 : Int) ≤ 257 ∧ 257 < PR ∧ (0 : Int) ≤ c ∧ c < PR ∧ inL x word.size ∧ inI ((IntKind.i64.wrap (sgi word x)) + 1) ∧ (0 : Int) ≤ (mulP 257 c) ∧ (mulP 257 c) ≤ PR ∧ (0 : Int) ≤ ((IntKind.i64.wrap (sgi word x)) + 1) ∧ ((IntKind.i64.wrap (sgi word x)) + 1) ≤ PR ∧ (inI (x + 1) ∧ again1 ((addP (mulP 257 c) ((IntKind.i64.wrap (sgi word x)) + 1)), (x + 1))))) ∧ (¬ x < (word.size : Int) → Q c))
def gcode_vc (word : ByteArray) (Q : Int → Prop) : Prop :=
 lfp (S := Int × Int) (fun again1 ss => gcode_L1 word Q again1 ss.1 ss.2) (0, 0)
def gpower_L1 (Q : Int → Prop) (again1 : Int × Int × Int → Prop) (n1 : Int) (out : Int) (square : Int) : Prop :=
 ((n1 > 0 → (((0 : Int) ≤ n1 ∧ (0 : Int) < 2) ∧ (((n1 % 2) = 1 → ((0 : Int) ≤ out ∧ out < PR ∧ (0 : Int) ≤ square ∧ square < PR ∧ ((0 : Int) ≤ square ∧ square < PR ∧ ((((0 : Int) ≤ n1 ∧ (0 : Int) < 2) ∧ n1 ≤ 9223372036854775807) ∧ again1 ((n1 / 2), (mulP out square), (mulP square square)))))) ∧ (¬ (n1 % 2) = 1 → ((0 : Int) ≤ square ∧ square < PR ∧ ((((0 : Int) ≤ n1 ∧ (0 : Int) < 2) ∧ n1 ≤ 9223372036854775807) ∧ again1 ((n1 / 2), out, (mulP square square)))))))) ∧ (¬ n1 > 0 → Q out))
def gpower_vc (n : Int) (Q : Int → Prop) : Prop :=
 lfp (S := Int × Int × Int) (fun again1 ss => gpower_L1 Q again1 ss.1 ss.2.1 ss.2.2) (n, 1, 1000003)
def gpush_vc (hash : Int) (word : ByteArray) (Q : Int → Prop) : Prop :=
 ((0 : Int) ≤ 1000003 ∧ 1000003 < PR ∧ (0 : Int) ≤ hash ∧ hash < PR ∧ word.size ≤ 1000000 ∧ (0 : Int) ≤ (codeF word) ∧ (codeF word) ≤ PR ∧ (0 : Int) ≤ 1 ∧ 1 ≤ PR ∧ (0 : Int) ≤ (mulP 1000003 hash) ∧ (mulP 1000003 hash) ≤ PR ∧ (0 : Int) ≤ (addP (codeF word) 1) ∧ (addP (codeF word) 1) ≤ PR ∧ Q (addP (mulP 1000003 hash) (addP (codeF word) 1)))
def ghash_L1 (l : (List Lexeme)) (Q : Int → Prop) (again1 : Int × Int → Prop) (h_ : Int) (x : Int) : Prop :=
 ((x < (l.length : Int) → (inL x l.length ∧ ((0 : Int) ≤ h_ ∧ h_ < PR ∧ ((gi l x).text).size ≤ 1000000 ∧ (inI (x + 1) ∧ again1 ((pushF h_ ((gi l x).text)), (x + 1)))))) ∧ (¬ x < (l.length : Int) → Q h_))
def ghash_vc (l : (List Lexeme)) (Q : Int → Prop) : Prop :=
 lfp (S := Int × Int) (fun again1 ss => ghash_L1 l Q again1 ss.1 ss.2) (0, 0)
def groll_vc (hash : Int) (out : ByteArray) (in_ : ByteArray) (top : Int) (Q : Int → Prop) : Prop :=
 (out.size ≤ 1000000 ∧ (0 : Int) ≤ (codeF out) ∧ (codeF out) ≤ PR ∧ (0 : Int) ≤ 1 ∧ 1 ≤ PR ∧ (0 : Int) ≤ (addP (codeF out) 1) ∧ (addP (codeF out) 1) < PR ∧ (0 : Int) ≤ top ∧ top < PR ∧ (inI (2305843009213693951 - (mulP (addP (codeF out) 1) top)) ∧ (0 : Int) ≤ hash ∧ hash ≤ PR ∧ (0 : Int) ≤ (2305843009213693951 - (mulP (addP (codeF out) 1) top)) ∧ (2305843009213693951 - (mulP (addP (codeF out) 1) top)) ≤ PR ∧ (0 : Int) ≤ (addP hash (2305843009213693951 - (mulP (addP (codeF out) 1) top))) ∧ (addP hash (2305843009213693951 - (mulP (addP (codeF out) 1) top))) < PR ∧ in_.size ≤ 1000000 ∧ Q (pushF (addP hash (2305843009213693951 - (mulP (addP (codeF out) 1) top))) in_)))
def ggrams_L1 (l : (List Lexeme)) (k : Int) (Q : (List Int) × Int → Prop) (again5 : (List Int) × Int → Prop) (out : (List Int)) (x : Int) : Prop :=
 ((x < ((lsub l k (l.length : Int)).length : Int) → (inL x (lsub l k (l.length : Int)).length ∧ (inL x out.length ∧ inL x l.length ∧ (0 : Int) ≤ (gi out x) ∧ (gi out x) < PR ∧ ((gi l x).text).size ≤ 1000000 ∧ ((gi (lsub l k (l.length : Int)) x).text).size ≤ 1000000 ∧ (0 : Int) ≤ (powF (k - 1)) ∧ (powF (k - 1)) < PR ∧ ((out.length + ([(rollF (gi out x) ((gi l x).text) ((gi (lsub l k (l.length : Int)) x).text) (powF (k - 1)))] : List Int).length) * 8 ≤ 140737488355328 ∧ out.length + ([(rollF (gi out x) ((gi l x).text) ((gi (lsub l k (l.length : Int)) x).text) (powF (k - 1)))] : List Int).length ≤ 9223372036854775807) ∧ (inI (x + 1) ∧ again5 ((out ++ ([(rollF (gi out x) ((gi l x).text) ((gi (lsub l k (l.length : Int)) x).text) (powF (k - 1)))] : List Int)), (x + 1)))))) ∧ (¬ x < ((lsub l k (l.length : Int)).length : Int) → Q (out, 0)))
def ggrams_vc (l : (List Lexeme)) (k : Int) (Q : (List Int) × Int → Prop) : Prop :=
 (((k < 1 ∨ k > 8192) → Q ([], 3)) ∧ ((¬ k < 1 ∧ ¬ k > 8192) → (((l.length : Int) > 8192 → Q ([], 10)) ∧ (¬ (l.length : Int) > 8192 → (((l.length : Int) < k → Q ([], 0)) ∧ (¬ (l.length : Int) < k → (inS 0 k l.length ∧ okW (lsub l 0 k) ∧ (inI (k - 1) ∧ (0 : Int) ≤ (k - 1) ∧ (k - 1) ≤ (8192 : Int) ∧ (inS k (l.length : Int) l.length ∧ lfp (S := (List Int) × Int) (fun again5 ss => ggrams_L1 l k Q again5 ss.1 ss.2) (([(hashF (lsub l 0 k))] : List Int), 0))))))))))
def g24few_L1 (l : (List Lexeme)) (Q : Bool → Prop) (again2 : Int → Prop) (i : Int) : Prop :=
 ((i < (l.length : Int) → (inL i l.length ∧ (((((gi l i).text).size : Int) > 40 → Q false) ∧ (¬ (((gi l i).text).size : Int) > 40 → (inI (i + 1) ∧ again2 (i + 1)))))) ∧ (¬ i < (l.length : Int) → Q true))
def g24few_vc (l : (List Lexeme)) (Q : Bool → Prop) : Prop :=
 (((l.length : Int) > 40 → Q false) ∧ (¬ (l.length : Int) > 40 → lfp (S := Int) (fun again2 ss => g24few_L1 l Q again2 ss) 0))
def wsize_vc (n : Int) (Q : Bool → Prop) : Prop :=
 Q ((decide (n ≥ 1)) && (decide (n ≤ 1024)))
def wselect_J1 (w : Int) (out : (List Int)) (x : Int) (again5 : (List Int) × (List Int) × Int → Prop) (list_2 : (List Int)) : Prop :=
 (inI (w - 1) ∧ (x ≥ (w - 1) → (¬ (out.length : Int) = 0 → inI ((out.length : Int) - 1) ∧ inL ((out.length : Int) - 1) out.length ∧ inL 0 list_2.length)) ∧ (((x ≥ (w - 1) ∧ ((out.length : Int) = 0 ∨ ¬ (gi out ((out.length : Int) - 1)) = (gi list_2 0))) → (inL 0 list_2.length ∧ ((out.length + ([(gi list_2 0)] : List Int).length) * 8 ≤ 140737488355328 ∧ out.length + ([(gi list_2 0)] : List Int).length ≤ 9223372036854775807) ∧ (inI (x + 1) ∧ again5 (list_2, (out ++ ([(gi list_2 0)] : List Int)), (x + 1))))) ∧ ((¬ x ≥ (w - 1) ∨ (¬ (out.length : Int) = 0 ∧ (gi out ((out.length : Int) - 1)) = (gi list_2 0))) → (inI (x + 1) ∧ again5 (list_2, out, (x + 1))))))
def wselect_L2 (l : (List Int)) (w : Int) (out : (List Int)) (x : Int) (again5 : (List Int) × (List Int) × Int → Prop) (again7 : (List Int) → Prop) (list_1 : (List Int)) : Prop :=
 (((list_1.length : Int) > 0 → inI ((list_1.length : Int) - 1) ∧ inL ((list_1.length : Int) - 1) list_1.length ∧ inL (gi list_1 ((list_1.length : Int) - 1)) l.length ∧ inL x l.length) ∧ ((((list_1.length : Int) > 0 ∧ (gi l (gi list_1 ((list_1.length : Int) - 1))) ≥ (gi l x)) → (inI ((list_1.length : Int) - 1) ∧ inS 0 ((list_1.length : Int) - 1) list_1.length ∧ again7 (lsub list_1 0 ((list_1.length : Int) - 1)))) ∧ ((¬ (list_1.length : Int) > 0 ∨ ¬ (gi l (gi list_1 ((list_1.length : Int) - 1))) ≥ (gi l x)) → (((list_1.length + ([x] : List Int).length) * 8 ≤ 140737488355328 ∧ list_1.length + ([x] : List Int).length ≤ 9223372036854775807) ∧ (inL 0 (list_1 ++ ([x] : List Int)).length ∧ inI (x - w) ∧ (((gi (list_1 ++ ([x] : List Int)) 0) ≤ (x - w) → (inS 1 ((list_1 ++ ([x] : List Int)).length : Int) (list_1 ++ ([x] : List Int)).length ∧ wselect_J1 w out x again5 (lsub (list_1 ++ ([x] : List Int)) 1 ((list_1 ++ ([x] : List Int)).length : Int)))) ∧ (¬ (gi (list_1 ++ ([x] : List Int)) 0) ≤ (x - w) → wselect_J1 w out x again5 (list_1 ++ ([x] : List Int)))))))))
def wselect_L1 (l : (List Int)) (w : Int) (Q : (List Int) × Int → Prop) (again5 : (List Int) × (List Int) × Int → Prop) (list_ : (List Int)) (out : (List Int)) (x : Int) : Prop :=
 ((x < (l.length : Int) → lfp (S := (List Int)) (fun again7 ss => wselect_L2 l w out x again5 again7 ss) list_) ∧ (¬ x < (l.length : Int) → Q (out, 0)))
def wselect_vc (l : (List Int)) (w : Int) (Q : (List Int) × Int → Prop) : Prop :=
 (((sizeF w) = false → Q ([], 3)) ∧ ((sizeF w) = true → (((l.length : Int) > 8192 → Q ([], 10)) ∧ (¬ (l.length : Int) > 8192 → lfp (S := (List Int) × (List Int) × Int) (fun again5 ss => wselect_L1 l w Q again5 ss.1 ss.2.1 ss.2.2) (([] : List Int), ([] : List Int), 0)))))
def wprints_L1 (t : Text) (k : Int) (w : Int) (Q : (List Print) × Int → Prop) (again7 : (List Print) × Int → Prop) (out : (List Print)) (x : Int) : Prop :=
 ((x < (((selectF ((gramsF t.words k).1) w).1).length : Int) → (inL x ((selectF ((gramsF t.words k).1) w).1).length ∧ (inL (gi ((selectF ((gramsF t.words k).1) w).1) x) ((gramsF t.words k).1).length ∧ ((out.length + ([(Print.mk (gi ((gramsF t.words k).1) (gi ((selectF ((gramsF t.words k).1) w).1) x)) (gi ((selectF ((gramsF t.words k).1) w).1) x))] : List Print).length) * 16 ≤ 140737488355328 ∧ out.length + ([(Print.mk (gi ((gramsF t.words k).1) (gi ((selectF ((gramsF t.words k).1) w).1) x)) (gi ((selectF ((gramsF t.words k).1) w).1) x))] : List Print).length ≤ 9223372036854775807) ∧ (inI (x + 1) ∧ again7 ((out ++ ([(Print.mk (gi ((gramsF t.words k).1) (gi ((selectF ((gramsF t.words k).1) w).1) x)) (gi ((selectF ((gramsF t.words k).1) w).1) x))] : List Print)), (x + 1)))))) ∧ (¬ x < (((selectF ((gramsF t.words k).1) w).1).length : Int) → Q (out, 0)))
def wprints_vc (t : Text) (k : Int) (w : Int) (Q : (List Print) × Int → Prop) : Prop :=
 (okT t ∧ (((validT t) = false → Q ([], 1)) ∧ ((validT t) = true → ((((sizeF k) = false ∨ (sizeF w) = false) → Q ([], 3)) ∧ (((sizeF k) = true ∧ (sizeF w) = true) → (okW t.words ∧ ((¬ (gramsF t.words k).2 = 0 → Q ([], (gramsF t.words k).2)) ∧ ((gramsF t.words k).2 = 0 → (((gramsF t.words k).1).length ≤ 1000000 ∧ ((¬ (selectF ((gramsF t.words k).1) w).2 = 0 → Q ([], (selectF ((gramsF t.words k).1) w).2)) ∧ ((selectF ((gramsF t.words k).1) w).2 = 0 → lfp (S := (List Print) × Int) (fun again7 ss => wprints_L1 t k w Q again7 ss.1 ss.2) (([] : List Print), 0))))))))))))
def wguar_vc (k : Int) (w : Int) (Q : Int × Int → Prop) : Prop :=
 ((((sizeF k) = false ∨ (sizeF w) = false) → Q (0, 3)) ∧ (((sizeF k) = true ∧ (sizeF w) = true) → (inI (k + w) ∧ inI ((k + w) - 1) ∧ Q (((k + w) - 1), 0))))
def c26fewt_L1 (l : (List Text)) (Q : Bool → Prop) (again2 : Int → Prop) (i : Int) : Prop :=
 ((i < (l.length : Int) → (inL i l.length ∧ ((((fewW ((gi l i).words)) = false ∨ (((gi l i).path).size : Int) > 200) → Q false) ∧ (((fewW ((gi l i).words)) = true ∧ ¬ (((gi l i).path).size : Int) > 200) → (inI (i + 1) ∧ again2 (i + 1)))))) ∧ (¬ i < (l.length : Int) → Q true))
def c26fewt_vc (l : (List Text)) (Q : Bool → Prop) : Prop :=
 (((l.length : Int) > 5 → Q false) ∧ (¬ (l.length : Int) > 5 → lfp (S := Int) (fun again2 ss => c26fewt_L1 l Q again2 ss) 0))
def ixInt_L1 (s_ : (List Int)) (v : Int) (Q : Int → Prop) (again1 : Int → Prop) (x : Int) : Prop :=
 ((x < (s_.length : Int) → (inL x s_.length ∧ ((v = (gi s_ x) → Q x) ∧ (¬ v = (gi s_ x) → (inI (x + 1) ∧ again1 (x + 1)))))) ∧ (¬ x < (s_.length : Int) → Q (-1)))
def ixInt_vc (s_ : (List Int)) (v : Int) (Q : Int → Prop) : Prop :=
 lfp (S := Int) (fun again1 ss => ixInt_L1 s_ v Q again1 ss) 0
def ctInt_vc (s_ : (List Int)) (v : Int) (Q : Bool → Prop) : Prop :=
 (s_.length ≤ 9223372036854775807 ∧ Q (decide ((idxOf (fun z_ => decide (z_ = v)) s_) ≥ 0)))
end Go.Lic
