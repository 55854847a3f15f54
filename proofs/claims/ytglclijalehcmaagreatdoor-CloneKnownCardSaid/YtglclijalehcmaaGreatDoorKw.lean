/-
  The conditions of functions of chapter 26 hold: posts, faults, changes. No program in sight.
-/
import Derived.Test.YtglclijalehcmaaGreatDoorCo2
import Derived.Test.YtglclijalehcmaaGreatDoorLa
import Derived.Test.YtglclijalehcmaaGreatDoorDel
set_option linter.all false
namespace Go.Lic
open Go.Proofs Go.Sort Go.Shelf
theorem ccompare_ok (a : Pst) (b : Pst) (Q : Int → Prop) (h : Q (postCmp a b)) : ccompare_vc a b Q := ⟨by simp, h⟩
theorem sortiP_ok (data : (List Pst)) (a : Int) (b : Int) (p : Pst → Pst → Int) (pD : Pst → Pst → Prop) (Q : Unit → Prop) (hp0 : data = ([] : List Pst)) (hp1 : a = (0 : Int)) (hp2 : b = (0 : Int)) (h : Q (())) : sortiP_vc data a b p pD Q := by
 subst hp0 hp1 hp2
 refine ⟨by omega, fun I hI => hI _ ⟨fun h => by omega, fun _ => h⟩⟩
theorem sortpP_ok (data : (List Pst)) (a : Int) (b : Int) (limit : Int) (p : Pst → Pst → Int) (pD : Pst → Pst → Prop) (Q : Unit → Prop) (hp0 : data = ([] : List Pst)) (hp1 : a = (0 : Int)) (hp2 : b = (0 : Int)) (h : Q (())) : sortpP_vc data a b limit p pD Q := by
 subst hp0 hp1 hp2
 exact fun I hI => hI _ ⟨by omega, fun _ => ⟨rfl, rfl, rfl, h⟩, fun hn => absurd hn (by omega)⟩
theorem sort0P_ok (x : (List Pst)) (p : Pst → Pst → Int) (pD : Pst → Pst → Prop) (Q : Unit → Prop) (hp0 : x = ([] : List Pst)) (h : Q (())) : sort0P_vc x p pD Q := by
 subst hp0
 exact ⟨by decide, by decide, rfl, rfl, rfl, h⟩
theorem postsOf_len (i : Nat) (l : List Print) : (postsOf i l).length = l.length := by simp [postsOf]
theorem flatP_len : ∀ (l : List Text) (i : Nat) (k w : Int), (∀ t ∈ l, okT t) → (flatP i l k w).length ≤ l.length * 1000001
 | [], i, k, w, _ => by simp [flatP]
 | t :: l, i, k, w, h => by
   have h1 := flatP_len l (i + 1) k w (fun u hu => h u (List.mem_cons_of_mem _ hu))
   have h2 := prints_len t k w
   have h3 := (h t (by simp)).2.1
   simp only [flatP, List.length_append, postsOf_len, List.length_cons]
   omega
theorem flatP_at {l : List Text} {x : Int} (h : inL x l.length) (k w : Int) : flatP x.toNat (l.drop x.toNat) k w = postsOf x.toNat (printsF (gi l x) k w).1 ++ flatP (x + 1).toNat (l.drop (x + 1).toNat) k w := by
 rw [drop_gi h, show (x + 1).toNat = x.toNat + 1 by omega]; rfl
theorem postsOf_at {l : List Print} {x : Int} (h : inL x l.length) (i : Nat) : postsOf i (l.drop x.toNat) = ⟨(gi l x).hash, (i : Int), (gi l x).at_⟩ :: postsOf i (l.drop (x + 1).toNat) := by
 rw [drop_gi h]; rfl
theorem cposts_ok (texts : (List Text)) (k : Int) (w : Int) (Q : (List Pst) → Prop) (hp0 : okTs texts) (h : Q (postsF texts k w)) : cposts_vc texts k w Q := by
 have hfl := flatP_len texts 0 k w hp0.2
 have hlen := hp0.1
 unfold postsF at h
 refine lfp2 (cposts_L1 texts k w Q) (fun out x => 0 ≤ x ∧ x ≤ texts.length ∧ out ++ flatP x.toNat (texts.drop x.toNat) k w = flatP 0 texts k w) (fun _ x => (texts.length - x).toNat) (fun out x hst again hag => ?_) ⟨by omega, by omega, rfl⟩
 obtain ⟨h0, h1, h2⟩ := hst
 refine ⟨fun hlt => ⟨by omega, hp0.2 _ (gi_mem (by omega)), ?_⟩, fun hn => ?_⟩
 · rw [flatP_at (by omega)] at h2
   refine lfp2 (cposts_L2 texts k w x again) (fun out1 x1 => 0 ≤ x1 ∧ x1 ≤ (printsF (gi texts x) k w).1.length ∧ out1 ++ (postsOf x.toNat ((printsF (gi texts x) k w).1.drop x1.toNat) ++ flatP (x + 1).toNat (texts.drop (x + 1).toNat) k w) = flatP 0 texts k w) (fun _ x1 => ((printsF (gi texts x) k w).1.length - x1).toNat) (fun out1 x1 hst1 again5 hag5 => ?_) ⟨by omega, by omega, h2⟩
   obtain ⟨g0, g1, g2⟩ := hst1
   have g3 := congrArg List.length g2
   have hpl := prints_len (gi texts x) k w
   have hwl := (hp0.2 _ (gi_mem (l := texts) (i := x) (by omega))).2.1
   simp only [List.length_append] at g3
   refine ⟨fun hlt1 => ⟨by omega, ⟨by simp; omega, by simp; omega⟩, by omega, hag5 _ _ ⟨by omega, by omega, ?_⟩ (by omega)⟩, fun hn1 => ⟨by omega, hag _ _ ⟨by omega, by omega, ?_⟩ (by omega)⟩⟩
   · rw [postsOf_at (by omega), show ((x.toNat : Nat) : Int) = x by omega] at g2
     rw [← g2]; simp
   · rw [drop_end hn1] at g2
     exact g2
 · rw [drop_end hn] at h2
   simp only [flatP, List.append_nil] at h2
   subst h2
   exact ⟨⟨postCmp_swo, by omega⟩, h⟩
theorem eqPst_iff (a b : Pst) : eqPst a b = true ↔ a = b := by
 obtain ⟨a1, a2, a3⟩ := a; obtain ⟨b1, b2, b3⟩ := b
 simp [eqPst]
theorem eqPosts_ok (s1 : (List Pst)) (s2 : (List Pst)) (Q : Bool → Prop) (hp0 : s1.length ≤ 9223372036854775807) (h : Q ((decide (s1 = s2)))) : eqPosts_vc s1 s2 Q := eq_gen eqPst eqPst_iff s1 s2 Q hp0 h
def pathAt (l : List Text) (i : Int) : Option ByteArray := if i > 0 then some (gi l (i - 1)).path else none
theorem checkT_at {l : List Text} {x : Int} (h : inL x l.length) : checkT (pathAt l x) (l.drop x.toNat) = if validT (gi l x) then if (x > 0 → sless (gi l (x - 1)).path (gi l x).path = true) then checkT (pathAt l (x + 1)) (l.drop (x + 1).toNat) else 5 else 1 := by
 rw [drop_gi h, checkT]
 have e : pathAt l (x + 1) = some (gi l x).path := by unfold pathAt; rw [if_pos (by omega), show x + 1 - 1 = x by omega]
 rw [e]
 by_cases hv : validT (gi l x) = true
 · rw [if_pos hv, if_pos hv]
   by_cases hx : x > 0
   · have e2 : pathAt l x = some (gi l (x - 1)).path := by unfold pathAt; rw [if_pos hx]
     rw [e2]
     simp only [Option.all_some]
     by_cases hs : sless (gi l (x - 1)).path (gi l x).path = true
     · rw [if_pos hs, if_pos (fun _ => hs)]
     · rw [if_neg hs, if_neg (fun k => hs (k hx))]
   · have e2 : pathAt l x = none := by unfold pathAt; rw [if_neg hx]
     rw [e2, if_pos (show (Option.all (fun q => sless q (gi l x).path) none = true) from rfl), if_pos (fun k => absurd k hx)]
 · rw [if_neg hv, if_neg hv]
theorem le_sless (a b : ByteArray) : (sless a b || decide (a = b)) = true ↔ ¬ sless b a = true := by
 rw [Bool.or_eq_true, decide_eq_true_eq]
 constructor
 · rintro (h | h)
   · exact sl_asymm h
   · rw [h]; exact sl_irrefl _
 · intro h
   rcases sl_tri a b with h1 | h1 | h1
   · exact .inl h1
   · exact .inr h1
   · exact absurd h1 h
theorem ccheck_ok (c : Corpus) (Q : Int → Prop) (hp0 : okC c) (h : Q (checkF c)) : ccheck_vc c Q := by
 unfold checkF at h
 refine ⟨fun hb => by rw [if_neg (sizes_not hb)] at h; exact h, fun hg => ?_⟩
 rw [if_pos ((sizes_iff _ _).2 hg)] at h
 refine ⟨fun hb => by rw [if_pos (by omega)] at h; exact h, fun hs => ?_⟩
 rw [if_neg (by omega)] at h
 refine lfp_of (fun x : Int => 0 ≤ x ∧ x ≤ c.texts.length ∧ checkT (pathAt c.texts x) (c.texts.drop x.toNat) = checkT none c.texts) (fun x => (c.texts.length - x).toNat) (fun x hst again hag => ?_) ⟨by omega, by omega, rfl⟩
 obtain ⟨h0, h1, h2⟩ := hst
 refine ⟨fun hlt => ?_, fun hn => ?_⟩
 · rw [checkT_at (by omega)] at h2
   refine ⟨by omega, hp0.1.2 _ (gi_mem (by omega)), fun hv => ?_, fun hv => ⟨fun hx => ⟨by omega, by omega⟩, fun hb => ?_, fun hb => ⟨by omega, hag _ ⟨by omega, by omega, ?_⟩ (by omega)⟩⟩⟩
   · rw [hv, if_neg (by decide)] at h2
     rw [← h2, if_neg (by decide)] at h; exact h
   · rw [hv, if_pos rfl, if_neg (fun k => (le_sless _ _).1 hb.2 (k hb.1))] at h2
     rw [← h2, if_neg (by decide)] at h; exact h
   · rw [hv, if_pos rfl, if_pos] at h2
     · exact h2
     · intro hx
       rcases hb with hb | hb
       · exact absurd hx hb
       · cases hs2 : sless (gi c.texts (x - 1)).path (gi c.texts x).path with
         | true => rfl
         | false => rw [(le_sless _ _).2 (by rw [hs2]; decide)] at hb; cases hb
 · rw [drop_end hn, checkT] at h2
   rw [← h2, if_pos rfl] at h
   refine ⟨hp0.1, by have := hp0.2; omega, fun hf => ?_, fun ht => ?_⟩
   · rw [if_neg (of_decide_eq_false hf)] at h; exact h
   · rw [if_pos (of_decide_eq_true ht)] at h; exact h
end Go.Lic
set_option linter.all false
namespace Go.Lic
open Go.Proofs Go.Sort Go.Shelf
theorem c26fewt_ok (l : (List Text)) (Q : Bool → Prop) (h : Q (fewTs l)) : c26fewt_vc l Q := by
 unfold fewTs at h
 refine ⟨fun hb => by rw [decide_eq_false (by omega)] at h; exact h, fun hg => ?_⟩
 rw [decide_eq_true (by omega), Bool.true_and] at h
 refine lfp_of (fun x : Int => 0 ≤ x ∧ x ≤ l.length ∧ (l.drop x.toNat).all (fun t => fewW t.words && decide (t.path.size ≤ 200)) = l.all (fun t => fewW t.words && decide (t.path.size ≤ 200))) (fun x => (l.length - x).toNat) (fun x hst again hag => ?_) ⟨by omega, by omega, rfl⟩
 obtain ⟨h0, h1, h2⟩ := hst
 refine ⟨fun hlt => ?_, fun hn => ?_⟩
 · rw [drop_gi (by omega), List.all_cons] at h2
   refine ⟨by omega, fun hb => ?_, fun hs => ⟨by omega, hag _ ⟨by omega, by omega, ?_⟩ (by omega)⟩⟩
   · have e : (fewW (gi l x).words && decide ((gi l x).path.size ≤ 200)) = false := by
       rcases hb with hb | hb
       · rw [hb, Bool.false_and]
       · rw [decide_eq_false (by omega), Bool.and_false]
     rw [e, Bool.false_and] at h2
     rw [← h2] at h; exact h
   · rw [hs.1, decide_eq_true (by omega), Bool.true_and, Bool.true_and] at h2
     exact h2
 · rw [drop_end hn] at h2
   rw [← h2] at h; exact h
theorem c26few_ok (c : Corpus) (Q : Bool → Prop) (h : Q (fewC c)) : c26few_vc c Q := by
 unfold fewC at h
 have e : decide ((c.posts.length : Int) ≤ 300) = decide (c.posts.length ≤ 300) := decide_eq_decide.2 (by omega)
 unfold c26few_vc
 rw [e]; exact h
end Go.Lic
set_option linter.all false
namespace Go.Lic
structure Piece where
 from_ : Int
 to : Int
 text : Int
 at_ : Int
deriving DecidableEq
instance : Inhabited Piece := ⟨⟨default, default, default, default⟩⟩
structure Attribution where
 path : ByteArray
 pieces : (List Piece)
deriving DecidableEq
instance : Inhabited Attribution := ⟨⟨default, default⟩⟩
end Go.Lic
set_option linter.all false
namespace Go.Lic
open Go.Sort
def runMax (a : List Lexeme) : List Lexeme → Nat
 | [] => 0
 | x :: l => max (commonW (x :: l) a) (runMax a l)
def longW (ts : List Text) (a : List Lexeme) : Nat := ts.foldl (fun m t => max m (runMax a t.words)) 0
def longsN (ts : List Text) : List Lexeme → List Nat
 | [] => []
 | w :: l => longW ts (w :: l) :: longsN ts l
def textF (path s : ByteArray) : Text := ⟨path, (sbytes s).map fun b => ⟨bstr [b], 0⟩⟩
end Go.Lic
set_option linter.all false
namespace Go.Lic
open Go.Sort
theorem common_le : ∀ a b : List Lexeme, commonW a b ≤ a.length ∧ commonW a b ≤ b.length
 | [], b => by simp [commonW]
 | _ :: _, [] => by simp [commonW]
 | x :: a, y :: b => by
   rw [commonW]
   have := common_le a b
   split <;> simp <;> omega
@[simp] theorem longsN_len (ts : List Text) : ∀ l : List Lexeme, (longsN ts l).length = l.length
 | [] => rfl
 | w :: l => by simp [longsN, longsN_len ts l]
end Go.Lic
set_option linter.all false
namespace Go.Lic
open Go.Proofs Go.Sort Go.Shelf
theorem hash_texts : ∀ (a b : List Lexeme) (h : Int), a.map (fun x => x.text) = b.map (fun x => x.text) → a.foldl (fun h w => pushF h w.text) h = b.foldl (fun h w => pushF h w.text) h
 | [], [], _, _ => rfl
 | x :: a, y :: b, h, e => by
   simp only [List.map_cons, List.cons.injEq] at e
   simp only [List.foldl_cons]
   rw [e.1]; exact hash_texts a b _ e.2
 | [], _ :: _, _, e => by simp at e
 | _ :: _, [], _, e => by simp at e
theorem grams_at {l : List Lexeme} {k i : Nat} (h : i + k ≤ l.length) : gi (gramsL l k) (i : Int) = hashF ((l.drop i).take k) := by
 rw [gi_nat (by rw [grams_len]; omega)]; simp [gramsL]
theorem common_map : ∀ (a b : List Lexeme) (n : Nat), n ≤ commonW a b → (a.take n).map (fun x => x.text) = (b.take n).map (fun x => x.text)
 | _, _, 0, _ => by simp
 | [], _, n + 1, h => by simp [commonW] at h
 | _ :: _, [], n + 1, h => by simp [commonW] at h
 | x :: a, y :: b, n + 1, h => by
   simp only [commonW] at h
   split at h
   · next e => simp only [List.take_succ_cons, List.map_cons, e, common_map a b n (by omega)]
   · omega
theorem guarantee {a b : List Lexeme} {k w i j : Nat} (hk : 0 < k) (hw : 0 < w) (hi : i ≤ a.length) (hj : j ≤ b.length) (h : k + w - 1 ≤ commonW (a.drop i) (b.drop j)) : ∃ (d : Nat) (g : Int), d < w ∧ (⟨g, (i : Int) + d⟩ : Print) ∈ printsL a k w ∧ (⟨g, (j : Int) + d⟩ : Print) ∈ printsL b k w := by
 obtain ⟨c1, c2⟩ := common_le (a.drop i) (b.drop j)
 rw [List.length_drop] at c1 c2
 have hg : ∀ d : Nat, d < w → gi (gramsL a k) ((i : Int) + d) = gi (gramsL b k) ((j : Int) + d) := fun d hd => by
   rw [show (i : Int) + d = ((i + d : Nat) : Int) by omega, show (j : Int) + d = ((j + d : Nat) : Int) by omega, grams_at (by omega), grams_at (by omega)]
   refine hash_texts _ _ _ ?_
   have e := congrArg (fun l => (l.drop d).take k) (common_map _ _ _ h)
   simp only [List.map_take, List.map_drop, List.drop_take, List.take_take, List.drop_drop] at e
   rw [Nat.min_eq_left (by omega)] at e
   simpa [List.map_take, List.map_drop] using e
 have h1 := leastF_spec (l := gramsL a k) (show (i : Int) < (i : Int) + w by omega)
 obtain ⟨m, hm⟩ : ∃ m, m = leastF (gramsL a k) (i : Int) ((i : Int) + w) := ⟨_, rfl⟩
 rw [← hm] at h1
 obtain ⟨d, hd⟩ : ∃ d : Nat, m = (i : Int) + d := ⟨(m - i).toNat, by have := h1.1; omega⟩
 subst hd
 have hdw : d < w := by have := h1.2.1; omega
 have h2 : IsL (gramsL b k) (j : Int) ((j : Int) + w) ((j : Int) + d) := ⟨by omega, by omega, fun x x1 x2 => by
     obtain ⟨e, rfl⟩ : ∃ e : Nat, x = (j : Int) + e := ⟨(x - j).toNat, by omega⟩
     rw [← hg d hdw, ← hg e (by omega)]; exact h1.2.2.1 _ (by omega) (by omega), fun x x1 x2 => by
     obtain ⟨e, rfl⟩ : ∃ e : Nat, x = (j : Int) + e := ⟨(x - j).toNat, by omega⟩
     rw [← hg d hdw, ← hg e (by omega)]; exact h1.2.2.2 _ (by omega) (by omega)⟩
 refine ⟨d, gi (gramsL a k) ((i : Int) + d), hdw, ?_, ?_⟩
 · unfold printsL
   rw [List.mem_map]
   exact ⟨_, (selL_mem hw).2 ⟨i, by rw [grams_len]; omega, h1⟩, rfl⟩
 · unfold printsL
   rw [List.mem_map]
   exact ⟨_, (selL_mem hw).2 ⟨j, by rw [grams_len]; omega, h2⟩, by rw [hg d hdw]⟩
end Go.Lic
