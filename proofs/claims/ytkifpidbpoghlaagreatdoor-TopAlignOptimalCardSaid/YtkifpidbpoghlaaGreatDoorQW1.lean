/-
  Closed facts on the types and functions, each by the kernel.
-/
import Derived.Test.YtkifpidbpoghlaaGreatDoorVr
import Derived.Test.YtkifpidbpoghlaaGreatDoorChecked
import Derived.Test.YtkifpidbpoghlaaGreatDoorRule
import Derived.Test.YtkifpidbpoghlaaGreatDoorSort
set_option linter.all false
namespace Go.Proofs.YtkifpidbpoghlaaGreatDoor
open Go Go.Lic
theorem mo : Tryz.prog.follows .mixedOrders = true := by kernel_rfl
theorem ti108 : TI Tryz.prog 108 2 true := .mk' zK zK
theorem ti3 : TI Tryz.prog 3 1 false := .mk' zK zK
theorem ti30 : TI Tryz.prog 30 2 true := .mk' zK zK
theorem ti40 : TI Tryz.prog 40 3 true := .mk' zK zK
theorem ti41 : TI Tryz.prog 41 1 false := .mk' zK zK
theorem ti43 : TI Tryz.prog 43 2 true := .mk' zK zK
theorem ti9 : TI Tryz.prog 9 1 false := .mk' zK zK
theorem en39 : entersB Tryz.prog 39 = true := by kernel_rfl
theorem en40 : entersB Tryz.prog 40 = true := by kernel_rfl
theorem en41 : entersB Tryz.prog 41 = true := by kernel_rfl
theorem en84 : entersB Tryz.prog 84 = true := by kernel_rfl
theorem en85 : entersB Tryz.prog 85 = true := by kernel_rfl
theorem td108 : Tryz.prog.underlying 108 = some (.array 2 3) := by kernel_rfl
theorem tf30_0 : fieldOff Tryz.prog 30 0 = some 0 := by kernel_rfl
theorem tf40_0 : fieldOff Tryz.prog 40 0 = some 0 := by kernel_rfl
theorem tf40_1 : fieldOff Tryz.prog 40 1 = some 1 := by kernel_rfl
theorem tf40_2 : fieldOff Tryz.prog 40 2 = some 2 := by kernel_rfl
theorem tf43_1 : fieldOff Tryz.prog 43 1 = some 1 := by kernel_rfl
theorem tp43 : placesOf Tryz.prog 43 = some [(0, 1), (1, 1)] := by kernel_rfl
theorem ts24 : TS Tryz.prog 24 30 2 24 true := ⟨by kernel_rfl, ti30, by kernel_rfl, by kernel_rfl⟩
theorem ts41 : TS Tryz.prog 41 3 1 8 false := ⟨by kernel_rfl, ti3, by kernel_rfl, by kernel_rfl⟩
theorem ts46 : TS Tryz.prog 46 41 1 24 false := ⟨by kernel_rfl, ti41, by kernel_rfl, by kernel_rfl⟩
theorem ts52 : TS Tryz.prog 52 108 2 16 true := ⟨by kernel_rfl, ti108, by kernel_rfl, by kernel_rfl⟩
theorem tz108 : (Tryz.prog.info? 108).bind (·.zero) = some (.agg #[.int .i64 0, .int .i64 0]) := by kernel_rfl
theorem tz3 : (Tryz.prog.info? 3).bind (·.zero) = some (.int .i64 0) := by kernel_rfl
theorem tz41 : (Tryz.prog.info? 41).bind (·.zero) = some (.slice none 0 0) := by kernel_rfl
theorem tz43 : (Tryz.prog.info? 43).bind (·.zero) = some (.agg #[.int .i64 0, .slice none 0 0]) := by kernel_rfl
end Go.Proofs.YtkifpidbpoghlaaGreatDoor
set_option linter.all false
namespace Go.Proofs.YtkifpidbpoghlaaGreatDoor
open Go Go.Lic
theorem table_h (n m : Nat) (hn : n ≤ 1025) (hm : m ≤ 1025) : CallH Tryz.prog 85 [.i (n : Int), .i (m : Int)] [] (fun d h => ∃ r c, d = .own r 1 0 n ∧ h = [(c, .cells 1 ((List.replicate (n * m) (0 : Int)).map D.i)), (r, .cells 1 (rowsD c n m))]) := by
 have e4 : (n : Int) * (m : Int) ≤ 1025 * 1025 := Int.mul_le_mul (by omega) (by omega) (by omega) (by omega)
 have e5 : 0 ≤ (n : Int) * (m : Int) := Int.mul_nonneg (by omega) (by omega)
 refine CallH.of_body Tryz.func85 rfl Tryz.ntmps85 rfl ?_
 refine zac (zaa (wL (OpA.a (zab (zac (zaa (wL (OpA.m ?_))))))))
 refine wL (OpA.makeSlice (d := .v (.slice none 0 0)) rfl ts46 rfl rfl tz41 (fun _ _ => .v _) (.of rfl) (by omega) (by omega) (by omega) (by omega) (fun c9 => ?_))
 refine wL (OpA.a ?_)
 refine zab (zac (zaa (wL (OpA.m (wL (OpA.m ?_))))))
 refine wL (OpA.muli rfl rfl rfl (by omega) ?_)
 refine wL (OpA.makeSlice (d := .v (.int .i64 0)) rfl ts41 rfl rfl tz3 (fun _ _ => .v _) (.of rfl) (by omega) (by omega) (by omega) (by omega) (fun c13 => ?_))
 refine wL (OpA.a ?_)
 refine zab (zac (zac (zaa (wL (OpA.m (wL (OpA.m (zab (zag ?_)))))))))
 refine wpA_loopE (fun mm fr h => ∃ (k : Nat), mm = n - k ∧ (k ≤ n) ∧ fr = asg [(1, .i (m : Int)), (4, .v (.slice none 0 0)), (5, .own c9 1 0 n), (6, .own c13 1 0 (n * m)), (14, .i (n : Int)), (15, .i k)] ∧ h = [(c13, .cells 1 ((List.replicate (n * m) (0 : Int)).map D.i)), (c9, .cells 1 (rowsTo c13 n m k))]) ⟨_, _, ⟨0, rfl, by omega, rfl, (by rw [rowsTo_zero, List.map_replicate]; rfl)⟩, cvZ⟩ ?_
 rintro k fr h ⟨k, rfl, hk, rfl, rfl⟩
 refine zac (zaa ?_)
 refine wL (OpA.lss rfl rfl rfl ?_)
 refine zab (zac ?_)
 refine zae rfl (fun b1 => ?_) (fun b1 => ?_)
 try replace b1 := zI b1
 have e1 : ((k : Int) + 1) * (m : Int) = (k : Int) * (m : Int) + (m : Int) := by rw [Int.add_mul, Int.one_mul]
 have e2 : 0 ≤ (k : Int) * (m : Int) := Int.mul_nonneg (by omega) (by omega)
 have e3 : (k : Int) * (m : Int) + (m : Int) ≤ (n : Int) * (m : Int) := by rw [← e1]; exact Int.mul_le_mul_of_nonneg_right (by omega) (by omega)
 have e4 : (n : Int) * (m : Int) ≤ 1025 * 1025 := Int.mul_le_mul (by omega) (by omega) (by omega) (by omega)
 refine zai (zac (zag (zac (zaa (wL (OpA.m (wL (OpA.a (zab (zaa (wL (OpA.m (wL (OpA.m (wL (OpA.m (wL (OpA.m (wL (OpA.m ?_))))))))))))))))))))
 refine wL (OpA.muli rfl rfl rfl (by omega) ?_)
 refine wL (OpA.m ?_)
 refine wL (OpA.addi rfl rfl rfl (by omega) ?_)
 refine wL (OpA.m ?_)
 refine wL (OpA.muli rfl rfl rfl (by omega) ?_)
 refine wL (OpA.m ?_)
 refine wL (OpA.addi rfl rfl rfl (by omega) ?_)
 refine wL (OpA.m ?_)
 refine wL (OpA.muli rfl rfl rfl (by omega) ?_)
 refine wL (OpA.slice3 rfl ts41 rfl (.some rfl (by omega)) ⟨rfl, by omega⟩ ⟨rfl, by omega⟩ (by omega) (by omega) (by omega) ?_)
 refine wL (OpA.ixN rfl ts46 rfl rfl zN (by omega) ?_)
 refine wE (OpA.storeR rfl ti41 rfl rfl rfl (.of rfl) (by rw [rowsTo_length (by omega)]; omega) rowsTo_flat (.tail .head) ?_)
 refine zab (zaa ?_)
 refine wL (OpA.addi rfl rfl rfl (by omega) ?_)
 refine wL (OpA.m ?_)
 refine zab ?_
 exact ⟨_, _, by omega, ⟨k + 1, rfl, by omega, rfl, (by rw [rowsTo_succ (by omega) (rows_val _ _ _)])⟩, cvZ⟩
 try replace b1 := zI b1
 refine wpA_exit ?_
 refine zac (zaa (wL (OpA.m (wL (OpA.a (zab (zal ?_)))))))
 refine ⟨_, (.tmp zW .nil), ?_⟩
 (have hk : k = n := by omega); subst hk; exact ⟨c9, c13, rfl, by rw [rowsTo_all]⟩
end Go.Proofs.YtkifpidbpoghlaaGreatDoor
set_option linter.all false
namespace Go.Lic
structure Costs where
 change : Int
 drop : Int
 add : Int
structure Alignment where
 cost : Int
 steps : List Int
def encWords (l : List Lexeme) : D := .list 2 (l.map encLex)
def encCosts (c : Costs) : D := .agg [.i c.change, .i c.drop, .i c.add]
def encInts (l : List Int) : D := .list 1 (l.map D.i)
def encAl (x : Alignment) : D := .agg [.i x.cost, encInts x.steps]
def encPair (p : Int × Int) : D := .agg [.i p.1, .i p.2]
def encPairs (l : List (Int × Int)) : D := .list 2 (l.map encPair)
def encTable (l : List (List Int)) : D := .list 1 (l.map encInts)
def costB (n : Int) : Bool := decide (1 ≤ n) && decide (n ≤ 1000)
def alPair (a b : Lexeme) (c : Costs) : Int := if a.text = b.text then 0 else c.change
def alCheck (a b : List Lexeme) (c : Costs) : Int := if costB c.change && costB c.drop && costB c.add then (if a.length > 1024 ∨ b.length > 1024 then 10 else 0) else 3
theorem costB_iff {n : Int} : costB n = true ↔ 1 ≤ n ∧ n ≤ 1000 := by simp [costB]
theorem checkF_zero {a b : List Lexeme} {c : Costs} (h : alCheck a b c = 0) : (1 ≤ c.change ∧ c.change ≤ 1000) ∧ (1 ≤ c.drop ∧ c.drop ≤ 1000) ∧ (1 ≤ c.add ∧ c.add ≤ 1000) ∧ a.length ≤ 1024 ∧ b.length ≤ 1024 := by
 unfold alCheck at h
 split at h
 · rename_i hc
   simp only [Bool.and_eq_true, costB_iff] at hc
   split at h
   · simp at h
   · rename_i hl; omega
 · simp at h
section
variable {a b : List Lexeme} {c : Costs} {i j : Nat} {sum s : Int}
end
theorem pairF_bd {x y : Lexeme} {c : Costs} (h : 1 ≤ c.change ∧ c.change ≤ 1000) : 0 ≤ alPair x y c ∧ alPair x y c ≤ 1000 := by unfold alPair; split <;> omega
def keptStep (st : Nat × Nat × List (Int × Int)) (s : Int) : Option (Nat × Nat × List (Int × Int)) :=
 if s = 1 then some (st.1 + 1, st.2.1 + 1, st.2.2 ++ [((st.1 : Int), (st.2.1 : Int))])
 else if s = 2 then some (st.1 + 1, st.2.1 + 1, st.2.2)
 else if s = 3 then some (st.1 + 1, st.2.1, st.2.2)
 else if s = 4 then some (st.1, st.2.1 + 1, st.2.2)
 else none
def keptR (l : List Int) : Option (Nat × Nat × List (Int × Int)) := l.foldlM keptStep (0, 0, [])
def keptF (x : Alignment) : List (Int × Int) := match keptR x.steps with | none => [] | some (_, _, o) => o
theorem keptR_none {l : List Int} {k : Nat} {st : Nat × Nat × List (Int × Int)} (hk : k < l.length) (h : keptR (l.take k) = some st) (hs : keptStep st l[k] = none) : keptR l = none := by
 unfold keptR at *
 have e : l = l.take k ++ l[k] :: l.drop (k + 1) := by rw [← List.drop_eq_getElem_cons hk, List.take_append_drop]
 rw [e, List.foldlM_append, h]
 show (keptStep st l[k]).bind _ = none
 rw [hs]; rfl
theorem keptR_succ {l : List Int} {k : Nat} {st st' : Nat × Nat × List (Int × Int)} (hk : k < l.length) (h : keptR (l.take k) = some st) (hs : keptStep st l[k] = some st') : keptR (l.take (k + 1)) = some st' := by
 unfold keptR at *
 rw [List.take_succ_eq_append_getElem hk, List.foldlM_append, h]
 show (keptStep st l[k]).bind _ = some st'
 rw [hs]; rfl
theorem keptF_none {x : Alignment} (h : keptR x.steps = none) : keptF x = [] := by simp [keptF, h]
theorem keptF_some {x : Alignment} {k i j : Nat} {o : List (Int × Int)} (hk : x.steps.length ≤ k) (h : keptR (x.steps.take k) = some (i, j, o)) : keptF x = o := by
 rw [List.take_of_length_le hk] at h; simp [keptF, h]
theorem kept1 {i j : Nat} {o : List (Int × Int)} {s : Int} (h : s = 1) : keptStep (i, j, o) s = some (i + 1, j + 1, o ++ [((i : Int), (j : Int))]) := by simp [keptStep, h]
theorem kept2 {i j : Nat} {o : List (Int × Int)} {s : Int} (h : s = 2) : keptStep (i, j, o) s = some (i + 1, j + 1, o) := by simp [keptStep, h]
theorem kept3 {i j : Nat} {o : List (Int × Int)} {s : Int} (h : s = 3) : keptStep (i, j, o) s = some (i + 1, j, o) := by simp [keptStep, h]
theorem kept4 {i j : Nat} {o : List (Int × Int)} {s : Int} (h : s = 4) : keptStep (i, j, o) s = some (i, j + 1, o) := by simp [keptStep, h]
theorem keptNone {i j : Nat} {o : List (Int × Int)} {s : Int} (h : s < 1 ∨ 4 < s) : keptStep (i, j, o) s = none := by
 unfold keptStep; rw [if_neg (by omega), if_neg (by omega), if_neg (by omega), if_neg (by omega)]
theorem snoc_pair {o : List (Int × Int)} {xs : List D} {i j : Nat} (h : xs = o.map encPair) : xs ++ [.agg [.i (i : Int), .i (j : Int)]] = (o ++ [((i : Int), (j : Int))]).map encPair := by simp [h, encPair]
end Go.Lic
set_option linter.all false
namespace Go.Proofs.YtkifpidbpoghlaaGreatDoor
open Go Go.Lic
theorem cost_fun (n : Int) : Fun false Tryz.prog 84 [.i n] (fun d => d = .b (costB n)) := by
 refine Fun.of_body Tryz.func84 rfl Tryz.ntmps84 rfl ?_
 refine zac (zaa (wL (OpA.a (zab (zac (zaa (wL (OpA.m ?_))))))))
 refine wL (OpA.geq rfl rfl rfl ?_)
 refine wL (OpA.m ?_)
 refine zam (s := 5) rfl (fun b1 => ?_) (fun b1 => ?_)
 try replace b1 := zI b1
 refine wG (OpA.m ?_)
 refine wG (OpA.leq rfl rfl rfl ?_)
 refine wL (OpA.p ?_)
 refine wL (OpA.a ?_)
 refine zab (zal ?_)
 refine ⟨_, (.tmp zW .nil), _, (.same rfl .nil), ?_⟩
 (try simp only [tupD]) <;> (first | (simp_all [costB]; done) | (simp_all [costB]; omega))
 try replace b1 := zI b1
 refine wS ?_
 refine wS ?_
 refine wL (OpA.p ?_)
 refine wL (OpA.a ?_)
 refine zab (zal ?_)
 refine ⟨_, (.tmp zW .nil), _, (.same rfl .nil), ?_⟩
 (try simp only [tupD]) <;> (first | (simp_all [costB]; done) | (simp_all [costB]; omega))
theorem pair_fun (a b : Lexeme) (c : Costs) : Fun false Tryz.prog 41 [encLex a, encLex b, encCosts c] (fun d => d = .i (alPair a b c)) := by
 refine Fun.of_body Tryz.func41 rfl Tryz.ntmps41 rfl ?_
 refine zac (zaa ?_)
 refine wL (OpA.bx (sz := 2) rfl zW (.of rfl) (fun c3 _ => ?_))
 refine wL (OpA.bx (sz := 2) rfl zW (.of rfl) (fun c4 _ => ?_))
 refine wL (OpA.bx (sz := 3) rfl zW (.of rfl) (fun c5 _ => ?_))
 refine wL (OpA.a ?_)
 refine zab (zac (zac (zaa ?_)))
 refine wL (OpA.fieldAddr rfl tf30_0 rfl ?_)
 refine wL (OpA.load rfl ti9 rfl (.tail (.tail .head)) zC zC ?_)
 refine wL (OpA.fieldAddr rfl tf30_0 rfl ?_)
 refine wL (OpA.load rfl ti9 rfl (.tail .head) zC zC ?_)
 refine wL (OpA.seql rfl rfl rfl ?_)
 refine zab ?_
 refine zae rfl (fun b1 => ?_) (fun b1 => ?_)
 try replace b1 := zI b1
 refine zac (zaa (wL (OpA.a (zab (zal ?_)))))
 refine ⟨_, (.tmp zW .nil), _, (.same rfl .nil), ?_⟩
 (try simp only [tupD]) <;> (first | (simp_all [alPair]; done) | (simp_all [alPair]; omega))
 try replace b1 := zI b1
 refine zai (zac (zaa ?_))
 refine wL (OpA.fieldAddr rfl tf40_0 rfl ?_)
 refine wL (OpA.load rfl ti3 rfl .head zC zC ?_)
 refine wL (OpA.a ?_)
 refine zab (zal ?_)
 refine ⟨_, (.tmp zW .nil), _, (.same rfl .nil), ?_⟩
 (try simp only [tupD]) <;> (first | (simp_all [alPair]; done) | (simp_all [alPair]; omega))
theorem check_fun (a b : List Lexeme) (c : Costs) : Fun false Tryz.prog 39 [encWords a, encWords b, encCosts c] (fun d => d = .i (alCheck a b c)) := by
 refine Fun.of_body Tryz.func39 rfl Tryz.ntmps39 rfl ?_
 refine zac (zaa ?_)
 refine wL (OpA.bx (sz := 3) rfl zW (.of rfl) (fun c5 _ => ?_))
 refine wL (OpA.a ?_)
 refine zab (zac (zag (zac (zaa ?_))))
 refine wL (OpA.fieldAddr rfl tf40_0 rfl ?_)
 refine wL (OpA.load rfl ti3 rfl .head zC zC ?_)
 refine wL (OpA.call rfl rfl rfl en84 (cost_fun _) ?_)
 rintro _ rfl
 refine wL (OpA.not rfl rfl ?_)
 refine wL (OpA.m ?_)
 refine zam (s := 12) rfl (fun b1 => ?_) (fun b1 => ?_)
 try replace b1 := zI b1
 refine wS ?_
 refine wS ?_
 refine wS ?_
 refine wS ?_
 refine wL (OpA.p ?_)
 refine wL (OpA.m ?_)
 refine wS ?_
 refine wS ?_
 refine wS ?_
 refine wS ?_
 refine wL (OpA.p ?_)
 refine wL (OpA.a ?_)
 refine zab ?_
 refine wpA_condT rfl ?_
 refine zac (zaa (wL (OpA.a (zab (zal ?_)))))
 refine ⟨_, (.tmp zW .nil), _, (.same rfl .nil), ?_⟩
 (try simp only [tupD]) <;> (first | (simp_all [alCheck]; done) | (simp_all [alCheck]; omega))
 try replace b1 := zI b1
 refine wG (OpA.fieldAddr rfl tf40_1 rfl ?_)
 refine wG (OpA.load rfl ti3 rfl .head zC zC ?_)
 refine wG (OpA.call rfl rfl rfl en84 (cost_fun _) ?_)
 rintro _ rfl
 refine wG (OpA.not rfl rfl ?_)
 refine wL (OpA.p ?_)
 refine wL (OpA.m ?_)
 refine zam (s := 18) rfl (fun b2 => ?_) (fun b2 => ?_)
 try replace b2 := zI b2
 refine wS ?_
 refine wS ?_
 refine wS ?_
 refine wS ?_
 refine wL (OpA.p ?_)
 refine wL (OpA.a ?_)
 refine zab ?_
 refine wpA_condT rfl ?_
 refine zac (zaa (wL (OpA.a (zab (zal ?_)))))
 refine ⟨_, (.tmp zW .nil), _, (.same rfl .nil), ?_⟩
 (try simp only [tupD]) <;> (first | (simp_all [alCheck]; done) | (simp_all [alCheck]; omega))
 try replace b2 := zI b2
 refine wG (OpA.fieldAddr rfl tf40_2 rfl ?_)
 refine wG (OpA.load rfl ti3 rfl .head zC zC ?_)
 refine wG (OpA.call rfl rfl rfl en84 (cost_fun _) ?_)
 rintro _ rfl
 refine wG (OpA.not rfl rfl ?_)
 refine wL (OpA.p ?_)
 refine wL (OpA.a ?_)
 refine zab ?_
 refine zae rfl (fun b3 => ?_) (fun b3 => ?_)
 try replace b3 := zI b3
 refine zac (zaa (wL (OpA.a (zab (zal ?_)))))
 refine ⟨_, (.tmp zW .nil), _, (.same rfl .nil), ?_⟩
 (try simp only [tupD]) <;> (first | (simp_all [alCheck]; done) | (simp_all [alCheck]; omega))
 try replace b3 := zI b3
 refine zac (zaa (wL (OpA.m ?_)))
 first
   | refine wL (OpA.len rfl rfl rfl rfl ts24.desc (.inl ⟨_, _, rfl, (List.length_map _).symm⟩) ?_)
   | refine wL (OpA.len rfl rfl rfl rfl ts24.desc (.inl ⟨_, _, rfl, rfl⟩) ?_)
   | refine wL (OpA.len rfl rfl rfl rfl ts24.desc (.inr (.inl ⟨_, _, _, rfl⟩)) ?_)
   | refine wL (OpA.len rfl rfl rfl rfl ts24.desc (.inr (.inr ⟨rfl, rfl⟩)) ?_)
 refine wL (OpA.gtr rfl rfl rfl ?_)
 refine wL (OpA.m ?_)
 refine zam (s := 28) rfl (fun b4 => ?_) (fun b4 => ?_)
 try replace b4 := zI b4
 refine wS ?_
 refine wS ?_
 refine wS ?_
 refine wL (OpA.p ?_)
 refine wL (OpA.a ?_)
 refine zab ?_
 refine wpA_condT rfl ?_
 refine zac (zaa (wL (OpA.a (zab (zal ?_)))))
 refine ⟨_, (.tmp zW .nil), _, (.same rfl .nil), ?_⟩
 (try simp only [tupD]) <;> (first | (simp_all [alCheck]; done) | (simp_all [alCheck]; omega))
 try replace b4 := zI b4
 refine wG (OpA.m ?_)
 first
   | refine wG (OpA.len rfl rfl rfl rfl ts24.desc (.inl ⟨_, _, rfl, (List.length_map _).symm⟩) ?_)
   | refine wG (OpA.len rfl rfl rfl rfl ts24.desc (.inl ⟨_, _, rfl, rfl⟩) ?_)
   | refine wG (OpA.len rfl rfl rfl rfl ts24.desc (.inr (.inl ⟨_, _, _, rfl⟩)) ?_)
   | refine wG (OpA.len rfl rfl rfl rfl ts24.desc (.inr (.inr ⟨rfl, rfl⟩)) ?_)
 refine wG (OpA.gtr rfl rfl rfl ?_)
 refine wL (OpA.p ?_)
 refine wL (OpA.a ?_)
 refine zab ?_
 refine zae rfl (fun b5 => ?_) (fun b5 => ?_)
 try replace b5 := zI b5
 refine zac (zaa (wL (OpA.a (zab (zal ?_)))))
 refine ⟨_, (.tmp zW .nil), _, (.same rfl .nil), ?_⟩
 (try simp only [tupD]) <;> (first | (simp_all [alCheck]; done) | (simp_all [alCheck]; omega))
 try replace b5 := zI b5
 refine zai (zac (zaa (wL (OpA.a (zab (zal ?_))))))
 refine ⟨_, (.tmp zW .nil), _, (.same rfl .nil), ?_⟩
 (try simp only [tupD]) <;> (first | (simp_all [alCheck]; done) | (simp_all [alCheck]; omega))
end Go.Proofs.YtkifpidbpoghlaaGreatDoor
