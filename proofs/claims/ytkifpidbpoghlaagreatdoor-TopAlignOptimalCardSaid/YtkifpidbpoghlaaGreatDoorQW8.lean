/-
  walks
-/
import Derived.Test.YtkifpidbpoghlaaGreatDoorQW7
import Derived.Test.YtkifpidbpoghlaaGreatDoorQl2
set_option linter.all false
namespace Go.Proofs.YtkifpidbpoghlaaGreatDoor
open Go Go.Lic
theorem align_fun (a b : List Lexeme) (c : Costs) : Fun false Tryz.prog 11 [encWords a, encWords b, encCosts c] (fun d => d = encRes (alignR a b c)) := by
 refine Fun.of_body Tryz.func11 rfl Tryz.ntmps11 rfl ?_
 refine zac (zaa ?_)
 refine wL (OpA.bx (sz := 3) rfl zW (.of rfl) (fun c5 _ => ?_))
 refine wL (OpA.alloc (sz := 2) (d := .agg [.v (.int .i64 0), .v (.slice none 0 0)]) rfl tz43 (fun _ _ => .agg (vs := [.int .i64 0, .slice none 0 0]) (.cons (.v _) (.cons (.v _) .nil))) (.of rfl) (fun c6 _ => ?_))
 refine wL (OpA.a ?_)
 refine zab (zac (zac (zaa (wL (OpA.m (wL (OpA.m ?_)))))))
 first
   | refine wL (OpA.load_whole rfl ti40 rfl rfl (.tail .head) zB ⟨_, rfl⟩ ?_)
   | refine wL (OpA.load_agg rfl ti40 rfl (.tail .head) zB rfl rfl ?_)
 refine wL (OpA.call rfl rfl rfl en39 (check_fun _ _ _) ?_)
 rintro _ rfl
 refine wL (OpA.a ?_)
 refine zab (zac (zaa (wL (OpA.m ?_))))
 refine wL (OpA.neq rfl rfl rfl ?_)
 refine zab ?_
 refine zae rfl (fun b1 => ?_) (fun b1 => ?_)
 try replace b1 := zI b1
 refine zac (zaa ?_)
 refine wL (OpA.buildO (zs := [.v (.int .i64 0), .v (.slice none 0 0)]) rfl tp43 tz43 (fun _ _ => (.cons (.v _) (.cons (.v _) .nil))) .nil rfl ?_)
 refine wL (OpA.m ?_)
 refine wE (OpA.storeW rfl ti43 rfl zW (.of rfl) zB rfl .head ?_)
 refine wL (OpA.a ?_)
 refine zab (zal ?_)
 refine ⟨_, (.cell (.whole ti43 rfl rfl .head rfl ⟨_, rfl⟩) (.tmp zW .nil)), _, (.tup (.agg (.same rfl (.nilv (sz := 1) .nil)) (.same rfl .nil)) .nil), ?_⟩
 (try simp only [tupD]) <;> (rw [alignR_err (by assumption)]; rfl)
 try replace b1 := zI b1
 have hck : alCheck a b c = 0 := by omega
 obtain ⟨hok, ha, hb⟩ := checkF_ok hck
 have hcc := checkF_zero hck
 refine zai (zac (zaa (wL (OpA.m (wL (OpA.m ?_))))))
 first
   | refine wL (OpA.load_whole rfl ti40 rfl rfl (.tail .head) zB ⟨_, rfl⟩ ?_)
   | refine wL (OpA.load_agg rfl ti40 rfl (.tail .head) zB rfl rfl ?_)
 refine wL (OpA.call rfl rfl rfl en40 (backs_fun _ _ _ hck) ?_)
 rintro _ rfl
 refine wL (OpA.a ?_)
 refine zab (zac (zaa (wL (OpA.m ?_))))
 refine wL (OpA.iixN rfl ts46 rfl rfl rfl zN zB ?_)
 refine wL (OpA.iload rfl ti41 rfl zB ?_)
 first
   | refine wL (OpA.iixN rfl ts41 rfl rfl rfl zN zB ?_)
   | refine wL (OpA.ixN rfl ts41 rfl rfl zN (by omega) ?_)
 first
   | refine wL (OpA.load rfl ti3 rfl zH zB zB ?_)
   | refine wL (OpA.iload rfl ti3 rfl zB ?_)
 refine wL (OpA.buildO (zs := [.v (.int .i64 0), .v (.slice none 0 0)]) rfl tp43 tz43 (fun _ _ => (.cons (.v _) (.cons (.v _) .nil))) (.cons (.of (sz := 1) rfl) .nil) rfl ?_)
 refine wL (OpA.alloc (sz := 2) (d := .agg [.v (.int .i64 0), .v (.slice none 0 0)]) rfl tz43 (fun _ _ => .agg (vs := [.int .i64 0, .slice none 0 0]) (.cons (.v _) (.cons (.v _) .nil))) (.of rfl) (fun c10 _ => ?_))
 refine wE (OpA.storeW rfl ti43 rfl zW (.of rfl) zB rfl .head ?_)
 refine zab (zac (zac (zaa (wL (OpA.a (wL (OpA.a (zab (zag ?_)))))))))
 refine wpA_ghostM (sz := 1) (es' := fun g => [.agg [.i (edit c a b), .own g 1 0 0]]) (fun g => .head) (fun g => .same (.turn .nil)) (fun g => rfl) (by intro g d hd; rw [List.mem_singleton.1 hd]; exact .of rfl) (fun g => ?_)
 refine wpA_loopE (fun mm fr h => ∃ (i : Nat) (j : Nat) (g : Nat) (pre : List D) (ds : List D) (xs : List Int) (n1 : Nat), mm = a.length + b.length - i - j ∧ (i ≤ a.length ∧ j ≤ b.length ∧ xs ++ alignS c (a.drop i) (b.drop j) = alignS c a b ∧ ds = xs.map D.i ∧ ds.length = n1 ∧ n1 ≤ i + j) ∧ fr = asg [(0, encWords a), (1, encWords b), (5, .ptr c5 3 0 0), (6, .ptr c6 2 0 0), (7, .i 0), (9, encTable (backF a b c)), (10, .ptr c10 2 0 0), (11, .i i), (12, .i j)] ∧ h = [(g, .cells 1 (pre ++ ds)), (c10, .cells 2 [.agg [.i (edit c a b), .own g 1 pre.length n1]]), (c6, .cells 2 [.agg [.i 0, .v (.slice none 0 0)]]), (c5, .cells 3 [encCosts c])]) ⟨_, _, ⟨0, 0, _, [], [], [], 0, rfl, ⟨by omega, by omega, rfl, rfl, rfl, by omega⟩, rfl, rfl⟩, cvZ⟩ ?_
 rintro k fr h ⟨i, j, g, pre, ds, xs, n1, rfl, ⟨hi, hj, hst, hds, hn, hnk⟩, rfl, rfl⟩
 have hx00 := bkv_bd hok ha hb i j
 have hx11 := bkv_bd hok ha hb (i + 1) (j + 1)
 have hx10 := bkv_bd hok ha hb (i + 1) (j)
 have hx01 := bkv_bd hok ha hb (i) (j + 1)
 refine zac (zac (zaa (wL (OpA.m (wL (OpA.m ?_))))))
 first
   | refine wL (OpA.len rfl rfl rfl rfl ts24.desc (.inl ⟨_, _, rfl, (List.length_map _).symm⟩) ?_)
   | refine wL (OpA.len rfl rfl rfl rfl ts24.desc (.inl ⟨_, _, rfl, rfl⟩) ?_)
   | refine wL (OpA.len rfl rfl rfl rfl ts24.desc (.inr (.inl ⟨_, _, _, rfl⟩)) ?_)
   | refine wL (OpA.len rfl rfl rfl rfl ts24.desc (.inr (.inr ⟨rfl, rfl⟩)) ?_)
 refine wL (OpA.lss rfl rfl rfl ?_)
 refine wL (OpA.m ?_)
 refine zam (s := 38) rfl (fun b2 => ?_) (fun b2 => ?_)
 try replace b2 := zI b2
 refine wS ?_
 refine wS ?_
 refine wS ?_
 refine wS ?_
 refine wL (OpA.p ?_)
 refine zab ?_
 refine wpA_condT rfl ?_
 refine zai (zag (zac (zaa (wL (OpA.m (wL (OpA.m ?_)))))))
 refine wL (OpA.iixN rfl ts46 rfl rfl rfl zN zB ?_)
 refine wL (OpA.iload rfl ti41 rfl zB ?_)
 refine wL (OpA.m ?_)
 first
   | refine wL (OpA.iixN rfl ts41 rfl rfl rfl zN zB ?_)
   | refine wL (OpA.ixN rfl ts41 rfl rfl zN (by omega) ?_)
 first
   | refine wL (OpA.load rfl ti3 rfl zH zB zB ?_)
   | refine wL (OpA.iload rfl ti3 rfl zB ?_)
 refine wL (OpA.a ?_)
 refine zab (zac (zaa (wL (OpA.m (wL (OpA.m ?_))))))
 first
   | refine wL (OpA.len rfl rfl rfl rfl ts24.desc (.inl ⟨_, _, rfl, (List.length_map _).symm⟩) ?_)
   | refine wL (OpA.len rfl rfl rfl rfl ts24.desc (.inl ⟨_, _, rfl, rfl⟩) ?_)
   | refine wL (OpA.len rfl rfl rfl rfl ts24.desc (.inr (.inl ⟨_, _, _, rfl⟩)) ?_)
   | refine wL (OpA.len rfl rfl rfl rfl ts24.desc (.inr (.inr ⟨rfl, rfl⟩)) ?_)
 refine wL (OpA.lss rfl rfl rfl ?_)
 refine wL (OpA.m ?_)
 refine zam (s := 55) rfl (fun b3 => ?_) (fun b3 => ?_)
 try replace b3 := zI b3
 refine wG (OpA.m ?_)
 refine wG (OpA.m ?_)
 first
   | refine wG (OpA.len rfl rfl rfl rfl ts24.desc (.inl ⟨_, _, rfl, (List.length_map _).symm⟩) ?_)
   | refine wG (OpA.len rfl rfl rfl rfl ts24.desc (.inl ⟨_, _, rfl, rfl⟩) ?_)
   | refine wG (OpA.len rfl rfl rfl rfl ts24.desc (.inr (.inl ⟨_, _, _, rfl⟩)) ?_)
   | refine wG (OpA.len rfl rfl rfl rfl ts24.desc (.inr (.inr ⟨rfl, rfl⟩)) ?_)
 refine wG (OpA.lss rfl rfl rfl ?_)
 refine wL (OpA.p ?_)
 refine wL (OpA.a ?_)
 refine zab (zag (zac ?_))
 refine wpA_draw (m := 26) mo zK rfl ?_
 refine dL (OpA.m ⟨rfl, rfl⟩) ?_
 refine dL (OpA.m ⟨rfl, rfl⟩) ?_
 refine DetK_split (s := 70) rfl (fun b4 => ?_) (fun b4 => ?_)
 try replace b4 := zI b4
 have hpb := pairF_bd (x := a[i]'(by omega)) (y := b[j]'(by omega)) hcc.1
 refine dG (OpA.m ⟨rfl, rfl⟩) ?_
 refine dG (OpA.m ⟨rfl, rfl⟩) ?_
 refine dG (OpA.m ⟨rfl, rfl⟩) ?_
 refine dG (OpA.addi rfl rfl rfl (by omega) ⟨rfl, rfl⟩) ?_
 refine dG (OpA.iixN rfl ts46 rfl rfl rfl zN zB ⟨rfl, rfl⟩) ?_
 refine dG (OpA.iload rfl ti41 rfl zB ⟨rfl, rfl⟩) ?_
 refine dG (OpA.m ⟨rfl, rfl⟩) ?_
 refine dG (OpA.addi rfl rfl rfl (by omega) ⟨rfl, rfl⟩) ?_
 first
   | refine dG (OpA.iixN rfl ts41 rfl rfl rfl zN zB ⟨rfl, rfl⟩) ?_
   | refine dG (OpA.ixN rfl ts41 rfl rfl zN (by omega) ⟨rfl, rfl⟩) ?_
 first
   | refine dG (OpA.load rfl ti3 rfl zH zB zB ⟨rfl, rfl⟩) ?_
   | refine dG (OpA.iload rfl ti3 rfl zB ⟨rfl, rfl⟩) ?_
 refine dG (OpA.m ⟨rfl, rfl⟩) ?_
 refine dG (OpA.m ⟨rfl, rfl⟩) ?_
 first
   | refine dG (OpA.iixN rfl ts24 rfl rfl rfl zN zB ⟨rfl, rfl⟩) ?_
   | refine dG (OpA.ixN rfl ts24 rfl rfl zN (by omega) ⟨rfl, rfl⟩) ?_
 first
   | refine dG (OpA.load_whole rfl ti30 rfl rfl zH zB ⟨_, rfl⟩ ⟨rfl, rfl⟩) ?_
   | refine dG (OpA.iload_whole rfl ti30 rfl ⟨_, rfl, rfl⟩ ⟨rfl, rfl⟩) ?_
   | refine dG (OpA.load_agg rfl ti30 rfl zH zB rfl rfl ⟨rfl, rfl⟩) ?_
   | refine dG (OpA.iload_agg rfl ti30 rfl rfl rfl ⟨rfl, rfl⟩) ?_
 refine dG (OpA.m ⟨rfl, rfl⟩) ?_
 refine dG (OpA.m ⟨rfl, rfl⟩) ?_
 first
   | refine dG (OpA.iixN rfl ts24 rfl rfl rfl zN zB ⟨rfl, rfl⟩) ?_
   | refine dG (OpA.ixN rfl ts24 rfl rfl zN (by omega) ⟨rfl, rfl⟩) ?_
 first
   | refine dG (OpA.load_whole rfl ti30 rfl rfl zH zB ⟨_, rfl⟩ ⟨rfl, rfl⟩) ?_
   | refine dG (OpA.iload_whole rfl ti30 rfl ⟨_, rfl, rfl⟩ ⟨rfl, rfl⟩) ?_
   | refine dG (OpA.load_agg rfl ti30 rfl zH zB rfl rfl ⟨rfl, rfl⟩) ?_
   | refine dG (OpA.iload_agg rfl ti30 rfl rfl rfl ⟨rfl, rfl⟩) ?_
 first
   | refine dG (OpA.load_whole rfl ti40 rfl rfl (.tail (.tail (.tail .head))) zB ⟨_, rfl⟩ ⟨rfl, rfl⟩) ?_
   | refine dG (OpA.load_agg rfl ti40 rfl (.tail (.tail (.tail .head))) zB rfl rfl ⟨rfl, rfl⟩) ?_
 refine dG (OpA.call rfl rfl rfl en41 (pair_fun _ _ _) (by rintro _ rfl; exact ⟨rfl, rfl⟩)) ?_
 refine dG (OpA.addi rfl rfl rfl (by omega) ⟨rfl, rfl⟩) ?_
 refine dG (OpA.eql rfl rfl rfl ⟨rfl, rfl⟩) ?_
 refine dL (OpA.p ⟨rfl, rfl⟩) ?_
 refine dL (OpA.a ⟨rfl, rfl⟩) ?_
 refine DetK.nil ?_
 refine zab ?_
 refine zae rfl (fun b5 => ?_) (fun b5 => ?_)
 try replace b5 := zI b5
 refine zac (zaa (wL (OpA.a (zab (zac (zac ?_))))))
 refine wpA_draw (m := 11) mo zK rfl ?_
 refine dL (OpA.m ⟨rfl, rfl⟩) ?_
 refine dL (OpA.m ⟨rfl, rfl⟩) ?_
 first
   | refine dL (OpA.iixN rfl ts24 rfl rfl rfl zN zB ⟨rfl, rfl⟩) ?_
   | refine dL (OpA.ixN rfl ts24 rfl rfl zN (by omega) ⟨rfl, rfl⟩) ?_
 first
   | refine dL (OpA.fieldAddr rfl tf30_0 rfl ⟨rfl, rfl⟩) ?_
   | refine dL (OpA.ifieldAddr rfl tf30_0 rfl ⟨rfl, rfl⟩) ?_
 first
   | refine dL (OpA.load rfl ti9 rfl zH zB zB ⟨rfl, rfl⟩) ?_
   | refine dL (OpA.iload rfl ti9 rfl zB ⟨rfl, rfl⟩) ?_
 refine dL (OpA.m ⟨rfl, rfl⟩) ?_
 refine dL (OpA.m ⟨rfl, rfl⟩) ?_
 first
   | refine dL (OpA.iixN rfl ts24 rfl rfl rfl zN zB ⟨rfl, rfl⟩) ?_
   | refine dL (OpA.ixN rfl ts24 rfl rfl zN (by omega) ⟨rfl, rfl⟩) ?_
 first
   | refine dL (OpA.fieldAddr rfl tf30_0 rfl ⟨rfl, rfl⟩) ?_
   | refine dL (OpA.ifieldAddr rfl tf30_0 rfl ⟨rfl, rfl⟩) ?_
 first
   | refine dL (OpA.load rfl ti9 rfl zH zB zB ⟨rfl, rfl⟩) ?_
   | refine dL (OpA.iload rfl ti9 rfl zB ⟨rfl, rfl⟩) ?_
 refine dL (OpA.seql rfl rfl rfl ⟨rfl, rfl⟩) ?_
 refine DetK.nil ?_
 refine zab ?_
 refine zae rfl (fun b6 => ?_) (fun b6 => ?_)
 try replace b6 := zI b6
 refine zaa (wL (OpA.a (zab (zac (zaa ?_)))))
 refine wL (OpA.fieldAddr rfl tf43_1 rfl ?_)
 refine wL (OpA.load rfl ti41 rfl (.tail .head) zB zB ?_)
 refine wL (OpA.m ?_)
 refine wL (OpA.ibuildSliceO rfl ts41 rfl (.cons (.of (sz := 1) rfl) .nil) (by decide) ?_)
 first
   | refine wL (OpA.appendV rfl rfl rfl rfl ts41 rfl (fun _ _ => .head) (by first | exact .list | exact .nil | exact .own .head (by omega)) zM zM zM (fun c109 p109 => ?_))
   | refine wL (OpA.appendV (pre := []) rfl rfl rfl rfl ts41 rfl (fun _ _ => .head) (by first | exact .list | exact .nil | exact .own .head (by omega)) zM zM zM (fun c109 p109 => ?_))
 refine wL (OpA.fieldAddr rfl tf43_1 rfl ?_)
 refine wE (OpA.store (e' := .agg [.i (edit c a b), .own c109 1 p109.length (n1 + 1)]) rfl ti41 rfl (.of rfl) zB (by first | exact Nat.le_of_ble_eq_true rfl | (simp; done) | omega) rfl (.tail .head) ?_)
 refine zab (zaa (wL (OpA.m ?_)))
 refine wL (OpA.addi rfl rfl rfl (by omega) ?_)
 refine wL (OpA.m ?_)
 refine wL (OpA.addi rfl rfl rfl (by omega) ?_)
 refine wL (OpA.a ?_)
 refine wL (OpA.a ?_)
 refine zab ?_
 first
   | refine ⟨_, _, by omega, ⟨i + 1, j + 1, _, _, ds ++ [.i 1], xs ++ [1], n1 + 1, rfl, ⟨by omega, by omega, as_snoc hst ?_, by first | exact ints_snoc hds, by (simp at *; omega), by omega⟩, rfl, rfl⟩, cvZ⟩
   | refine ⟨_, _, by omega, ⟨i + 1, j + 1, _, _, ds ++ [.i 2], xs ++ [2], n1 + 1, rfl, ⟨by omega, by omega, as_snoc hst ?_, by first | exact ints_snoc hds, by (simp at *; omega), by omega⟩, rfl, rfl⟩, cvZ⟩
   | refine ⟨_, _, by omega, ⟨i + 1, j, _, _, ds ++ [.i 3], xs ++ [3], n1 + 1, rfl, ⟨by omega, by omega, as_snoc hst ?_, by first | exact ints_snoc hds, by (simp at *; omega), by omega⟩, rfl, rfl⟩, cvZ⟩
   | refine ⟨_, _, by omega, ⟨i, j + 1, _, _, ds ++ [.i 4], xs ++ [4], n1 + 1, rfl, ⟨by omega, by omega, as_snoc hst ?_, by first | exact ints_snoc hds, by (simp at *; omega), by omega⟩, rfl, rfl⟩, cvZ⟩
 first | exact h4.2 | exact (as4 (a := a) (b := b) (c := c) (i := i) (j := j) (by omega) (by intro hi hj; first | omega | (simp_all; omega) | (have := pair_eq (c := c) ‹a[i].text = b[j].text›; omega) | (have := pair_ne (c := c) ‹¬ a[i].text = b[j].text›; omega)) (by intro hi; first | omega | (simp_all; omega))).2 | exact (as3 (by omega) (by intro hj; first | omega | (simp_all; omega) | (have := pair_eq (c := c) ‹a[i].text = b[j].text›; omega) | (have := pair_ne (c := c) ‹¬ a[i].text = b[j].text›; omega)) (by omega)) | exact (as2 (by omega) (by omega) (by assumption) (by first | omega | (have := pair_ne (c := c) ‹¬ a[i].text = b[j].text›; omega))) | exact (as1 (by omega) (by omega) (by assumption) (by first | omega | (have := pair_eq (c := c) ‹a[i].text = b[j].text›; omega)))
 try replace b6 := zI b6
 refine zai (zac (zaa ?_))
 refine wL (OpA.fieldAddr rfl tf43_1 rfl ?_)
 refine wL (OpA.load rfl ti41 rfl (.tail .head) zB zB ?_)
 refine wL (OpA.m ?_)
 refine wL (OpA.ibuildSliceO rfl ts41 rfl (.cons (.of (sz := 1) rfl) .nil) (by decide) ?_)
 first
   | refine wL (OpA.appendV rfl rfl rfl rfl ts41 rfl (fun _ _ => .head) (by first | exact .list | exact .nil | exact .own .head (by omega)) zM zM zM (fun c109 p109 => ?_))
   | refine wL (OpA.appendV (pre := []) rfl rfl rfl rfl ts41 rfl (fun _ _ => .head) (by first | exact .list | exact .nil | exact .own .head (by omega)) zM zM zM (fun c109 p109 => ?_))
 refine wL (OpA.fieldAddr rfl tf43_1 rfl ?_)
 refine wE (OpA.store (e' := .agg [.i (edit c a b), .own c109 1 p109.length (n1 + 1)]) rfl ti41 rfl (.of rfl) zB (by first | exact Nat.le_of_ble_eq_true rfl | (simp; done) | omega) rfl (.tail .head) ?_)
 refine zab (zaa (wL (OpA.m ?_)))
 refine wL (OpA.addi rfl rfl rfl (by omega) ?_)
 refine wL (OpA.m ?_)
 refine wL (OpA.addi rfl rfl rfl (by omega) ?_)
 refine wL (OpA.a ?_)
 refine wL (OpA.a ?_)
 refine zab ?_
 first
   | refine ⟨_, _, by omega, ⟨i + 1, j + 1, _, _, ds ++ [.i 1], xs ++ [1], n1 + 1, rfl, ⟨by omega, by omega, as_snoc hst ?_, by first | exact ints_snoc hds, by (simp at *; omega), by omega⟩, rfl, rfl⟩, cvZ⟩
   | refine ⟨_, _, by omega, ⟨i + 1, j + 1, _, _, ds ++ [.i 2], xs ++ [2], n1 + 1, rfl, ⟨by omega, by omega, as_snoc hst ?_, by first | exact ints_snoc hds, by (simp at *; omega), by omega⟩, rfl, rfl⟩, cvZ⟩
   | refine ⟨_, _, by omega, ⟨i + 1, j, _, _, ds ++ [.i 3], xs ++ [3], n1 + 1, rfl, ⟨by omega, by omega, as_snoc hst ?_, by first | exact ints_snoc hds, by (simp at *; omega), by omega⟩, rfl, rfl⟩, cvZ⟩
   | refine ⟨_, _, by omega, ⟨i, j + 1, _, _, ds ++ [.i 4], xs ++ [4], n1 + 1, rfl, ⟨by omega, by omega, as_snoc hst ?_, by first | exact ints_snoc hds, by (simp at *; omega), by omega⟩, rfl, rfl⟩, cvZ⟩
 first | exact h4.2 | exact (as4 (a := a) (b := b) (c := c) (i := i) (j := j) (by omega) (by intro hi hj; first | omega | (simp_all; omega) | (have := pair_eq (c := c) ‹a[i].text = b[j].text›; omega) | (have := pair_ne (c := c) ‹¬ a[i].text = b[j].text›; omega)) (by intro hi; first | omega | (simp_all; omega))).2 | exact (as3 (by omega) (by intro hj; first | omega | (simp_all; omega) | (have := pair_eq (c := c) ‹a[i].text = b[j].text›; omega) | (have := pair_ne (c := c) ‹¬ a[i].text = b[j].text›; omega)) (by omega)) | exact (as2 (by omega) (by omega) (by assumption) (by first | omega | (have := pair_ne (c := c) ‹¬ a[i].text = b[j].text›; omega))) | exact (as1 (by omega) (by omega) (by assumption) (by first | omega | (have := pair_eq (c := c) ‹a[i].text = b[j].text›; omega)))
 try replace b5 := zI b5
 refine zac ?_
 refine wpA_draw (m := 20) mo zK rfl ?_
 refine dL (OpA.m ⟨rfl, rfl⟩) ?_
 refine dL (OpA.m ⟨rfl, rfl⟩) ?_
 first
   | refine dL (OpA.len rfl rfl rfl rfl ts24.desc (.inl ⟨_, _, rfl, (List.length_map _).symm⟩) ⟨rfl, rfl⟩) ?_
   | refine dL (OpA.len rfl rfl rfl rfl ts24.desc (.inl ⟨_, _, rfl, rfl⟩) ⟨rfl, rfl⟩) ?_
   | refine dL (OpA.len rfl rfl rfl rfl ts24.desc (.inr (.inl ⟨_, _, _, rfl⟩)) ⟨rfl, rfl⟩) ?_
   | refine dL (OpA.len rfl rfl rfl rfl ts24.desc (.inr (.inr ⟨rfl, rfl⟩)) ⟨rfl, rfl⟩) ?_
 refine dL (OpA.lss rfl rfl rfl ⟨rfl, rfl⟩) ?_
 refine dL (OpA.m ⟨rfl, rfl⟩) ?_
 refine DetK_split (s := 120) rfl (fun b7 => ?_) (fun b7 => ?_)
 try replace b7 := zI b7
 refine dG (OpA.m ⟨rfl, rfl⟩) ?_
 refine dG (OpA.m ⟨rfl, rfl⟩) ?_
 refine dG (OpA.m ⟨rfl, rfl⟩) ?_
 refine dG (OpA.addi rfl rfl rfl (by omega) ⟨rfl, rfl⟩) ?_
 refine dG (OpA.iixN rfl ts46 rfl rfl rfl zN zB ⟨rfl, rfl⟩) ?_
 refine dG (OpA.iload rfl ti41 rfl zB ⟨rfl, rfl⟩) ?_
 refine dG (OpA.m ⟨rfl, rfl⟩) ?_
 first
   | refine dG (OpA.iixN rfl ts41 rfl rfl rfl zN zB ⟨rfl, rfl⟩) ?_
   | refine dG (OpA.ixN rfl ts41 rfl rfl zN (by omega) ⟨rfl, rfl⟩) ?_
 first
   | refine dG (OpA.load rfl ti3 rfl zH zB zB ⟨rfl, rfl⟩) ?_
   | refine dG (OpA.iload rfl ti3 rfl zB ⟨rfl, rfl⟩) ?_
 refine dG (OpA.fieldAddr rfl tf40_1 rfl ⟨rfl, rfl⟩) ?_
 refine dG (OpA.load rfl ti3 rfl (.tail (.tail (.tail .head))) zB zB ⟨rfl, rfl⟩) ?_
 refine dG (OpA.addi rfl rfl rfl (by omega) ⟨rfl, rfl⟩) ?_
 refine dG (OpA.eql rfl rfl rfl ⟨rfl, rfl⟩) ?_
 refine dL (OpA.p ⟨rfl, rfl⟩) ?_
 refine dL (OpA.a ⟨rfl, rfl⟩) ?_
 refine DetK.nil ?_
 refine zab ?_
 refine zae rfl (fun b8 => ?_) (fun b8 => ?_)
 try replace b8 := zI b8
 refine zac (zaa ?_)
 refine wL (OpA.fieldAddr rfl tf43_1 rfl ?_)
 refine wL (OpA.load rfl ti41 rfl (.tail .head) zB zB ?_)
 refine wL (OpA.ibuildSliceO rfl ts41 rfl (.cons (.of (sz := 1) rfl) .nil) (by decide) ?_)
 first
   | refine wL (OpA.appendV rfl rfl rfl rfl ts41 rfl (fun _ _ => .head) (by first | exact .list | exact .nil | exact .own .head (by omega)) zM zM zM (fun c138 p138 => ?_))
   | refine wL (OpA.appendV (pre := []) rfl rfl rfl rfl ts41 rfl (fun _ _ => .head) (by first | exact .list | exact .nil | exact .own .head (by omega)) zM zM zM (fun c138 p138 => ?_))
 refine wL (OpA.fieldAddr rfl tf43_1 rfl ?_)
 refine wE (OpA.store (e' := .agg [.i (edit c a b), .own c138 1 p138.length (n1 + 1)]) rfl ti41 rfl (.of rfl) zB (by first | exact Nat.le_of_ble_eq_true rfl | (simp; done) | omega) rfl (.tail .head) ?_)
 refine zab (zaa (wL (OpA.m ?_)))
 refine wL (OpA.addi rfl rfl rfl (by omega) ?_)
 refine wL (OpA.a ?_)
 refine zab ?_
 first
   | refine ⟨_, _, by omega, ⟨i + 1, j + 1, _, _, ds ++ [.i 1], xs ++ [1], n1 + 1, rfl, ⟨by omega, by omega, as_snoc hst ?_, by first | exact ints_snoc hds, by (simp at *; omega), by omega⟩, rfl, rfl⟩, cvZ⟩
   | refine ⟨_, _, by omega, ⟨i + 1, j + 1, _, _, ds ++ [.i 2], xs ++ [2], n1 + 1, rfl, ⟨by omega, by omega, as_snoc hst ?_, by first | exact ints_snoc hds, by (simp at *; omega), by omega⟩, rfl, rfl⟩, cvZ⟩
   | refine ⟨_, _, by omega, ⟨i + 1, j, _, _, ds ++ [.i 3], xs ++ [3], n1 + 1, rfl, ⟨by omega, by omega, as_snoc hst ?_, by first | exact ints_snoc hds, by (simp at *; omega), by omega⟩, rfl, rfl⟩, cvZ⟩
   | refine ⟨_, _, by omega, ⟨i, j + 1, _, _, ds ++ [.i 4], xs ++ [4], n1 + 1, rfl, ⟨by omega, by omega, as_snoc hst ?_, by first | exact ints_snoc hds, by (simp at *; omega), by omega⟩, rfl, rfl⟩, cvZ⟩
 first | exact h4.2 | exact (as4 (a := a) (b := b) (c := c) (i := i) (j := j) (by omega) (by intro hi hj; first | omega | (simp_all; omega) | (have := pair_eq (c := c) ‹a[i].text = b[j].text›; omega) | (have := pair_ne (c := c) ‹¬ a[i].text = b[j].text›; omega)) (by intro hi; first | omega | (simp_all; omega))).2 | exact (as3 (by omega) (by intro hj; first | omega | (simp_all; omega) | (have := pair_eq (c := c) ‹a[i].text = b[j].text›; omega) | (have := pair_ne (c := c) ‹¬ a[i].text = b[j].text›; omega)) (by omega)) | exact (as2 (by omega) (by omega) (by assumption) (by first | omega | (have := pair_ne (c := c) ‹¬ a[i].text = b[j].text›; omega))) | exact (as1 (by omega) (by omega) (by assumption) (by first | omega | (have := pair_eq (c := c) ‹a[i].text = b[j].text›; omega)))
 try replace b8 := zI b8
 have h4 := as4 (a := a) (b := b) (c := c) (i := i) (j := j) (by omega) (by intro hi hj; first | omega | (simp_all; omega) | (have := pair_eq (c := c) ‹a[i].text = b[j].text›; omega) | (have := pair_ne (c := c) ‹¬ a[i].text = b[j].text›; omega)) (by intro hi; first | omega | (simp_all; omega))
 refine zac (zaa ?_)
 refine wL (OpA.fieldAddr rfl tf43_1 rfl ?_)
 refine wL (OpA.load rfl ti41 rfl (.tail .head) zB zB ?_)
 refine wL (OpA.ibuildSliceO rfl ts41 rfl (.cons (.of (sz := 1) rfl) .nil) (by decide) ?_)
 first
   | refine wL (OpA.appendV rfl rfl rfl rfl ts41 rfl (fun _ _ => .head) (by first | exact .list | exact .nil | exact .own .head (by omega)) zM zM zM (fun c64 p64 => ?_))
   | refine wL (OpA.appendV (pre := []) rfl rfl rfl rfl ts41 rfl (fun _ _ => .head) (by first | exact .list | exact .nil | exact .own .head (by omega)) zM zM zM (fun c64 p64 => ?_))
 refine wL (OpA.fieldAddr rfl tf43_1 rfl ?_)
 refine wE (OpA.store (e' := .agg [.i (edit c a b), .own c64 1 p64.length (n1 + 1)]) rfl ti41 rfl (.of rfl) zB (by first | exact Nat.le_of_ble_eq_true rfl | (simp; done) | omega) rfl (.tail .head) ?_)
 refine zab (zaa (wL (OpA.m ?_)))
 refine wL (OpA.addi rfl rfl rfl (by omega) ?_)
 refine wL (OpA.a ?_)
 refine zab ?_
 first
   | refine ⟨_, _, by omega, ⟨i + 1, j + 1, _, _, ds ++ [.i 1], xs ++ [1], n1 + 1, rfl, ⟨by omega, by omega, as_snoc hst ?_, by first | exact ints_snoc hds, by (simp at *; omega), by omega⟩, rfl, rfl⟩, cvZ⟩
   | refine ⟨_, _, by omega, ⟨i + 1, j + 1, _, _, ds ++ [.i 2], xs ++ [2], n1 + 1, rfl, ⟨by omega, by omega, as_snoc hst ?_, by first | exact ints_snoc hds, by (simp at *; omega), by omega⟩, rfl, rfl⟩, cvZ⟩
   | refine ⟨_, _, by omega, ⟨i + 1, j, _, _, ds ++ [.i 3], xs ++ [3], n1 + 1, rfl, ⟨by omega, by omega, as_snoc hst ?_, by first | exact ints_snoc hds, by (simp at *; omega), by omega⟩, rfl, rfl⟩, cvZ⟩
   | refine ⟨_, _, by omega, ⟨i, j + 1, _, _, ds ++ [.i 4], xs ++ [4], n1 + 1, rfl, ⟨by omega, by omega, as_snoc hst ?_, by first | exact ints_snoc hds, by (simp at *; omega), by omega⟩, rfl, rfl⟩, cvZ⟩
 first | exact h4.2 | exact (as4 (a := a) (b := b) (c := c) (i := i) (j := j) (by omega) (by intro hi hj; first | omega | (simp_all; omega) | (have := pair_eq (c := c) ‹a[i].text = b[j].text›; omega) | (have := pair_ne (c := c) ‹¬ a[i].text = b[j].text›; omega)) (by intro hi; first | omega | (simp_all; omega))).2 | exact (as3 (by omega) (by intro hj; first | omega | (simp_all; omega) | (have := pair_eq (c := c) ‹a[i].text = b[j].text›; omega) | (have := pair_ne (c := c) ‹¬ a[i].text = b[j].text›; omega)) (by omega)) | exact (as2 (by omega) (by omega) (by assumption) (by first | omega | (have := pair_ne (c := c) ‹¬ a[i].text = b[j].text›; omega))) | exact (as1 (by omega) (by omega) (by assumption) (by first | omega | (have := pair_eq (c := c) ‹a[i].text = b[j].text›; omega)))
 try replace b7 := zI b7
 exfalso; first | contradiction | omega
 try replace b4 := zI b4
 refine dS ?_
 refine dS ?_
 refine dS ?_
 refine dS ?_
 refine dS ?_
 refine dS ?_
 refine dS ?_
 refine dS ?_
 refine dS ?_
 refine dS ?_
 refine dS ?_
 refine dS ?_
 refine dS ?_
 refine dS ?_
 refine dS ?_
 refine dS ?_
 refine dS ?_
 refine dS ?_
 refine dS ?_
 refine dS ?_
 refine dS ?_
 refine dS ?_
 refine dL (OpA.p ⟨rfl, rfl⟩) ?_
 refine dL (OpA.a ⟨rfl, rfl⟩) ?_
 refine DetK.nil ?_
 refine zab ?_
 refine wpA_condF rfl ?_
 refine zac ?_
 refine wpA_draw (m := 20) mo zK rfl ?_
 refine dL (OpA.m ⟨rfl, rfl⟩) ?_
 refine dL (OpA.m ⟨rfl, rfl⟩) ?_
 first
   | refine dL (OpA.len rfl rfl rfl rfl ts24.desc (.inl ⟨_, _, rfl, (List.length_map _).symm⟩) ⟨rfl, rfl⟩) ?_
   | refine dL (OpA.len rfl rfl rfl rfl ts24.desc (.inl ⟨_, _, rfl, rfl⟩) ⟨rfl, rfl⟩) ?_
   | refine dL (OpA.len rfl rfl rfl rfl ts24.desc (.inr (.inl ⟨_, _, _, rfl⟩)) ⟨rfl, rfl⟩) ?_
   | refine dL (OpA.len rfl rfl rfl rfl ts24.desc (.inr (.inr ⟨rfl, rfl⟩)) ⟨rfl, rfl⟩) ?_
 refine dL (OpA.lss rfl rfl rfl ⟨rfl, rfl⟩) ?_
 refine dL (OpA.m ⟨rfl, rfl⟩) ?_
 refine DetK_split (s := 120) rfl (fun b9 => ?_) (fun b9 => ?_)
 try replace b9 := zI b9
 refine dG (OpA.m ⟨rfl, rfl⟩) ?_
 refine dG (OpA.m ⟨rfl, rfl⟩) ?_
 refine dG (OpA.m ⟨rfl, rfl⟩) ?_
 refine dG (OpA.addi rfl rfl rfl (by omega) ⟨rfl, rfl⟩) ?_
 refine dG (OpA.iixN rfl ts46 rfl rfl rfl zN zB ⟨rfl, rfl⟩) ?_
 refine dG (OpA.iload rfl ti41 rfl zB ⟨rfl, rfl⟩) ?_
 refine dG (OpA.m ⟨rfl, rfl⟩) ?_
 first
   | refine dG (OpA.iixN rfl ts41 rfl rfl rfl zN zB ⟨rfl, rfl⟩) ?_
   | refine dG (OpA.ixN rfl ts41 rfl rfl zN (by omega) ⟨rfl, rfl⟩) ?_
 first
   | refine dG (OpA.load rfl ti3 rfl zH zB zB ⟨rfl, rfl⟩) ?_
   | refine dG (OpA.iload rfl ti3 rfl zB ⟨rfl, rfl⟩) ?_
 refine dG (OpA.fieldAddr rfl tf40_1 rfl ⟨rfl, rfl⟩) ?_
 refine dG (OpA.load rfl ti3 rfl (.tail (.tail (.tail .head))) zB zB ⟨rfl, rfl⟩) ?_
 refine dG (OpA.addi rfl rfl rfl (by omega) ⟨rfl, rfl⟩) ?_
 refine dG (OpA.eql rfl rfl rfl ⟨rfl, rfl⟩) ?_
 refine dL (OpA.p ⟨rfl, rfl⟩) ?_
 refine dL (OpA.a ⟨rfl, rfl⟩) ?_
 refine DetK.nil ?_
 refine zab ?_
 refine zae rfl (fun b10 => ?_) (fun b10 => ?_)
 try replace b10 := zI b10
 refine zac (zaa ?_)
 refine wL (OpA.fieldAddr rfl tf43_1 rfl ?_)
 refine wL (OpA.load rfl ti41 rfl (.tail .head) zB zB ?_)
 refine wL (OpA.ibuildSliceO rfl ts41 rfl (.cons (.of (sz := 1) rfl) .nil) (by decide) ?_)
 first
   | refine wL (OpA.appendV rfl rfl rfl rfl ts41 rfl (fun _ _ => .head) (by first | exact .list | exact .nil | exact .own .head (by omega)) zM zM zM (fun c138 p138 => ?_))
   | refine wL (OpA.appendV (pre := []) rfl rfl rfl rfl ts41 rfl (fun _ _ => .head) (by first | exact .list | exact .nil | exact .own .head (by omega)) zM zM zM (fun c138 p138 => ?_))
 refine wL (OpA.fieldAddr rfl tf43_1 rfl ?_)
 refine wE (OpA.store (e' := .agg [.i (edit c a b), .own c138 1 p138.length (n1 + 1)]) rfl ti41 rfl (.of rfl) zB (by first | exact Nat.le_of_ble_eq_true rfl | (simp; done) | omega) rfl (.tail .head) ?_)
 refine zab (zaa (wL (OpA.m ?_)))
 refine wL (OpA.addi rfl rfl rfl (by omega) ?_)
 refine wL (OpA.a ?_)
 refine zab ?_
 first
   | refine ⟨_, _, by omega, ⟨i + 1, j + 1, _, _, ds ++ [.i 1], xs ++ [1], n1 + 1, rfl, ⟨by omega, by omega, as_snoc hst ?_, by first | exact ints_snoc hds, by (simp at *; omega), by omega⟩, rfl, rfl⟩, cvZ⟩
   | refine ⟨_, _, by omega, ⟨i + 1, j + 1, _, _, ds ++ [.i 2], xs ++ [2], n1 + 1, rfl, ⟨by omega, by omega, as_snoc hst ?_, by first | exact ints_snoc hds, by (simp at *; omega), by omega⟩, rfl, rfl⟩, cvZ⟩
   | refine ⟨_, _, by omega, ⟨i + 1, j, _, _, ds ++ [.i 3], xs ++ [3], n1 + 1, rfl, ⟨by omega, by omega, as_snoc hst ?_, by first | exact ints_snoc hds, by (simp at *; omega), by omega⟩, rfl, rfl⟩, cvZ⟩
   | refine ⟨_, _, by omega, ⟨i, j + 1, _, _, ds ++ [.i 4], xs ++ [4], n1 + 1, rfl, ⟨by omega, by omega, as_snoc hst ?_, by first | exact ints_snoc hds, by (simp at *; omega), by omega⟩, rfl, rfl⟩, cvZ⟩
 first | exact h4.2 | exact (as4 (a := a) (b := b) (c := c) (i := i) (j := j) (by omega) (by intro hi hj; first | omega | (simp_all; omega) | (have := pair_eq (c := c) ‹a[i].text = b[j].text›; omega) | (have := pair_ne (c := c) ‹¬ a[i].text = b[j].text›; omega)) (by intro hi; first | omega | (simp_all; omega))).2 | exact (as3 (by omega) (by intro hj; first | omega | (simp_all; omega) | (have := pair_eq (c := c) ‹a[i].text = b[j].text›; omega) | (have := pair_ne (c := c) ‹¬ a[i].text = b[j].text›; omega)) (by omega)) | exact (as2 (by omega) (by omega) (by assumption) (by first | omega | (have := pair_ne (c := c) ‹¬ a[i].text = b[j].text›; omega))) | exact (as1 (by omega) (by omega) (by assumption) (by first | omega | (have := pair_eq (c := c) ‹a[i].text = b[j].text›; omega)))
 try replace b10 := zI b10
 have h4 := as4 (a := a) (b := b) (c := c) (i := i) (j := j) (by omega) (by intro hi hj; first | omega | (simp_all; omega) | (have := pair_eq (c := c) ‹a[i].text = b[j].text›; omega) | (have := pair_ne (c := c) ‹¬ a[i].text = b[j].text›; omega)) (by intro hi; first | omega | (simp_all; omega))
 refine zac (zaa ?_)
 refine wL (OpA.fieldAddr rfl tf43_1 rfl ?_)
 refine wL (OpA.load rfl ti41 rfl (.tail .head) zB zB ?_)
 refine wL (OpA.ibuildSliceO rfl ts41 rfl (.cons (.of (sz := 1) rfl) .nil) (by decide) ?_)
 first
   | refine wL (OpA.appendV rfl rfl rfl rfl ts41 rfl (fun _ _ => .head) (by first | exact .list | exact .nil | exact .own .head (by omega)) zM zM zM (fun c64 p64 => ?_))
   | refine wL (OpA.appendV (pre := []) rfl rfl rfl rfl ts41 rfl (fun _ _ => .head) (by first | exact .list | exact .nil | exact .own .head (by omega)) zM zM zM (fun c64 p64 => ?_))
 refine wL (OpA.fieldAddr rfl tf43_1 rfl ?_)
 refine wE (OpA.store (e' := .agg [.i (edit c a b), .own c64 1 p64.length (n1 + 1)]) rfl ti41 rfl (.of rfl) zB (by first | exact Nat.le_of_ble_eq_true rfl | (simp; done) | omega) rfl (.tail .head) ?_)
 refine zab (zaa (wL (OpA.m ?_)))
 refine wL (OpA.addi rfl rfl rfl (by omega) ?_)
 refine wL (OpA.a ?_)
 refine zab ?_
 first
   | refine ⟨_, _, by omega, ⟨i + 1, j + 1, _, _, ds ++ [.i 1], xs ++ [1], n1 + 1, rfl, ⟨by omega, by omega, as_snoc hst ?_, by first | exact ints_snoc hds, by (simp at *; omega), by omega⟩, rfl, rfl⟩, cvZ⟩
   | refine ⟨_, _, by omega, ⟨i + 1, j + 1, _, _, ds ++ [.i 2], xs ++ [2], n1 + 1, rfl, ⟨by omega, by omega, as_snoc hst ?_, by first | exact ints_snoc hds, by (simp at *; omega), by omega⟩, rfl, rfl⟩, cvZ⟩
   | refine ⟨_, _, by omega, ⟨i + 1, j, _, _, ds ++ [.i 3], xs ++ [3], n1 + 1, rfl, ⟨by omega, by omega, as_snoc hst ?_, by first | exact ints_snoc hds, by (simp at *; omega), by omega⟩, rfl, rfl⟩, cvZ⟩
   | refine ⟨_, _, by omega, ⟨i, j + 1, _, _, ds ++ [.i 4], xs ++ [4], n1 + 1, rfl, ⟨by omega, by omega, as_snoc hst ?_, by first | exact ints_snoc hds, by (simp at *; omega), by omega⟩, rfl, rfl⟩, cvZ⟩
 first | exact h4.2 | exact (as4 (a := a) (b := b) (c := c) (i := i) (j := j) (by omega) (by intro hi hj; first | omega | (simp_all; omega) | (have := pair_eq (c := c) ‹a[i].text = b[j].text›; omega) | (have := pair_ne (c := c) ‹¬ a[i].text = b[j].text›; omega)) (by intro hi; first | omega | (simp_all; omega))).2 | exact (as3 (by omega) (by intro hj; first | omega | (simp_all; omega) | (have := pair_eq (c := c) ‹a[i].text = b[j].text›; omega) | (have := pair_ne (c := c) ‹¬ a[i].text = b[j].text›; omega)) (by omega)) | exact (as2 (by omega) (by omega) (by assumption) (by first | omega | (have := pair_ne (c := c) ‹¬ a[i].text = b[j].text›; omega))) | exact (as1 (by omega) (by omega) (by assumption) (by first | omega | (have := pair_eq (c := c) ‹a[i].text = b[j].text›; omega)))
 try replace b9 := zI b9
 exfalso; first | contradiction | omega
 try replace b3 := zI b3
 exfalso; first | contradiction | omega
 try replace b2 := zI b2
 refine wG (OpA.m ?_)
 refine wG (OpA.m ?_)
 first
   | refine wG (OpA.len rfl rfl rfl rfl ts24.desc (.inl ⟨_, _, rfl, (List.length_map _).symm⟩) ?_)
   | refine wG (OpA.len rfl rfl rfl rfl ts24.desc (.inl ⟨_, _, rfl, rfl⟩) ?_)
   | refine wG (OpA.len rfl rfl rfl rfl ts24.desc (.inr (.inl ⟨_, _, _, rfl⟩)) ?_)
   | refine wG (OpA.len rfl rfl rfl rfl ts24.desc (.inr (.inr ⟨rfl, rfl⟩)) ?_)
 refine wG (OpA.lss rfl rfl rfl ?_)
 refine wL (OpA.p ?_)
 refine zab ?_
 refine zae rfl (fun b11 => ?_) (fun b11 => ?_)
 try replace b11 := zI b11
 refine zai (zag (zac (zaa (wL (OpA.m (wL (OpA.m ?_)))))))
 refine wL (OpA.iixN rfl ts46 rfl rfl rfl zN zB ?_)
 refine wL (OpA.iload rfl ti41 rfl zB ?_)
 refine wL (OpA.m ?_)
 first
   | refine wL (OpA.iixN rfl ts41 rfl rfl rfl zN zB ?_)
   | refine wL (OpA.ixN rfl ts41 rfl rfl zN (by omega) ?_)
 first
   | refine wL (OpA.load rfl ti3 rfl zH zB zB ?_)
   | refine wL (OpA.iload rfl ti3 rfl zB ?_)
 refine wL (OpA.a ?_)
 refine zab (zac (zaa (wL (OpA.m (wL (OpA.m ?_))))))
 first
   | refine wL (OpA.len rfl rfl rfl rfl ts24.desc (.inl ⟨_, _, rfl, (List.length_map _).symm⟩) ?_)
   | refine wL (OpA.len rfl rfl rfl rfl ts24.desc (.inl ⟨_, _, rfl, rfl⟩) ?_)
   | refine wL (OpA.len rfl rfl rfl rfl ts24.desc (.inr (.inl ⟨_, _, _, rfl⟩)) ?_)
   | refine wL (OpA.len rfl rfl rfl rfl ts24.desc (.inr (.inr ⟨rfl, rfl⟩)) ?_)
 refine wL (OpA.lss rfl rfl rfl ?_)
 refine wL (OpA.m ?_)
 refine zam (s := 55) rfl (fun b12 => ?_) (fun b12 => ?_)
 try replace b12 := zI b12
 exfalso; first | contradiction | omega
 try replace b12 := zI b12
 refine wS ?_
 refine wS ?_
 refine wS ?_
 refine wS ?_
 refine wL (OpA.p ?_)
 refine wL (OpA.a ?_)
 refine zab (zag (zac ?_))
 refine wpA_draw (m := 26) mo zK rfl ?_
 refine dL (OpA.m ⟨rfl, rfl⟩) ?_
 refine dL (OpA.m ⟨rfl, rfl⟩) ?_
 refine dS ?_
 refine dS ?_
 refine dS ?_
 refine dS ?_
 refine dS ?_
 refine dS ?_
 refine dS ?_
 refine dS ?_
 refine dS ?_
 refine dS ?_
 refine dS ?_
 refine dS ?_
 refine dS ?_
 refine dS ?_
 refine dS ?_
 refine dS ?_
 refine dS ?_
 refine dS ?_
 refine dS ?_
 refine dS ?_
 refine dS ?_
 refine dS ?_
 refine dL (OpA.p ⟨rfl, rfl⟩) ?_
 refine dL (OpA.a ⟨rfl, rfl⟩) ?_
 refine DetK.nil ?_
 refine zab ?_
 refine wpA_condF rfl ?_
 refine zac ?_
 refine wpA_draw (m := 20) mo zK rfl ?_
 refine dL (OpA.m ⟨rfl, rfl⟩) ?_
 refine dL (OpA.m ⟨rfl, rfl⟩) ?_
 first
   | refine dL (OpA.len rfl rfl rfl rfl ts24.desc (.inl ⟨_, _, rfl, (List.length_map _).symm⟩) ⟨rfl, rfl⟩) ?_
   | refine dL (OpA.len rfl rfl rfl rfl ts24.desc (.inl ⟨_, _, rfl, rfl⟩) ⟨rfl, rfl⟩) ?_
   | refine dL (OpA.len rfl rfl rfl rfl ts24.desc (.inr (.inl ⟨_, _, _, rfl⟩)) ⟨rfl, rfl⟩) ?_
   | refine dL (OpA.len rfl rfl rfl rfl ts24.desc (.inr (.inr ⟨rfl, rfl⟩)) ⟨rfl, rfl⟩) ?_
 refine dL (OpA.lss rfl rfl rfl ⟨rfl, rfl⟩) ?_
 refine dL (OpA.m ⟨rfl, rfl⟩) ?_
 refine DetK_split (s := 120) rfl (fun b13 => ?_) (fun b13 => ?_)
 try replace b13 := zI b13
 exfalso; first | contradiction | omega
 try replace b13 := zI b13
 refine dS ?_
 refine dS ?_
 refine dS ?_
 refine dS ?_
 refine dS ?_
 refine dS ?_
 refine dS ?_
 refine dS ?_
 refine dS ?_
 refine dS ?_
 refine dS ?_
 refine dS ?_
 refine dS ?_
 refine dL (OpA.p ⟨rfl, rfl⟩) ?_
 refine dL (OpA.a ⟨rfl, rfl⟩) ?_
 refine DetK.nil ?_
 refine zab ?_
 refine wpA_condF rfl ?_
 refine zac (zaa ?_)
 refine wL (OpA.fieldAddr rfl tf43_1 rfl ?_)
 refine wL (OpA.load rfl ti41 rfl (.tail .head) zB zB ?_)
 refine wL (OpA.ibuildSliceO rfl ts41 rfl (.cons (.of (sz := 1) rfl) .nil) (by decide) ?_)
 first
   | refine wL (OpA.appendV rfl rfl rfl rfl ts41 rfl (fun _ _ => .head) (by first | exact .list | exact .nil | exact .own .head (by omega)) zM zM zM (fun c64 p64 => ?_))
   | refine wL (OpA.appendV (pre := []) rfl rfl rfl rfl ts41 rfl (fun _ _ => .head) (by first | exact .list | exact .nil | exact .own .head (by omega)) zM zM zM (fun c64 p64 => ?_))
 refine wL (OpA.fieldAddr rfl tf43_1 rfl ?_)
 refine wE (OpA.store (e' := .agg [.i (edit c a b), .own c64 1 p64.length (n1 + 1)]) rfl ti41 rfl (.of rfl) zB (by first | exact Nat.le_of_ble_eq_true rfl | (simp; done) | omega) rfl (.tail .head) ?_)
 refine zab (zaa (wL (OpA.m ?_)))
 refine wL (OpA.addi rfl rfl rfl (by omega) ?_)
 refine wL (OpA.a ?_)
 refine zab ?_
 first
   | refine ⟨_, _, by omega, ⟨i + 1, j + 1, _, _, ds ++ [.i 1], xs ++ [1], n1 + 1, rfl, ⟨by omega, by omega, as_snoc hst ?_, by first | exact ints_snoc hds, by (simp at *; omega), by omega⟩, rfl, rfl⟩, cvZ⟩
   | refine ⟨_, _, by omega, ⟨i + 1, j + 1, _, _, ds ++ [.i 2], xs ++ [2], n1 + 1, rfl, ⟨by omega, by omega, as_snoc hst ?_, by first | exact ints_snoc hds, by (simp at *; omega), by omega⟩, rfl, rfl⟩, cvZ⟩
   | refine ⟨_, _, by omega, ⟨i + 1, j, _, _, ds ++ [.i 3], xs ++ [3], n1 + 1, rfl, ⟨by omega, by omega, as_snoc hst ?_, by first | exact ints_snoc hds, by (simp at *; omega), by omega⟩, rfl, rfl⟩, cvZ⟩
   | refine ⟨_, _, by omega, ⟨i, j + 1, _, _, ds ++ [.i 4], xs ++ [4], n1 + 1, rfl, ⟨by omega, by omega, as_snoc hst ?_, by first | exact ints_snoc hds, by (simp at *; omega), by omega⟩, rfl, rfl⟩, cvZ⟩
 first | exact h4.2 | exact (as4 (a := a) (b := b) (c := c) (i := i) (j := j) (by omega) (by intro hi hj; first | omega | (simp_all; omega) | (have := pair_eq (c := c) ‹a[i].text = b[j].text›; omega) | (have := pair_ne (c := c) ‹¬ a[i].text = b[j].text›; omega)) (by intro hi; first | omega | (simp_all; omega))).2 | exact (as3 (by omega) (by intro hj; first | omega | (simp_all; omega) | (have := pair_eq (c := c) ‹a[i].text = b[j].text›; omega) | (have := pair_ne (c := c) ‹¬ a[i].text = b[j].text›; omega)) (by omega)) | exact (as2 (by omega) (by omega) (by assumption) (by first | omega | (have := pair_ne (c := c) ‹¬ a[i].text = b[j].text›; omega))) | exact (as1 (by omega) (by omega) (by assumption) (by first | omega | (have := pair_eq (c := c) ‹a[i].text = b[j].text›; omega)))
 try replace b11 := zI b11
 refine wpA_exit ?_
 refine zac (zaa ?_)
 first
   | refine wL (OpA.load_whole rfl ti43 rfl rfl (.tail .head) zB ⟨_, rfl⟩ ?_)
   | refine wL (OpA.load_agg rfl ti43 rfl (.tail .head) zB rfl rfl ?_)
 refine wE (OpA.storeW rfl ti43 rfl zW (.of rfl) zB rfl (.tail (.tail .head)) ?_)
 refine wL (OpA.a ?_)
 refine zab (zal ?_)
 refine ⟨_, (.cell (.whole ti43 rfl rfl (.tail (.tail .head)) rfl ⟨_, rfl⟩) (.tmp zW .nil)), _, (.tup (.agg (.same rfl (.vec .head hn (by intro hf; cases hf) .nil)) (.same rfl .nil)) .nil), ?_⟩
 (try simp only [tupD]) <;> (rw [alignR_ok hck, hds]; rw [as_end (by omega) (by omega), List.append_nil] at hst; rw [← hst]; rfl)
end Go.Proofs.YtkifpidbpoghlaaGreatDoor
