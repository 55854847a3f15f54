/-
  walks
-/
import Derived.Test.YtkifpidbpoghlaaGreatDoorQW1
import Derived.Test.YtkifpidbpoghlaaGreatDoorQl2
set_option linter.all false
namespace Go.Proofs.YtkifpidbpoghlaaGreatDoor
open Go Go.Lic
theorem backs_fun (a b : List Lexeme) (c : Costs) (hck : alCheck a b c = 0) : Fun false Tryz.prog 40 [encWords a, encWords b, encCosts c] (fun d => d = encTable (backF a b c)) := by
 obtain ⟨hok, ha, hb⟩ := checkF_ok hck
 have hcc := checkF_zero hck
 refine Fun.of_body Tryz.func40 rfl Tryz.ntmps40 rfl ?_
 refine zac (zaa ?_)
 refine wL (OpA.bx (sz := 3) rfl zW (.of rfl) (fun c5 _ => ?_))
 refine wL (OpA.a ?_)
 refine zab (zac (zaa (wL (OpA.m ?_))))
 first
   | refine wL (OpA.len rfl rfl rfl rfl ts24.desc (.inl ⟨_, _, rfl, (List.length_map _).symm⟩) ?_)
   | refine wL (OpA.len rfl rfl rfl rfl ts24.desc (.inl ⟨_, _, rfl, rfl⟩) ?_)
   | refine wL (OpA.len rfl rfl rfl rfl ts24.desc (.inr (.inl ⟨_, _, _, rfl⟩)) ?_)
   | refine wL (OpA.len rfl rfl rfl rfl ts24.desc (.inr (.inr ⟨rfl, rfl⟩)) ?_)
 refine wL (OpA.m ?_)
 first
   | refine wL (OpA.len rfl rfl rfl rfl ts24.desc (.inl ⟨_, _, rfl, (List.length_map _).symm⟩) ?_)
   | refine wL (OpA.len rfl rfl rfl rfl ts24.desc (.inl ⟨_, _, rfl, rfl⟩) ?_)
   | refine wL (OpA.len rfl rfl rfl rfl ts24.desc (.inr (.inl ⟨_, _, _, rfl⟩)) ?_)
   | refine wL (OpA.len rfl rfl rfl rfl ts24.desc (.inr (.inr ⟨rfl, rfl⟩)) ?_)
 refine wL (OpA.a ?_)
 refine wL (OpA.a ?_)
 refine zab (zac (zaa (wL (OpA.m ?_))))
 refine wL (OpA.addi rfl rfl rfl (by omega) ?_)
 refine wL (OpA.m ?_)
 refine wL (OpA.addi rfl rfl rfl (by omega) ?_)
 refine wL (OpA.callH rfl rfl rfl en85 (h1 := []) (h2 := [(c5, .cells 3 [encCosts c])]) (.refl _) (table_h (a.length + 1) (b.length + 1) (by omega) (by omega)) ?_)
 rintro _ _ ⟨tr, tc, rfl, rfl⟩
 refine wL (OpA.a ?_)
 refine zab (zac (zac (zaa (wL (OpA.m ?_)))))
 refine wL (OpA.addi rfl rfl rfl (by omega) ?_)
 refine wL (OpA.m ?_)
 refine zab (zag ?_)
 refine wpA_loopE (fun mm fr h => ∃ (k0 : Nat) (l : List Int), mm = a.length + 1 - k0 ∧ (k0 ≤ a.length + 1 ∧ Tab l a.length b.length (fun i _ => a.length < i + k0) (bkv a b c)) ∧ fr = asg [(0, encWords a), (1, encWords b), (5, .ptr c5 3 0 0), (6, .v (.slice none 0 0)), (7, .i a.length), (8, .i b.length), (9, .own tr 1 0 (a.length + 1)), (24, .i (a.length + 1)), (25, .i k0)] ∧ h = [(tc, .cells 1 (l.map D.i)), (tr, .cells 1 (rowsD tc (a.length + 1) (b.length + 1))), (c5, .cells 3 [encCosts c])]) ⟨_, _, ⟨0, List.replicate ((a.length + 1) * (b.length + 1)) 0, rfl, ⟨by omega, Tab.zero (by intro i j h1 h2; first | omega | (dsimp only; omega))⟩, rfl, rfl⟩, cvZ⟩ ?_
 rintro k fr h ⟨k0, l, rfl, ⟨hk0, hT⟩, rfl, rfl⟩
 refine zac (zaa ?_)
 refine wL (OpA.lss rfl rfl rfl ?_)
 refine zab (zac ?_)
 refine zae rfl (fun b1 => ?_) (fun b1 => ?_)
 try replace b1 := zI b1
 refine zai (zac (zag (zac (zaa (wL (OpA.m (wL (OpA.a (zab (zac (zaa (wL (OpA.m ?_)))))))))))))
 refine wL (OpA.addi rfl rfl rfl (by omega) ?_)
 refine wL (OpA.m ?_)
 refine zab (zag ?_)
 refine wpA_loopE (fun mm fr h => ∃ (k1 : Nat) (l2 : List Int), mm = b.length + 1 - k1 ∧ (k1 ≤ b.length + 1 ∧ Tab l2 a.length b.length (fun i j => a.length < i + k0 ∨ (i + k0 = a.length ∧ b.length < j + k1)) (bkv a b c)) ∧ fr = asg [(0, encWords a), (1, encWords b), (5, .ptr c5 3 0 0), (6, .v (.slice none 0 0)), (7, .i a.length), (8, .i b.length), (9, .own tr 1 0 (a.length + 1)), (10, .i k0), (24, .i (a.length + 1)), (25, .i k0), (29, .i (b.length + 1)), (30, .i k1)] ∧ h = [(tc, .cells 1 (l2.map D.i)), (tr, .cells 1 (rowsD tc (a.length + 1) (b.length + 1))), (c5, .cells 3 [encCosts c])]) ⟨_, _, ⟨0, l, rfl, ⟨by omega, hT.less (by intro i j h1 h2 h3; first | omega | (dsimp only at *; omega))⟩, rfl, rfl⟩, cvZ⟩ ?_
 rintro k fr h ⟨k1, l2, rfl, ⟨hk1, hT2⟩, rfl, rfl⟩
 have hx11 := bkv_bd hok ha hb (a.length - k0 + 1) (b.length - k1 + 1)
 have hx10 := bkv_bd hok ha hb (a.length - k0 + 1) (b.length - k1)
 have hx01 := bkv_bd hok ha hb (a.length - k0) (b.length - k1 + 1)
 have g1 : 0 ≤ (k1 : Int) * c.add := Int.mul_nonneg (by omega) (by omega)
 have g2 : (k1 : Int) * c.add ≤ 1025 * 1000 := Int.mul_le_mul (by omega) (by omega) (by omega) (by omega)
 have g3 : 0 ≤ (k0 : Int) * c.drop := Int.mul_nonneg (by omega) (by omega)
 have g4 : (k0 : Int) * c.drop ≤ 1025 * 1000 := Int.mul_le_mul (by omega) (by omega) (by omega) (by omega)
 refine zac (zaa ?_)
 refine wL (OpA.lss rfl rfl rfl ?_)
 refine zab (zac ?_)
 refine zae rfl (fun b2 => ?_) (fun b2 => ?_)
 try replace b2 := zI b2
 refine zai (zac (zag (zac (zaa (wL (OpA.m (wL (OpA.a (zab (zac (zaa (wL (OpA.m (wL (OpA.m ?_)))))))))))))))
 refine wL (OpA.subi rfl rfl rfl (by omega) ?_)
 refine wL (OpA.m ?_)
 refine wL (OpA.m ?_)
 refine wL (OpA.subi rfl rfl rfl (by omega) ?_)
 refine wL (OpA.a ?_)
 refine wL (OpA.a ?_)
 refine zab (zag (zac (zaa (wL (OpA.m ?_)))))
 refine wL (OpA.eql rfl rfl rfl ?_)
 refine wL (OpA.a ?_)
 refine zab ?_
 refine zae rfl (fun b3 => ?_) (fun b3 => ?_)
 try replace b3 := zI b3
 refine wpA_draw (m := 10) mo zK rfl ?_
 refine dL (OpA.m ⟨rfl, rfl⟩) ?_
 refine dL (OpA.m ⟨rfl, rfl⟩) ?_
 refine dL (OpA.ixN rfl ts46 rfl rfl zN (by omega) ⟨rfl, rfl⟩) ?_
 refine dL (OpA.load rfl ti41 rfl (.tail .head) (rowsD_get (by omega)) rfl ⟨rfl, rfl⟩) ?_
 refine dL (OpA.m ⟨rfl, rfl⟩) ?_
 refine dL (OpA.m ⟨rfl, rfl⟩) ?_
 refine dL (OpA.fieldAddr rfl tf40_2 rfl ⟨rfl, rfl⟩) ?_
 refine dL (OpA.load rfl ti3 rfl (.tail (.tail .head)) zC zC ⟨rfl, rfl⟩) ?_
 refine dL (OpA.muli rfl rfl rfl (by omega) ⟨rfl, rfl⟩) ?_
 refine dL (OpA.ixN rfl ts41 rfl rfl zN (by omega) ⟨rfl, rfl⟩) ?_
 refine DetK.nil ?_
 refine wE (OpA.storeI rfl ti3 rfl rfl (hT2.lt (by omega) (by omega)) .head ?_)
 refine zab (zaa ?_)
 refine wL (OpA.addi rfl rfl rfl (by omega) ?_)
 refine wL (OpA.m ?_)
 refine zab ?_
 exact ⟨_, _, by omega, ⟨k1 + 1, _, rfl, ⟨by omega, hT2.set (by omega) (by omega) (by first | (rw [bkv_a (by omega), show b.length - (b.length - k1) = k1 by omega]; done) | (rw [bkv_b (by omega), show a.length - (a.length - k0) = k0 by omega]; done) | (rw [bkv_step (i := a.length - k0) (j := b.length - k1) (by omega) (by omega)]; rfl)) (by intro i j h1 h2 h3; first | omega | (dsimp only at *; omega))⟩, rfl, rfl⟩, cvZ⟩
 try replace b3 := zI b3
 refine zac (zaa (wL (OpA.m ?_)))
 refine wL (OpA.eql rfl rfl rfl ?_)
 refine wL (OpA.a ?_)
 refine zab ?_
 refine zae rfl (fun b4 => ?_) (fun b4 => ?_)
 try replace b4 := zI b4
 refine wpA_draw (m := 10) mo zK rfl ?_
 refine dL (OpA.m ⟨rfl, rfl⟩) ?_
 refine dL (OpA.m ⟨rfl, rfl⟩) ?_
 refine dL (OpA.ixN rfl ts46 rfl rfl zN (by omega) ⟨rfl, rfl⟩) ?_
 refine dL (OpA.load rfl ti41 rfl (.tail .head) (rowsD_get (by omega)) rfl ⟨rfl, rfl⟩) ?_
 refine dL (OpA.m ⟨rfl, rfl⟩) ?_
 refine dL (OpA.m ⟨rfl, rfl⟩) ?_
 refine dL (OpA.fieldAddr rfl tf40_1 rfl ⟨rfl, rfl⟩) ?_
 refine dL (OpA.load rfl ti3 rfl (.tail (.tail .head)) zC zC ⟨rfl, rfl⟩) ?_
 refine dL (OpA.muli rfl rfl rfl (by omega) ⟨rfl, rfl⟩) ?_
 refine dL (OpA.ixN rfl ts41 rfl rfl zN (by omega) ⟨rfl, rfl⟩) ?_
 refine DetK.nil ?_
 refine wE (OpA.storeI rfl ti3 rfl rfl (hT2.lt (by omega) (by omega)) .head ?_)
 refine zab (zaa ?_)
 refine wL (OpA.addi rfl rfl rfl (by omega) ?_)
 refine wL (OpA.m ?_)
 refine zab ?_
 exact ⟨_, _, by omega, ⟨k1 + 1, _, rfl, ⟨by omega, hT2.set (by omega) (by omega) (by first | (rw [bkv_a (by omega), show b.length - (b.length - k1) = k1 by omega]; done) | (rw [bkv_b (by omega), show a.length - (a.length - k0) = k0 by omega]; done) | (rw [bkv_step (i := a.length - k0) (j := b.length - k1) (by omega) (by omega)]; rfl)) (by intro i j h1 h2 h3; first | omega | (dsimp only at *; omega))⟩, rfl, rfl⟩, cvZ⟩
 try replace b4 := zI b4
 have hpb := pairF_bd (x := a[a.length - k0]'(by omega)) (y := b[b.length - k1]'(by omega)) hcc.1
 refine wpA_draw (m := 49) mo zK rfl ?_
 refine dL (OpA.m ⟨rfl, rfl⟩) ?_
 refine dL (OpA.m ⟨rfl, rfl⟩) ?_
 refine dL (OpA.ixN rfl ts46 rfl rfl zN (by omega) ⟨rfl, rfl⟩) ?_
 refine dL (OpA.load rfl ti41 rfl (.tail .head) (rowsD_get (by omega)) rfl ⟨rfl, rfl⟩) ?_
 refine dL (OpA.m ⟨rfl, rfl⟩) ?_
 refine dL (OpA.m ⟨rfl, rfl⟩) ?_
 refine dL (OpA.m ⟨rfl, rfl⟩) ?_
 refine dL (OpA.addi rfl rfl rfl (by omega) ⟨rfl, rfl⟩) ?_
 refine dL (OpA.ixN rfl ts46 rfl rfl zN (by omega) ⟨rfl, rfl⟩) ?_
 refine dL (OpA.load rfl ti41 rfl (.tail .head) (rowsD_get (by omega)) rfl ⟨rfl, rfl⟩) ?_
 refine dL (OpA.m ⟨rfl, rfl⟩) ?_
 refine dL (OpA.addi rfl rfl rfl (by omega) ⟨rfl, rfl⟩) ?_
 refine dL (OpA.ixN rfl ts41 rfl rfl zN (by omega) ⟨rfl, rfl⟩) ?_
 refine dL (OpA.load rfl ti3 rfl .head (hT2.get (i := a.length - k0 + 1) (j := b.length - k1 + 1) (by omega) (by omega) (by first | omega | (dsimp only; omega))) rfl ⟨rfl, rfl⟩) ?_
 refine dL (OpA.m ⟨rfl, rfl⟩) ?_
 refine dL (OpA.m ⟨rfl, rfl⟩) ?_
 first
   | refine dL (OpA.iixN rfl ts24 rfl rfl rfl zN zC ⟨rfl, rfl⟩) ?_
   | refine dL (OpA.ixN rfl ts24 rfl rfl zN (by omega) ⟨rfl, rfl⟩) ?_
 first
   | refine dL (OpA.load_whole rfl ti30 rfl rfl zH zC ⟨_, rfl⟩ ⟨rfl, rfl⟩) ?_
   | refine dL (OpA.iload_whole rfl ti30 rfl ⟨_, rfl, rfl⟩ ⟨rfl, rfl⟩) ?_
   | refine dL (OpA.load_agg rfl ti30 rfl zH zC rfl rfl ⟨rfl, rfl⟩) ?_
   | refine dL (OpA.iload_agg rfl ti30 rfl rfl rfl ⟨rfl, rfl⟩) ?_
 refine dL (OpA.m ⟨rfl, rfl⟩) ?_
 refine dL (OpA.m ⟨rfl, rfl⟩) ?_
 first
   | refine dL (OpA.iixN rfl ts24 rfl rfl rfl zN zC ⟨rfl, rfl⟩) ?_
   | refine dL (OpA.ixN rfl ts24 rfl rfl zN (by omega) ⟨rfl, rfl⟩) ?_
 first
   | refine dL (OpA.load_whole rfl ti30 rfl rfl zH zC ⟨_, rfl⟩ ⟨rfl, rfl⟩) ?_
   | refine dL (OpA.iload_whole rfl ti30 rfl ⟨_, rfl, rfl⟩ ⟨rfl, rfl⟩) ?_
   | refine dL (OpA.load_agg rfl ti30 rfl zH zC rfl rfl ⟨rfl, rfl⟩) ?_
   | refine dL (OpA.iload_agg rfl ti30 rfl rfl rfl ⟨rfl, rfl⟩) ?_
 first
   | refine dL (OpA.load_whole rfl ti40 rfl rfl (.tail (.tail .head)) zC ⟨_, rfl⟩ ⟨rfl, rfl⟩) ?_
   | refine dL (OpA.load_agg rfl ti40 rfl (.tail (.tail .head)) zC rfl rfl ⟨rfl, rfl⟩) ?_
 refine dL (OpA.call rfl rfl rfl en41 (pair_fun _ _ _) (by rintro _ rfl; exact ⟨rfl, rfl⟩)) ?_
 refine dL (OpA.addi rfl rfl rfl (by omega) ⟨rfl, rfl⟩) ?_
 refine dL (OpA.m ⟨rfl, rfl⟩) ?_
 refine dL (OpA.m ⟨rfl, rfl⟩) ?_
 refine dL (OpA.addi rfl rfl rfl (by omega) ⟨rfl, rfl⟩) ?_
 refine dL (OpA.ixN rfl ts46 rfl rfl zN (by omega) ⟨rfl, rfl⟩) ?_
 refine dL (OpA.load rfl ti41 rfl (.tail .head) (rowsD_get (by omega)) rfl ⟨rfl, rfl⟩) ?_
 refine dL (OpA.m ⟨rfl, rfl⟩) ?_
 refine dL (OpA.ixN rfl ts41 rfl rfl zN (by omega) ⟨rfl, rfl⟩) ?_
 refine dL (OpA.load rfl ti3 rfl .head (hT2.get (i := a.length - k0 + 1) (j := b.length - k1) (by omega) (by omega) (by first | omega | (dsimp only; omega))) rfl ⟨rfl, rfl⟩) ?_
 refine dL (OpA.fieldAddr rfl tf40_1 rfl ⟨rfl, rfl⟩) ?_
 refine dL (OpA.load rfl ti3 rfl (.tail (.tail .head)) zC zC ⟨rfl, rfl⟩) ?_
 refine dL (OpA.addi rfl rfl rfl (by omega) ⟨rfl, rfl⟩) ?_
 refine dL (OpA.m ⟨rfl, rfl⟩) ?_
 refine dL (OpA.m ⟨rfl, rfl⟩) ?_
 refine dL (OpA.ixN rfl ts46 rfl rfl zN (by omega) ⟨rfl, rfl⟩) ?_
 refine dL (OpA.load rfl ti41 rfl (.tail .head) (rowsD_get (by omega)) rfl ⟨rfl, rfl⟩) ?_
 refine dL (OpA.m ⟨rfl, rfl⟩) ?_
 refine dL (OpA.addi rfl rfl rfl (by omega) ⟨rfl, rfl⟩) ?_
 refine dL (OpA.ixN rfl ts41 rfl rfl zN (by omega) ⟨rfl, rfl⟩) ?_
 refine dL (OpA.load rfl ti3 rfl .head (hT2.get (i := a.length - k0) (j := b.length - k1 + 1) (by omega) (by omega) (by first | omega | (dsimp only; omega))) rfl ⟨rfl, rfl⟩) ?_
 refine dL (OpA.fieldAddr rfl tf40_2 rfl ⟨rfl, rfl⟩) ?_
 refine dL (OpA.load rfl ti3 rfl (.tail (.tail .head)) zC zC ⟨rfl, rfl⟩) ?_
 refine dL (OpA.addi rfl rfl rfl (by omega) ⟨rfl, rfl⟩) ?_
 refine dL (OpA.min (l := [_, _]) rfl rfl rfl rfl ⟨rfl, rfl⟩) ?_
 refine dL (OpA.ixN rfl ts41 rfl rfl zN (by omega) ⟨rfl, rfl⟩) ?_
 refine DetK.nil ?_
 refine wE (OpA.storeI rfl ti3 rfl rfl (hT2.lt (by omega) (by omega)) .head ?_)
 refine zab (zaa ?_)
 refine wL (OpA.addi rfl rfl rfl (by omega) ?_)
 refine wL (OpA.m ?_)
 refine zab ?_
 exact ⟨_, _, by omega, ⟨k1 + 1, _, rfl, ⟨by omega, hT2.set (by omega) (by omega) (by first | (rw [bkv_a (by omega), show b.length - (b.length - k1) = k1 by omega]; done) | (rw [bkv_b (by omega), show a.length - (a.length - k0) = k0 by omega]; done) | (rw [bkv_step (i := a.length - k0) (j := b.length - k1) (by omega) (by omega)]; rfl)) (by intro i j h1 h2 h3; first | omega | (dsimp only at *; omega))⟩, rfl, rfl⟩, cvZ⟩
 try replace b2 := zI b2
 refine wpA_exit ?_
 refine zaa ?_
 refine wL (OpA.addi rfl rfl rfl (by omega) ?_)
 refine wL (OpA.m ?_)
 refine zab ?_
 exact ⟨_, _, by omega, ⟨k0 + 1, _, rfl, ⟨by omega, hT2.less (by intro i j h1 h2 h3; first | omega | (dsimp only at *; omega))⟩, rfl, rfl⟩, cvZ⟩
 try replace b1 := zI b1
 refine wpA_exit ?_
 refine zac (zaa (wL (OpA.m (wL (OpA.a (zab (zal ?_)))))))
 refine ⟨_, (.tmp zW .nil), _, (hT.snap (by intro i j h1 h2; first | omega | (dsimp only; omega)) (by first | exact .head | exact .tail .head) (by first | exact .head | exact .tail .head) .nil), ?_⟩
 (try simp only [tupD]) <;> (rfl)
theorem fronts_fun (a b : List Lexeme) (c : Costs) (hck : alCheck a b c = 0) : Fun false Tryz.prog 42 [encWords a, encWords b, encCosts c] (fun d => d = encTable (frontF a b c)) := by
 obtain ⟨hok, ha, hb⟩ := checkF_ok hck
 have hcc := checkF_zero hck
 refine Fun.of_body Tryz.func42 rfl Tryz.ntmps42 rfl ?_
 refine zac (zaa ?_)
 refine wL (OpA.bx (sz := 3) rfl zW (.of rfl) (fun c5 _ => ?_))
 refine wL (OpA.a ?_)
 refine zab (zac (zaa (wL (OpA.m ?_))))
 first
   | refine wL (OpA.len rfl rfl rfl rfl ts24.desc (.inl ⟨_, _, rfl, (List.length_map _).symm⟩) ?_)
   | refine wL (OpA.len rfl rfl rfl rfl ts24.desc (.inl ⟨_, _, rfl, rfl⟩) ?_)
   | refine wL (OpA.len rfl rfl rfl rfl ts24.desc (.inr (.inl ⟨_, _, _, rfl⟩)) ?_)
   | refine wL (OpA.len rfl rfl rfl rfl ts24.desc (.inr (.inr ⟨rfl, rfl⟩)) ?_)
 refine wL (OpA.addi rfl rfl rfl (by omega) ?_)
 refine wL (OpA.m ?_)
 first
   | refine wL (OpA.len rfl rfl rfl rfl ts24.desc (.inl ⟨_, _, rfl, (List.length_map _).symm⟩) ?_)
   | refine wL (OpA.len rfl rfl rfl rfl ts24.desc (.inl ⟨_, _, rfl, rfl⟩) ?_)
   | refine wL (OpA.len rfl rfl rfl rfl ts24.desc (.inr (.inl ⟨_, _, _, rfl⟩)) ?_)
   | refine wL (OpA.len rfl rfl rfl rfl ts24.desc (.inr (.inr ⟨rfl, rfl⟩)) ?_)
 refine wL (OpA.addi rfl rfl rfl (by omega) ?_)
 refine wL (OpA.callH rfl rfl rfl en85 (h1 := []) (h2 := [(c5, .cells 3 [encCosts c])]) (.refl _) (table_h (a.length + 1) (b.length + 1) (by omega) (by omega)) ?_)
 rintro _ _ ⟨tr, tc, rfl, rfl⟩
 refine wL (OpA.a ?_)
 refine zab (zac (zac (zaa (wL (OpA.m ?_)))))
 first
   | refine wL (OpA.len rfl rfl rfl rfl ts24.desc (.inl ⟨_, _, rfl, (List.length_map _).symm⟩) ?_)
   | refine wL (OpA.len rfl rfl rfl rfl ts24.desc (.inl ⟨_, _, rfl, rfl⟩) ?_)
   | refine wL (OpA.len rfl rfl rfl rfl ts24.desc (.inr (.inl ⟨_, _, _, rfl⟩)) ?_)
   | refine wL (OpA.len rfl rfl rfl rfl ts24.desc (.inr (.inr ⟨rfl, rfl⟩)) ?_)
 refine wL (OpA.addi rfl rfl rfl (by omega) ?_)
 refine wL (OpA.m ?_)
 refine zab (zag ?_)
 refine wpA_loopE (fun mm fr h => ∃ (k0 : Nat) (l : List Int), mm = a.length + 1 - k0 ∧ (k0 ≤ a.length + 1 ∧ Tab l a.length b.length (fun i _ => i < k0) (fkv a b c)) ∧ fr = asg [(0, encWords a), (1, encWords b), (5, .ptr c5 3 0 0), (6, .v (.slice none 0 0)), (7, .own tr 1 0 (a.length + 1)), (19, .i (a.length + 1)), (20, .i k0)] ∧ h = [(tc, .cells 1 (l.map D.i)), (tr, .cells 1 (rowsD tc (a.length + 1) (b.length + 1))), (c5, .cells 3 [encCosts c])]) ⟨_, _, ⟨0, List.replicate ((a.length + 1) * (b.length + 1)) 0, rfl, ⟨by omega, Tab.zero (by intro i j h1 h2; first | omega | (dsimp only; omega))⟩, rfl, rfl⟩, cvZ⟩ ?_
 rintro k fr h ⟨k0, l, rfl, ⟨hk0, hT⟩, rfl, rfl⟩
 refine zac (zaa ?_)
 refine wL (OpA.lss rfl rfl rfl ?_)
 refine zab (zac ?_)
 refine zae rfl (fun b1 => ?_) (fun b1 => ?_)
 try replace b1 := zI b1
 refine zai (zac (zag (zac (zaa (wL (OpA.m (wL (OpA.a (zab (zac (zaa (wL (OpA.m ?_)))))))))))))
 first
   | refine wL (OpA.len rfl rfl rfl rfl ts24.desc (.inl ⟨_, _, rfl, (List.length_map _).symm⟩) ?_)
   | refine wL (OpA.len rfl rfl rfl rfl ts24.desc (.inl ⟨_, _, rfl, rfl⟩) ?_)
   | refine wL (OpA.len rfl rfl rfl rfl ts24.desc (.inr (.inl ⟨_, _, _, rfl⟩)) ?_)
   | refine wL (OpA.len rfl rfl rfl rfl ts24.desc (.inr (.inr ⟨rfl, rfl⟩)) ?_)
 refine wL (OpA.addi rfl rfl rfl (by omega) ?_)
 refine wL (OpA.m ?_)
 refine zab (zag ?_)
 refine wpA_loopE (fun mm fr h => ∃ (k1 : Nat) (l2 : List Int), mm = b.length + 1 - k1 ∧ (k1 ≤ b.length + 1 ∧ Tab l2 a.length b.length (fun i j => i < k0 ∨ (i = k0 ∧ j < k1)) (fkv a b c)) ∧ fr = asg [(0, encWords a), (1, encWords b), (5, .ptr c5 3 0 0), (6, .v (.slice none 0 0)), (7, .own tr 1 0 (a.length + 1)), (8, .i k0), (19, .i (a.length + 1)), (20, .i k0), (25, .i (b.length + 1)), (26, .i k1)] ∧ h = [(tc, .cells 1 (l2.map D.i)), (tr, .cells 1 (rowsD tc (a.length + 1) (b.length + 1))), (c5, .cells 3 [encCosts c])]) ⟨_, _, ⟨0, l, rfl, ⟨by omega, hT.less (by intro i j h1 h2 h3; first | omega | (dsimp only at *; omega))⟩, rfl, rfl⟩, cvZ⟩ ?_
 rintro k fr h ⟨k1, l2, rfl, ⟨hk1, hT2⟩, rfl, rfl⟩
 have hx11 := fkv_bd hok ha hb (k0 - 1) (k1 - 1)
 have hx10 := fkv_bd hok ha hb (k0 - 1) (k1)
 have hx01 := fkv_bd hok ha hb (k0) (k1 - 1)
 have g1 : 0 ≤ (k1 : Int) * c.add := Int.mul_nonneg (by omega) (by omega)
 have g2 : (k1 : Int) * c.add ≤ 1025 * 1000 := Int.mul_le_mul (by omega) (by omega) (by omega) (by omega)
 have g3 : 0 ≤ (k0 : Int) * c.drop := Int.mul_nonneg (by omega) (by omega)
 have g4 : (k0 : Int) * c.drop ≤ 1025 * 1000 := Int.mul_le_mul (by omega) (by omega) (by omega) (by omega)
 refine zac (zaa ?_)
 refine wL (OpA.lss rfl rfl rfl ?_)
 refine zab (zac ?_)
 refine zae rfl (fun b2 => ?_) (fun b2 => ?_)
 try replace b2 := zI b2
 refine zai (zac (zag (zac (zaa (wL (OpA.m (wL (OpA.a (zab (zag (zac (zaa (wL (OpA.m ?_))))))))))))))
 refine wL (OpA.eql rfl rfl rfl ?_)
 refine wL (OpA.a ?_)
 refine zab ?_
 refine zae rfl (fun b3 => ?_) (fun b3 => ?_)
 try replace b3 := zI b3
 refine wpA_draw (m := 10) mo zK rfl ?_
 refine dL (OpA.m ⟨rfl, rfl⟩) ?_
 refine dL (OpA.m ⟨rfl, rfl⟩) ?_
 refine dL (OpA.ixN rfl ts46 rfl rfl zN (by omega) ⟨rfl, rfl⟩) ?_
 refine dL (OpA.load rfl ti41 rfl (.tail .head) (rowsD_get (by omega)) rfl ⟨rfl, rfl⟩) ?_
 refine dL (OpA.m ⟨rfl, rfl⟩) ?_
 refine dL (OpA.m ⟨rfl, rfl⟩) ?_
 refine dL (OpA.fieldAddr rfl tf40_2 rfl ⟨rfl, rfl⟩) ?_
 refine dL (OpA.load rfl ti3 rfl (.tail (.tail .head)) zC zC ⟨rfl, rfl⟩) ?_
 refine dL (OpA.muli rfl rfl rfl (by omega) ⟨rfl, rfl⟩) ?_
 refine dL (OpA.ixN rfl ts41 rfl rfl zN (by omega) ⟨rfl, rfl⟩) ?_
 refine DetK.nil ?_
 refine wE (OpA.storeI rfl ti3 rfl rfl (hT2.lt (by omega) (by omega)) .head ?_)
 refine zab (zaa ?_)
 refine wL (OpA.addi rfl rfl rfl (by omega) ?_)
 refine wL (OpA.m ?_)
 refine zab ?_
 exact ⟨_, _, by omega, ⟨k1 + 1, _, rfl, ⟨by omega, hT2.set (by omega) (by omega) (by first | (rw [show k0 = 0 by omega, fkv_a (by omega)]; done) | (rw [show k1 = 0 by omega, fkv_b (by omega)]; done) | (rw [fkv_step' (i := k0) (j := k1) (by omega) (by omega) (by omega) (by omega)]; rfl)) (by intro i j h1 h2 h3; first | omega | (dsimp only at *; omega))⟩, rfl, rfl⟩, cvZ⟩
 try replace b3 := zI b3
 refine zac (zaa (wL (OpA.m ?_)))
 refine wL (OpA.eql rfl rfl rfl ?_)
 refine wL (OpA.a ?_)
 refine zab ?_
 refine zae rfl (fun b4 => ?_) (fun b4 => ?_)
 try replace b4 := zI b4
 refine wpA_draw (m := 10) mo zK rfl ?_
 refine dL (OpA.m ⟨rfl, rfl⟩) ?_
 refine dL (OpA.m ⟨rfl, rfl⟩) ?_
 refine dL (OpA.ixN rfl ts46 rfl rfl zN (by omega) ⟨rfl, rfl⟩) ?_
 refine dL (OpA.load rfl ti41 rfl (.tail .head) (rowsD_get (by omega)) rfl ⟨rfl, rfl⟩) ?_
 refine dL (OpA.m ⟨rfl, rfl⟩) ?_
 refine dL (OpA.m ⟨rfl, rfl⟩) ?_
 refine dL (OpA.fieldAddr rfl tf40_1 rfl ⟨rfl, rfl⟩) ?_
 refine dL (OpA.load rfl ti3 rfl (.tail (.tail .head)) zC zC ⟨rfl, rfl⟩) ?_
 refine dL (OpA.muli rfl rfl rfl (by omega) ⟨rfl, rfl⟩) ?_
 refine dL (OpA.ixN rfl ts41 rfl rfl zN (by omega) ⟨rfl, rfl⟩) ?_
 refine DetK.nil ?_
 refine wE (OpA.storeI rfl ti3 rfl rfl (hT2.lt (by omega) (by omega)) .head ?_)
 refine zab (zaa ?_)
 refine wL (OpA.addi rfl rfl rfl (by omega) ?_)
 refine wL (OpA.m ?_)
 refine zab ?_
 exact ⟨_, _, by omega, ⟨k1 + 1, _, rfl, ⟨by omega, hT2.set (by omega) (by omega) (by first | (rw [show k0 = 0 by omega, fkv_a (by omega)]; done) | (rw [show k1 = 0 by omega, fkv_b (by omega)]; done) | (rw [fkv_step' (i := k0) (j := k1) (by omega) (by omega) (by omega) (by omega)]; rfl)) (by intro i j h1 h2 h3; first | omega | (dsimp only at *; omega))⟩, rfl, rfl⟩, cvZ⟩
 try replace b4 := zI b4
 have hpb := pairF_bd (x := a[k0 - 1]'(by omega)) (y := b[k1 - 1]'(by omega)) hcc.1
 refine wpA_draw (m := 51) mo zK rfl ?_
 refine dL (OpA.m ⟨rfl, rfl⟩) ?_
 refine dL (OpA.m ⟨rfl, rfl⟩) ?_
 refine dL (OpA.ixN rfl ts46 rfl rfl zN (by omega) ⟨rfl, rfl⟩) ?_
 refine dL (OpA.load rfl ti41 rfl (.tail .head) (rowsD_get (by omega)) rfl ⟨rfl, rfl⟩) ?_
 refine dL (OpA.m ⟨rfl, rfl⟩) ?_
 refine dL (OpA.m ⟨rfl, rfl⟩) ?_
 refine dL (OpA.m ⟨rfl, rfl⟩) ?_
 refine dL (OpA.subi rfl rfl rfl (by omega) ⟨rfl, rfl⟩) ?_
 refine dL (OpA.ixN rfl ts46 rfl rfl zN (by omega) ⟨rfl, rfl⟩) ?_
 refine dL (OpA.load rfl ti41 rfl (.tail .head) (rowsD_get (by omega)) rfl ⟨rfl, rfl⟩) ?_
 refine dL (OpA.m ⟨rfl, rfl⟩) ?_
 refine dL (OpA.subi rfl rfl rfl (by omega) ⟨rfl, rfl⟩) ?_
 refine dL (OpA.ixN rfl ts41 rfl rfl zN (by omega) ⟨rfl, rfl⟩) ?_
 refine dL (OpA.load rfl ti3 rfl .head (hT2.get (i := k0 - 1) (j := k1 - 1) (by omega) (by omega) (by first | omega | (dsimp only; omega))) rfl ⟨rfl, rfl⟩) ?_
 refine dL (OpA.m ⟨rfl, rfl⟩) ?_
 refine dL (OpA.m ⟨rfl, rfl⟩) ?_
 refine dL (OpA.subi rfl rfl rfl (by omega) ⟨rfl, rfl⟩) ?_
 first
   | refine dL (OpA.iixN rfl ts24 rfl rfl rfl zN zC ⟨rfl, rfl⟩) ?_
   | refine dL (OpA.ixN rfl ts24 rfl rfl zN (by omega) ⟨rfl, rfl⟩) ?_
 first
   | refine dL (OpA.load_whole rfl ti30 rfl rfl zH zC ⟨_, rfl⟩ ⟨rfl, rfl⟩) ?_
   | refine dL (OpA.iload_whole rfl ti30 rfl ⟨_, rfl, rfl⟩ ⟨rfl, rfl⟩) ?_
   | refine dL (OpA.load_agg rfl ti30 rfl zH zC rfl rfl ⟨rfl, rfl⟩) ?_
   | refine dL (OpA.iload_agg rfl ti30 rfl rfl rfl ⟨rfl, rfl⟩) ?_
 refine dL (OpA.m ⟨rfl, rfl⟩) ?_
 refine dL (OpA.m ⟨rfl, rfl⟩) ?_
 refine dL (OpA.subi rfl rfl rfl (by omega) ⟨rfl, rfl⟩) ?_
 first
   | refine dL (OpA.iixN rfl ts24 rfl rfl rfl zN zC ⟨rfl, rfl⟩) ?_
   | refine dL (OpA.ixN rfl ts24 rfl rfl zN (by omega) ⟨rfl, rfl⟩) ?_
 first
   | refine dL (OpA.load_whole rfl ti30 rfl rfl zH zC ⟨_, rfl⟩ ⟨rfl, rfl⟩) ?_
   | refine dL (OpA.iload_whole rfl ti30 rfl ⟨_, rfl, rfl⟩ ⟨rfl, rfl⟩) ?_
   | refine dL (OpA.load_agg rfl ti30 rfl zH zC rfl rfl ⟨rfl, rfl⟩) ?_
   | refine dL (OpA.iload_agg rfl ti30 rfl rfl rfl ⟨rfl, rfl⟩) ?_
 first
   | refine dL (OpA.load_whole rfl ti40 rfl rfl (.tail (.tail .head)) zC ⟨_, rfl⟩ ⟨rfl, rfl⟩) ?_
   | refine dL (OpA.load_agg rfl ti40 rfl (.tail (.tail .head)) zC rfl rfl ⟨rfl, rfl⟩) ?_
 refine dL (OpA.call rfl rfl rfl en41 (pair_fun _ _ _) (by rintro _ rfl; exact ⟨rfl, rfl⟩)) ?_
 refine dL (OpA.addi rfl rfl rfl (by omega) ⟨rfl, rfl⟩) ?_
 refine dL (OpA.m ⟨rfl, rfl⟩) ?_
 refine dL (OpA.m ⟨rfl, rfl⟩) ?_
 refine dL (OpA.subi rfl rfl rfl (by omega) ⟨rfl, rfl⟩) ?_
 refine dL (OpA.ixN rfl ts46 rfl rfl zN (by omega) ⟨rfl, rfl⟩) ?_
 refine dL (OpA.load rfl ti41 rfl (.tail .head) (rowsD_get (by omega)) rfl ⟨rfl, rfl⟩) ?_
 refine dL (OpA.m ⟨rfl, rfl⟩) ?_
 refine dL (OpA.ixN rfl ts41 rfl rfl zN (by omega) ⟨rfl, rfl⟩) ?_
 refine dL (OpA.load rfl ti3 rfl .head (hT2.get (i := k0 - 1) (j := k1) (by omega) (by omega) (by first | omega | (dsimp only; omega))) rfl ⟨rfl, rfl⟩) ?_
 refine dL (OpA.fieldAddr rfl tf40_1 rfl ⟨rfl, rfl⟩) ?_
 refine dL (OpA.load rfl ti3 rfl (.tail (.tail .head)) zC zC ⟨rfl, rfl⟩) ?_
 refine dL (OpA.addi rfl rfl rfl (by omega) ⟨rfl, rfl⟩) ?_
 refine dL (OpA.m ⟨rfl, rfl⟩) ?_
 refine dL (OpA.m ⟨rfl, rfl⟩) ?_
 refine dL (OpA.ixN rfl ts46 rfl rfl zN (by omega) ⟨rfl, rfl⟩) ?_
 refine dL (OpA.load rfl ti41 rfl (.tail .head) (rowsD_get (by omega)) rfl ⟨rfl, rfl⟩) ?_
 refine dL (OpA.m ⟨rfl, rfl⟩) ?_
 refine dL (OpA.subi rfl rfl rfl (by omega) ⟨rfl, rfl⟩) ?_
 refine dL (OpA.ixN rfl ts41 rfl rfl zN (by omega) ⟨rfl, rfl⟩) ?_
 refine dL (OpA.load rfl ti3 rfl .head (hT2.get (i := k0) (j := k1 - 1) (by omega) (by omega) (by first | omega | (dsimp only; omega))) rfl ⟨rfl, rfl⟩) ?_
 refine dL (OpA.fieldAddr rfl tf40_2 rfl ⟨rfl, rfl⟩) ?_
 refine dL (OpA.load rfl ti3 rfl (.tail (.tail .head)) zC zC ⟨rfl, rfl⟩) ?_
 refine dL (OpA.addi rfl rfl rfl (by omega) ⟨rfl, rfl⟩) ?_
 refine dL (OpA.min (l := [_, _]) rfl rfl rfl rfl ⟨rfl, rfl⟩) ?_
 refine dL (OpA.ixN rfl ts41 rfl rfl zN (by omega) ⟨rfl, rfl⟩) ?_
 refine DetK.nil ?_
 refine wE (OpA.storeI rfl ti3 rfl rfl (hT2.lt (by omega) (by omega)) .head ?_)
 refine zab (zaa ?_)
 refine wL (OpA.addi rfl rfl rfl (by omega) ?_)
 refine wL (OpA.m ?_)
 refine zab ?_
 exact ⟨_, _, by omega, ⟨k1 + 1, _, rfl, ⟨by omega, hT2.set (by omega) (by omega) (by first | (rw [show k0 = 0 by omega, fkv_a (by omega)]; done) | (rw [show k1 = 0 by omega, fkv_b (by omega)]; done) | (rw [fkv_step' (i := k0) (j := k1) (by omega) (by omega) (by omega) (by omega)]; rfl)) (by intro i j h1 h2 h3; first | omega | (dsimp only at *; omega))⟩, rfl, rfl⟩, cvZ⟩
 try replace b2 := zI b2
 refine wpA_exit ?_
 refine zaa ?_
 refine wL (OpA.addi rfl rfl rfl (by omega) ?_)
 refine wL (OpA.m ?_)
 refine zab ?_
 exact ⟨_, _, by omega, ⟨k0 + 1, _, rfl, ⟨by omega, hT2.less (by intro i j h1 h2 h3; first | omega | (dsimp only at *; omega))⟩, rfl, rfl⟩, cvZ⟩
 try replace b1 := zI b1
 refine wpA_exit ?_
 refine zac (zaa (wL (OpA.m (wL (OpA.a (zab (zal ?_)))))))
 refine ⟨_, (.tmp zW .nil), _, (hT.snap (by intro i j h1 h2; first | omega | (dsimp only; omega)) (by first | exact .head | exact .tail .head) (by first | exact .head | exact .tail .head) .nil), ?_⟩
 (try simp only [tupD]) <;> (rfl)
end Go.Proofs.YtkifpidbpoghlaaGreatDoor
