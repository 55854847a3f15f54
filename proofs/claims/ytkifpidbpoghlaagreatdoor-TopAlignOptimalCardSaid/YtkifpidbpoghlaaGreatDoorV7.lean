/-
  walks and contracts
-/
import Derived.Test.YtkifpidbpoghlaaGreatDoorV6
set_option linter.all false
namespace Go.Proofs.YtkifpidbpoghlaaGreatDoor
open Go Go.Lic Go.Sort Go.Proofs
attribute [local irreducible] addP badR blankF cloneCmp clonesF cmpI codeF countF fewTs fewW findC gramsF guarF hashF indexF itoaF lenF lookF mul64F mulP orF partF pathF powF printsF pushF rightL rollF selectF sizeF splitF splitG validT
set_option maxHeartbeats 2000000 in
set_option maxRecDepth 10000 in
theorem kright_w (l : (List Text)) (Q : Bool → Prop) (h : kright_vc l Q) : Fun false Tryz.prog 76 [(encL 2 zak) l] (fun d => ∃ r, d = D.b r ∧ Q r) := by
 unfold kright_vc at h
 refine Fun.of_body Tryz.func76 rfl Tryz.ntmps76 rfl ?_
 refine zac (zaa (wL (OpA.a (zab ?_))))
 iterate 2 refine zac ?_
 refine zaa (wL (OpA.m ?_))
 refine wL (OpA.len rfl rfl rfl rfl ts61.desc (.inl ⟨_, _, rfl, (List.length_map _).symm⟩) ?_)
 refine wL (OpA.gtr rfl rfl rfl ?_)
 refine zab ?_
 refine zae rfl (fun b1 => ?_) (fun b1 => ?_)
 have h := h.1 (decT b1)
 refine zac (zaa (wL (OpA.a (zab (zal ?_)))))
 exact ⟨_, (.tmp (d := D.b false) rfl .nil), _, (.same rfl .nil), ⟨false, rfl, h⟩⟩
 have h := h.2 (decF b1)
 refine zai ?_
 iterate 2 refine zac ?_
 refine zaa (wL (OpA.m ?_))
 refine wL (OpA.len rfl rfl rfl rfl ts61.desc (.inl ⟨_, _, rfl, (List.length_map _).symm⟩) ?_)
 refine wL (OpA.m ?_)
 refine zab (zag ?_)
 refine wpA_lfp (S := Int) (G := Unit) () (fun gg ss => asg [(0, (encL 2 zak) l), (2, D.b false), (8, (encL 2 zak) l), (9, D.i (l.length : Int)), (10, D.i ss)]) (fun gg ss => []) h cvZ (.refl _) ?_
 rintro again2 _ x h
 have h : kright_L1 l Q again2 x := h
 unfold kright_L1 at h
 show wpA _ _ _ _ _ _
 refine zac (zaa ?_)
 refine wL (OpA.lss rfl rfl rfl ?_)
 refine zab (zac ?_)
 refine zae rfl (fun b3 => ?_) (fun b3 => ?_)
 have h := h.1 (decT b3)
 refine zai (zac (zag (zac ?_)))
 obtain ⟨q1, h⟩ := h
 refine zaa (wL (OpA.m ?_))
 refine wL (OpA.iixV (enc := zak) rfl ts61 rfl rfl rfl q1 ?_)
 refine wL (OpA.iload_whole rfl ti57 rfl ⟨_, rfl, rfl⟩ ?_)
 refine wL (OpA.alloc (sz := 2) (d := .agg ([D.s ByteArray.empty, .v (.slice none 0 0)])) rfl tz57 (fun _ _ => .agg (.cons (.v _) (.cons (.v _) .nil))) (.of rfl) (fun c4 _ => ?_))
 refine wL (OpA.a ?_)
 refine wE (OpA.storeW rfl ti57 rfl zW (.of rfl) rfl rfl .head ?_)
 refine zab (zac ?_)
 obtain ⟨q1, q2, h⟩ := h
 refine wpA_mid (asg [(0, (encL 2 zak) l), (2, D.b false), (8, (encL 2 zak) l), (9, D.i (l.length : Int)), (10, D.i x), (32, D.b ((!(validT (gi l x))) || ((decide (x > 0)) && (sless ((gi l x).path) ((gi l (x - 1)).path) || decide ((gi l x).path = (gi l (x - 1)).path)))))]) [(c4, .cells 2 [zak (gi l x)])] ?_ ?_
 refine wpA_draw (m := 18) mo zK rfl ?_
 refine dL (OpA.load_whole rfl ti57 rfl rfl .head rfl ⟨_, rfl⟩ ⟨rfl, rfl⟩) ?_
 refine dL (OpA.call rfl rfl rfl en58 (nvalid_c (gi l x) q1) (by rintro _ rfl; exact ⟨rfl, rfl⟩)) ?_
 refine dL (OpA.not rfl rfl ⟨rfl, rfl⟩) ?_
 refine dL (OpA.m ⟨rfl, rfl⟩) ?_
 refine DetK_split (s := 18) rfl (fun b6 => ?_) (fun b6 => ?_)
 iterate 3 refine dS ?_
 iterate 9 refine DetK.skipU rfl rfl rfl ?_
 refine dS ?_
 refine dL (OpA.p ⟨rfl, rfl⟩) ?_
 refine DetK.nil ?_
 refine zab ?_
 exact ⟨(Cov.asg ⟨rfl, rfl, rfl, rfl, rfl, (congrArg D.b (Eq.symm (orS b6))), trivial⟩), (.refl _)⟩
 refine dG (OpA.m ⟨rfl, rfl⟩) ?_
 refine dG (OpA.gtr rfl rfl rfl ⟨rfl, rfl⟩) ?_
 refine dG (OpA.m ⟨rfl, rfl⟩) ?_
 refine DetK_split (s := 21) rfl (fun b7 => ?_) (fun b7 => ?_)
 refine dG (OpA.fieldAddr rfl tf57_0 rfl ⟨rfl, rfl⟩) ?_
 refine dG (OpA.load rfl ti9 rfl .head rfl rfl ⟨rfl, rfl⟩) ?_
 iterate 2 refine dG (OpA.m ⟨rfl, rfl⟩) ?_
 refine dG (OpA.subi rfl rfl rfl ((q2 (notF b6)) (decT b7)).1 ⟨rfl, rfl⟩) ?_
 refine dG (OpA.iixV (enc := zak) rfl ts61 rfl rfl rfl ((q2 (notF b6)) (decT b7)).2 ⟨rfl, rfl⟩) ?_
 refine dG (OpA.ifieldAddr rfl tf57_0 rfl ⟨rfl, rfl⟩) ?_
 refine dG (OpA.iload rfl ti9 rfl rfl ⟨rfl, rfl⟩) ?_
 refine dG (OpA.sleq rfl rfl rfl ⟨rfl, rfl⟩) ?_
 refine dG (OpA.p ⟨rfl, rfl⟩) ?_
 refine dL (OpA.p ⟨rfl, rfl⟩) ?_
 refine DetK.nil ?_
 refine zab ?_
 exact ⟨(Cov.asg ⟨rfl, rfl, rfl, rfl, rfl, (congrArg D.b (Eq.symm (orN b6 (andN b7 rfl)))), trivial⟩), (.refl _)⟩
 iterate 9 refine dS ?_
 refine dG (OpA.p ⟨rfl, rfl⟩) ?_
 refine dL (OpA.p ⟨rfl, rfl⟩) ?_
 refine DetK.nil ?_
 refine zab ?_
 exact ⟨(Cov.asg ⟨rfl, rfl, rfl, rfl, rfl, (congrArg D.b (Eq.symm (orN b6 (andS b7)))), trivial⟩), (.refl _)⟩
 show wpA _ _ _ _ _ _
 refine zae rfl (fun b5 => ?_) (fun b5 => ?_)
 have h := h.1 ((or0 b5).imp (fun hh => (notT hh)) (fun hh => ⟨(decT (and1 hh)), (and2 hh)⟩))
 refine zac (zaa (wL (OpA.a (zab (zal ?_)))))
 exact ⟨_, (.tmp (d := D.b false) rfl .nil), _, (.same rfl .nil), ⟨false, rfl, h⟩⟩
 have h := h.2 ⟨(notF (or1 b5)), ((and0 (or2 b5)).imp (fun hh => (decF hh)) (fun hh => hh))⟩
 refine zai ?_
 obtain ⟨q1, h⟩ := h
 refine zaa ?_
 refine wL (OpA.addi rfl rfl rfl q1 ?_)
 refine wL (OpA.m ?_)
 refine zab ?_
 exact ⟨(), (x + 1), h, cvZ, (.cons _ (.refl _))⟩
 have h := h.2 (decF b3)
 refine wpA_exit ?_
 refine zac (zaa (wL (OpA.a (zab (zal ?_)))))
 exact ⟨_, (.tmp (d := D.b true) rfl .nil), _, (.same rfl .nil), ⟨true, rfl, h⟩⟩
theorem kright_c (l : (List Text)) (hp0 : okTs l) : Fun false Tryz.prog 76 [(encL 2 zak) l] (fun d => d = D.b (rightL l)) :=
 Fun.at (enc := fun r => D.b r) (v := rightL l) (kright_w l  (fun r => r = rightL l) (kright_ok l _ hp0 rfl))
abbrev klook_e0 (x : ClonePlace) (y : ClonePlace) := (CloneDiagonal.mk x.text y.text (y.at_ - x.at_))
set_option maxHeartbeats 2000000 in
set_option maxRecDepth 10000 in
theorem klook_w (texts : (List Text)) (least : Int) (seen : (List (CloneDiagonal × Int))) (found : (List (Clone × Unit))) (c_f d_seen d_found : Nat) (x : ClonePlace) (y : ClonePlace) (Q : (List (CloneDiagonal × Int)) × (List (Clone × Unit)) → Prop) (h : klook_vc texts least seen found x y Q) : CallH Tryz.prog 118 [.ptr c_f 4 0 0, zad x, zad y] [(c_f, .cells 4 [.agg ([(encL 2 zak) texts, D.i least, .map d_seen, .map d_found])]), (d_seen, .raw (mapK kf241 vI seen)), (d_found, .raw (mapK kf84 vU found))] (fun d h' => ∃ (r : (List (CloneDiagonal × Int)) × (List (Clone × Unit))) (g : Unit), d = .tup [] ∧ h' = [(c_f, .cells 4 [.agg ([(encL 2 zak) texts, D.i least, .map d_seen, .map d_found])]), (d_seen, .raw (mapK kf241 vI r.1)), (d_found, .raw (mapK kf84 vU r.2))] ∧ Q r) := by
 unfold klook_vc at h
 refine CallH.of_bodyP Tryz.func118 rfl Tryz.ntmps118 rfl ?_
 refine zac (zaa ?_)
 refine wL (OpA.bx (sz := 2) rfl zW (.of rfl) (fun c1 _ => ?_))
 refine wL (OpA.bx (sz := 2) rfl zW (.of rfl) (fun c2 _ => ?_))
 refine zab (zac ?_)
 obtain ⟨q1, h⟩ := h
 refine zaa ?_
 refine wL (OpA.fieldAddr rfl tf208_0 rfl ?_)
 refine wL (OpA.load rfl ti3 rfl (.tail .head) rfl rfl ?_)
 refine wL (OpA.fieldAddr rfl tf208_0 rfl ?_)
 refine wL (OpA.load rfl ti3 rfl .head rfl rfl ?_)
 refine wL (OpA.fieldAddr rfl tf208_1 rfl ?_)
 refine wL (OpA.load rfl ti3 rfl .head rfl rfl ?_)
 refine wL (OpA.fieldAddr rfl tf208_1 rfl ?_)
 refine wL (OpA.load rfl ti3 rfl (.tail .head) rfl rfl ?_)
 refine wL (OpA.subi rfl rfl rfl q1 ?_)
 refine wL (OpA.buildO (zs := [.v (.int .i64 0), .v (.int .i64 0), .v (.int .i64 0)]) rfl tp241 tz241 (fun _ _ => (.cons (.v _) (.cons (.v _) (.cons (.v _) .nil)))) (.cons (.of (sz := 1) rfl) (.cons (.of (sz := 1) rfl) (.cons (.of (sz := 1) rfl) .nil))) rfl ?_)
 refine wL (OpA.alloc (sz := 3) (d := encCloneDiagonal (CloneDiagonal.mk 0 0 0)) rfl tz241 (fun _ _ => .agg (.cons (.v _) (.cons (.v _) (.cons (.v _) .nil)))) (.of rfl) (fun c3 _ => ?_))
 refine wE (OpA.storeW rfl ti241 rfl zW (.of rfl) rfl rfl .head ?_)
 refine zab ?_
 iterate 2 refine zac ?_
 refine wpA_draw (m := 9) mo zK rfl ?_
 refine dL (OpA.m ⟨rfl, rfl⟩) ?_
 refine dL (OpA.nc rfl zW (.inl ⟨_, _, _, _, rfl⟩) ⟨rfl, rfl⟩) ?_
 refine dL (OpA.fieldAddr rfl tf198_2 rfl ⟨rfl, rfl⟩) ?_
 refine dL (OpA.load rfl ti195 rfl (.tail (.tail (.tail .head))) rfl rfl ⟨rfl, rfl⟩) ?_
 refine dL (OpA.load_whole rfl ti241 rfl rfl .head rfl ⟨_, rfl⟩ ⟨rfl, rfl⟩) ?_
 refine dL (OpA.mapGetK (kf := kf241) (vf := vI) (kd := encCloneDiagonal) (vd := D.i) (k := (klook_e0 x y)) (l := seen) 0 kt241 pk241 (plain_v vI) rfl td195 tz3 rfl rfl (.tail (.tail (.tail (.tail .head)))) ⟨rfl, rfl⟩) ?_
 refine dL (OpA.fieldAddr rfl tf208_1 rfl ⟨rfl, rfl⟩) ?_
 refine dL (OpA.load rfl ti3 rfl (.tail (.tail .head)) rfl rfl ⟨rfl, rfl⟩) ?_
 refine dL (OpA.gtr rfl rfl rfl ⟨rfl, rfl⟩) ?_
 refine DetK.nil ?_
 refine zab ?_
 refine zae rfl (fun b4 => ?_) (fun b4 => ?_)
 have h := h.1 (decT b4)
 refine zal ?_
 exact ⟨_, .nil, [(c_f, .cells 4 [.agg ([(encL 2 zak) texts, D.i least, .map d_seen, .map d_found])]), (d_seen, .raw (mapK kf241 vI seen)), (d_found, .raw (mapK kf84 vU found)), (c3, .cells 3 [encCloneDiagonal (klook_e0 x y)]), (c2, .cells 2 [zad y]), (c1, .cells 2 [zad x])], [(c_f, .cells 4 [.agg ([(encL 2 zak) texts, D.i least, .map d_seen, .map d_found])]), (d_seen, .raw (mapK kf241 vI seen)), (d_found, .raw (mapK kf84 vU found))], (pull3.trans (.cons _ (pull3.trans (.cons _ pull3)))), (.cons₂ _ (.cons₂ _ (.cons₂ _ (.cons _ (.cons _ (.cons _ (.refl _))))))), (seen, found), (), rfl, rfl, h⟩
 have h := h.2 (decF b4)
 refine zai (zac ?_)
 obtain ⟨q1, q2, h⟩ := h
 refine wpA_draw (m := 20) mo zK rfl ?_
 refine dL (OpA.m ⟨rfl, rfl⟩) ?_
 refine dL (OpA.nc rfl zW (.inl ⟨_, _, _, _, rfl⟩) ⟨rfl, rfl⟩) ?_
 refine dL (OpA.fieldAddr rfl tf198_0 rfl ⟨rfl, rfl⟩) ?_
 refine dL (OpA.load rfl ti61 rfl (.tail (.tail (.tail .head))) rfl rfl ⟨rfl, rfl⟩) ?_
 refine dL (OpA.fieldAddr rfl tf208_0 rfl ⟨rfl, rfl⟩) ?_
 refine dL (OpA.load rfl ti3 rfl (.tail (.tail .head)) rfl rfl ⟨rfl, rfl⟩) ?_
 refine dL (OpA.iixV (enc := zak) rfl ts61 rfl rfl rfl q1 ⟨rfl, rfl⟩) ?_
 refine dL (OpA.ifieldAddr rfl tf57_1 rfl ⟨rfl, rfl⟩) ?_
 refine dL (OpA.iload rfl ti24 rfl rfl ⟨rfl, rfl⟩) ?_
 refine dL (OpA.m ⟨rfl, rfl⟩) ?_
 refine dL (OpA.nc rfl zW (.inl ⟨_, _, _, _, rfl⟩) ⟨rfl, rfl⟩) ?_
 refine dL (OpA.fieldAddr rfl tf198_0 rfl ⟨rfl, rfl⟩) ?_
 refine dL (OpA.load rfl ti61 rfl (.tail (.tail (.tail .head))) rfl rfl ⟨rfl, rfl⟩) ?_
 refine dL (OpA.fieldAddr rfl tf208_0 rfl ⟨rfl, rfl⟩) ?_
 refine dL (OpA.load rfl ti3 rfl (.tail .head) rfl rfl ⟨rfl, rfl⟩) ?_
 refine dL (OpA.iixV (enc := zak) rfl ts61 rfl rfl rfl q2 ⟨rfl, rfl⟩) ?_
 refine dL (OpA.ifieldAddr rfl tf57_1 rfl ⟨rfl, rfl⟩) ?_
 refine dL (OpA.iload rfl ti24 rfl rfl ⟨rfl, rfl⟩) ?_
 iterate 2 refine dL (OpA.a ⟨rfl, rfl⟩) ?_
 refine DetK.nil ?_
 refine zab (zac (zaa ?_))
 iterate 2 refine wL (OpA.a ?_)
 refine zab (zac (zag ?_))
 refine wpA_lfp (S := Int) (G := Unit) () (fun gg ss => asg [(0, .ptr c_f 4 0 0), (4, .ptr c1 2 0 0), (5, .ptr c2 2 0 0), (6, .ptr c3 3 0 0), (7, (encL 2 encLex) ((gi texts x.text).words)), (8, (encL 2 encLex) ((gi texts y.text).words)), (9, D.i 0), (10, D.i ss)]) (fun gg ss => [(c3, .cells 3 [encCloneDiagonal (klook_e0 x y)]), (c2, .cells 2 [zad y]), (c1, .cells 2 [zad x]), (c_f, .cells 4 [.agg ([(encL 2 zak) texts, D.i least, .map d_seen, .map d_found])]), (d_seen, .raw (mapK kf241 vI seen)), (d_found, .raw (mapK kf84 vU found))]) h cvZ (.refl _) ?_
 rintro again5 _ to h
 have h : klook_L1 texts least seen found x y Q again5 to := h
 unfold klook_L1 at h
 show wpA _ _ _ _ _ _
 iterate 2 refine zac ?_
 obtain ⟨q1, q2, q3, h⟩ := h
 refine wpA_mid (asg [(0, .ptr c_f 4 0 0), (4, .ptr c1 2 0 0), (5, .ptr c2 2 0 0), (6, .ptr c3 3 0 0), (7, (encL 2 encLex) ((gi texts x.text).words)), (8, (encL 2 encLex) ((gi texts y.text).words)), (9, D.i 0), (10, D.i to), (82, D.b (((decide ((x.at_ + to) < (((gi texts x.text).words).length : Int))) && (decide ((y.at_ + to) < (((gi texts y.text).words).length : Int)))) && (decide ((gi ((gi texts x.text).words) (x.at_ + to)).text = (gi ((gi texts y.text).words) (y.at_ + to)).text))))]) [(c3, .cells 3 [encCloneDiagonal (klook_e0 x y)]), (c2, .cells 2 [zad y]), (c1, .cells 2 [zad x]), (c_f, .cells 4 [.agg ([(encL 2 zak) texts, D.i least, .map d_seen, .map d_found])]), (d_seen, .raw (mapK kf241 vI seen)), (d_found, .raw (mapK kf84 vU found))] ?_ ?_
 refine wpA_draw (m := 35) mo zK rfl ?_
 refine dL (OpA.fieldAddr rfl tf208_1 rfl ⟨rfl, rfl⟩) ?_
 refine dL (OpA.load rfl ti3 rfl (.tail (.tail .head)) rfl rfl ⟨rfl, rfl⟩) ?_
 refine dL (OpA.m ⟨rfl, rfl⟩) ?_
 refine dL (OpA.addi rfl rfl rfl q1 ⟨rfl, rfl⟩) ?_
 refine dL (OpA.m ⟨rfl, rfl⟩) ?_
 refine dL (OpA.len rfl rfl rfl rfl ts24.desc (.inl ⟨_, _, rfl, (List.length_map _).symm⟩) ⟨rfl, rfl⟩) ?_
 refine dL (OpA.lss rfl rfl rfl ⟨rfl, rfl⟩) ?_
 refine dL (OpA.m ⟨rfl, rfl⟩) ?_
 refine DetK_split (s := 55) rfl (fun b14 => ?_) (fun b14 => ?_)
 refine dG (OpA.fieldAddr rfl tf208_1 rfl ⟨rfl, rfl⟩) ?_
 refine dG (OpA.load rfl ti3 rfl (.tail .head) rfl rfl ⟨rfl, rfl⟩) ?_
 refine dG (OpA.m ⟨rfl, rfl⟩) ?_
 refine dG (OpA.addi rfl rfl rfl (q2 (decT b14)) ⟨rfl, rfl⟩) ?_
 refine dG (OpA.m ⟨rfl, rfl⟩) ?_
 refine dG (OpA.len rfl rfl rfl rfl ts24.desc (.inl ⟨_, _, rfl, (List.length_map _).symm⟩) ⟨rfl, rfl⟩) ?_
 refine dG (OpA.lss rfl rfl rfl ⟨rfl, rfl⟩) ?_
 refine dL (OpA.p ⟨rfl, rfl⟩) ?_
 refine dL (OpA.m ⟨rfl, rfl⟩) ?_
 refine DetK_split (s := 64) rfl (fun b15 => ?_) (fun b15 => ?_)
 refine dG (OpA.m ⟨rfl, rfl⟩) ?_
 refine dG (OpA.fieldAddr rfl tf208_1 rfl ⟨rfl, rfl⟩) ?_
 refine dG (OpA.load rfl ti3 rfl (.tail (.tail .head)) rfl rfl ⟨rfl, rfl⟩) ?_
 refine dG (OpA.m ⟨rfl, rfl⟩) ?_
 refine dG (OpA.addi rfl rfl rfl q1 ⟨rfl, rfl⟩) ?_
 refine dG (OpA.iixV (enc := encLex) rfl ts24 rfl rfl rfl (q3 ⟨(decT b14), (decT b15)⟩).1 ⟨rfl, rfl⟩) ?_
 refine dG (OpA.ifieldAddr rfl tf30_0 rfl ⟨rfl, rfl⟩) ?_
 refine dG (OpA.iload rfl ti9 rfl rfl ⟨rfl, rfl⟩) ?_
 refine dG (OpA.m ⟨rfl, rfl⟩) ?_
 refine dG (OpA.fieldAddr rfl tf208_1 rfl ⟨rfl, rfl⟩) ?_
 refine dG (OpA.load rfl ti3 rfl (.tail .head) rfl rfl ⟨rfl, rfl⟩) ?_
 refine dG (OpA.m ⟨rfl, rfl⟩) ?_
 refine dG (OpA.addi rfl rfl rfl (q3 ⟨(decT b14), (decT b15)⟩).2.1 ⟨rfl, rfl⟩) ?_
 refine dG (OpA.iixV (enc := encLex) rfl ts24 rfl rfl rfl (q3 ⟨(decT b14), (decT b15)⟩).2.2 ⟨rfl, rfl⟩) ?_
 refine dG (OpA.ifieldAddr rfl tf30_0 rfl ⟨rfl, rfl⟩) ?_
 refine dG (OpA.iload rfl ti9 rfl rfl ⟨rfl, rfl⟩) ?_
 refine dG (OpA.seql rfl rfl rfl ⟨rfl, rfl⟩) ?_
 refine dL (OpA.p ⟨rfl, rfl⟩) ?_
 refine DetK.nil ?_
 refine zab ?_
 exact ⟨(Cov.asg ⟨rfl, rfl, rfl, rfl, rfl, rfl, rfl, rfl, (congrArg D.b (Eq.symm (andN (andN b14 b15) rfl))), trivial⟩), (.refl _)⟩
 iterate 17 refine dS ?_
 refine dL (OpA.p ⟨rfl, rfl⟩) ?_
 refine DetK.nil ?_
 refine zab ?_
 exact ⟨(Cov.asg ⟨rfl, rfl, rfl, rfl, rfl, rfl, rfl, rfl, (congrArg D.b (Eq.symm (andS (andN b14 b15)))), trivial⟩), (.refl _)⟩
 iterate 7 refine dS ?_
 refine dL (OpA.p ⟨rfl, rfl⟩) ?_
 refine dL (OpA.m ⟨rfl, rfl⟩) ?_
 iterate 17 refine dS ?_
 refine dL (OpA.p ⟨rfl, rfl⟩) ?_
 refine DetK.nil ?_
 refine zab ?_
 exact ⟨(Cov.asg ⟨rfl, rfl, rfl, rfl, rfl, rfl, rfl, rfl, (congrArg D.b (Eq.symm (andS (andS b14)))), trivial⟩), (.refl _)⟩
 show wpA _ _ _ _ _ _
 refine zae rfl (fun b6 => ?_) (fun b6 => ?_)
 have h := h.1 ⟨⟨(decT (and1 (and1 b6))), (decT (and2 (and1 b6)))⟩, (decT (and2 b6))⟩
 refine zai (zag ?_)
 obtain ⟨q1, h⟩ := h
 refine zaa (wL (OpA.m ?_))
 refine wL (OpA.addi rfl rfl rfl q1 ?_)
 refine wL (OpA.a ?_)
 refine zab ?_
 exact ⟨(), (to + 1), h, cvZ, (.refl _)⟩
 have h := h.2 ((and0 b6).imp (fun hh => ((and0 hh).imp (fun hh => (decF hh)) (fun hh => (decF hh)))) (fun hh => (decF hh)))
 refine wpA_exit ?_
 refine zac ?_
 obtain ⟨q1, h⟩ := h
 refine wpA_draw (m := 10) mo zK rfl ?_
 refine dL (OpA.m ⟨rfl, rfl⟩) ?_
 refine dL (OpA.nc rfl zW (.inl ⟨_, _, _, _, rfl⟩) ⟨rfl, rfl⟩) ?_
 refine dL (OpA.fieldAddr rfl tf198_2 rfl ⟨rfl, rfl⟩) ?_
 refine dL (OpA.load rfl ti195 rfl (.tail (.tail (.tail .head))) rfl rfl ⟨rfl, rfl⟩) ?_
 refine dL (OpA.load_whole rfl ti241 rfl rfl .head rfl ⟨_, rfl⟩ ⟨rfl, rfl⟩) ?_
 refine dL (OpA.fieldAddr rfl tf208_1 rfl ⟨rfl, rfl⟩) ?_
 refine dL (OpA.load rfl ti3 rfl (.tail (.tail .head)) rfl rfl ⟨rfl, rfl⟩) ?_
 refine dL (OpA.m ⟨rfl, rfl⟩) ?_
 refine dL (OpA.max (l := [_]) rfl rfl rfl rfl ⟨rfl, rfl⟩) ?_
 refine dL (OpA.addi rfl rfl rfl q1 ⟨rfl, rfl⟩) ?_
 refine DetK.nil ?_
 refine wE (OpA.mapSetK (kf := kf241) (vf := vI) (kd := encCloneDiagonal) (vd := D.i) (k := (klook_e0 x y)) (v := (x.at_ + (gmax to [1]))) (l := seen) kt241 pk241 (plain_v vI) rfl td195 rfl rfl rfl (.tail (.tail (.tail (.tail .head)))) ?_)
 refine zab (zac (zag ?_))
 refine wpA_lfp (S := Int) (G := Unit) () (fun gg ss => asg [(0, .ptr c_f 4 0 0), (4, .ptr c1 2 0 0), (5, .ptr c2 2 0 0), (7, (encL 2 encLex) ((gi texts x.text).words)), (8, (encL 2 encLex) ((gi texts y.text).words)), (9, D.i ss), (10, D.i to)]) (fun gg ss => [(c3, .cells 3 [encCloneDiagonal (klook_e0 x y)]), (c2, .cells 2 [zad y]), (c1, .cells 2 [zad x]), (c_f, .cells 4 [.agg ([(encL 2 zak) texts, D.i least, .map d_seen, .map d_found])]), (d_seen, .raw (mapK kf241 vI (kset seen (klook_e0 x y) (x.at_ + (gmax to [1]))))), (d_found, .raw (mapK kf84 vU found))]) h cvZ (.refl _) ?_
 rintro again7 _ from_ h
 have h : klook_L2 texts least seen found x y to Q again7 from_ := h
 unfold klook_L2 at h
 show wpA _ _ _ _ _ _
 iterate 2 refine zac ?_
 obtain ⟨q1, h⟩ := h
 refine wpA_mid (asg [(0, .ptr c_f 4 0 0), (4, .ptr c1 2 0 0), (5, .ptr c2 2 0 0), (7, (encL 2 encLex) ((gi texts x.text).words)), (8, (encL 2 encLex) ((gi texts y.text).words)), (9, D.i from_), (10, D.i to), (129, D.b ((((decide (to > 0)) && (decide (x.at_ > from_))) && (decide (y.at_ > from_))) && (decide ((gi ((gi texts x.text).words) ((x.at_ - from_) - 1)).text = (gi ((gi texts y.text).words) ((y.at_ - from_) - 1)).text))))]) [(c3, .cells 3 [encCloneDiagonal (klook_e0 x y)]), (c2, .cells 2 [zad y]), (c1, .cells 2 [zad x]), (c_f, .cells 4 [.agg ([(encL 2 zak) texts, D.i least, .map d_seen, .map d_found])]), (d_seen, .raw (mapK kf241 vI (kset seen (klook_e0 x y) (x.at_ + (gmax to [1]))))), (d_found, .raw (mapK kf84 vU found))] ?_ ?_
 refine wpA_draw (m := 35) mo zK rfl ?_
 refine dL (OpA.m ⟨rfl, rfl⟩) ?_
 refine dL (OpA.gtr rfl rfl rfl ⟨rfl, rfl⟩) ?_
 refine dL (OpA.m ⟨rfl, rfl⟩) ?_
 refine DetK_split (s := 97) rfl (fun b11 => ?_) (fun b11 => ?_)
 refine dG (OpA.fieldAddr rfl tf208_1 rfl ⟨rfl, rfl⟩) ?_
 refine dG (OpA.load rfl ti3 rfl (.tail (.tail .head)) rfl rfl ⟨rfl, rfl⟩) ?_
 refine dG (OpA.m ⟨rfl, rfl⟩) ?_
 refine dG (OpA.gtr rfl rfl rfl ⟨rfl, rfl⟩) ?_
 refine dL (OpA.p ⟨rfl, rfl⟩) ?_
 refine dL (OpA.m ⟨rfl, rfl⟩) ?_
 refine DetK_split (s := 103) rfl (fun b12 => ?_) (fun b12 => ?_)
 refine dG (OpA.fieldAddr rfl tf208_1 rfl ⟨rfl, rfl⟩) ?_
 refine dG (OpA.load rfl ti3 rfl (.tail .head) rfl rfl ⟨rfl, rfl⟩) ?_
 refine dG (OpA.m ⟨rfl, rfl⟩) ?_
 refine dG (OpA.gtr rfl rfl rfl ⟨rfl, rfl⟩) ?_
 refine dL (OpA.p ⟨rfl, rfl⟩) ?_
 refine dL (OpA.m ⟨rfl, rfl⟩) ?_
 refine DetK_split (s := 109) rfl (fun b13 => ?_) (fun b13 => ?_)
 refine dG (OpA.m ⟨rfl, rfl⟩) ?_
 refine dG (OpA.fieldAddr rfl tf208_1 rfl ⟨rfl, rfl⟩) ?_
 refine dG (OpA.load rfl ti3 rfl (.tail (.tail .head)) rfl rfl ⟨rfl, rfl⟩) ?_
 refine dG (OpA.m ⟨rfl, rfl⟩) ?_
 refine dG (OpA.subi rfl rfl rfl (q1 ⟨⟨(decT b11), (decT b12)⟩, (decT b13)⟩).1 ⟨rfl, rfl⟩) ?_
 refine dG (OpA.subi rfl rfl rfl (q1 ⟨⟨(decT b11), (decT b12)⟩, (decT b13)⟩).2.1 ⟨rfl, rfl⟩) ?_
 refine dG (OpA.iixV (enc := encLex) rfl ts24 rfl rfl rfl (q1 ⟨⟨(decT b11), (decT b12)⟩, (decT b13)⟩).2.2.1 ⟨rfl, rfl⟩) ?_
 refine dG (OpA.ifieldAddr rfl tf30_0 rfl ⟨rfl, rfl⟩) ?_
 refine dG (OpA.iload rfl ti9 rfl rfl ⟨rfl, rfl⟩) ?_
 refine dG (OpA.m ⟨rfl, rfl⟩) ?_
 refine dG (OpA.fieldAddr rfl tf208_1 rfl ⟨rfl, rfl⟩) ?_
 refine dG (OpA.load rfl ti3 rfl (.tail .head) rfl rfl ⟨rfl, rfl⟩) ?_
 refine dG (OpA.m ⟨rfl, rfl⟩) ?_
 refine dG (OpA.subi rfl rfl rfl (q1 ⟨⟨(decT b11), (decT b12)⟩, (decT b13)⟩).2.2.2.1 ⟨rfl, rfl⟩) ?_
 refine dG (OpA.subi rfl rfl rfl (q1 ⟨⟨(decT b11), (decT b12)⟩, (decT b13)⟩).2.2.2.2.1 ⟨rfl, rfl⟩) ?_
 refine dG (OpA.iixV (enc := encLex) rfl ts24 rfl rfl rfl (q1 ⟨⟨(decT b11), (decT b12)⟩, (decT b13)⟩).2.2.2.2.2 ⟨rfl, rfl⟩) ?_
 refine dG (OpA.ifieldAddr rfl tf30_0 rfl ⟨rfl, rfl⟩) ?_
 refine dG (OpA.iload rfl ti9 rfl rfl ⟨rfl, rfl⟩) ?_
 refine dG (OpA.seql rfl rfl rfl ⟨rfl, rfl⟩) ?_
 refine dL (OpA.p ⟨rfl, rfl⟩) ?_
 refine DetK.nil ?_
 refine zab ?_
 exact ⟨(Cov.asg ⟨rfl, rfl, rfl, rfl, rfl, rfl, rfl, (congrArg D.b (Eq.symm (andN (andN (andN b11 b12) b13) rfl))), trivial⟩), (.refl _)⟩
 iterate 19 refine dS ?_
 refine dL (OpA.p ⟨rfl, rfl⟩) ?_
 refine DetK.nil ?_
 refine zab ?_
 exact ⟨(Cov.asg ⟨rfl, rfl, rfl, rfl, rfl, rfl, rfl, (congrArg D.b (Eq.symm (andS (andN (andN b11 b12) b13)))), trivial⟩), (.refl _)⟩
 iterate 4 refine dS ?_
 refine dL (OpA.p ⟨rfl, rfl⟩) ?_
 refine dL (OpA.m ⟨rfl, rfl⟩) ?_
 iterate 19 refine dS ?_
 refine dL (OpA.p ⟨rfl, rfl⟩) ?_
 refine DetK.nil ?_
 refine zab ?_
 exact ⟨(Cov.asg ⟨rfl, rfl, rfl, rfl, rfl, rfl, rfl, (congrArg D.b (Eq.symm (andS (andS (andN b11 b12))))), trivial⟩), (.refl _)⟩
 iterate 4 refine dS ?_
 refine dL (OpA.p ⟨rfl, rfl⟩) ?_
 refine dL (OpA.m ⟨rfl, rfl⟩) ?_
 iterate 4 refine dS ?_
 refine dL (OpA.p ⟨rfl, rfl⟩) ?_
 refine dL (OpA.m ⟨rfl, rfl⟩) ?_
 iterate 19 refine dS ?_
 refine dL (OpA.p ⟨rfl, rfl⟩) ?_
 refine DetK.nil ?_
 refine zab ?_
 exact ⟨(Cov.asg ⟨rfl, rfl, rfl, rfl, rfl, rfl, rfl, (congrArg D.b (Eq.symm (andS (andS (andS b11))))), trivial⟩), (.refl _)⟩
 show wpA _ _ _ _ _ _
 refine zae rfl (fun b8 => ?_) (fun b8 => ?_)
 have h := h.1 ⟨⟨⟨(decT (and1 (and1 (and1 b8)))), (decT (and2 (and1 (and1 b8))))⟩, (decT (and2 (and1 b8)))⟩, (decT (and2 b8))⟩
 refine zai (zag ?_)
 obtain ⟨q1, h⟩ := h
 refine zaa (wL (OpA.m ?_))
 refine wL (OpA.addi rfl rfl rfl q1 ?_)
 refine wL (OpA.a ?_)
 refine zab ?_
 exact ⟨(), (from_ + 1), h, cvZ, (.refl _)⟩
 have h := h.2 ((and0 b8).imp (fun hh => ((and0 hh).imp (fun hh => ((and0 hh).imp (fun hh => (decF hh)) (fun hh => (decF hh)))) (fun hh => (decF hh)))) (fun hh => (decF hh)))
 refine wpA_exit ?_
 refine zac ?_
 obtain ⟨q1, h⟩ := h
 refine wpA_mid (asg [(0, .ptr c_f 4 0 0), (4, .ptr c1 2 0 0), (5, .ptr c2 2 0 0), (9, D.i from_), (10, D.i to), (143, D.b ((decide ((from_ + to) ≥ least)) && (decide (to > 0))))]) [(c3, .cells 3 [encCloneDiagonal (klook_e0 x y)]), (c2, .cells 2 [zad y]), (c1, .cells 2 [zad x]), (c_f, .cells 4 [.agg ([(encL 2 zak) texts, D.i least, .map d_seen, .map d_found])]), (d_seen, .raw (mapK kf241 vI (kset seen (klook_e0 x y) (x.at_ + (gmax to [1]))))), (d_found, .raw (mapK kf84 vU found))] ?_ ?_
 refine zaa ?_
 iterate 2 refine wL (OpA.m ?_)
 refine wL (OpA.addi rfl rfl rfl q1 ?_)
 refine wL (OpA.m ?_)
 refine wL (OpA.nc rfl zW (.inl ⟨_, _, _, _, rfl⟩) ?_)
 refine wL (OpA.fieldAddr rfl tf198_1 rfl ?_)
 refine wL (OpA.load rfl ti3 rfl (.tail (.tail (.tail .head))) rfl rfl ?_)
 refine wL (OpA.geq rfl rfl rfl ?_)
 refine wL (OpA.m ?_)
 refine zam (s := 140) rfl (fun b10 => ?_) (fun b10 => ?_)
 refine wG (OpA.m ?_)
 refine wG (OpA.gtr rfl rfl rfl ?_)
 refine wL (OpA.p ?_)
 refine zab ?_
 exact ⟨(Cov.asg ⟨rfl, rfl, rfl, rfl, rfl, (congrArg D.b (Eq.symm (andN b10 rfl))), trivial⟩), (.refl _)⟩
 iterate 2 refine wS ?_
 refine wL (OpA.p ?_)
 refine zab ?_
 exact ⟨(Cov.asg ⟨rfl, rfl, rfl, rfl, rfl, (congrArg D.b (Eq.symm (andS b10))), trivial⟩), (.refl _)⟩
 show wpA _ _ _ _ _ _
 refine zae rfl (fun b9 => ?_) (fun b9 => ?_)
 have h := h.1 ⟨(decT (and1 b9)), (decT (and2 b9))⟩
 obtain ⟨q1, q2, q3, h⟩ := h
 refine wpA_draw (m := 21) mo zK rfl ?_
 refine dL (OpA.m ⟨rfl, rfl⟩) ?_
 refine dL (OpA.nc rfl zW (.inl ⟨_, _, _, _, rfl⟩) ⟨rfl, rfl⟩) ?_
 refine dL (OpA.fieldAddr rfl tf198_3 rfl ⟨rfl, rfl⟩) ?_
 refine dL (OpA.load rfl ti196 rfl (.tail (.tail (.tail .head))) rfl rfl ⟨rfl, rfl⟩) ?_
 refine dL (OpA.fieldAddr rfl tf208_0 rfl ⟨rfl, rfl⟩) ?_
 refine dL (OpA.load rfl ti3 rfl (.tail (.tail .head)) rfl rfl ⟨rfl, rfl⟩) ?_
 refine dL (OpA.fieldAddr rfl tf208_1 rfl ⟨rfl, rfl⟩) ?_
 refine dL (OpA.load rfl ti3 rfl (.tail (.tail .head)) rfl rfl ⟨rfl, rfl⟩) ?_
 refine dL (OpA.m ⟨rfl, rfl⟩) ?_
 refine dL (OpA.subi rfl rfl rfl q1 ⟨rfl, rfl⟩) ?_
 refine dL (OpA.fieldAddr rfl tf208_0 rfl ⟨rfl, rfl⟩) ?_
 refine dL (OpA.load rfl ti3 rfl (.tail .head) rfl rfl ⟨rfl, rfl⟩) ?_
 refine dL (OpA.fieldAddr rfl tf208_1 rfl ⟨rfl, rfl⟩) ?_
 refine dL (OpA.load rfl ti3 rfl (.tail .head) rfl rfl ⟨rfl, rfl⟩) ?_
 refine dL (OpA.m ⟨rfl, rfl⟩) ?_
 refine dL (OpA.subi rfl rfl rfl q2 ⟨rfl, rfl⟩) ?_
 iterate 2 refine dL (OpA.m ⟨rfl, rfl⟩) ?_
 refine dL (OpA.addi rfl rfl rfl q3 ⟨rfl, rfl⟩) ?_
 refine dL (OpA.buildO (zs := [.v (.int .i64 0), .v (.int .i64 0), .v (.int .i64 0), .v (.int .i64 0), .v (.int .i64 0)]) rfl tp84 tz84 (fun _ _ => (.cons (.v _) (.cons (.v _) (.cons (.v _) (.cons (.v _) (.cons (.v _) .nil)))))) (.cons (.of (sz := 1) rfl) (.cons (.of (sz := 1) rfl) (.cons (.of (sz := 1) rfl) (.cons (.of (sz := 1) rfl) (.cons (.of (sz := 1) rfl) .nil))))) rfl ⟨rfl, rfl⟩) ?_
 refine dL (OpA.buildO (zs := []) rfl tp242 tz242 (fun _ _ => .nil) .nil rfl ⟨rfl, rfl⟩) ?_
 refine DetK.nil ?_
 refine wE (OpA.mapSetK (kf := kf84) (vf := vU) (kd := encClone) (vd := encU) (k := (Clone.mk x.text (x.at_ - from_) y.text (y.at_ - from_) (from_ + to))) (v := ()) (l := found) kt84 pk84 plain_u rfl td196 rfl rfl rfl (.tail (.tail (.tail (.tail (.tail .head))))) ?_)
 refine zab ?_
 exact ⟨_, .nil, [(c_f, .cells 4 [.agg ([(encL 2 zak) texts, D.i least, .map d_seen, .map d_found])]), (d_seen, .raw (mapK kf241 vI (kset seen (klook_e0 x y) (x.at_ + (gmax to [1]))))), (d_found, .raw (mapK kf84 vU (kset found (Clone.mk x.text (x.at_ - from_) y.text (y.at_ - from_) (from_ + to)) ()))), (c3, .cells 3 [encCloneDiagonal (klook_e0 x y)]), (c2, .cells 2 [zad y]), (c1, .cells 2 [zad x])], [(c_f, .cells 4 [.agg ([(encL 2 zak) texts, D.i least, .map d_seen, .map d_found])]), (d_seen, .raw (mapK kf241 vI (kset seen (klook_e0 x y) (x.at_ + (gmax to [1]))))), (d_found, .raw (mapK kf84 vU (kset found (Clone.mk x.text (x.at_ - from_) y.text (y.at_ - from_) (from_ + to)) ())))], (pull3.trans (.cons _ (pull3.trans (.cons _ pull3)))), (.cons₂ _ (.cons₂ _ (.cons₂ _ (.cons _ (.cons _ (.cons _ (.refl _))))))), ((kset seen (klook_e0 x y) (x.at_ + (gmax to [1]))), (kset found (Clone.mk x.text (x.at_ - from_) y.text (y.at_ - from_) (from_ + to)) ())), (), rfl, rfl, h⟩
 have h := h.2 ((and0 b9).imp (fun hh => (decF hh)) (fun hh => (decF hh)))
 refine zai ?_
 exact ⟨_, .nil, [(c_f, .cells 4 [.agg ([(encL 2 zak) texts, D.i least, .map d_seen, .map d_found])]), (d_seen, .raw (mapK kf241 vI (kset seen (klook_e0 x y) (x.at_ + (gmax to [1]))))), (d_found, .raw (mapK kf84 vU found)), (c3, .cells 3 [encCloneDiagonal (klook_e0 x y)]), (c2, .cells 2 [zad y]), (c1, .cells 2 [zad x])], [(c_f, .cells 4 [.agg ([(encL 2 zak) texts, D.i least, .map d_seen, .map d_found])]), (d_seen, .raw (mapK kf241 vI (kset seen (klook_e0 x y) (x.at_ + (gmax to [1]))))), (d_found, .raw (mapK kf84 vU found))], (pull3.trans (.cons _ (pull3.trans (.cons _ pull3)))), (.cons₂ _ (.cons₂ _ (.cons₂ _ (.cons _ (.cons _ (.cons _ (.refl _))))))), ((kset seen (klook_e0 x y) (x.at_ + (gmax to [1]))), found), (), rfl, rfl, h⟩
theorem klook_c (texts : (List Text)) (least : Int) (seen : (List (CloneDiagonal × Int))) (found : (List (Clone × Unit))) (c_f d_seen d_found : Nat) (x : ClonePlace) (y : ClonePlace) (hp0 : okTs texts) (hp1 : OkP texts (x, y)) : CallH Tryz.prog 118 [.ptr c_f 4 0 0, zad x, zad y] [(c_f, .cells 4 [.agg ([(encL 2 zak) texts, D.i least, .map d_seen, .map d_found])]), (d_seen, .raw (mapK kf241 vI seen)), (d_found, .raw (mapK kf84 vU found))] (fun d h' => ∃ (g : Unit), d = .tup [] ∧ h' = [(c_f, .cells 4 [.agg ([(encL 2 zak) texts, D.i least, .map d_seen, .map d_found])]), (d_seen, .raw (mapK kf241 vI ((lookF texts least seen found x y).1))), (d_found, .raw (mapK kf84 vU ((lookF texts least seen found x y).2)))]) :=
 (klook_w texts least seen found c_f d_seen d_found x y  (fun r => r = lookF texts least seen found x y) (klook_ok texts least seen found x y _ hp0 hp1 rfl)).mono (by rintro d h' ⟨r, g, hd, hh, rfl⟩; exact ⟨g, hd, hh⟩)
end Go.Proofs.YtkifpidbpoghlaaGreatDoor
