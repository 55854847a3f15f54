/-
  walks and contracts
-/
import Derived.Test.YtkoomieafmjjfaaGreatDoorV8
import Derived.Test.YtkoomieafmjjfaaGreatDoorV13
import Derived.Test.YtkoomieafmjjfaaGreatDoorCi
set_option linter.all false
namespace Go.Proofs.YtkoomieafmjjfaaGreatDoor
open Go Go.Lic Go.Sort Go.Proofs
attribute [local irreducible] addF addP badR blankF checkF cmpB cmpI codeF commonF4 corpusOf countF dropF fewC fewTs fewW findP findT gramsF growTF guarF hashF indexF itoaF leastF lenF mul64F mulP nameR nearC nearF newF orF partF pathB pathF postCmp postLt postsF powF printsF pushF rollF selectF sizeF splitF splitG validT

attribute [local irreducible] sumF


set_option maxHeartbeats 2000000 in
set_option maxRecDepth 10000 in
theorem dec_w (n : Int) (hrec : ∀ m_ : Int, (0 : Int) ≤ m_ → m_ < n → Fun false Tryz.prog 74 [D.i m_] (fun d => d = D.s (itoaF m_))) (Q : ByteArray → Prop) (h : dec_vc n Q) : Fun false Tryz.prog 74 [D.i n] (fun d => ∃ r, d = D.s r ∧ Q r) := by
  unfold dec_vc at h
  refine Fun.of_body Tryz.func74 rfl Tryz.ntmps74 rfl ?_
  refine wpA_seq ?_
  refine wpA_region ?_
  refine wpL_op rfl rfl rfl (OpA.asn rfl (by with_reducible conv => lhs; whnf) ?_)
  refine wpL_nil ?_
  iterate 2 refine wpA_seq ?_
  refine wpA_region ?_
  refine wpL_op rfl rfl rfl (OpA.mv rfl (by with_reducible conv => lhs; whnf) ?_)
  refine wpL_op rfl rfl rfl (OpA.lss rfl rfl rfl ?_)
  refine wpL_nil ?_
  refine wpA_cond rfl (fun b1 => ?_) (fun b1 => ?_)
  have h := h.1 (decT b1)
  refine wpA_seq ?_
  obtain ⟨q1, h⟩ := h
  refine wpA_region ?_
  refine wpL_op rfl rfl rfl (OpA.mv rfl (by with_reducible conv => lhs; whnf) ?_)
  refine wpL_op rfl rfl rfl (OpA.addi rfl rfl rfl q1 ?_)
  refine wpL_op rfl rfl rfl (OpA.conv rfl td3 td5 rfl ?_)
  refine wpL_op rfl rfl rfl (OpA.ibuildSliceO rfl ts90 rfl (.cons (.of (sz := 1) rfl) .nil) (by decide) ?_)
  refine wpL_op rfl rfl rfl (OpA.bytesStr rfl ts90.desc td5 td9 (.list (ys := ([(IntKind.u8.wrap (48 + n))] : List Int))) ?_)
  refine wpL_op rfl rfl rfl (OpA.asn rfl (by with_reducible conv => lhs; whnf) ?_)
  refine wpL_nil ?_
  refine wpA_ret ?_
  exact ⟨_, (.tmp (d := D.s (bstr ([(IntKind.u8.wrap (48 + n))] : List Int))) rfl .nil), _, (.same rfl .nil), ⟨(bstr ([(IntKind.u8.wrap (48 + n))] : List Int)), rfl, h⟩⟩
  have h := h.2 (decF b1)
  refine wpA_skip ?_
  refine wpA_seq ?_
  obtain ⟨q1, q2, q3, q4, q5, q6, q7, h⟩ := h
  refine wpA_region ?_
  refine wpL_op rfl rfl rfl (OpA.mv rfl (by with_reducible conv => lhs; whnf) ?_)
  refine wpL_op rfl rfl rfl (OpA.quoN rfl rfl rfl q1 ?_)
  refine wpL_op rfl rfl rfl (OpA.call rfl rfl rfl en74 (hrec (n / 10) q2 q3) ?_)
  rintro _ rfl
  refine wpL_op rfl rfl rfl (OpA.mv rfl (by with_reducible conv => lhs; whnf) ?_)
  refine wpL_op rfl rfl rfl (OpA.remN rfl rfl rfl q4 ?_)
  refine wpL_op rfl rfl rfl (OpA.call rfl rfl rfl en74 (hrec (n % 10) q5 q6) ?_)
  rintro _ rfl
  refine wpL_op rfl rfl rfl (OpA.sadd rfl rfl rfl q7 ?_)
  refine wpL_op rfl rfl rfl (OpA.asn rfl (by with_reducible conv => lhs; whnf) ?_)
  refine wpL_nil ?_
  refine wpA_ret ?_
  exact ⟨_, (.tmp (d := D.s ((itoaF (n / 10)) ++ (itoaF (n % 10)))) rfl .nil), _, (.same rfl .nil), ⟨((itoaF (n / 10)) ++ (itoaF (n % 10))), rfl, h⟩⟩
theorem dec_c (n : Int) (hp0 : (0 : Int) ≤ n) (hp1 : n ≤ (1024 : Int)) : Fun false Tryz.prog 74 [D.i n] (fun d => d = D.s (itoaF n)) := by
  generalize hk : n.toNat = k
  induction k using Nat.strongRecOn generalizing n with
  | _ k ih => exact Fun.at (enc := fun r => D.s r) (v := itoaF n) (dec_w n (fun m h0 h1 => ih m.toNat (by omega) m h0 (by omega) rfl) (fun r => r = itoaF n) (dec_ok n _ hp0 hp1 rfl))

set_option maxHeartbeats 2000000 in
set_option maxRecDepth 10000 in
theorem n23print_w (t : Text)  (Q : ByteArray × Int → Prop) (h : n23print_vc t Q) : Fun false Tryz.prog 75 [encText t] (fun d => ∃ r, d = .tup [D.s (r.1), D.i (r.2)] ∧ Q r) := by
  unfold n23print_vc at h
  refine Fun.of_body Tryz.func75 rfl Tryz.ntmps75 rfl ?_
  refine wpA_seq ?_
  refine wpA_region ?_
  refine wL (OpA.bx (sz := 2) rfl (by with_reducible conv => lhs; whnf) (.of rfl) (fun c1 _ => ?_))
  iterate 2 refine wL (OpA.a ?_)
  refine wpL_nil ?_
  iterate 2 refine wpA_seq ?_
  obtain ⟨q1, h⟩ := h
  refine wpA_region ?_
  refine wL (OpA.load_whole rfl ti36 rfl rfl .head rfl ⟨_, rfl⟩ ?_)
  refine wL (OpA.call rfl rfl rfl en46 (n23valid_c t q1) ?_)
  rintro _ rfl
  refine wL (OpA.not rfl rfl ?_)
  refine wpL_nil ?_
  refine wpA_cond rfl (fun b2 => ?_) (fun b2 => ?_)
  have h := h.1 (notT b2)
  refine wpA_seq ?_
  refine wpA_region ?_
  iterate 2 refine wL (OpA.a ?_)
  refine wpL_nil ?_
  refine wpA_ret ?_
  exact ⟨_, (.tmp (d := D.s (⟨#[]⟩ : ByteArray)) rfl (.tmp (d := D.i 1) rfl .nil)), _, (.tup (.same rfl (.same rfl .nil)) .nil), ⟨((⟨#[]⟩ : ByteArray), 1), rfl, h⟩⟩
  have h := h.2 (notF b2)
  refine wpA_skip ?_
  refine wpA_seq ?_
  refine wpA_region ?_
  refine wL (OpA.a ?_)
  refine wpL_nil ?_
  iterate 2 refine wpA_seq ?_
  refine wpA_region ?_
  refine wL (OpA.a ?_)
  refine wpL_nil ?_
  refine wpA_block ?_
  refine wpA_lfp (S := ByteArray × Int) (G := Unit) () (fun gg ss => asg [(1, .ptr c1 2 0 0), (2, D.s (⟨#[]⟩ : ByteArray)), (3, D.i 0), (4, D.s ss.1), (5, D.i ss.2)]) (fun gg ss => [(c1, .cells 2 [encText t])]) h (Cov.asg ⟨rfl, rfl, rfl, rfl, rfl, trivial⟩) (.refl _) ?_
  rintro again3 _ ⟨out, i⟩ h
  have h : n23print_L1 t Q again3 out i := h
  unfold n23print_L1 at h
  show wpA _ _ _ _ (asg [(1, .ptr c1 2 0 0), (2, D.s (⟨#[]⟩ : ByteArray)), (3, D.i 0), (4, D.s out), (5, D.i i)]) [(c1, .cells 2 [encText t])]
  iterate 2 refine wpA_seq ?_
  refine wpA_region ?_
  refine wL (OpA.m ?_)
  refine wL (OpA.fieldAddr rfl tf36_1 rfl ?_)
  refine wL (OpA.load rfl ti34 rfl .head rfl rfl ?_)
  refine wL (OpA.len rfl rfl rfl rfl ts34.desc (.inl ⟨_, _, rfl, (List.length_map _).symm⟩) ?_)
  refine wL (OpA.lss rfl rfl rfl ?_)
  refine wpL_nil ?_
  refine wpA_cond rfl (fun b4 => ?_) (fun b4 => ?_)
  have h := h.1 (decT b4)
  refine wpA_skip ?_
  refine wpA_seq ?_
  refine wpA_block ?_
  iterate 2 refine wpA_seq ?_
  obtain ⟨q1, h⟩ := h
  refine wpA_mid (asg [(1, .ptr c1 2 0 0), (2, D.s (⟨#[]⟩ : ByteArray)), (3, D.i 0), (4, D.s out), (5, D.i i), (33, D.b ((i == 0) || (decide ((gi t.words i).line > (gi t.words (i - 1)).line))))]) [(c1, .cells 2 [encText t])] ?_ ?_
  refine wpA_draw (m := 18) mo (by kernel_rfl) rfl ?_
  refine dL (OpA.m ⟨rfl, rfl⟩) ?_
  refine dL (OpA.eql rfl rfl rfl ⟨rfl, rfl⟩) ?_
  refine dL (OpA.m ⟨rfl, rfl⟩) ?_
  refine DetK_split (s := 18) rfl (fun b7 => ?_) (fun b7 => ?_)
  iterate 14 refine dS ?_
  refine dL (OpA.p ⟨rfl, rfl⟩) ?_
  refine DetK.nil ?_
  refine wpL_nil ?_
  exact ⟨(Cov.asg ⟨rfl, rfl, rfl, rfl, rfl, (congrArg D.b (Eq.symm (orS b7))), trivial⟩), (.refl _)⟩
  refine dG (OpA.fieldAddr rfl tf36_1 rfl ⟨rfl, rfl⟩) ?_
  refine dG (OpA.load rfl ti34 rfl .head rfl rfl ⟨rfl, rfl⟩) ?_
  refine dG (OpA.m ⟨rfl, rfl⟩) ?_
  refine dG (OpA.iixV (enc := encLex) rfl ts34 rfl rfl rfl (q1 (beqF b7)).1 ⟨rfl, rfl⟩) ?_
  refine dG (OpA.ifieldAddr rfl tf72_1 rfl ⟨rfl, rfl⟩) ?_
  refine dG (OpA.iload rfl ti3 rfl rfl ⟨rfl, rfl⟩) ?_
  refine dG (OpA.fieldAddr rfl tf36_1 rfl ⟨rfl, rfl⟩) ?_
  refine dG (OpA.load rfl ti34 rfl .head rfl rfl ⟨rfl, rfl⟩) ?_
  refine dG (OpA.m ⟨rfl, rfl⟩) ?_
  refine dG (OpA.subi rfl rfl rfl (q1 (beqF b7)).2.1 ⟨rfl, rfl⟩) ?_
  refine dG (OpA.iixV (enc := encLex) rfl ts34 rfl rfl rfl (q1 (beqF b7)).2.2 ⟨rfl, rfl⟩) ?_
  refine dG (OpA.ifieldAddr rfl tf72_1 rfl ⟨rfl, rfl⟩) ?_
  refine dG (OpA.iload rfl ti3 rfl rfl ⟨rfl, rfl⟩) ?_
  refine dG (OpA.gtr rfl rfl rfl ⟨rfl, rfl⟩) ?_
  refine dL (OpA.p ⟨rfl, rfl⟩) ?_
  refine DetK.nil ?_
  refine wpL_nil ?_
  exact ⟨(Cov.asg ⟨rfl, rfl, rfl, rfl, rfl, (congrArg D.b (Eq.symm (orN b7 rfl))), trivial⟩), (.refl _)⟩
  show wpA _ _ _ _ (asg [(1, .ptr c1 2 0 0), (2, D.s (⟨#[]⟩ : ByteArray)), (3, D.i 0), (4, D.s out), (5, D.i i), (33, D.b ((i == 0) || (decide ((gi t.words i).line > (gi t.words (i - 1)).line))))]) [(c1, .cells 2 [encText t])]
  refine wpA_join (S := ByteArray) (G := Unit) (fun gg ss => asg [(1, .ptr c1 2 0 0), (2, D.s (⟨#[]⟩ : ByteArray)), (3, D.i 0), (4, D.s ss), (5, D.i i)]) (fun gg ss => [(c1, .cells 2 [encText t])]) (fun ss => n23print_J1 t i again3 ss) ?_ ?_
  refine wpA_cond rfl (fun b5 => ?_) (fun b5 => ?_)
  have h := h.1 ((or0 b5).imp (fun hh => (beqT hh)) (fun hh => (decT hh)))
  iterate 2 refine wpA_seq ?_
  refine wpA_region ?_
  refine wL (OpA.m ?_)
  refine wL (OpA.gtr rfl rfl rfl ?_)
  refine wpL_nil ?_
  refine wpA_join (S := ByteArray) (G := Unit) (fun gg ss => asg [(1, .ptr c1 2 0 0), (2, D.s (⟨#[]⟩ : ByteArray)), (3, D.i 0), (4, D.s ss), (5, D.i i)]) (fun gg ss => [(c1, .cells 2 [encText t])]) (fun ss => n23print_J2 t i again3 ss) ?_ ?_
  refine wpA_cond rfl (fun b6 => ?_) (fun b6 => ?_)
  have h := h.1 (decT b6)
  obtain ⟨q1, h⟩ := h
  refine wpA_region ?_
  refine wL (OpA.m ?_)
  refine wL (OpA.sadd rfl rfl rfl q1 ?_)
  refine wL (OpA.a ?_)
  refine wpL_nil ?_
  exact ⟨(), (out ++ (⟨#[10]⟩ : ByteArray)), h, (Cov.asg ⟨rfl, rfl, rfl, rfl, rfl, trivial⟩), (.refl _)⟩
  have h := h.2 (decF b6)
  refine wpA_skip ?_
  exact ⟨(), out, h, (Cov.asg ⟨rfl, rfl, rfl, rfl, rfl, trivial⟩), (.refl _)⟩
  rintro _ out3 h
  have h : n23print_J2 t i again3 out3 := h
  unfold n23print_J2 at h
  show wpA _ _ _ _ (asg [(1, .ptr c1 2 0 0), (2, D.s (⟨#[]⟩ : ByteArray)), (3, D.i 0), (4, D.s out3), (5, D.i i)]) [(c1, .cells 2 [encText t])]
  obtain ⟨q1, q2, q3, q4, q5, h⟩ := h
  refine wpA_region ?_
  refine wL (OpA.m ?_)
  refine wL (OpA.fieldAddr rfl tf36_1 rfl ?_)
  refine wL (OpA.load rfl ti34 rfl .head rfl rfl ?_)
  refine wL (OpA.m ?_)
  refine wL (OpA.iixV (enc := encLex) rfl ts34 rfl rfl rfl q1 ?_)
  refine wL (OpA.ifieldAddr rfl tf72_1 rfl ?_)
  refine wL (OpA.iload rfl ti3 rfl rfl ?_)
  refine wL (OpA.call rfl rfl rfl en74 (dec_c ((gi t.words i).line) q2 q3) ?_)
  rintro _ rfl
  refine wL (OpA.sadd rfl rfl rfl q4 ?_)
  refine wL (OpA.sadd rfl rfl rfl q5 ?_)
  refine wL (OpA.a ?_)
  refine wpL_nil ?_
  exact ⟨(), ((out3 ++ (itoaF ((gi t.words i).line))) ++ (⟨#[58]⟩ : ByteArray)), h, (Cov.asg ⟨rfl, rfl, rfl, rfl, rfl, trivial⟩), (.refl _)⟩
  have h := h.2 ⟨(beqF (or1 b5)), (decF (or2 b5))⟩
  refine wpA_skip ?_
  exact ⟨(), out, h, (Cov.asg ⟨rfl, rfl, rfl, rfl, rfl, trivial⟩), (.refl _)⟩
  rintro _ out2 h
  have h : n23print_J1 t i again3 out2 := h
  unfold n23print_J1 at h
  show wpA _ _ _ _ (asg [(1, .ptr c1 2 0 0), (2, D.s (⟨#[]⟩ : ByteArray)), (3, D.i 0), (4, D.s out2), (5, D.i i)]) [(c1, .cells 2 [encText t])]
  obtain ⟨q1, q2, q3, h⟩ := h
  refine wpA_region ?_
  refine wL (OpA.m ?_)
  refine wL (OpA.sadd rfl rfl rfl q1 ?_)
  refine wL (OpA.fieldAddr rfl tf36_1 rfl ?_)
  refine wL (OpA.load rfl ti34 rfl .head rfl rfl ?_)
  refine wL (OpA.m ?_)
  refine wL (OpA.iixV (enc := encLex) rfl ts34 rfl rfl rfl q2 ?_)
  refine wL (OpA.ifieldAddr rfl tf72_0 rfl ?_)
  refine wL (OpA.iload rfl ti9 rfl rfl ?_)
  refine wL (OpA.sadd rfl rfl rfl q3 ?_)
  refine wL (OpA.a ?_)
  refine wpL_nil ?_
  obtain ⟨q1, h⟩ := h
  refine wpA_region ?_
  refine wL (OpA.m ?_)
  refine wL (OpA.addi rfl rfl rfl q1 ?_)
  refine wL (OpA.a ?_)
  refine wpL_nil ?_
  exact ⟨(), (((out2 ++ (⟨#[32]⟩ : ByteArray)) ++ ((gi t.words i).text)), (i + 1)), h, (Cov.asg ⟨rfl, rfl, rfl, rfl, rfl, trivial⟩), (.refl _)⟩
  have h := h.2 (decF b4)
  refine wpA_exit ?_
  iterate 2 refine wpA_seq ?_
  refine wpA_region ?_
  refine wL (OpA.m ?_)
  refine wL (OpA.sneq rfl rfl rfl ?_)
  refine wpL_nil ?_
  refine wpA_cond rfl (fun b8 => ?_) (fun b8 => ?_)
  have h := h.1 (ndecT b8)
  obtain ⟨q1, h⟩ := h
  refine wpA_region ?_
  refine wL (OpA.m ?_)
  refine wL (OpA.sadd rfl rfl rfl q1 ?_)
  refine wL (OpA.a ?_)
  refine wpL_nil ?_
  refine wpA_seq ?_
  refine wpA_region ?_
  refine wL (OpA.m ?_)
  iterate 2 refine wL (OpA.a ?_)
  refine wpL_nil ?_
  refine wpA_ret ?_
  exact ⟨_, (.tmp (d := D.s (out ++ (⟨#[10]⟩ : ByteArray))) rfl (.tmp (d := D.i 0) rfl .nil)), _, (.tup (.same rfl (.same rfl .nil)) .nil), ⟨((out ++ (⟨#[10]⟩ : ByteArray)), 0), rfl, h⟩⟩
  have h := h.2 (ndecF b8)
  refine wpA_skip ?_
  refine wpA_seq ?_
  refine wpA_region ?_
  refine wL (OpA.m ?_)
  iterate 2 refine wL (OpA.a ?_)
  refine wpL_nil ?_
  refine wpA_ret ?_
  exact ⟨_, (.tmp (d := D.s out) rfl (.tmp (d := D.i 0) rfl .nil)), _, (.tup (.same rfl (.same rfl .nil)) .nil), ⟨(out, 0), rfl, h⟩⟩
theorem n23print_c (t : Text)  (hp0 : okT t) : Fun false Tryz.prog 75 [encText t] (fun d => d = .tup [D.s ((printT t).1), D.i ((printT t).2)]) :=
  Fun.at (enc := fun r => .tup [D.s (r.1), D.i (r.2)]) (v := printT t) (n23print_w t  (fun r => r = printT t) (n23print_ok t _ hp0 rfl))

abbrev nprint_e0 (t : Text) (x : Int) (xs1 : (List Int)) := ((((((itoaF ((gi t.words x).line)) ++ (⟨#[58]⟩ : ByteArray))).size : Int), xs1 ++ sbytes ((itoaF ((gi t.words x).line)) ++ (⟨#[58]⟩ : ByteArray))).2)
set_option maxHeartbeats 2000000 in
set_option maxRecDepth 10000 in
theorem nprint_w (t : Text)  (Q : ByteArray × Int → Prop) (h : nprint_vc t Q) : Fun false Tryz.prog 71 [encText t] (fun d => ∃ r, d = .tup [D.s (r.1), D.i (r.2)] ∧ Q r) := by
  unfold nprint_vc at h
  refine Fun.of_body Tryz.func71 rfl Tryz.ntmps71 rfl ?_
  refine wpA_seq ?_
  refine wpA_region ?_
  refine wL (OpA.bx (sz := 2) rfl (by with_reducible conv => lhs; whnf) (.of rfl) (fun c1 _ => ?_))
  iterate 2 refine wL (OpA.a ?_)
  refine wpL_nil ?_
  iterate 2 refine wpA_seq ?_
  obtain ⟨q1, h⟩ := h
  refine wpA_region ?_
  refine wL (OpA.load_whole rfl ti36 rfl rfl .head rfl ⟨_, rfl⟩ ?_)
  refine wL (OpA.call rfl rfl rfl en27 (nvalid_c t q1) ?_)
  rintro _ rfl
  refine wL (OpA.not rfl rfl ?_)
  refine wpL_nil ?_
  refine wpA_cond rfl (fun b2 => ?_) (fun b2 => ?_)
  have h := h.1 (notT b2)
  refine wpA_seq ?_
  refine wpA_region ?_
  iterate 2 refine wL (OpA.a ?_)
  refine wpL_nil ?_
  refine wpA_ret ?_
  exact ⟨_, (.tmp (d := D.s (⟨#[]⟩ : ByteArray)) rfl (.tmp (d := D.i 1) rfl .nil)), _, (.tup (.same rfl (.same rfl .nil)) .nil), ⟨((⟨#[]⟩ : ByteArray), 1), rfl, h⟩⟩
  have h := h.2 (notF b2)
  refine wpA_skip ?_
  refine wpA_seq ?_
  refine wpA_region ?_
  refine wL (OpA.allocB (e := 5) rfl tz98 (fun c3 c4 => ?_))
  refine wpL_nil ?_
  iterate 2 refine wpA_seq ?_
  refine wpA_region ?_
  refine wL (OpA.fieldAddr rfl tf36_1 rfl ?_)
  refine wL (OpA.load rfl ti34 rfl (.tail (.tail .head)) rfl rfl ?_)
  refine wL (OpA.len rfl rfl rfl rfl ts34.desc (.inl ⟨_, _, rfl, (List.length_map _).symm⟩) ?_)
  refine wL (OpA.m ?_)
  refine wpL_nil ?_
  refine wpA_block ?_
  refine wpA_lfp (S := (List Int) × Int) (G := Bool × Nat × List D) (false, c4, ([] : List D)) (fun gg ss => asg [(1, .ptr c1 2 0 0), (2, D.s (⟨#[]⟩ : ByteArray)), (3, D.i 0), (4, .ptr c3 2 0 0), (11, (encL 2 encLex) t.words), (12, D.i (t.words.length : Int)), (13, D.i ss.2)]) (fun gg ss => [(c3, .cells 2 [bldD 98 5 c3 gg.1 gg.2.1 ss.1]), (gg.2.1, .cells 1 (winL (D.k .u8) ([] : List D) ss.1 gg.2.2)), (c1, .cells 2 [encText t])]) h (Cov.asg ⟨rfl, rfl, rfl, rfl, rfl, rfl, rfl, trivial⟩) (.refl _) ?_
  rintro again5 ⟨u, cb4b, post4b⟩ ⟨xs, x⟩ h
  have h : nprint_L1 t Q again5 xs x := h
  unfold nprint_L1 at h
  show wpA _ _ _ _ (asg [(1, .ptr c1 2 0 0), (2, D.s (⟨#[]⟩ : ByteArray)), (3, D.i 0), (4, .ptr c3 2 0 0), (11, (encL 2 encLex) t.words), (12, D.i (t.words.length : Int)), (13, D.i x)]) [(c3, .cells 2 [bldD 98 5 c3 u cb4b xs]), (cb4b, .cells 1 (winL (D.k .u8) ([] : List D) xs post4b)), (c1, .cells 2 [encText t])]
  refine wpA_seq ?_
  refine wpA_region ?_
  refine wL (OpA.lss rfl rfl rfl ?_)
  refine wpL_nil ?_
  refine wpA_seq ?_
  refine wpA_cond rfl (fun b6 => ?_) (fun b6 => ?_)
  have h := h.1 (decT b6)
  refine wpA_skip ?_
  refine wpA_seq ?_
  refine wpA_block ?_
  refine wpA_seq ?_
  obtain ⟨q1, h⟩ := h
  refine wpA_region ?_
  refine wL (OpA.m ?_)
  refine wL (OpA.iixV (enc := encLex) rfl ts34 rfl rfl rfl q1 ?_)
  refine wL (OpA.iload_whole rfl ti72 rfl ⟨_, rfl, rfl⟩ ?_)
  refine wL (OpA.alloc (sz := 2) (d := encLex (Lexeme.mk ByteArray.empty 0)) rfl tz72 (fun _ _ => .agg (.cons (.v _) (.cons (.v _) .nil))) (.of rfl) (fun c7 _ => ?_))
  refine wL (OpA.a ?_)
  refine wE (OpA.storeW rfl ti72 rfl (by with_reducible conv => lhs; whnf) (.of rfl) rfl rfl .head ?_)
  refine wpL_nil ?_
  iterate 2 refine wpA_seq ?_
  obtain ⟨q1, h⟩ := h
  refine wpA_mid (asg [(1, .ptr c1 2 0 0), (2, D.s (⟨#[]⟩ : ByteArray)), (3, D.i 0), (4, .ptr c3 2 0 0), (5, D.i x), (6, .ptr c7 2 0 0), (11, (encL 2 encLex) t.words), (12, D.i (t.words.length : Int)), (13, D.i x), (31, D.b ((x == 0) || (((gi t.words x).line) != ((gi t.words (x - 1)).line))))]) [(c7, .cells 2 [encLex (gi t.words x)]), (c3, .cells 2 [bldD 98 5 c3 u cb4b xs]), (cb4b, .cells 1 (winL (D.k .u8) ([] : List D) xs post4b)), (c1, .cells 2 [encText t])] ?_ ?_
  refine wpA_draw (m := 14) mo (by kernel_rfl) rfl ?_
  refine dL (OpA.m ⟨rfl, rfl⟩) ?_
  refine dL (OpA.eql rfl rfl rfl ⟨rfl, rfl⟩) ?_
  refine dL (OpA.m ⟨rfl, rfl⟩) ?_
  refine DetK_split (s := 20) rfl (fun b22 => ?_) (fun b22 => ?_)
  iterate 10 refine dS ?_
  refine dL (OpA.p ⟨rfl, rfl⟩) ?_
  refine DetK.nil ?_
  refine wpL_nil ?_
  exact ⟨(Cov.asg ⟨rfl, rfl, rfl, rfl, rfl, rfl, rfl, rfl, rfl, (congrArg D.b (Eq.symm (orS b22))), trivial⟩), (.refl _)⟩
  refine dG (OpA.fieldAddr rfl tf72_1 rfl ⟨rfl, rfl⟩) ?_
  refine dG (OpA.load rfl ti3 rfl .head rfl rfl ⟨rfl, rfl⟩) ?_
  refine dG (OpA.fieldAddr rfl tf36_1 rfl ⟨rfl, rfl⟩) ?_
  refine dG (OpA.load rfl ti34 rfl (.tail (.tail (.tail .head))) rfl rfl ⟨rfl, rfl⟩) ?_
  refine dG (OpA.m ⟨rfl, rfl⟩) ?_
  refine dG (OpA.subi rfl rfl rfl (q1 (beqF b22)).1 ⟨rfl, rfl⟩) ?_
  refine dG (OpA.iixV (enc := encLex) rfl ts34 rfl rfl rfl (q1 (beqF b22)).2 ⟨rfl, rfl⟩) ?_
  refine dG (OpA.ifieldAddr rfl tf72_1 rfl ⟨rfl, rfl⟩) ?_
  refine dG (OpA.iload rfl ti3 rfl rfl ⟨rfl, rfl⟩) ?_
  refine dG (OpA.neq rfl rfl rfl ⟨rfl, rfl⟩) ?_
  refine dL (OpA.p ⟨rfl, rfl⟩) ?_
  refine DetK.nil ?_
  refine wpL_nil ?_
  exact ⟨(Cov.asg ⟨rfl, rfl, rfl, rfl, rfl, rfl, rfl, rfl, rfl, (congrArg D.b (Eq.symm (orN b22 rfl))), trivial⟩), (.refl _)⟩
  show wpA _ _ _ _ (asg [(1, .ptr c1 2 0 0), (2, D.s (⟨#[]⟩ : ByteArray)), (3, D.i 0), (4, .ptr c3 2 0 0), (5, D.i x), (6, .ptr c7 2 0 0), (11, (encL 2 encLex) t.words), (12, D.i (t.words.length : Int)), (13, D.i x), (31, D.b ((x == 0) || (((gi t.words x).line) != ((gi t.words (x - 1)).line))))]) [(c7, .cells 2 [encLex (gi t.words x)]), (c3, .cells 2 [bldD 98 5 c3 u cb4b xs]), (cb4b, .cells 1 (winL (D.k .u8) ([] : List D) xs post4b)), (c1, .cells 2 [encText t])]
  refine wpA_cond rfl (fun b8 => ?_) (fun b8 => ?_)
  have h := h.1 ((or0 b8).imp (fun hh => (beqT hh)) (fun hh => (bneT hh)))
  iterate 2 refine wpA_seq ?_
  refine wpA_region ?_
  refine wL (OpA.m ?_)
  refine wL (OpA.gtr rfl rfl rfl ?_)
  refine wpL_nil ?_
  refine wpA_join (S := (List Int)) (G := Bool × Nat × List D) (fun gg ss => asg [(1, .ptr c1 2 0 0), (2, D.s (⟨#[]⟩ : ByteArray)), (3, D.i 0), (4, .ptr c3 2 0 0), (6, .ptr c7 2 0 0), (11, (encL 2 encLex) t.words), (12, D.i (t.words.length : Int)), (13, D.i x)]) (fun gg ss => [(c7, .cells 2 [encLex (gi t.words x)]), (c3, .cells 2 [bldD 98 5 c3 gg.1 gg.2.1 ss]), (gg.2.1, .cells 1 (winL (D.k .u8) ([] : List D) ss gg.2.2)), (c1, .cells 2 [encText t])]) (fun ss => nprint_J1 t x again5 ss) ?_ ?_
  refine wpA_cond rfl (fun b15 => ?_) (fun b15 => ?_)
  have h := h.1 (decT b15)
  obtain ⟨q1, h⟩ := h
  refine wpA_region ?_
  refine wL (OpA.callH rfl rfl rfl en101 (h1 := [(c3, .cells 2 [bldD 98 5 c3 u cb4b xs]), (cb4b, .cells 1 (winL (D.k .u8) ([] : List D) xs post4b))]) (h2 := [(c7, .cells 2 [encLex (gi t.words x)]), (c1, .cells 2 [encText t])]) (pull1.trans (.cons _ pull1)) (bldWB_c xs c3 u cb4b post4b 10 q1) ?_)
  rintro _ _ ⟨⟨u16, c17, post18⟩, rfl, rfl⟩
  refine wpL_perm (h' := [(c7, .cells 2 [encLex (gi t.words x)]), (c3, .cells 2 [bldD 98 5 c3 u16 c17 (xs ++ [10])]), (c17, .cells 1 (winL (D.k .u8) ([] : List D) (xs ++ [10]) post18)), (c1, .cells 2 [encText t])]) pull2 ?_
  refine wpL_nil ?_
  exact ⟨(u16, c17, post18), (xs ++ [10]), h, (Cov.asg ⟨rfl, rfl, rfl, rfl, rfl, rfl, rfl, rfl, trivial⟩), (.refl _)⟩
  have h := h.2 (decF b15)
  refine wpA_skip ?_
  exact ⟨(u, cb4b, post4b), xs, h, (Cov.asg ⟨rfl, rfl, rfl, rfl, rfl, rfl, rfl, rfl, trivial⟩), (.refl _)⟩
  rintro ⟨u1, cb4b1, post4b1⟩ xs1 h
  have h : nprint_J1 t x again5 xs1 := h
  unfold nprint_J1 at h
  show wpA _ _ _ _ (asg [(1, .ptr c1 2 0 0), (2, D.s (⟨#[]⟩ : ByteArray)), (3, D.i 0), (4, .ptr c3 2 0 0), (6, .ptr c7 2 0 0), (11, (encL 2 encLex) t.words), (12, D.i (t.words.length : Int)), (13, D.i x)]) [(c7, .cells 2 [encLex (gi t.words x)]), (c3, .cells 2 [bldD 98 5 c3 u1 cb4b1 xs1]), (cb4b1, .cells 1 (winL (D.k .u8) ([] : List D) xs1 post4b1)), (c1, .cells 2 [encText t])]
  obtain ⟨q1, q2, q3, q4, h⟩ := h
  refine wpA_region ?_
  refine wL (OpA.fieldAddr rfl tf72_1 rfl ?_)
  refine wL (OpA.load rfl ti3 rfl .head rfl rfl ?_)
  refine wL (OpA.call rfl rfl rfl en70 (itoa_c ((gi t.words x).line) q1 q2) ?_)
  rintro _ rfl
  refine wL (OpA.sadd rfl rfl rfl q3 ?_)
  refine wL (OpA.callH rfl rfl rfl en69 (h1 := [(c3, .cells 2 [bldD 98 5 c3 u1 cb4b1 xs1]), (cb4b1, .cells 1 (winL (D.k .u8) ([] : List D) xs1 post4b1))]) (h2 := [(c7, .cells 2 [encLex (gi t.words x)]), (c1, .cells 2 [encText t])]) (pull1.trans (.cons _ pull1)) (bldWS_c xs1 c3 u1 cb4b1 post4b1 ((itoaF ((gi t.words x).line)) ++ (⟨#[58]⟩ : ByteArray)) q4) ?_)
  rintro _ _ ⟨⟨u9, c10, post11⟩, rfl, rfl⟩
  refine wpL_perm (h' := [(c7, .cells 2 [encLex (gi t.words x)]), (c3, .cells 2 [bldD 98 5 c3 u9 c10 (nprint_e0 t x xs1)]), (c10, .cells 1 (winL (D.k .u8) ([] : List D) (nprint_e0 t x xs1) post11)), (c1, .cells 2 [encText t])]) pull2 ?_
  refine wpL_nil ?_
  obtain ⟨q1, q2, h⟩ := h
  refine wpA_region ?_
  refine wL (OpA.fieldAddr rfl tf72_0 rfl ?_)
  refine wL (OpA.load rfl ti9 rfl .head rfl rfl ?_)
  refine wL (OpA.sadd rfl rfl rfl q1 ?_)
  refine wL (OpA.callH rfl rfl rfl en69 (h1 := [(c3, .cells 2 [bldD 98 5 c3 u9 c10 (nprint_e0 t x xs1)]), (c10, .cells 1 (winL (D.k .u8) ([] : List D) (nprint_e0 t x xs1) post11))]) (h2 := [(c7, .cells 2 [encLex (gi t.words x)]), (c1, .cells 2 [encText t])]) (pull1.trans (.cons _ pull1)) (bldWS_c (nprint_e0 t x xs1) c3 u9 c10 post11 ((⟨#[32]⟩ : ByteArray) ++ ((gi t.words x).text)) q2) ?_)
  rintro _ _ ⟨⟨u12, c13, post14⟩, rfl, rfl⟩
  refine wpL_perm (h' := [(c7, .cells 2 [encLex (gi t.words x)]), (c3, .cells 2 [bldD 98 5 c3 u12 c13 ((((((⟨#[32]⟩ : ByteArray) ++ ((gi t.words x).text))).size : Int), (nprint_e0 t x xs1) ++ sbytes ((⟨#[32]⟩ : ByteArray) ++ ((gi t.words x).text))).2)]), (c13, .cells 1 (winL (D.k .u8) ([] : List D) ((((((⟨#[32]⟩ : ByteArray) ++ ((gi t.words x).text))).size : Int), (nprint_e0 t x xs1) ++ sbytes ((⟨#[32]⟩ : ByteArray) ++ ((gi t.words x).text))).2) post14)), (c1, .cells 2 [encText t])]) pull2 ?_
  refine wpL_nil ?_
  obtain ⟨q1, h⟩ := h
  refine wpA_region ?_
  refine wL (OpA.addi rfl rfl rfl q1 ?_)
  refine wL (OpA.m ?_)
  refine wpL_nil ?_
  exact ⟨(u12, c13, post14), (((((((⟨#[32]⟩ : ByteArray) ++ ((gi t.words x).text))).size : Int), (nprint_e0 t x xs1) ++ sbytes ((⟨#[32]⟩ : ByteArray) ++ ((gi t.words x).text))).2), (x + 1)), h, (Cov.asg ⟨rfl, rfl, rfl, rfl, rfl, rfl, rfl, trivial⟩), (.cons _ (.refl _))⟩
  have h := h.2 ⟨(beqF (or1 b8)), (bneF (or2 b8))⟩
  refine wpA_skip ?_
  obtain ⟨q1, q2, h⟩ := h
  refine wpA_region ?_
  refine wL (OpA.fieldAddr rfl tf72_0 rfl ?_)
  refine wL (OpA.load rfl ti9 rfl .head rfl rfl ?_)
  refine wL (OpA.sadd rfl rfl rfl q1 ?_)
  refine wL (OpA.callH rfl rfl rfl en69 (h1 := [(c3, .cells 2 [bldD 98 5 c3 u cb4b xs]), (cb4b, .cells 1 (winL (D.k .u8) ([] : List D) xs post4b))]) (h2 := [(c7, .cells 2 [encLex (gi t.words x)]), (c1, .cells 2 [encText t])]) (pull1.trans (.cons _ pull1)) (bldWS_c xs c3 u cb4b post4b ((⟨#[32]⟩ : ByteArray) ++ ((gi t.words x).text)) q2) ?_)
  rintro _ _ ⟨⟨u19, c20, post21⟩, rfl, rfl⟩
  refine wpL_perm (h' := [(c7, .cells 2 [encLex (gi t.words x)]), (c3, .cells 2 [bldD 98 5 c3 u19 c20 ((((((⟨#[32]⟩ : ByteArray) ++ ((gi t.words x).text))).size : Int), xs ++ sbytes ((⟨#[32]⟩ : ByteArray) ++ ((gi t.words x).text))).2)]), (c20, .cells 1 (winL (D.k .u8) ([] : List D) ((((((⟨#[32]⟩ : ByteArray) ++ ((gi t.words x).text))).size : Int), xs ++ sbytes ((⟨#[32]⟩ : ByteArray) ++ ((gi t.words x).text))).2) post21)), (c1, .cells 2 [encText t])]) pull2 ?_
  refine wpL_nil ?_
  obtain ⟨q1, h⟩ := h
  refine wpA_region ?_
  refine wL (OpA.addi rfl rfl rfl q1 ?_)
  refine wL (OpA.m ?_)
  refine wpL_nil ?_
  exact ⟨(u19, c20, post21), (((((((⟨#[32]⟩ : ByteArray) ++ ((gi t.words x).text))).size : Int), xs ++ sbytes ((⟨#[32]⟩ : ByteArray) ++ ((gi t.words x).text))).2), (x + 1)), h, (Cov.asg ⟨rfl, rfl, rfl, rfl, rfl, rfl, rfl, trivial⟩), (.cons _ (.refl _))⟩
  have h := h.2 (decF b6)
  refine wpA_exit ?_
  iterate 2 refine wpA_seq ?_
  refine wpA_region ?_
  refine wL (OpA.fieldAddr rfl tf36_1 rfl ?_)
  refine wL (OpA.load rfl ti34 rfl (.tail (.tail .head)) rfl rfl ?_)
  refine wL (OpA.len rfl rfl rfl rfl ts34.desc (.inl ⟨_, _, rfl, (List.length_map _).symm⟩) ?_)
  refine wL (OpA.gtr rfl rfl rfl ?_)
  refine wpL_nil ?_
  refine wpA_cond rfl (fun b23 => ?_) (fun b23 => ?_)
  have h := h.1 (decT b23)
  obtain ⟨q1, h⟩ := h
  refine wpA_region ?_
  refine wL (OpA.callH rfl rfl rfl en101 (h1 := [(c3, .cells 2 [bldD 98 5 c3 u cb4b xs]), (cb4b, .cells 1 (winL (D.k .u8) ([] : List D) xs post4b))]) (h2 := [(c1, .cells 2 [encText t])]) (.refl _) (bldWB_c xs c3 u cb4b post4b 10 q1) ?_)
  rintro _ _ ⟨⟨u24, c25, post26⟩, rfl, rfl⟩
  refine wpL_nil ?_
  refine wpA_seq ?_
  obtain ⟨q1, h⟩ := h
  refine wpA_region ?_
  refine wL (OpA.callH rfl rfl rfl en73 (h1 := [(c3, .cells 2 [bldD 98 5 c3 u24 c25 (xs ++ [10])]), (c25, .cells 1 (winL (D.k .u8) ([] : List D) (xs ++ [10]) post26))]) (h2 := [(c1, .cells 2 [encText t])]) (.refl _) (bldStr_c (xs ++ [10]) c3 u24 c25 post26 q1) ?_)
  rintro _ _ ⟨_, rfl, rfl⟩
  iterate 2 refine wL (OpA.a ?_)
  refine wpL_nil ?_
  refine wpA_ret ?_
  exact ⟨_, (.tmp (d := D.s (bstr (xs ++ [10]))) rfl (.tmp (d := D.i 0) rfl .nil)), _, (.tup (.same rfl (.same rfl .nil)) .nil), ⟨((bstr (xs ++ [10])), 0), rfl, h⟩⟩
  have h := h.2 (decF b23)
  refine wpA_skip ?_
  refine wpA_seq ?_
  obtain ⟨q1, h⟩ := h
  refine wpA_region ?_
  refine wL (OpA.callH rfl rfl rfl en73 (h1 := [(c3, .cells 2 [bldD 98 5 c3 u cb4b xs]), (cb4b, .cells 1 (winL (D.k .u8) ([] : List D) xs post4b))]) (h2 := [(c1, .cells 2 [encText t])]) (.refl _) (bldStr_c xs c3 u cb4b post4b q1) ?_)
  rintro _ _ ⟨_, rfl, rfl⟩
  iterate 2 refine wL (OpA.a ?_)
  refine wpL_nil ?_
  refine wpA_ret ?_
  exact ⟨_, (.tmp (d := D.s (bstr xs)) rfl (.tmp (d := D.i 0) rfl .nil)), _, (.tup (.same rfl (.same rfl .nil)) .nil), ⟨((bstr xs), 0), rfl, h⟩⟩
theorem nprint_c (t : Text)  (hp0 : okT t) : Fun false Tryz.prog 71 [encText t] (fun d => d = .tup [D.s ((printT t).1), D.i ((printT t).2)]) :=
  Fun.at (enc := fun r => .tup [D.s (r.1), D.i (r.2)]) (v := printT t) (nprint_w t  (fun r => r = printT t) (nprint_ok t _ hp0 rfl))

set_option maxHeartbeats 2000000 in
set_option maxRecDepth 10000 in
theorem cid_w (c : Corpus)  (Q : ByteArray × Int → Prop) (h : cid_vc c Q) : Fun false Tryz.prog 35 [encCorpus c] (fun d => ∃ r, d = .tup [D.s (r.1), D.i (r.2)] ∧ Q r) := by
  unfold cid_vc at h
  refine Fun.of_body Tryz.func35 rfl Tryz.ntmps35 rfl ?_
  refine wpA_seq ?_
  refine wpA_region ?_
  refine wL (OpA.bx (sz := 4) rfl (by with_reducible conv => lhs; whnf) (.of rfl) (fun c1 _ => ?_))
  iterate 2 refine wL (OpA.a ?_)
  refine wpL_nil ?_
  iterate 2 refine wpA_seq ?_
  obtain ⟨q1, h⟩ := h
  refine wpA_region ?_
  refine wL (OpA.load_whole rfl ti25 rfl rfl .head rfl ⟨_, rfl⟩ ?_)
  refine wL (OpA.call rfl rfl rfl en13 (ccheck_c c q1) ?_)
  rintro _ rfl
  refine wL (OpA.neq rfl rfl rfl ?_)
  refine wpL_nil ?_
  refine wpA_cond rfl (fun b2 => ?_) (fun b2 => ?_)
  have h := h.1 (bneT b2)
  refine wpA_seq ?_
  refine wpA_region ?_
  iterate 2 refine wL (OpA.a ?_)
  refine wpL_nil ?_
  refine wpA_ret ?_
  exact ⟨_, (.tmp (d := D.s (⟨#[]⟩ : ByteArray)) rfl (.tmp (d := D.i 1) rfl .nil)), _, (.tup (.same rfl (.same rfl .nil)) .nil), ⟨((⟨#[]⟩ : ByteArray), 1), rfl, h⟩⟩
  have h := h.2 (bneF b2)
  refine wpA_skip ?_
  refine wpA_seq ?_
  refine wpA_region ?_
  refine wL (OpA.allocB (e := 5) rfl tz98 (fun c3 c4 => ?_))
  refine wpL_nil ?_
  refine wpA_seq ?_
  obtain ⟨q1, q2, q3, q4, q5, q6, q7, q8, h⟩ := h
  refine wpA_draw (m := 9) mo (by kernel_rfl) rfl ?_
  refine dL (OpA.fieldAddr rfl tf25_0 rfl ⟨rfl, rfl⟩) ?_
  refine dL (OpA.load rfl ti3 rfl (.tail (.tail .head)) rfl rfl ⟨rfl, rfl⟩) ?_
  refine dL (OpA.call rfl rfl rfl en70 (itoa_c c.k q1 q2) (by rintro _ rfl; exact ⟨rfl, rfl⟩)) ?_
  refine dL (OpA.sadd rfl rfl rfl q3 ⟨rfl, rfl⟩) ?_
  refine dL (OpA.fieldAddr rfl tf25_1 rfl ⟨rfl, rfl⟩) ?_
  refine dL (OpA.load rfl ti3 rfl (.tail (.tail .head)) rfl rfl ⟨rfl, rfl⟩) ?_
  refine dL (OpA.call rfl rfl rfl en70 (itoa_c c.w q4 q5) (by rintro _ rfl; exact ⟨rfl, rfl⟩)) ?_
  refine dL (OpA.sadd rfl rfl rfl q6 ⟨rfl, rfl⟩) ?_
  refine dL (OpA.sadd rfl rfl rfl q7 ⟨rfl, rfl⟩) ?_
  refine DetK.nil ?_
  refine wL (OpA.callH rfl rfl rfl en69 (h1 := [(c3, .cells 2 [bldD 98 5 c3 false c4 ([] : List Int)]), (c4, .cells 1 (winL (D.k .u8) ([] : List D) ([] : List Int) ([] : List D)))]) (h2 := [(c1, .cells 4 [encCorpus c])]) (.refl _) (bldWS_c ([] : List Int) c3 false c4 ([] : List D) ((((itoaF c.k) ++ (⟨#[32]⟩ : ByteArray)) ++ (itoaF c.w)) ++ (⟨#[10]⟩ : ByteArray)) q8) ?_)
  rintro _ _ ⟨⟨u5, c6, post7⟩, rfl, rfl⟩
  refine wpL_nil ?_
  iterate 2 refine wpA_seq ?_
  refine wpA_region ?_
  refine wL (OpA.fieldAddr rfl tf25_2 rfl ?_)
  refine wL (OpA.load rfl ti22 rfl (.tail (.tail .head)) rfl rfl ?_)
  refine wL (OpA.len rfl rfl rfl rfl ts22.desc (.inl ⟨_, _, rfl, (List.length_map _).symm⟩) ?_)
  refine wL (OpA.m ?_)
  refine wpL_nil ?_
  refine wpA_block ?_
  refine wpA_lfp (S := (List Int) × Int) (G := Bool × Nat × List D) (u5, c6, post7) (fun gg ss => asg [(2, D.s (⟨#[]⟩ : ByteArray)), (3, D.i 0), (4, .ptr c3 2 0 0), (23, (encL 2 encText) c.texts), (24, D.i (c.texts.length : Int)), (25, D.i ss.2)]) (fun gg ss => [(c3, .cells 2 [bldD 98 5 c3 gg.1 gg.2.1 ss.1]), (gg.2.1, .cells 1 (winL (D.k .u8) ([] : List D) ss.1 gg.2.2)), (c1, .cells 4 [encCorpus c])]) h (Cov.asg ⟨rfl, rfl, rfl, rfl, rfl, rfl, trivial⟩) (.refl _) ?_
  rintro again8 ⟨u, cb4b, post4b⟩ ⟨xs, x⟩ h
  have h : cid_L1 c Q again8 xs x := h
  unfold cid_L1 at h
  show wpA _ _ _ _ (asg [(2, D.s (⟨#[]⟩ : ByteArray)), (3, D.i 0), (4, .ptr c3 2 0 0), (23, (encL 2 encText) c.texts), (24, D.i (c.texts.length : Int)), (25, D.i x)]) [(c3, .cells 2 [bldD 98 5 c3 u cb4b xs]), (cb4b, .cells 1 (winL (D.k .u8) ([] : List D) xs post4b)), (c1, .cells 4 [encCorpus c])]
  refine wpA_seq ?_
  refine wpA_region ?_
  refine wL (OpA.lss rfl rfl rfl ?_)
  refine wpL_nil ?_
  refine wpA_seq ?_
  refine wpA_cond rfl (fun b9 => ?_) (fun b9 => ?_)
  have h := h.1 (decT b9)
  refine wpA_skip ?_
  refine wpA_seq ?_
  refine wpA_block ?_
  refine wpA_seq ?_
  obtain ⟨q1, h⟩ := h
  refine wpA_region ?_
  refine wL (OpA.iixV (enc := encText) rfl ts22 rfl rfl rfl q1 ?_)
  refine wL (OpA.iload_whole rfl ti36 rfl ⟨_, rfl, rfl⟩ ?_)
  refine wL (OpA.alloc (sz := 2) (d := .agg ([D.s ByteArray.empty, .v (.slice none 0 0)])) rfl tz36 (fun _ _ => .agg (.cons (.v _) (.cons (.v _) .nil))) (.of rfl) (fun c10 _ => ?_))
  refine wE (OpA.storeW rfl ti36 rfl (by with_reducible conv => lhs; whnf) (.of rfl) rfl rfl .head ?_)
  refine wpL_nil ?_
  refine wpA_seq ?_
  obtain ⟨q1, h⟩ := h
  refine wpA_region ?_
  refine wL (OpA.load_whole rfl ti36 rfl rfl .head rfl ⟨_, rfl⟩ ?_)
  refine wL (OpA.call rfl rfl rfl en71 (nprint_c (gi c.texts x) q1) ?_)
  rintro _ rfl
  refine wL (OpA.m ?_)
  iterate 2 refine wL (OpA.extract rfl rfl rfl ?_)
  iterate 2 refine wL (OpA.a ?_)
  refine wpL_nil ?_
  obtain ⟨q1, q2, q3, h⟩ := h
  refine wpA_region ?_
  refine wL (OpA.fieldAddr rfl tf36_0 rfl ?_)
  refine wL (OpA.load rfl ti9 rfl .head rfl rfl ?_)
  refine wL (OpA.sadd rfl rfl rfl q1 ?_)
  refine wL (OpA.m ?_)
  refine wL (OpA.sadd rfl rfl rfl q2 ?_)
  refine wL (OpA.callH rfl rfl rfl en69 (h1 := [(c3, .cells 2 [bldD 98 5 c3 u cb4b xs]), (cb4b, .cells 1 (winL (D.k .u8) ([] : List D) xs post4b))]) (h2 := [(c10, .cells 2 [encText (gi c.texts x)]), (c1, .cells 4 [encCorpus c])]) (pull1.trans (.cons _ pull1)) (bldWS_c xs c3 u cb4b post4b ((((gi c.texts x).path) ++ (⟨#[10]⟩ : ByteArray)) ++ ((printT (gi c.texts x)).1)) q3) ?_)
  rintro _ _ ⟨⟨u11, c12, post13⟩, rfl, rfl⟩
  refine wpL_perm (h' := [(c10, .cells 2 [encText (gi c.texts x)]), (c3, .cells 2 [bldD 98 5 c3 u11 c12 ((((((((gi c.texts x).path) ++ (⟨#[10]⟩ : ByteArray)) ++ ((printT (gi c.texts x)).1))).size : Int), xs ++ sbytes ((((gi c.texts x).path) ++ (⟨#[10]⟩ : ByteArray)) ++ ((printT (gi c.texts x)).1))).2)]), (c12, .cells 1 (winL (D.k .u8) ([] : List D) ((((((((gi c.texts x).path) ++ (⟨#[10]⟩ : ByteArray)) ++ ((printT (gi c.texts x)).1))).size : Int), xs ++ sbytes ((((gi c.texts x).path) ++ (⟨#[10]⟩ : ByteArray)) ++ ((printT (gi c.texts x)).1))).2) post13)), (c1, .cells 4 [encCorpus c])]) pull2 ?_
  refine wpL_nil ?_
  obtain ⟨q1, h⟩ := h
  refine wpA_region ?_
  refine wL (OpA.addi rfl rfl rfl q1 ?_)
  refine wL (OpA.m ?_)
  refine wpL_nil ?_
  exact ⟨(u11, c12, post13), (((((((((gi c.texts x).path) ++ (⟨#[10]⟩ : ByteArray)) ++ ((printT (gi c.texts x)).1))).size : Int), xs ++ sbytes ((((gi c.texts x).path) ++ (⟨#[10]⟩ : ByteArray)) ++ ((printT (gi c.texts x)).1))).2), (x + 1)), h, (Cov.asg ⟨rfl, rfl, rfl, rfl, rfl, rfl, trivial⟩), (.cons _ (.refl _))⟩
  have h := h.2 (decF b9)
  refine wpA_exit ?_
  refine wpA_seq ?_
  obtain ⟨q1, q2, h⟩ := h
  refine wpA_region ?_
  refine wL (OpA.callH rfl rfl rfl en73 (h1 := [(c3, .cells 2 [bldD 98 5 c3 u cb4b xs]), (cb4b, .cells 1 (winL (D.k .u8) ([] : List D) xs post4b))]) (h2 := [(c1, .cells 4 [encCorpus c])]) (.refl _) (bldStr_c xs c3 u cb4b post4b q1) ?_)
  rintro _ _ ⟨_, rfl, rfl⟩
  refine wL (OpA.call rfl rfl rfl en72 (sum_c (bstr xs) q2) ?_)
  rintro _ rfl
  iterate 2 refine wL (OpA.a ?_)
  refine wpL_nil ?_
  refine wpA_ret ?_
  exact ⟨_, (.tmp (d := D.s (sumF (bstr xs))) rfl (.tmp (d := D.i 0) rfl .nil)), _, (.tup (.same rfl (.same rfl .nil)) .nil), ⟨((sumF (bstr xs)), 0), rfl, h⟩⟩
theorem cid_c (c : Corpus)  (hp0 : okC c) (hp1 : (checkF c = 0 → (idL c).length ≤ 1000000)) : Fun false Tryz.prog 35 [encCorpus c] (fun d => d = .tup [D.s ((idF c).1), D.i ((idF c).2)]) :=
  Fun.at (enc := fun r => .tup [D.s (r.1), D.i (r.2)]) (v := idF c) (cid_w c  (fun r => r = idF c) (cid_ok c _ hp0 hp1 rfl))

set_option maxHeartbeats 2000000 in
set_option maxRecDepth 10000 in
theorem c26id_w (c : Corpus)  (Q : ByteArray × Int → Prop) (h : c26id_vc c Q) : Fun false Tryz.prog 36 [encCorpus c] (fun d => ∃ r, d = .tup [D.s (r.1), D.i (r.2)] ∧ Q r) := by
  unfold c26id_vc at h
  refine Fun.of_body Tryz.func36 rfl Tryz.ntmps36 rfl ?_
  refine wpA_seq ?_
  refine wpA_region ?_
  refine wL (OpA.bx (sz := 4) rfl (by with_reducible conv => lhs; whnf) (.of rfl) (fun c1 _ => ?_))
  iterate 2 refine wL (OpA.a ?_)
  refine wpL_nil ?_
  iterate 2 refine wpA_seq ?_
  obtain ⟨q1, h⟩ := h
  refine wpA_region ?_
  refine wL (OpA.load_whole rfl ti25 rfl rfl .head rfl ⟨_, rfl⟩ ?_)
  refine wL (OpA.call rfl rfl rfl en14 (c26check_c c q1) ?_)
  rintro _ rfl
  refine wL (OpA.neq rfl rfl rfl ?_)
  refine wpL_nil ?_
  refine wpA_cond rfl (fun b2 => ?_) (fun b2 => ?_)
  have h := h.1 (bneT b2)
  refine wpA_seq ?_
  refine wpA_region ?_
  iterate 2 refine wL (OpA.a ?_)
  refine wpL_nil ?_
  refine wpA_ret ?_
  exact ⟨_, (.tmp (d := D.s (⟨#[]⟩ : ByteArray)) rfl (.tmp (d := D.i 1) rfl .nil)), _, (.tup (.same rfl (.same rfl .nil)) .nil), ⟨((⟨#[]⟩ : ByteArray), 1), rfl, h⟩⟩
  have h := h.2 (bneF b2)
  refine wpA_skip ?_
  refine wpA_seq ?_
  obtain ⟨q1, q2, q3, q4, q5, q6, q7, h⟩ := h
  refine wpA_draw (m := 10) mo (by kernel_rfl) rfl ?_
  refine dL (OpA.fieldAddr rfl tf25_0 rfl ⟨rfl, rfl⟩) ?_
  refine dL (OpA.load rfl ti3 rfl .head rfl rfl ⟨rfl, rfl⟩) ?_
  refine dL (OpA.call rfl rfl rfl en74 (dec_c c.k q1 q2) (by rintro _ rfl; exact ⟨rfl, rfl⟩)) ?_
  refine dL (OpA.sadd rfl rfl rfl q3 ⟨rfl, rfl⟩) ?_
  refine dL (OpA.fieldAddr rfl tf25_1 rfl ⟨rfl, rfl⟩) ?_
  refine dL (OpA.load rfl ti3 rfl .head rfl rfl ⟨rfl, rfl⟩) ?_
  refine dL (OpA.call rfl rfl rfl en74 (dec_c c.w q4 q5) (by rintro _ rfl; exact ⟨rfl, rfl⟩)) ?_
  refine dL (OpA.sadd rfl rfl rfl q6 ⟨rfl, rfl⟩) ?_
  refine dL (OpA.sadd rfl rfl rfl q7 ⟨rfl, rfl⟩) ?_
  refine dL (OpA.a ⟨rfl, rfl⟩) ?_
  refine DetK.nil ?_
  refine wpL_nil ?_
  iterate 2 refine wpA_seq ?_
  refine wpA_region ?_
  refine wL (OpA.a ?_)
  refine wpL_nil ?_
  refine wpA_block ?_
  refine wpA_lfp (S := ByteArray × Int) (G := Unit) () (fun gg ss => asg [(1, .ptr c1 4 0 0), (2, D.s (⟨#[]⟩ : ByteArray)), (3, D.i 0), (4, D.s ss.1), (5, D.i ss.2)]) (fun gg ss => [(c1, .cells 4 [encCorpus c])]) h (Cov.asg ⟨rfl, rfl, rfl, rfl, rfl, trivial⟩) (.refl _) ?_
  rintro again3 _ ⟨s_, i⟩ h
  have h : c26id_L1 c Q again3 s_ i := h
  unfold c26id_L1 at h
  show wpA _ _ _ _ (asg [(1, .ptr c1 4 0 0), (2, D.s (⟨#[]⟩ : ByteArray)), (3, D.i 0), (4, D.s s_), (5, D.i i)]) [(c1, .cells 4 [encCorpus c])]
  iterate 2 refine wpA_seq ?_
  refine wpA_region ?_
  refine wL (OpA.m ?_)
  refine wL (OpA.fieldAddr rfl tf25_2 rfl ?_)
  refine wL (OpA.load rfl ti22 rfl .head rfl rfl ?_)
  refine wL (OpA.len rfl rfl rfl rfl ts22.desc (.inl ⟨_, _, rfl, (List.length_map _).symm⟩) ?_)
  refine wL (OpA.lss rfl rfl rfl ?_)
  refine wpL_nil ?_
  refine wpA_cond rfl (fun b4 => ?_) (fun b4 => ?_)
  have h := h.1 (decT b4)
  refine wpA_skip ?_
  refine wpA_seq ?_
  refine wpA_block ?_
  refine wpA_seq ?_
  obtain ⟨q1, q2, h⟩ := h
  refine wpA_region ?_
  refine wL (OpA.fieldAddr rfl tf25_2 rfl ?_)
  refine wL (OpA.load rfl ti22 rfl .head rfl rfl ?_)
  refine wL (OpA.m ?_)
  refine wL (OpA.iixV (enc := encText) rfl ts22 rfl rfl rfl q1 ?_)
  refine wL (OpA.iload_whole rfl ti36 rfl ⟨_, rfl, rfl⟩ ?_)
  refine wL (OpA.call rfl rfl rfl en75 (n23print_c (gi c.texts i) q2) ?_)
  rintro _ rfl
  refine wL (OpA.m ?_)
  iterate 2 refine wL (OpA.extract rfl rfl rfl ?_)
  iterate 2 refine wL (OpA.a ?_)
  refine wpL_nil ?_
  obtain ⟨q1, q2, q3, q4, h⟩ := h
  refine wpA_region ?_
  refine wL (OpA.m ?_)
  refine wL (OpA.fieldAddr rfl tf25_2 rfl ?_)
  refine wL (OpA.load rfl ti22 rfl .head rfl rfl ?_)
  refine wL (OpA.m ?_)
  refine wL (OpA.iixV (enc := encText) rfl ts22 rfl rfl rfl q1 ?_)
  refine wL (OpA.ifieldAddr rfl tf36_0 rfl ?_)
  refine wL (OpA.iload rfl ti9 rfl rfl ?_)
  refine wL (OpA.sadd rfl rfl rfl q2 ?_)
  refine wL (OpA.sadd rfl rfl rfl q3 ?_)
  refine wL (OpA.m ?_)
  refine wL (OpA.sadd rfl rfl rfl q4 ?_)
  refine wL (OpA.a ?_)
  refine wpL_nil ?_
  obtain ⟨q1, h⟩ := h
  refine wpA_region ?_
  refine wL (OpA.m ?_)
  refine wL (OpA.addi rfl rfl rfl q1 ?_)
  refine wL (OpA.a ?_)
  refine wpL_nil ?_
  exact ⟨(), ((((s_ ++ ((gi c.texts i).path)) ++ (⟨#[10]⟩ : ByteArray)) ++ ((printT (gi c.texts i)).1)), (i + 1)), h, (Cov.asg ⟨rfl, rfl, rfl, rfl, rfl, trivial⟩), (.refl _)⟩
  have h := h.2 (decF b4)
  refine wpA_exit ?_
  refine wpA_seq ?_
  obtain ⟨q1, h⟩ := h
  refine wpA_region ?_
  refine wL (OpA.m ?_)
  refine wL (OpA.call rfl rfl rfl en76 (rsum_c s_ q1) ?_)
  rintro _ rfl
  iterate 2 refine wL (OpA.a ?_)
  refine wpL_nil ?_
  refine wpA_ret ?_
  exact ⟨_, (.tmp (d := D.s (sumF s_)) rfl (.tmp (d := D.i 0) rfl .nil)), _, (.tup (.same rfl (.same rfl .nil)) .nil), ⟨((sumF s_), 0), rfl, h⟩⟩
theorem c26id_c (c : Corpus)  (hp0 : okC c) (hp1 : (checkF c = 0 → (idL c).length ≤ 1000000)) : Fun false Tryz.prog 36 [encCorpus c] (fun d => d = .tup [D.s ((idF c).1), D.i ((idF c).2)]) :=
  Fun.at (enc := fun r => .tup [D.s (r.1), D.i (r.2)]) (v := idF c) (c26id_w c  (fun r => r = idF c) (c26id_ok c _ hp0 hp1 rfl))

set_option maxHeartbeats 2000000 in
set_option maxRecDepth 10000 in
theorem lawIDs_w (c : Corpus)  (Q : Bool → Prop) (h : lawIDs_vc c Q) : Fun false Tryz.prog 7 [encCorpus c] (fun d => ∃ r, d = D.b r ∧ Q r) := by
  unfold lawIDs_vc at h
  refine Fun.of_body Tryz.func7 rfl Tryz.ntmps7 rfl ?_
  refine wpA_seq ?_
  refine wpA_region ?_
  refine wL (OpA.bx (sz := 4) rfl (by with_reducible conv => lhs; whnf) (.of rfl) (fun c1 _ => ?_))
  refine wL (OpA.a ?_)
  refine wpL_nil ?_
  iterate 2 refine wpA_seq ?_
  refine wpA_region ?_
  refine wL (OpA.call rfl rfl rfl en9 (awake_c  ) ?_)
  rintro _ rfl
  refine wL (OpA.not rfl rfl ?_)
  refine wpL_nil ?_
  refine wpA_cond rfl (fun b2 => ?_) (fun b2 => ?_)
  have h := h.1 (notT b2)
  refine wpA_seq ?_
  refine wpA_region ?_
  refine wL (OpA.a ?_)
  refine wpL_nil ?_
  refine wpA_ret ?_
  exact ⟨_, (.tmp (d := D.b false) rfl .nil), _, (.same rfl .nil), ⟨false, rfl, h⟩⟩
  have h := h.2 (notF b2)
  refine wpA_skip ?_
  iterate 2 refine wpA_seq ?_
  refine wpA_region ?_
  refine wL (OpA.load_whole rfl ti25 rfl rfl .head rfl ⟨_, rfl⟩ ?_)
  refine wL (OpA.call rfl rfl rfl en10 (c26few_c c ) ?_)
  rintro _ rfl
  refine wL (OpA.not rfl rfl ?_)
  refine wpL_nil ?_
  refine wpA_cond rfl (fun b3 => ?_) (fun b3 => ?_)
  have h := h.1 (notT b3)
  refine wpA_seq ?_
  refine wpA_region ?_
  refine wL (OpA.a ?_)
  refine wpL_nil ?_
  refine wpA_ret ?_
  exact ⟨_, (.tmp (d := D.b true) rfl .nil), _, (.same rfl .nil), ⟨true, rfl, h⟩⟩
  have h := h.2 (notF b3)
  refine wpA_skip ?_
  refine wpA_seq ?_
  obtain ⟨q1, q2, h⟩ := h
  refine wpA_region ?_
  refine wL (OpA.load_whole rfl ti25 rfl rfl .head rfl ⟨_, rfl⟩ ?_)
  refine wL (OpA.call rfl rfl rfl en35 (cid_c c q1 q2) ?_)
  rintro _ rfl
  refine wL (OpA.m ?_)
  iterate 2 refine wL (OpA.extract rfl rfl rfl ?_)
  iterate 2 refine wL (OpA.a ?_)
  refine wpL_nil ?_
  refine wpA_seq ?_
  obtain ⟨q1, q2, h⟩ := h
  refine wpA_region ?_
  refine wL (OpA.load_whole rfl ti25 rfl rfl .head rfl ⟨_, rfl⟩ ?_)
  refine wL (OpA.call rfl rfl rfl en36 (c26id_c c q1 q2) ?_)
  rintro _ rfl
  refine wL (OpA.m ?_)
  iterate 2 refine wL (OpA.extract rfl rfl rfl ?_)
  iterate 2 refine wL (OpA.a ?_)
  refine wpL_nil ?_
  refine wpA_seq ?_
  refine wpA_mid (asg [(2, D.b ((decide ((idF c).1 = (idF c).1)) && (((idF c).2) == ((idF c).2))))]) [(c1, .cells 4 [encCorpus c])] ?_ ?_
  refine wpA_region ?_
  iterate 2 refine wL (OpA.m ?_)
  refine wL (OpA.seql rfl rfl rfl ?_)
  refine wL (OpA.m ?_)
  refine wpL_split (s := 25) rfl (fun b4 => ?_) (fun b4 => ?_)
  iterate 2 refine wG (OpA.m ?_)
  refine wG (OpA.eql rfl rfl rfl ?_)
  refine wL (OpA.p ?_)
  refine wL (OpA.a ?_)
  refine wpL_nil ?_
  exact ⟨(Cov.asg ⟨(congrArg D.b (Eq.symm (andN b4 rfl))), trivial⟩), (.refl _)⟩
  iterate 3 refine wS ?_
  refine wL (OpA.p ?_)
  refine wL (OpA.a ?_)
  refine wpL_nil ?_
  exact ⟨(Cov.asg ⟨(congrArg D.b (Eq.symm (andS b4))), trivial⟩), (.refl _)⟩
  show wpA _ _ _ _ (asg [(2, D.b ((decide ((idF c).1 = (idF c).1)) && (((idF c).2) == ((idF c).2))))]) [(c1, .cells 4 [encCorpus c])]
  refine wpA_ret ?_
  exact ⟨_, (.tmp (d := D.b ((decide ((idF c).1 = (idF c).1)) && (((idF c).2) == ((idF c).2)))) rfl .nil), _, (.same rfl .nil), ⟨((decide ((idF c).1 = (idF c).1)) && (((idF c).2) == ((idF c).2))), rfl, h⟩⟩
theorem lawIDs_c (c : Corpus)   : Fun false Tryz.prog 7 [encCorpus c] (fun d => d = D.b (true)) :=
  Fun.at (enc := fun r => D.b r) (v := true) (lawIDs_w c  (fun r => r = true) (lawIDs_ok c _  rfl))
end Go.Proofs.YtkoomieafmjjfaaGreatDoor
