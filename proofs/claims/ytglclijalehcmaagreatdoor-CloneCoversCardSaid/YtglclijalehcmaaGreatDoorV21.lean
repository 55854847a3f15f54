/-
  walks and contracts
-/
import Derived.Test.YtglclijalehcmaaGreatDoorV9
import Derived.Test.YtglclijalehcmaaGreatDoorKo8
set_option linter.all false
namespace Go.Proofs.YtglclijalehcmaaGreatDoor
open Go Go.Lic Go.Sort Go.Proofs
attribute [local irreducible] addF addP againstC badR beforeF behindF blankF checkC checkF checkF29 cloneCmp clonesF cmpB cmpI codeF commonF4 countF countL coveredF famF fewC fewTs fewW findC findT gramsF growTF guarF has1F hasF hashF indexF insideF insideT leastF lenC lenF linesF listF lookF mergeF mul64F mulP nameR nearC nearF newF ofF orF packF pairF partF pathB pathF postCmp postLt postsF powF printsF pushF rightL rollF sameW selectF sizeF spanCmp spanR splitF splitG textF validF validT
set_option maxHeartbeats 2000000 in
set_option maxRecDepth 10000 in
theorem kcov1_w (from_ : Int) (n : Int) (t : Text) (lines : (List Line)) (c_lines d_lines : Nat) (pre_lines post_lines : List D) (Q : (List Line) → Prop) (h : kcov1_vc from_ n t lines Q) : CallH Tryz.prog 59 [D.i from_, D.i n, .iptr (encText t) 0, .ptr c_lines 1 0 0] [(c_lines, .cells 1 [.own d_lines 2 pre_lines.length lines.length]), (d_lines, .cells 2 (winL encLine pre_lines lines post_lines))] (fun d h' => ∃ (r : (List Line)) (g : Nat × List D × List D), d = .tup [] ∧ h' = [(c_lines, .cells 1 [.own g.1 2 g.2.1.length r.length]), (g.1, .cells 2 (winL encLine g.2.1 r g.2.2))] ∧ Q r) := by
 unfold kcov1_vc at h
 refine CallH.of_bodyP Tryz.func59 rfl Tryz.ntmps59 rfl ?_
 refine wpA_seq ?_
 obtain ⟨q1, q2, h⟩ := h
 refine wpA_region ?_
 refine wL (OpA.ifieldAddr rfl tf28_1 rfl ?_)
 refine wL (OpA.iload rfl ti26 rfl rfl ?_)
 iterate 3 refine wL (OpA.m ?_)
 refine wL (OpA.addi rfl rfl rfl q1 ?_)
 refine wL (OpA.isliceV (enc := encLex) rfl ts26 rfl (.some rfl) (.some rfl) q2 ?_)
 refine wL (OpA.len rfl rfl rfl rfl ts26.desc (.inl ⟨_, _, rfl, (List.length_map _).symm⟩) ?_)
 refine wL (OpA.m ?_)
 refine wpL_nil ?_
 refine wpA_block ?_
 refine wpA_lfp (S := (List Line) × Int) (G := Nat × List D × List D) (d_lines, pre_lines, post_lines) (fun gg ss => asg [(2, .iptr (encText t) 0), (3, .ptr c_lines 1 0 0), (14, (encL 2 encLex) (lsub t.words from_ (from_ + n))), (15, D.i ((lsub t.words from_ (from_ + n)).length : Int)), (16, D.i ss.2)]) (fun gg ss => [(c_lines, .cells 1 [.own gg.1 2 gg.2.1.length ss.1.length]), (gg.1, .cells 2 (winL encLine gg.2.1 ss.1 gg.2.2))]) h (Cov.asg ⟨rfl, rfl, rfl, rfl, rfl, trivial⟩) (.refl _) ?_
 rintro again1 ⟨cbp3s, prep3s, postp3s⟩ ⟨xs, x⟩ h
 have h : kcov1_L1 from_ n t Q again1 xs x := h
 unfold kcov1_L1 at h
 show wpA _ _ _ _ (asg [(2, .iptr (encText t) 0), (3, .ptr c_lines 1 0 0), (14, (encL 2 encLex) (lsub t.words from_ (from_ + n))), (15, D.i ((lsub t.words from_ (from_ + n)).length : Int)), (16, D.i x)]) [(c_lines, .cells 1 [.own cbp3s 2 prep3s.length xs.length]), (cbp3s, .cells 2 (winL encLine prep3s xs postp3s))]
 refine wpA_seq ?_
 refine wpA_region ?_
 refine wL (OpA.lss rfl rfl rfl ?_)
 refine wpL_nil ?_
 refine wpA_seq ?_
 refine wpA_cond rfl (fun b2 => ?_) (fun b2 => ?_)
 have h := h.1 (decT b2)
 refine wpA_skip ?_
 refine wpA_seq ?_
 refine wpA_block ?_
 refine wpA_seq ?_
 obtain ⟨q1, h⟩ := h
 refine wpA_region ?_
 refine wL (OpA.iixV (enc := encLex) rfl ts26 rfl rfl rfl q1 ?_)
 refine wL (OpA.iload_whole rfl ti61 rfl ⟨_, rfl, rfl⟩ ?_)
 refine wL (OpA.alloc (sz := 2) (d := encLex (Lexeme.mk ByteArray.empty 0)) rfl tz61 (fun _ _ => .agg (.cons (.v _) (.cons (.v _) .nil))) (.of rfl) (fun c3 _ => ?_))
 refine wE (OpA.storeW rfl ti61 rfl (by with_reducible conv => lhs; whnf) (.of rfl) rfl rfl .head ?_)
 refine wpL_nil ?_
 obtain ⟨q1, h⟩ := h
 refine wpA_region ?_
 refine wL (OpA.load rfl ti91 rfl (.tail .head) rfl rfl ?_)
 refine wL (OpA.ifieldAddr rfl tf28_0 rfl ?_)
 refine wL (OpA.iload rfl ti9 rfl rfl ?_)
 refine wL (OpA.fieldAddr rfl tf61_1 rfl ?_)
 refine wL (OpA.load rfl ti3 rfl .head rfl rfl ?_)
 refine wL (OpA.buildO (zs := [.v (.string ⟨#[]⟩), .v (.int .i64 0)]) rfl tp65 tz65 (fun _ _ => (.cons (.v _) (.cons (.v _) .nil))) (.cons (.of (sz := 1) rfl) (.cons (.of (sz := 1) rfl) .nil)) rfl ?_)
 refine wL (OpA.ibuildSliceO rfl ts91 rfl (.cons (.of (sz := 2) rfl) .nil) (by decide) ?_)
 refine wL (OpA.appendW (enc := encLine) rfl rfl rfl rfl ts91 rfl (fun _ _ => (.tail (.tail .head))) (.list (ys := ([(Line.mk t.path ((gi (lsub t.words from_ (from_ + n)) x).line))] : List Line))) q1 (fun c4 pre5 => ?_))
 refine wE (OpA.storeW rfl ti91 rfl (by with_reducible conv => lhs; whnf) (.of rfl) rfl rfl (.tail .head) ?_)
 refine wpL_nil ?_
 obtain ⟨q1, h⟩ := h
 refine wpA_region ?_
 refine wL (OpA.addi rfl rfl rfl q1 ?_)
 refine wL (OpA.m ?_)
 refine wpL_nil ?_
 exact ⟨(c4, pre5, ([] : List D)), ((xs ++ ([(Line.mk t.path ((gi (lsub t.words from_ (from_ + n)) x).line))] : List Line)), (x + 1)), h, (Cov.asg ⟨rfl, rfl, rfl, rfl, rfl, trivial⟩), (.cons _ (.refl _))⟩
 have h := h.2 (decF b2)
 refine wpA_exit ?_
 exact ⟨_, .nil, [(c_lines, .cells 1 [.own cbp3s 2 prep3s.length xs.length]), (cbp3s, .cells 2 (winL encLine prep3s xs postp3s))], [(c_lines, .cells 1 [.own cbp3s 2 prep3s.length xs.length]), (cbp3s, .cells 2 (winL encLine prep3s xs postp3s))], (.refl _), (.refl _), xs, (cbp3s, prep3s, postp3s), rfl, rfl, h⟩
theorem kcov1_c (from_ : Int) (n : Int) (t : Text) (lines : (List Line)) (c_lines d_lines : Nat) (pre_lines post_lines : List D) (hp0 : inI (from_ + n)) (hp1 : inS from_ (from_ + n) t.words.length) (hp2 : lines.length + t.words.length ≤ 1000000000) : CallH Tryz.prog 59 [D.i from_, D.i n, .iptr (encText t) 0, .ptr c_lines 1 0 0] [(c_lines, .cells 1 [.own d_lines 2 pre_lines.length lines.length]), (d_lines, .cells 2 (winL encLine pre_lines lines post_lines))] (fun d h' => ∃ (g : Nat × List D × List D), d = .tup [] ∧ h' = [(c_lines, .cells 1 [.own g.1 2 g.2.1.length (lines ++ linesW t (lsub t.words from_ (from_ + n))).length]), (g.1, .cells 2 (winL encLine g.2.1 (lines ++ linesW t (lsub t.words from_ (from_ + n))) g.2.2))]) :=
 (kcov1_w from_ n t lines c_lines d_lines pre_lines post_lines  (fun r => r = (lines ++ linesW t (lsub t.words from_ (from_ + n)))) (kcov1_ok from_ n t lines _ hp0 hp1 hp2 rfl)).mono (by rintro d h' ⟨r, g, hd, hh, rfl⟩; exact ⟨g, hd, hh⟩)
set_option maxHeartbeats 2000000 in
set_option maxRecDepth 10000 in
theorem kcovered_w (l : (List Text)) (x : (List Clone)) (text : Int) (Q : (List Span) × Int → Prop) (h : kcovered_vc l x text Q) : Fun false Tryz.prog 22 [(encL 2 encText) l, (encL 5 encClone) x, D.i text] (fun d => ∃ r, d = .tup [(encL 3 encSpan) (r.1), D.i (r.2)] ∧ Q r) := by
 unfold kcovered_vc at h
 refine Fun.of_body Tryz.func22 rfl Tryz.ntmps22 rfl ?_
 refine wpA_seq ?_
 refine wpA_region ?_
 refine wL (OpA.asnN (T := Span) (enc := encSpan) (sz := 3) rfl rfl ?_)
 refine wL (OpA.a ?_)
 refine wpL_nil ?_
 iterate 2 refine wpA_seq ?_
 obtain ⟨q1, h⟩ := h
 refine wpA_region ?_
 refine wL (OpA.m ?_)
 refine wL (OpA.call rfl rfl rfl en53 (kright_c l q1) ?_)
 rintro _ rfl
 refine wL (OpA.not rfl rfl ?_)
 refine wpL_nil ?_
 refine wpA_cond rfl (fun b1 => ?_) (fun b1 => ?_)
 have h := h.1 (notT b1)
 refine wpA_seq ?_
 refine wpA_region ?_
 refine wL (OpA.asnN (T := Span) (enc := encSpan) (sz := 3) rfl rfl ?_)
 refine wL (OpA.a ?_)
 refine wpL_nil ?_
 refine wpA_ret ?_
 exact ⟨_, (.tmp (d := (encL 3 encSpan) ([] : List Span)) rfl (.tmp (d := D.i 1) rfl .nil)), _, (.tup (.same rfl (.same rfl .nil)) .nil), ⟨(([] : List Span), 1), rfl, h⟩⟩
 have h := h.2 (notF b1)
 refine wpA_skip ?_
 iterate 2 refine wpA_seq ?_
 refine wpA_mid (asg [(0, (encL 2 encText) l), (1, (encL 5 encClone) x), (2, D.i text), (6, (encL 3 encSpan) ([] : List Span)), (7, D.i 0), (26, D.b ((decide (text < 0)) || (decide (text ≥ (l.length : Int)))))]) [] ?_ ?_
 refine wpA_region ?_
 refine wL (OpA.m ?_)
 refine wL (OpA.lss rfl rfl rfl ?_)
 refine wL (OpA.m ?_)
 refine wpL_split (s := 21) rfl (fun b21 => ?_) (fun b21 => ?_)
 iterate 4 refine wS ?_
 refine wL (OpA.p ?_)
 refine wpL_nil ?_
 exact ⟨(Cov.asg ⟨rfl, rfl, rfl, rfl, rfl, (congrArg D.b (Eq.symm (orS b21))), trivial⟩), (.refl _)⟩
 iterate 2 refine wG (OpA.m ?_)
 refine wG (OpA.len rfl rfl rfl rfl ts22.desc (.inl ⟨_, _, rfl, (List.length_map _).symm⟩) ?_)
 refine wG (OpA.geq rfl rfl rfl ?_)
 refine wL (OpA.p ?_)
 refine wpL_nil ?_
 exact ⟨(Cov.asg ⟨rfl, rfl, rfl, rfl, rfl, (congrArg D.b (Eq.symm (orN b21 rfl))), trivial⟩), (.refl _)⟩
 show wpA _ _ _ _ (asg [(0, (encL 2 encText) l), (1, (encL 5 encClone) x), (2, D.i text), (6, (encL 3 encSpan) ([] : List Span)), (7, D.i 0), (26, D.b ((decide (text < 0)) || (decide (text ≥ (l.length : Int)))))]) []
 refine wpA_cond rfl (fun b2 => ?_) (fun b2 => ?_)
 have h := h.1 ((or0 b2).imp (fun hh => (decT hh)) (fun hh => (decT hh)))
 refine wpA_seq ?_
 refine wpA_region ?_
 refine wL (OpA.asnN (T := Span) (enc := encSpan) (sz := 3) rfl rfl ?_)
 refine wL (OpA.a ?_)
 refine wpL_nil ?_
 refine wpA_ret ?_
 exact ⟨_, (.tmp (d := (encL 3 encSpan) ([] : List Span)) rfl (.tmp (d := D.i 3) rfl .nil)), _, (.tup (.same rfl (.same rfl .nil)) .nil), ⟨(([] : List Span), 3), rfl, h⟩⟩
 have h := h.2 ⟨(decF (or1 b2)), (decF (or2 b2))⟩
 refine wpA_skip ?_
 iterate 2 refine wpA_seq ?_
 refine wpA_region ?_
 refine wL (OpA.m ?_)
 refine wL (OpA.len rfl rfl rfl rfl ts32.desc (.inl ⟨_, _, rfl, (List.length_map _).symm⟩) ?_)
 refine wL (OpA.m ?_)
 refine wpL_nil ?_
 refine wpA_block ?_
 refine wpA_lfp (S := Int) (G := Unit) () (fun gg ss => asg [(0, (encL 2 encText) l), (1, (encL 5 encClone) x), (2, D.i text), (6, (encL 3 encSpan) ([] : List Span)), (7, D.i 0), (27, (encL 5 encClone) x), (28, D.i (x.length : Int)), (29, D.i ss)]) (fun gg ss => []) h (Cov.asg ⟨rfl, rfl, rfl, rfl, rfl, rfl, rfl, rfl, trivial⟩) (.refl _) ?_
 rintro again3 _ x1 h
 have h : kcovered_L1 l x text Q again3 x1 := h
 unfold kcovered_L1 at h
 show wpA _ _ _ _ (asg [(0, (encL 2 encText) l), (1, (encL 5 encClone) x), (2, D.i text), (6, (encL 3 encSpan) ([] : List Span)), (7, D.i 0), (27, (encL 5 encClone) x), (28, D.i (x.length : Int)), (29, D.i x1)]) []
 refine wpA_seq ?_
 refine wpA_region ?_
 refine wL (OpA.lss rfl rfl rfl ?_)
 refine wpL_nil ?_
 refine wpA_seq ?_
 refine wpA_cond rfl (fun b4 => ?_) (fun b4 => ?_)
 have h := h.1 (decT b4)
 refine wpA_skip ?_
 refine wpA_seq ?_
 refine wpA_block ?_
 refine wpA_seq ?_
 obtain ⟨q1, h⟩ := h
 refine wpA_region ?_
 refine wL (OpA.iixV (enc := encClone) rfl ts32 rfl rfl rfl q1 ?_)
 refine wL (OpA.iload_whole rfl ti38 rfl ⟨_, rfl, rfl⟩ ?_)
 refine wL (OpA.alloc (sz := 5) (d := encClone (Clone.mk 0 0 0 0 0)) rfl tz38 (fun _ _ => .agg (.cons (.v _) (.cons (.v _) (.cons (.v _) (.cons (.v _) (.cons (.v _) .nil)))))) (.of rfl) (fun c5 _ => ?_))
 refine wE (OpA.storeW rfl ti38 rfl (by with_reducible conv => lhs; whnf) (.of rfl) rfl rfl .head ?_)
 refine wpL_nil ?_
 refine wpA_seq ?_
 obtain ⟨q1, h⟩ := h
 refine wpA_region ?_
 refine wL (OpA.m ?_)
 refine wL (OpA.load_whole rfl ti38 rfl rfl .head rfl ⟨_, rfl⟩ ?_)
 refine wL (OpA.call rfl rfl rfl en56 (kcheckL_c l (gi x x1) 1 q1) ?_)
 rintro _ rfl
 refine wL (OpA.a ?_)
 refine wpL_nil ?_
 refine wpA_seq ?_
 refine wpA_region ?_
 refine wL (OpA.m ?_)
 refine wL (OpA.neq rfl rfl rfl ?_)
 refine wpL_nil ?_
 refine wpA_cond rfl (fun b6 => ?_) (fun b6 => ?_)
 have h := h.1 (bneT b6)
 refine wpA_seq ?_
 refine wpA_region ?_
 refine wL (OpA.m ?_)
 refine wL (OpA.asnN (T := Span) (enc := encSpan) (sz := 3) rfl rfl ?_)
 refine wL (OpA.a ?_)
 refine wpL_nil ?_
 refine wpA_ret ?_
 exact ⟨_, (.tmp (d := (encL 3 encSpan) ([] : List Span)) rfl (.tmp (d := D.i (checkC l (gi x x1) 1)) rfl .nil)), _, (.tup (.same rfl (.same rfl .nil)) .nil), ⟨(([] : List Span), (checkC l (gi x x1) 1)), rfl, h⟩⟩
 have h := h.2 (bneF b6)
 refine wpA_skip ?_
 obtain ⟨q1, h⟩ := h
 refine wpA_region ?_
 refine wL (OpA.addi rfl rfl rfl q1 ?_)
 refine wL (OpA.m ?_)
 refine wpL_nil ?_
 exact ⟨(), (x1 + 1), h, (Cov.asg ⟨rfl, rfl, rfl, rfl, rfl, rfl, rfl, rfl, trivial⟩), (.cons _ (.refl _))⟩
 have h := h.2 (decF b4)
 refine wpA_exit ?_
 refine wpA_seq ?_
 obtain ⟨q1, h⟩ := h
 refine wpA_region ?_
 iterate 2 refine wL (OpA.m ?_)
 refine wL (OpA.iixV (enc := encText) rfl ts22 rfl rfl rfl q1 ?_)
 refine wL (OpA.iload_whole rfl ti28 rfl ⟨_, rfl, rfl⟩ ?_)
 refine wL (OpA.alloc (sz := 2) (d := .agg ([D.s ByteArray.empty, .v (.slice none 0 0)])) rfl tz28 (fun _ _ => .agg (.cons (.v _) (.cons (.v _) .nil))) (.of rfl) (fun c7 _ => ?_))
 refine wE (OpA.storeW rfl ti28 rfl (by with_reducible conv => lhs; whnf) (.of rfl) rfl rfl .head ?_)
 refine wpL_nil ?_
 refine wpA_seq ?_
 refine wpA_freeze (s := 11) (d := .ptr c7 2 0 0) (d' := .iptr (encText (gi l text)) 0) (.refl _) rfl (.ptrp rfl .head rfl .nil) ?_
 refine wpA_region ?_
 refine wL (OpA.alloc (sz := 1) (d := .v (.slice none 0 0)) rfl tz91 (fun _ _ => .v _) (.of rfl) (fun c8 _ => ?_))
 refine wpL_nil ?_
 refine wpA_seq ?_
 refine wpA_region ?_
 refine wL (OpA.makeFunc rfl ?_)
 refine wL (OpA.a ?_)
 refine wpL_nil ?_
 iterate 2 refine wpA_seq ?_
 refine wpA_region ?_
 refine wL (OpA.m ?_)
 refine wL (OpA.len rfl rfl rfl rfl ts32.desc (.inl ⟨_, _, rfl, (List.length_map _).symm⟩) ?_)
 refine wL (OpA.m ?_)
 refine wpL_nil ?_
 refine wpA_block ?_
 refine wpA_ghostM (c := c8) (sz1 := 1) (sz := 2) (es' := fun g9 => [.own g9 2 ([] : List D).length ([] : List Line).length]) (fun _ => .head) (fun _ => (.turn .nil)) (fun _ => rfl) (fun _ => by rintro d (_ | ⟨_, hd⟩); exact .of rfl; cases hd) (fun g9 => ?_)
 refine wpA_lfp (S := (List Line) × Int) (G := Nat × List D × List D) (g9, ([] : List D), ([] : List D)) (fun gg ss => asg [(2, D.i text), (6, (encL 3 encSpan) ([] : List Span)), (7, D.i 0), (12, .ptr c8 1 0 0), (13, .fn (.func 59) [] [.iptr (encText (gi l text)) 0, .ptr c8 1 0 0]), (45, (encL 5 encClone) x), (46, D.i (x.length : Int)), (47, D.i ss.2)]) (fun gg ss => [(gg.1, .cells 2 (winL encLine gg.2.1 ss.1 gg.2.2)), (c8, .cells 1 [.own gg.1 2 gg.2.1.length ss.1.length])]) h (Cov.asg ⟨rfl, rfl, rfl, rfl, rfl, rfl, rfl, rfl, trivial⟩) (.refl _) ?_
 rintro again10 ⟨cbgh12, pregh12, postgh12⟩ ⟨xs, x2⟩ h
 have h : kcovered_L2 l x text Q again10 xs x2 := h
 unfold kcovered_L2 at h
 show wpA _ _ _ _ (asg [(2, D.i text), (6, (encL 3 encSpan) ([] : List Span)), (7, D.i 0), (12, .ptr c8 1 0 0), (13, .fn (.func 59) [] [.iptr (encText (gi l text)) 0, .ptr c8 1 0 0]), (45, (encL 5 encClone) x), (46, D.i (x.length : Int)), (47, D.i x2)]) [(cbgh12, .cells 2 (winL encLine pregh12 xs postgh12)), (c8, .cells 1 [.own cbgh12 2 pregh12.length xs.length])]
 refine wpA_seq ?_
 refine wpA_region ?_
 refine wL (OpA.lss rfl rfl rfl ?_)
 refine wpL_nil ?_
 refine wpA_seq ?_
 refine wpA_cond rfl (fun b11 => ?_) (fun b11 => ?_)
 have h := h.1 (decT b11)
 refine wpA_skip ?_
 refine wpA_seq ?_
 refine wpA_block ?_
 refine wpA_seq ?_
 obtain ⟨q1, h⟩ := h
 refine wpA_region ?_
 refine wL (OpA.iixV (enc := encClone) rfl ts32 rfl rfl rfl q1 ?_)
 refine wL (OpA.iload_whole rfl ti38 rfl ⟨_, rfl, rfl⟩ ?_)
 refine wL (OpA.alloc (sz := 5) (d := encClone (Clone.mk 0 0 0 0 0)) rfl tz38 (fun _ _ => .agg (.cons (.v _) (.cons (.v _) (.cons (.v _) (.cons (.v _) (.cons (.v _) .nil)))))) (.of rfl) (fun c12 _ => ?_))
 refine wE (OpA.storeW rfl ti38 rfl (by with_reducible conv => lhs; whnf) (.of rfl) rfl rfl .head ?_)
 refine wpL_nil ?_
 iterate 2 refine wpA_seq ?_
 refine wpA_region ?_
 refine wL (OpA.fieldAddr rfl tf38_0 rfl ?_)
 refine wL (OpA.load rfl ti3 rfl .head rfl rfl ?_)
 refine wL (OpA.m ?_)
 refine wL (OpA.eql rfl rfl rfl ?_)
 refine wpL_nil ?_
 refine wpA_join (S := (List Line)) (G := Nat × List D × List D) (fun gg ss => asg [(2, D.i text), (6, (encL 3 encSpan) ([] : List Span)), (7, D.i 0), (12, .ptr c8 1 0 0), (13, .fn (.func 59) [] [.iptr (encText (gi l text)) 0, .ptr c8 1 0 0]), (15, .ptr c12 5 0 0), (45, (encL 5 encClone) x), (46, D.i (x.length : Int)), (47, D.i x2)]) (fun gg ss => [(c12, .cells 5 [encClone (gi x x2)]), (gg.1, .cells 2 (winL encLine gg.2.1 ss gg.2.2)), (c8, .cells 1 [.own gg.1 2 gg.2.1.length ss.length])]) (fun ss => kcovered_J1 l x text x2 again10 ss) ?_ ?_
 refine wpA_cond rfl (fun b17 => ?_) (fun b17 => ?_)
 have h := h.1 (beqT b17)
 obtain ⟨q1, q2, q3, h⟩ := h
 refine wpA_region ?_
 refine wL (OpA.m ?_)
 refine wL (OpA.fieldAddr rfl tf38_1 rfl ?_)
 refine wL (OpA.load rfl ti3 rfl .head rfl rfl ?_)
 refine wL (OpA.fieldAddr rfl tf38_4 rfl ?_)
 refine wL (OpA.load rfl ti3 rfl .head rfl rfl ?_)
 refine wL (OpA.callH rfl rfl rfl en59 (h1 := [(c8, .cells 1 [.own cbgh12 2 pregh12.length xs.length]), (cbgh12, .cells 2 (winL encLine pregh12 xs postgh12))]) (h2 := [(c12, .cells 5 [encClone (gi x x2)])]) (pull2.trans (.cons _ pull1)) (kcov1_c ((gi x x2).atA) ((gi x x2).len) (gi l text) xs c8 cbgh12 pregh12 postgh12 q1 q2 q3) ?_)
 rintro _ _ ⟨⟨c18, pre19, post20⟩, rfl, rfl⟩
 refine wpL_perm (h' := [(c12, .cells 5 [encClone (gi x x2)]), (c18, .cells 2 (winL encLine pre19 (xs ++ linesW (gi l text) (lsub (gi l text).words ((gi x x2).atA) (((gi x x2).atA) + ((gi x x2).len)))) post20)), (c8, .cells 1 [.own c18 2 pre19.length (xs ++ linesW (gi l text) (lsub (gi l text).words ((gi x x2).atA) (((gi x x2).atA) + ((gi x x2).len)))).length])]) (pull2.trans (.cons _ pull1)) ?_
 refine wpL_nil ?_
 exact ⟨(c18, pre19, post20), (xs ++ linesW (gi l text) (lsub (gi l text).words ((gi x x2).atA) (((gi x x2).atA) + ((gi x x2).len)))), h, (Cov.asg ⟨rfl, rfl, rfl, rfl, rfl, rfl, rfl, rfl, rfl, trivial⟩), (.refl _)⟩
 have h := h.2 (beqF b17)
 refine wpA_skip ?_
 exact ⟨(cbgh12, pregh12, postgh12), xs, h, (Cov.asg ⟨rfl, rfl, rfl, rfl, rfl, rfl, rfl, rfl, rfl, trivial⟩), (.refl _)⟩
 rintro ⟨cbgh121, pregh121, postgh121⟩ xs1 h
 have h : kcovered_J1 l x text x2 again10 xs1 := h
 unfold kcovered_J1 at h
 show wpA _ _ _ _ (asg [(2, D.i text), (6, (encL 3 encSpan) ([] : List Span)), (7, D.i 0), (12, .ptr c8 1 0 0), (13, .fn (.func 59) [] [.iptr (encText (gi l text)) 0, .ptr c8 1 0 0]), (15, .ptr c12 5 0 0), (45, (encL 5 encClone) x), (46, D.i (x.length : Int)), (47, D.i x2)]) [(c12, .cells 5 [encClone (gi x x2)]), (cbgh121, .cells 2 (winL encLine pregh121 xs1 postgh121)), (c8, .cells 1 [.own cbgh121 2 pregh121.length xs1.length])]
 refine wpA_seq ?_
 refine wpA_region ?_
 refine wL (OpA.fieldAddr rfl tf38_2 rfl ?_)
 refine wL (OpA.load rfl ti3 rfl .head rfl rfl ?_)
 refine wL (OpA.m ?_)
 refine wL (OpA.eql rfl rfl rfl ?_)
 refine wpL_nil ?_
 refine wpA_cond rfl (fun b13 => ?_) (fun b13 => ?_)
 have h := h.1 (beqT b13)
 obtain ⟨q1, q2, q3, h⟩ := h
 refine wpA_region ?_
 refine wL (OpA.m ?_)
 refine wL (OpA.fieldAddr rfl tf38_3 rfl ?_)
 refine wL (OpA.load rfl ti3 rfl .head rfl rfl ?_)
 refine wL (OpA.fieldAddr rfl tf38_4 rfl ?_)
 refine wL (OpA.load rfl ti3 rfl .head rfl rfl ?_)
 refine wL (OpA.callH rfl rfl rfl en59 (h1 := [(c8, .cells 1 [.own cbgh121 2 pregh121.length xs1.length]), (cbgh121, .cells 2 (winL encLine pregh121 xs1 postgh121))]) (h2 := [(c12, .cells 5 [encClone (gi x x2)])]) (pull2.trans (.cons _ pull1)) (kcov1_c ((gi x x2).atB) ((gi x x2).len) (gi l text) xs1 c8 cbgh121 pregh121 postgh121 q1 q2 q3) ?_)
 rintro _ _ ⟨⟨c14, pre15, post16⟩, rfl, rfl⟩
 refine wpL_perm (h' := [(c12, .cells 5 [encClone (gi x x2)]), (c14, .cells 2 (winL encLine pre15 (xs1 ++ linesW (gi l text) (lsub (gi l text).words ((gi x x2).atB) (((gi x x2).atB) + ((gi x x2).len)))) post16)), (c8, .cells 1 [.own c14 2 pre15.length (xs1 ++ linesW (gi l text) (lsub (gi l text).words ((gi x x2).atB) (((gi x x2).atB) + ((gi x x2).len)))).length])]) (pull2.trans (.cons _ pull1)) ?_
 refine wpL_nil ?_
 obtain ⟨q1, h⟩ := h
 refine wpA_region ?_
 refine wL (OpA.addi rfl rfl rfl q1 ?_)
 refine wL (OpA.m ?_)
 refine wpL_nil ?_
 exact ⟨(c14, pre15, post16), ((xs1 ++ linesW (gi l text) (lsub (gi l text).words ((gi x x2).atB) (((gi x x2).atB) + ((gi x x2).len)))), (x2 + 1)), h, (Cov.asg ⟨rfl, rfl, rfl, rfl, rfl, rfl, rfl, rfl, trivial⟩), (.cons _ (.refl _))⟩
 have h := h.2 (beqF b13)
 refine wpA_skip ?_
 obtain ⟨q1, h⟩ := h
 refine wpA_region ?_
 refine wL (OpA.addi rfl rfl rfl q1 ?_)
 refine wL (OpA.m ?_)
 refine wpL_nil ?_
 exact ⟨(cbgh121, pregh121, postgh121), (xs1, (x2 + 1)), h, (Cov.asg ⟨rfl, rfl, rfl, rfl, rfl, rfl, rfl, rfl, trivial⟩), (.cons _ (.refl _))⟩
 have h := h.2 (decF b11)
 refine wpA_exit ?_
 refine wpA_seq ?_
 obtain ⟨q1, q2, h⟩ := h
 refine wpA_region ?_
 refine wL (OpA.load rfl ti91 rfl (.tail .head) rfl rfl ?_)
 refine wL (OpA.frz (s := 72) (d := .own cbgh12 2 pregh12.length xs.length) (d' := (encL 2 encLine) xs) (.refl _) rfl (.win (enc := encLine) .head (by intro hf; cases hf) .nil) (OpA.call rfl rfl rfl en60 (of_c xs q1 q2) ?_))
 rintro _ rfl
 iterate 2 refine wL (OpA.extract rfl rfl rfl ?_)
 iterate 2 refine wL (OpA.a ?_)
 refine wpL_nil ?_
 refine wpA_ret ?_
 exact ⟨_, (.tmp (d := (encL 3 encSpan) ((ofF xs).1)) rfl (.tmp (d := D.i ((ofF xs).2)) rfl .nil)), _, (.tup (.same rfl (.same rfl .nil)) .nil), ⟨((ofF xs).1, (ofF xs).2), rfl, h⟩⟩
theorem kcovered_c (l : (List Text)) (x : (List Clone)) (text : Int) (hp0 : okTs l) (hp1 : x.length ≤ 1024) (hp2 : ∀ t_ ∈ l, t_.words.length ≤ 40) : Fun false Tryz.prog 22 [(encL 2 encText) l, (encL 5 encClone) x, D.i text] (fun d => d = .tup [(encL 3 encSpan) ((coveredF l x text).1), D.i ((coveredF l x text).2)]) :=
 Fun.at (enc := fun r => .tup [(encL 3 encSpan) (r.1), D.i (r.2)]) (v := coveredF l x text) (kcovered_w l x text  (fun r => r = coveredF l x text) (kcovered_ok l x text _ hp0 hp1 hp2 rfl))
end Go.Proofs.YtglclijalehcmaaGreatDoor
