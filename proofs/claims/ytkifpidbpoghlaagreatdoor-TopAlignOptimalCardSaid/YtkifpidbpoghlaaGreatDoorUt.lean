/-
  Words of texts and patches: plain functions. No program in sight.
-/
import Derived.Test.YtkifpidbpoghlaaGreatDoorSort
import Derived.Test.YtkifpidbpoghlaaGreatDoorPa
import Derived.Test.YtkifpidbpoghlaaGreatDoorCv0
import Derived.Lib.AtoiAllCases
import Derived.Lib.Join
import Derived.Test.YtkifpidbpoghlaaGreatDoorV1
import Derived.Test.YtkifpidbpoghlaaGreatDoorKm
set_option linter.all false
namespace Go.Lic
open Go.Sort
abbrev nlS : ByteArray := ⟨#[10]⟩
def atoiO (s : ByteArray) : Option Int := match Lib.atoiAll s.data.toList with | .ok v => some v | _ => none
theorem atoiO_some {s : ByteArray} {v : Int} (h : Lib.atoiAll s.data.toList = .ok v) : atoiO s = some v := by unfold atoiO; rw [h]
theorem atoiO_none {s : ByteArray} (h : ∀ u, Lib.atoiAll s.data.toList ≠ .ok u) : atoiO s = none := by
 unfold atoiO
 split
 · next v hv => exact absurd hv (h v)
 · rfl
def digB (c : Int) : Bool := decide (48 ≤ c) && decide (c ≤ 57)
def wordB (c : Int) : Bool := (decide (97 ≤ c) && decide (c ≤ 122)) || (decide (65 ≤ c) && decide (c ≤ 90)) || digB c || (c == 95)
def stopB (r : Int) : Bool := decide (r > 126) || (!(wordB (IntKind.u8.wrap r)))
abbrev wordC (c : UInt8) : Bool := wordB (c.toNat : Int)
def wordsU : Nat → List UInt8 → List (List UInt8)
 | 0, _ => []
 | _ + 1, [] => []
 | n + 1, x :: r => if blankF (x.toNat : Int) then wordsU n r else if wordC x then (x :: r.takeWhile wordC) :: wordsU n (r.dropWhile wordC) else [x] :: wordsU n r
def wordsL (s : ByteArray) : List ByteArray := (wordsU s.size s.data.toList).map fun l => ⟨l.toArray⟩
def noteF (l : List ByteArray) : Int :=
 if l.length = 2 ∧ gi l 0 = (⟨#[110, 111, 116, 101]⟩ : ByteArray) ∧ ¬ ((gi l 1).size : Int) > 4 then match atoiO (gi l 1) with | some n => if itoaF n = gi l 1 then n else -1 | none => -1 else -1
def classF (w : ByteArray) (names numbers : Bool) : ByteArray := if digB (sgi w 0) = true ∧ numbers = true then ⟨#[36, 48]⟩ else if (wordB (sgi w 0) = true ∧ digB (sgi w 0) = false) ∧ names = true then ⟨#[36, 110]⟩ else w
def normL (names numbers : Bool) : Int → Int → List ByteArray → List Lexeme
 | _, _, [] => []
 | skip, at_, l :: r => if skip > 0 then normL names numbers (skip - 1) (at_ + 1) r else if noteF (wordsL l) ≥ 0 then normL names numbers (noteF (wordsL l)) (at_ + 1) r else (wordsL l).map (fun w => ⟨classF w names numbers, at_⟩) ++ normL names numbers skip (at_ + 1) r
def bigT (data : ByteArray) : Bool := decide ((data.size : Int) > 65536) || decide (countF data nlS ≥ 1024)
def normF (path data : ByteArray) (names numbers : Bool) : Text × Int :=
 if pathF path = 0 then if bigT data then (⟨ByteArray.empty, []⟩, 10) else if ((normL names numbers 0 0 (splitF data nlS)).length : Int) > 8192 then (⟨ByteArray.empty, []⟩, 10) else (⟨path, normL names numbers 0 0 (splitF data nlS)⟩, 0) else (⟨ByteArray.empty, []⟩, 2)
def zaf (data : ByteArray) : List ByteArray × Int := if bigT data then ([], 10) else (splitF data nlS, 0)
def nlB (s : ByteArray) : Bool := decide (0 ≤ indexF s nlS)
def joinS (l : List ByteArray) (sep : ByteArray) : ByteArray := ⟨(Lib.join (l.map (·.data.toList)) sep.data.toList).toArray⟩
def sizeS : List ByteArray → Int
 | [] => 0
 | s :: l => (s.size : Int) + sizeS l
def joinT (l : List ByteArray) : ByteArray × Int :=
 if l.length = 0 ∨ l.any nlB = true then (⟨#[]⟩, 1) else if (l.length : Int) > 1024 ∨ (l.length : Int) - 1 + sizeS l > 65536 then (⟨#[]⟩, 10) else (joinS l nlS, 0)
def lexL (s : ByteArray) : List Lexeme := (List.range (zaf s).1.length).map fun (i : Nat) => ⟨gi (zaf s).1 i, i⟩
def sizeStep (r : Int × Int × Int) (h : Hunk) : Int × Int × Int := if h.kind = 1 then (r.1 + h.n, r.2.1, r.2.2) else if h.kind = 2 then (r.1, r.2.1 + h.n, r.2.2) else (r.1, r.2.1, r.2.2 + h.n)
def sizesP (p : Patch) : Int × Int × Int := p.hunks.foldl sizeStep (0, 0, 0)
def hunkB (h : Hunk) : Bool := decide (1 ≤ h.kind) && decide (h.kind ≤ 3) && decide (1 ≤ h.n) && decide (h.n ≤ 1024) && (if h.kind = 3 then decide ((h.lines.length : Int) = h.n) && !h.lines.any nlB else decide (h.lines.length = 0))
def adjB (a b : Hunk) : Bool := !decide (a.kind = b.kind) && !(decide (a.kind = 3) && decide (b.kind = 2))
def okAt (l : List Hunk) (x : Nat) : Bool := hunkB (gi l x) && (decide (x = 0) || adjB (gi l ((x : Int) - 1)) (gi l x))
def hunksB (l : List Hunk) : Bool := (List.range l.length).all (okAt l)
def hexP (s : ByteArray) : ByteArray × Int := (s, 0)
def sumP (s : ByteArray) : ByteArray := s
def headH (h : Hunk) : ByteArray := (if h.kind = 2 then (⟨#[100, 114, 111, 112, 32]⟩ : ByteArray) else if h.kind = 3 then ⟨#[97, 100, 100, 32]⟩ else ⟨#[107, 101, 101, 112, 32]⟩) ++ itoaF h.n
def hunkL (h : Hunk) : List ByteArray := headH h :: h.lines
def linesP (p : Patch) : List ByteArray := (if p.base = (⟨#[]⟩ : ByteArray) then [] else [(⟨#[98, 97, 115, 101, 32]⟩ : ByteArray) ++ (hexP p.base).1]) ++ p.hunks.flatMap hunkL
def sizesB (s : Int × Int × Int) : Bool := decide (1 ≤ s.1 + s.2.1) && decide (s.1 + s.2.1 ≤ 1024) && decide (1 ≤ s.1 + s.2.2) && decide (s.1 + s.2.2 ≤ 1024)
def baseB (p : Patch) : Bool := (decide (p.base = (⟨#[]⟩ : ByteArray)) || decide (p.base.size = 32)) && decide (p.hunks.length ≤ 3072)
def checkP (p : Patch) : ByteArray × Bool := if baseB p && (hunksB p.hunks && sizesB (sizesP p)) then ((joinT (linesP p)).1, decide ((joinT (linesP p)).2 = 0)) else (⟨#[]⟩, false)
def costP (p : Patch) : Int × Int := if (checkP p).2 then ((sizesP p).2.1 + (sizesP p).2.2, 0) else (0, 1)
def applyStep (old : List ByteArray) (r : List ByteArray × Int) (h : Hunk) : List ByteArray × Int := if h.kind = 1 then (r.1 ++ lsub old r.2 (r.2 + h.n), r.2 + h.n) else if h.kind = 2 then (r.1, r.2 + h.n) else (r.1 ++ h.lines, r.2)
def outP (old : List ByteArray) (l : List Hunk) : List ByteArray := (l.foldl (applyStep old) ([], 0)).1
def applyP (p : Patch) (data : ByteArray) : List ByteArray × List ByteArray × Int :=
 if (checkP p).2 then if (zaf data).2 = 0 then if (sizesP p).1 + (sizesP p).2.1 = ((zaf data).1.length : Int) ∧ (p.base = (⟨#[]⟩ : ByteArray) ∨ p.base = sumP data) then
   if (joinT (outP (zaf data).1 p.hunks)).2 = 0 then ((zaf data).1, outP (zaf data).1 p.hunks, 0) else ([], [], (joinT (outP (zaf data).1 p.hunks)).2)
 else ([], [], 9) else ([], [], (zaf data).2) else ([], [], 1)
def applyF (p : Patch) (data : ByteArray) : ByteArray × Int := (joinS (applyP p data).2.1 nlS, (applyP p data).2.2)
def zan (b : PatchBuilder) : PatchBuilder := ⟨(if b.drop > 0 then b.hunks ++ [⟨2, b.drop, []⟩] else b.hunks) ++ (if 0 < b.add.length then [⟨3, b.add.length, b.add⟩] else []), 0, []⟩
def keepB (b : PatchBuilder) (n : Int) : PatchBuilder :=
 if n = 0 then b else if 0 < (zan b).hunks.length ∧ (gi (zan b).hunks (((zan b).hunks.length : Int) - 1)).kind = 1
   then ⟨si (zan b).hunks (((zan b).hunks.length : Int) - 1) ⟨(gi (zan b).hunks (((zan b).hunks.length : Int) - 1)).kind, (gi (zan b).hunks (((zan b).hunks.length : Int) - 1)).n + n, (gi (zan b).hunks (((zan b).hunks.length : Int) - 1)).lines⟩, (zan b).drop, (zan b).add⟩
   else ⟨(zan b).hunks ++ [⟨1, n, []⟩], (zan b).drop, (zan b).add⟩
def patchB (b : PatchBuilder) (base : ByteArray) : Patch × Int := if (checkP ⟨base, (zan b).hunks⟩).2 then (⟨base, (zan b).hunks⟩, 0) else (⟨ByteArray.empty, []⟩, 10)
def commonP (a b : List ByteArray) : List (List Int) := (List.range (a.length + 1)).map fun i => (List.range (b.length + 1)).map fun j => ((lcs (a.drop i) (b.drop j) : Nat) : Int)
def hitP (a b : List ByteArray) (left x y : Int) : Prop := gi a x = gi b y ∧ 1 + gi (gi (commonP a b) (x + 1)) (y + 1) = left
structure NextP (a b : List ByteArray) (i j left : Int) (p : Int × Int) : Prop where
 x0 : i ≤ p.1
 x1 : p.1 < a.length
 y0 : j ≤ p.2
 y1 : p.2 < b.length
 hit : hitP a b left p.1 p.2
 first : ∀ x y, i ≤ x → x < a.length → j ≤ y → y < b.length → hitP a b left x y → p.1 < x ∨ (p.1 = x ∧ p.2 ≤ y)
open Classical in
noncomputable def nextP (a b : List ByteArray) (i j left : Int) : Int × Int := if h : ∃ p, NextP a b i j left p then h.choose else (0, 0)
theorem nextP_eq {a b : List ByteArray} {i j left : Int} {p : Int × Int} (h : NextP a b i j left p) : nextP a b i j left = p := by
 have he : ∃ p, NextP a b i j left p := ⟨p, h⟩
 unfold nextP
 rw [dif_pos he]
 have h2 := he.choose_spec
 generalize he.choose = q at h2
 have a1 := h.first q.1 q.2 h2.x0 h2.x1 h2.y0 h2.y1 h2.hit
 have a2 := h2.first p.1 p.2 h.x0 h.x1 h.y0 h.y1 h.hit
 apply Prod.ext <;> omega
noncomputable def buildL (a b : List ByteArray) : Nat → Int → Int → PatchBuilder → PatchBuilder
 | 0, i, j, o => ⟨o.hunks, o.drop + ((a.length : Int) - i), o.add ++ lsub b j (b.length : Int)⟩
 | n + 1, i, j, o => buildL a b n ((nextP a b i j ((n + 1 : Nat) : Int)).1 + 1) ((nextP a b i j ((n + 1 : Nat) : Int)).2 + 1) (keepB ⟨o.hunks, o.drop + ((nextP a b i j ((n + 1 : Nat) : Int)).1 - i), o.add ++ lsub b j (nextP a b i j ((n + 1 : Nat) : Int)).2⟩ 1)
noncomputable def makeP (s t : ByteArray) : Patch × Int :=
 if (zaf s).2 = 0 then if (zaf t).2 = 0 then patchB (buildL (zaf s).1 (zaf t).1 (lcs (zaf s).1 (zaf t).1) 0 0 ⟨[], 0, []⟩) (⟨#[]⟩ : ByteArray)
   else (⟨ByteArray.empty, []⟩, (zaf t).2) else (⟨ByteArray.empty, []⟩, (zaf s).2)
structure OkH (h : Hunk) : Prop where
 n0 : 0 ≤ h.n
 n1 : h.n ≤ 1000000
 len : h.lines.length ≤ 1000
 size : ∀ l ∈ h.lines, l.size ≤ 100000
structure okP4 (p : Patch) : Prop where
 base : p.base = (⟨#[]⟩ : ByteArray)
 len : p.hunks.length ≤ 500
 ok : ∀ h ∈ p.hunks, OkH h
structure okBl (b : PatchBuilder) : Prop where
 len : b.hunks.length ≤ 490
 ok : ∀ h ∈ b.hunks, OkH h
 d0 : 0 ≤ b.drop
 d1 : b.drop ≤ 100000
 alen : b.add.length ≤ 1000
 asize : ∀ l ∈ b.add, l.size ≤ 100000
end Go.Lic
set_option linter.all false
namespace Go.Proofs.YtkifpidbpoghlaaGreatDoor
open Go Go.Lic Go.Sort Go.Proofs
theorem hex_c (s : ByteArray) (h : False) : Fun false Tryz.prog 130 [D.s s] (fun d => d = .tup [D.s (hexP s).1, D.i (hexP s).2]) := h.elim
theorem sum_c (s : ByteArray) (h : False) : Fun false Tryz.prog 86 [D.s s] (fun d => d = D.s (sumP s)) := h.elim
def AtoiR (s : ByteArray) (d : D) : Prop := ∃ (v : Int) (e : Value), d = .tup [D.i v, .v e] ∧ ((Lib.atoiAll s.data.toList = .ok v ∧ e = .nilIface) ∨ ((∀ u, Lib.atoiAll s.data.toList ≠ .ok u) ∧ ∃ t x, e = .iface t x))
theorem atoi_c (s : ByteArray) (hs : s.size ≤ 1000000) : Fun false Tryz.prog 48 [D.s s] (AtoiR s) := by
 intro A w us hb ho hg hv
 cases hv with
 | cons h2 h3 =>
   cases h2; cases h3
   obtain ⟨⟨u2, p2, e2⟩, ⟨u3, p3, e3⟩⟩ := err_of_glob hg
   rcases ha : Lib.atoiAll s.data.toList with v | _ | _
   · refine (Tryz.strconv_Atoi_ok s (by omega) v ha w).mono ?_
     rintro e w' ⟨rfl, hw⟩
     refine ⟨_, .tup [D.i v, .v .nilIface], rfl, ⟨v, _, rfl, .inl ⟨ha, rfl⟩⟩, .tup (.cons (.v _) (.cons (.v _) .nil)), ?_⟩
     rcases hw with rfl | ⟨t, rfl⟩
     · exact Ext.refl _ _
     · exact below_ext (Lib.bytesWorld_below _ _ _)
   · refine (Tryz.strconv_Atoi_syntax s (by omega) ha _ w e2 (.inr ⟨_, _, rfl⟩)).mono ?_
     rintro e w' ⟨N, rfl, h1, h2, h3⟩
     exact ⟨_, .tup [D.i 0, .v (.iface _ _)], rfl, ⟨0, _, rfl, .inr ⟨fun u => by rw [ha]; exact nofun, _, _, rfl⟩⟩, .tup (.cons (.v _) (.cons (.v _) .nil)), below_ext h3⟩
   · refine (Tryz.strconv_Atoi_range s (by omega) ha _ w e3 (.inr ⟨_, _, rfl⟩)).mono ?_
     rintro e w' ⟨N, rfl, h1, h2, h3⟩
     exact ⟨_, .tup [D.i (Lib.atoiSat s.data.toList), .v (.iface _ _)], rfl, ⟨_, _, rfl, .inr ⟨fun u => by rw [ha]; exact nofun, _, _, rfl⟩⟩, .tup (.cons (.v _) (.cons (.v _) .nil)), below_ext h3⟩
attribute [local irreducible] splitF indexF
theorem splitSeq0_c (s sep : ByteArray) : CallH Tryz.prog 98 [D.s s, D.s sep, D.i 0] [] (fun d h' => ∃ c : Nat, d = .fn (.func 145) [] [.iptr (D.s sep) 0, .ptr c 1 0 0, .iptr (D.i 0) 0] ∧ h' = [(c, .cells 1 [D.s s])]) := by
 refine CallH.of_body Tryz.func98 rfl Tryz.ntmps98 rfl ?_
 refine zac (zaa ?_)
 refine wL (OpA.bx (sz := 1) rfl zW (.of rfl) (fun c1 _ => ?_))
 refine wL (OpA.bx (sz := 1) rfl zW (.of rfl) (fun c2 _ => ?_))
 refine wL (OpA.bx (sz := 1) rfl zW (.of rfl) (fun c3 _ => ?_))
 refine wL (OpA.a ?_)
 refine zab (zac (zaa ?_))
 refine wL (OpA.makeFunc rfl ?_)
 refine wL (OpA.a ?_)
 refine zab ?_
 refine wpA_freeze (s := 6) (d := .fn (.func 145) [] [.ptr c2 1 0 0, .ptr c1 1 0 0, .ptr c3 1 0 0]) (d' := .fn (.func 145) [] [.ptr c2 1 0 0, .ptr c1 1 0 0, .iptr (D.i 0) 0]) (.refl _) rfl (.fn .nil (.same rfl (.same rfl (.ptrp rfl .head rfl .nil))) .nil) ?_
 refine wpA_freeze (s := 6) (d := .fn (.func 145) [] [.ptr c2 1 0 0, .ptr c1 1 0 0, .iptr (D.i 0) 0]) (d' := .fn (.func 145) [] [.iptr (D.s sep) 0, .ptr c1 1 0 0, .iptr (D.i 0) 0]) (.refl _) rfl (.fn .nil (.ptrp rfl .head rfl (.same rfl (.same rfl .nil))) .nil) ?_
 refine zal ?_
 exact ⟨_, (.tmp rfl .nil), c1, rfl, rfl⟩
theorem splitSeq_c (s sep : ByteArray) : CallH Tryz.prog 51 [D.s s, D.s sep] [] (fun d h' => ∃ c : Nat, d = .fn (.func 145) [] [.iptr (D.s sep) 0, .ptr c 1 0 0, .iptr (D.i 0) 0] ∧ h' = [(c, .cells 1 [D.s s])]) := by
 refine CallH.of_body Tryz.func51 rfl Tryz.ntmps51 rfl ?_
 refine zac (zaa (wL (OpA.a (zab (zac (zaa ?_))))))
 iterate 2 refine wL (OpA.m ?_)
 refine wL (OpA.callH rfl rfl rfl zK (h1 := []) (h2 := []) (.refl _) (splitSeq0_c s sep) ?_)
 rintro _ _ ⟨c, rfl, rfl⟩
 refine wL (OpA.a ?_)
 refine zab (zal ?_)
 exact ⟨_, (.tmp rfl .nil), c, rfl, rfl⟩
theorem splitSeq_it (s sep : ByteArray) (c0 : Nat) (hs : s.size ≤ 1000000) (h1 : sep.size = 1) : SeqC Tryz.prog 145 [.iptr (D.s sep) 0, .ptr c0 1 0 0, .iptr (D.i 0) 0] [(c0, .cells 1 [D.s s])] (splitF s sep).length (seqArg D.s (splitF s sep)) := by
 intro c n fr ps assign body I hround h0 hI0
 refine CallH.of_body Tryz.func145 rfl Tryz.ntmps145 rfl ?_
 refine wpA_perm (h' := h0 ++ ((c, Blk.loop n fr ps assign body) :: [(c0, .cells 1 [D.s s])])) ((List.Perm.swap ..).trans (List.perm_append_comm (l₁ := [(c0, Blk.cells 1 [D.s s]), (c, Blk.loop n fr ps assign body)]) |>.trans (List.Perm.append_left h0 (.swap ..)))) ?_
 iterate 2 refine zac ?_
 refine zaa ?_
 refine wL (OpA.iload rfl ti9 rfl rfl ?_)
 refine wL (OpA.slen rfl rfl rfl rfl zK rfl ?_)
 refine wL (OpA.eql rfl rfl rfl ?_)
 refine zab ?_
 refine zae rfl (fun b1 => absurd (beqT b1) (by omega)) (fun _ => ?_)
 refine zai (zac (zag ?_))
 refine wpA_loopP (fun k f h => ∃ (j : Nat) (h1 : Heap) (r : ByteArray), k = r.size ∧ r.size ≤ 1000000 ∧ I j h1 ∧ (splitF s sep).drop j = splitF r sep ∧ f = asg [(0, .fn (.yield (c / 2)) [] []), (1, .iptr (D.s sep) 0), (2, .ptr c0 1 0 0), (3, .iptr (D.i 0) 0)] ∧ h = h1 ++ ((c, .loop n fr ps assign body) :: [(c0, .cells 1 [D.s r])]))
   ⟨s.size, _, _, ⟨0, h0, s, rfl, hs, hI0, rfl, rfl, rfl⟩, .refl _, cvZ⟩ ?_
 rintro k f h ⟨j, h1', r, rfl, hr, hI, hd, rfl, rfl⟩
 have hj : j < (splitF s sep).length := by
   rcases Nat.lt_or_ge j (splitF s sep).length with hj | hj
   · exact hj
   · rw [List.drop_eq_nil_of_le hj] at hd
     exact absurd hd.symm (splitF_ne r sep)
 refine zag (zac (zaa ?_))
 refine wL (OpA.load rfl ti9 rfl (has_app h1' (.tail .head)) rfl rfl ?_)
 refine wL (OpA.iload rfl ti9 rfl rfl ?_)
 refine wL (OpA.call rfl rfl rfl zK (index_c r sep h1) ?_)
 rintro _ rfl
 refine wL (OpA.a ?_)
 refine zab ?_
 iterate 2 refine zac ?_
 refine zaa (wL (OpA.m ?_))
 refine wL (OpA.lss rfl rfl rfl ?_)
 refine zab ?_
 refine zae rfl (fun b1 => ?_) (fun b1 => ?_)
 · have b1 := decT b1
   refine wpA_exit ?_
   obtain ⟨e1, e2⟩ := splitF_last h1 b1 hd
   have hyr := hround j h1' hj hI
   simp only [seqArg, e2] at hyr
   refine zaa (wL (OpA.m ?_))
   refine wL (OpA.load rfl ti9 rfl (has_app h1' (.tail .head)) rfl rfl ?_)
   refine wL (OpA.yield rfl rfl rfl (.refl _) hyr (fun h2 hI2 => ?_))
   refine zab ?_
   exact ⟨_, .nil, h2 ++ [(c0, .cells 1 [D.s r])], h2, List.perm_middle, List.sublist_append_left _ _, by rw [← e1]; exact hI2⟩
 · have b1 := decF b1
   obtain ⟨s1, s2, e1, e2, e3⟩ := splitF_step h1 b1 hd
   have hyr := hround j h1' hj hI
   simp only [seqArg, e1] at hyr
   refine zai (zac (zaa ?_))
   refine wL (OpA.load rfl ti9 rfl (has_app h1' (.tail .head)) rfl rfl ?_)
   refine wL (OpA.m ?_)
   refine wL (OpA.iload rfl ti3 rfl rfl ?_)
   refine wL (OpA.addi rfl rfl rfl ⟨by omega, by omega⟩ ?_)
   refine wL (OpA.ssliceV rfl zK rfl (.none _) (.some rfl) (by rw [Int.add_zero]; exact s1) ?_)
   refine wL (OpA.a ?_)
   refine zab ?_
   iterate 2 refine zac ?_
   refine zaa ?_
   iterate 2 refine wL (OpA.m ?_)
   refine wL (OpA.yield rfl rfl rfl (.refl _) (by rw [Int.add_zero]; exact hyr) (fun h2 hI2 => ?_))
   refine wL (OpA.not rfl rfl ?_)
   refine zab ?_
   refine wpA_condF rfl ?_
   refine zai (zaa ?_)
   refine wL (OpA.load rfl ti9 rfl (has_app h2 (.tail .head)) rfl rfl ?_)
   refine wL (OpA.m ?_)
   refine wL (OpA.iload rfl ti9 rfl rfl ?_)
   refine wL (OpA.slen rfl rfl rfl rfl zK rfl ?_)
   refine wL (OpA.addi rfl rfl rfl ⟨by omega, by omega⟩ ?_)
   refine wL (OpA.ssliceV rfl zK rfl (.some rfl) (.none _) s2 ?_)
   refine wE (OpA.storeW rfl ti9 rfl zW (.of rfl) rfl rfl (repl_app h2 (.tail .head)) ?_)
   refine zab ?_
   exact ⟨_, _, _, e3, ⟨j + 1, h2, _, rfl, by omega, hI2, e2, rfl, rfl⟩, .refl _, cvZ⟩
theorem strs_vl {w : World} {X : Nat → Prop} : ∀ (l : List ByteArray) (cs : List Value), VL w X (D.flats (l.map D.s)) cs → cs = l.map Value.string
 | [], cs, h => by cases h; rfl
 | x :: l, cs, h => by
   rw [List.map_cons, flats_cons] at h
   cases h with
   | cons h1 h2 => cases h1; rw [strs_vl l _ h2]; rfl
theorem join_len (sep : List UInt8) : ∀ (l : List (List UInt8)) (m : Nat), (∀ x ∈ l, x.length ≤ m) → (Lib.join l sep).length ≤ l.length * (m + sep.length)
 | [], m, _ => by simp [Lib.join_nil]
 | x :: l, m, h => by
   rw [Lib.join_cons, List.length_append, Lib.joinTail_length]
   have h1 := h x (by simp)
   have h2 : Lib.lens l ≤ l.length * m := by
     clear h1
     induction l with
     | nil => simp [Lib.lens]
     | cons y l ih =>
       have h3 := h y (by simp)
       have h4 := ih (fun z hz => h z (by rcases List.mem_cons.1 hz with e | e <;> simp [e]))
       simp only [Lib.lens, List.map_cons, List.sum_cons, List.length_cons, Nat.succ_mul] at *
       omega
   rw [List.length_cons, Nat.succ_mul, Nat.mul_add, Nat.mul_comm sep.length]
   omega
theorem join_c (l : List ByteArray) (sep : ByteArray) (h0 : l.length ≤ 1000000) (h1 : ∀ z ∈ l, z.size ≤ 1000000) (h2 : sep.size = 1) : Fun false Tryz.prog 44 [encL 1 D.s l, D.s sep] (fun d => d = D.s (joinS l sep)) := by
 intro A w us hb ho hg hv
 cases hv with
 | cons k2 k3 =>
   cases k3 with
   | cons k4 k5 =>
     cases k4; cases k5
     cases k2 with
     | @list _ _ cs a b oo cap hok hvl ha hl hc =>
       have hcs := strs_vl l cs hvl
       rcases l with _ | ⟨x, l⟩
       · refine (Tryz.strings_Join_none a cap sep w).mono ?_
         rintro e w' ⟨rfl, rfl⟩
         exact ⟨_, _, rfl, rfl, .v _, Ext.refl _ _⟩
       · have hne : cs ≠ [] := by rw [hcs]; simp
         rcases hl with hl | ⟨_, hl⟩
         · exact absurd hl hne
         · rw [ha hne]
           have hlen := join_len sep.data.toList ((x :: l).map (·.data.toList)) 1000000 (fun y hy => by
             obtain ⟨z, hz, rfl⟩ := List.mem_map.1 hy
             exact h1 z hz)
           have hm : (x :: l).length * (1000000 + sep.data.toList.length) ≤ 1000000 * (1000000 + 1) := Nat.mul_le_mul h0 (by have : sep.data.toList.length = sep.size := rfl; omega)
           rw [List.length_map] at hlen
           rw [List.length_map]
           refine (Tryz.strings_Join b oo cap (x :: l) sep w (fun j y hj => hl j _ (by rw [hcs, List.getElem?_map, hj]; rfl)) ?_ (by omega) (by simpa using hc) (by omega)).mono ?_
           · have := hl 0 (.string x) (by rw [hcs]; rfl)
             exact Lib.lt_of_cell this
           · rintro e w' ⟨rfl, hw⟩
             exact ⟨_, _, rfl, rfl, .v _, below_ext hw⟩
end Go.Proofs.YtkifpidbpoghlaaGreatDoor
