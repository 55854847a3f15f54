/-
  The function that reads a number of a set's text: the library's conversion, its error.
-/
import Derived.Test.YtjncggaheahjiaaGreatDoorV0
import Derived.Test.YtjncggaheahjiaaGreatDoorErr
import Derived.Test.YtjncggaheahjiaaGreatDoorNm
import Derived.Test.YtjncggaheahjiaaGreatDoorLaid
set_option linter.all false
namespace Go.Proofs.YtjncggaheahjiaaGreatDoor
open Go Go.Lic Go.Sort Go.Proofs
def AtoiR (s : ByteArray) (d : D) : Prop := ∃ (v : Int) (e : Value), d = .tup [D.i v, .v e] ∧ ((Lib.atoiAll s.data.toList = .ok v ∧ e = .nilIface) ∨ ((∀ u, Lib.atoiAll s.data.toList ≠ .ok u) ∧ ∃ t x, e = .iface t x))
theorem atoi_c (s : ByteArray) (hs : s.size ≤ 1000000) : Fun false Tryz.prog 60 [D.s s] (AtoiR s) := by
 intro A w us hb ho hg hv
 cases hv with
 | cons h2 h3 =>
   cases h2; cases h3
   obtain ⟨⟨u2, p2, e2⟩, ⟨u3, p3, e3⟩⟩ := err_of_glob hg
   rcases ha : Lib.atoiAll s.data.toList with v | _ | _
   · refine (Tryz.strconv_Atoi_ok s (by omega) v ha w).mono ?_
     rintro e w' ⟨rfl, hw⟩
     refine ⟨_, .tup [D.i v, .v .nilIface], rfl, ⟨v, _, rfl, .inl ⟨ha, rfl⟩⟩, .tup (.cons (.v _) (.cons (.v _) .nil)), ?_⟩
     rcases hw with rfl | ⟨t, rfl⟩
     · exact Ext.refl _ _
     · exact below_ext (Lib.bytesWorld_below _ _ _)
   · refine (Tryz.strconv_Atoi_syntax s (by omega) ha _ w e2 (.inr ⟨_, _, rfl⟩)).mono ?_
     rintro e w' ⟨N, rfl, h1, h2, h3⟩
     exact ⟨_, .tup [D.i 0, .v (.iface _ _)], rfl, ⟨0, _, rfl, .inr ⟨fun u => by rw [ha]; exact nofun, _, _, rfl⟩⟩, .tup (.cons (.v _) (.cons (.v _) .nil)), below_ext h3⟩
   · refine (Tryz.strconv_Atoi_range s (by omega) ha _ w e3 (.inr ⟨_, _, rfl⟩)).mono ?_
     rintro e w' ⟨N, rfl, h1, h2, h3⟩
     exact ⟨_, .tup [D.i (Lib.atoiSat s.data.toList), .v (.iface _ _)], rfl, ⟨_, _, rfl, .inr ⟨fun u => by rw [ha]; exact nofun, _, _, rfl⟩⟩, .tup (.cons (.v _) (.cons (.v _) .nil)), below_ext h3⟩
theorem numF_ok {s : ByteArray} {v : Int} (h : Lib.atoiAll s.data.toList = .ok v) : numF s = if s.size ≤ 4 ∧ itoaF v = s then v else -1 := by unfold numF; rw [h]
theorem numF_bad {s : ByteArray} (h : ∀ u, Lib.atoiAll s.data.toList ≠ .ok u) : numF s = -1 := by
 unfold numF
 split
 · next v hv => exact absurd hv (h v)
 · rfl
theorem err_desc : Tryz.prog.underlying 51 = some (.interface (msOf Tryz.prog 51)) := by kernel_rfl
theorem sIndex_c (s sep : ByteArray) (h : sep.size = 1) : Fun false Tryz.prog 58 [D.s s, D.s sep] (fun d => d = D.i (indexF s sep)) := by
 have := Fun.of_same (vs := [.string s, .string ⟨#[sepOf sep]⟩]) (Tryz.stringslite_Index_one s (sepOf sep))
 rw [← one_byte h] at this
 exact this
attribute [local irreducible] numF itoaF
theorem num_c (s : ByteArray) (hp0 : s.size ≤ 1000000) : Fun false Tryz.prog 43 [D.s s] (fun d => d = D.i (numF s)) := by
 refine Fun.of_body Tryz.func43 rfl Tryz.ntmps43 rfl ?_
 refine wpA_seq ?_
 refine wpA_region ?_
 refine wL (OpA.a ?_)
 refine wpL_nil ?_
 refine wpA_seq ?_
 refine wpA_region ?_
 refine wL (OpA.m ?_)
 refine wL (OpA.call rfl rfl rfl (by kernel_rfl) (atoi_c s hp0) ?_)
 rintro _ ⟨v, e, rfl, hve⟩
 refine wL (OpA.m ?_)
 iterate 2 refine wL (OpA.extract rfl rfl rfl ?_)
 iterate 2 refine wL (OpA.a ?_)
 refine wpL_nil ?_
 iterate 2 refine wpA_seq ?_
 rcases hve with ⟨ha, rfl⟩ | ⟨ha, t, x, rfl⟩
 · refine wpA_region ?_
   refine wL (OpA.m ?_)
   refine wL (OpA.neqNil0 rfl err_desc rfl rfl ?_)
   refine wL (OpA.m ?_)
   refine wG (OpA.m ?_)
   refine wG (OpA.slen rfl rfl rfl rfl (by kernel_rfl) rfl ?_)
   refine wG (OpA.gtr rfl rfl rfl ?_)
   refine wL (OpA.p ?_)
   refine wL (OpA.m ?_)
   refine wpL_split (s := 17) rfl (fun b1 => ?_) (fun b1 => ?_)
   · iterate 4 refine wS ?_
     refine wL (OpA.p ?_)
     refine wpL_nil ?_
     refine wpA_cond rfl (fun b2 => ?_) (fun b2 => ?_)
     · refine wpA_seq ?_
       refine wpA_region ?_
       refine wL (OpA.a ?_)
       refine wpL_nil ?_
       refine wpA_ret ?_
       exact ⟨_, (.tmp (d := D.i (-1)) rfl .nil), _, (.same rfl .nil), by rw [numF_ok ha, if_neg]; have := decT b1; omega⟩
     · cases b2
   · refine wG (OpA.m ?_)
     refine wG (OpA.call rfl rfl rfl (by kernel_rfl) (itoa_c v (Lib.atoiAll_bounds ha).1 (Lib.atoiAll_bounds ha).2) ?_)
     rintro _ rfl
     refine wG (OpA.m ?_)
     refine wG (OpA.sneq rfl rfl rfl ?_)
     refine wL (OpA.p ?_)
     refine wpL_nil ?_
     refine wpA_cond rfl (fun b2 => ?_) (fun b2 => ?_)
     · refine wpA_seq ?_
       refine wpA_region ?_
       refine wL (OpA.a ?_)
       refine wpL_nil ?_
       refine wpA_ret ?_
       exact ⟨_, (.tmp (d := D.i (-1)) rfl .nil), _, (.same rfl .nil), by rw [numF_ok ha, if_neg]; rintro ⟨_, e⟩; rw [decide_eq_true e] at b2; cases b2⟩
     · refine wpA_skip ?_
       refine wpA_seq ?_
       refine wpA_region ?_
       refine wL (OpA.m ?_)
       refine wL (OpA.a ?_)
       refine wpL_nil ?_
       refine wpA_ret ?_
       exact ⟨_, (.tmp (d := D.i v) rfl .nil), _, (.same rfl .nil), by
         rw [numF_ok ha, if_pos]
         have h1 := decF b1
         refine ⟨by omega, ?_⟩
         by_cases e : itoaF v = s
         · exact e
         · rw [decide_eq_false e] at b2; cases b2⟩
 · refine wpA_region ?_
   refine wL (OpA.m ?_)
   refine wL (OpA.neqNil1 rfl err_desc rfl rfl ?_)
   refine wL (OpA.m ?_)
   iterate 3 refine wS ?_
   refine wL (OpA.p ?_)
   refine wL (OpA.m ?_)
   iterate 4 refine wS ?_
   refine wL (OpA.p ?_)
   refine wpL_nil ?_
   refine wpA_cond rfl (fun b2 => ?_) (fun b2 => ?_)
   · refine wpA_seq ?_
     refine wpA_region ?_
     refine wL (OpA.a ?_)
     refine wpL_nil ?_
     refine wpA_ret ?_
     exact ⟨_, (.tmp (d := D.i (-1)) rfl .nil), _, (.same rfl .nil), by rw [numF_bad ha]⟩
   · cases b2
end Go.Proofs.YtjncggaheahjiaaGreatDoor
