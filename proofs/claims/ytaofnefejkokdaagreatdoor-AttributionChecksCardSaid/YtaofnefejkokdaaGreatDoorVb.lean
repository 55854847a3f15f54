/-
  walks and contracts
-/
import Derived.Test.YtaofnefejkokdaaGreatDoorV0
import Derived.Test.YtaofnefejkokdaaGreatDoorLib
import Derived.Test.YtaofnefejkokdaaGreatDoorCv0
set_option linter.all false
namespace Go.Proofs.YtaofnefejkokdaaGreatDoor
open Go Go.Lic Go.Sort Go.Proofs
theorem backL_c (xs : List Lexeme) (_ : xs.length ≤ 9223372036854775807) : Fun false Tryz.prog 37 [encL 2 encLex xs] (fun d => d = .fn (.func 66) [] [.iptr (encL 2 encLex xs) 0]) := by
 refine Fun.of_body Tryz.func37 rfl Tryz.ntmps37 rfl ?_
 refine wpA_seq ?_
 refine wpA_region ?_
 refine wpL_op rfl rfl rfl (OpA.bx (sz := 1) rfl (by with_reducible conv => lhs; whnf) (.of rfl) (fun c1 _ => ?_))
 refine wpL_op rfl rfl rfl (OpA.asn rfl (by with_reducible conv => lhs; whnf) ?_)
 refine wpL_nil ?_
 refine wpA_seq ?_
 refine wpA_region ?_
 refine wpL_op rfl rfl rfl (OpA.makeFunc rfl ?_)
 refine wpL_op rfl rfl rfl (OpA.asn rfl (by with_reducible conv => lhs; whnf) ?_)
 refine wpL_nil ?_
 refine wpA_ret ?_
 exact ⟨_, (.tmp rfl .nil), _, (.fn .nil (.ptrp rfl .head rfl .nil) .nil), rfl⟩
theorem backL_it (xs : List Lexeme) (hx : xs.length ≤ 9223372036854775807) : BackC Tryz.prog 66 [.iptr (encL 2 encLex xs) 0] xs.length (backArg encLex xs) := by
 intro c n fr ps assign body I hround h0 hI0
 refine CallH.of_body Tryz.func66 rfl Tryz.ntmps66 rfl ?_
 refine wpA_perm (List.perm_append_comm (l₁ := [(c, Blk.loop n fr ps assign body)]) (l₂ := h0)) ?_
 refine wpA_seq ?_
 refine wpA_region ?_
 refine wL (OpA.iload rfl ti26 rfl rfl ?_)
 refine wL (OpA.len rfl rfl rfl rfl ts26.desc (.inl ⟨_, _, rfl, (List.length_map _).symm⟩) ?_)
 refine wL (OpA.subi rfl rfl rfl (by omega) ?_)
 refine wL (OpA.a ?_)
 refine wpL_nil ?_
 refine wpA_block ?_
 refine wpA_loopP (fun k f h => ∃ (j : Nat) (h1 : Heap), j ≤ xs.length ∧ k = xs.length - j ∧ I j h1 ∧ f = asg [(0, .fn (.yield (c / 2)) [] []), (1, .iptr (encL 2 encLex xs) 0), (3, D.i ((xs.length : Int) - 1 - j))] ∧ h = h1 ++ [(c, .loop n fr ps assign body)])
   ⟨xs.length, _, _, ⟨0, h0, by omega, rfl, hI0, rfl, rfl⟩, .refl _, Cov.asg ⟨rfl, rfl, by simp [show ((0 : Nat) : Int) = 0 from rfl, Int.sub_zero], trivial⟩⟩ ?_
 rintro k f h ⟨j, h1, hj, rfl, hI, rfl, rfl⟩
 refine wpA_seq ?_
 refine wpA_seq ?_
 refine wpA_region ?_
 refine wL (OpA.m ?_)
 refine wL (OpA.geq rfl rfl rfl ?_)
 refine wpL_nil ?_
 refine wpA_cond rfl (fun b1 => ?_) (fun b1 => ?_)
 · have b1 := decT b1
   refine wpA_skip ?_
   refine wpA_seq ?_
   refine wpA_block ?_
   refine wpA_seq ?_
   refine wpA_region ?_
   iterate 2 refine wL (OpA.m ?_)
   refine wL (OpA.iload rfl ti26 rfl rfl ?_)
   refine wL (OpA.m ?_)
   refine wL (OpA.iixV (enc := encLex) rfl ts26 rfl rfl rfl ⟨by omega, by omega⟩ ?_)
   refine wL (OpA.iload_whole rfl ti50 rfl ⟨_, rfl, rfl⟩ ?_)
   refine wL (OpA.yield rfl rfl rfl (.refl _) (hround j h1 (by omega) hI) (fun h2 hI2 => ?_))
   refine wL (OpA.not rfl rfl ?_)
   refine wpL_nil ?_
   refine wpA_condF rfl ?_
   refine wpA_skip ?_
   refine wpA_region ?_
   refine wL (OpA.m ?_)
   refine wL (OpA.subi rfl rfl rfl (by omega) ?_)
   refine wL (OpA.a ?_)
   refine wpL_nil ?_
   exact ⟨xs.length - (j + 1), _, _, by omega, ⟨j + 1, h2, by omega, rfl, hI2, rfl, rfl⟩, .refl _, Cov.asg ⟨rfl, rfl, by rw [show (xs.length : Int) - 1 - ((j + 1 : Nat) : Int) = (xs.length : Int) - 1 - (j : Nat) - 1 by omega], trivial⟩⟩
 · have b1 := decF b1
   refine wpA_exit ?_
   obtain rfl : j = xs.length := by omega
   exact ⟨_, .nil, h1, List.perm_append_comm, hI⟩
end Go.Proofs.YtaofnefejkokdaaGreatDoor
