/-
  CHAPTER 02: walks of laws.
-/
import Derived.Test.YtngemgmnpcaamaaDoorS02f
namespace Go.Proofs.YtngemgmnpcaamaaDoor.WL
open Go
set_option maxHeartbeats 4000000
attribute [local irreducible] comp hb sha

theorem B_abc : B [97, 98, 99] = [AV.v (.int .u8 97), .v (.int .u8 98), .v (.int .u8 99)] := (rfl)
theorem alive2_meets : Meets Tryd.prog Gt fn_l02_alive [] [] true (.v (.bool true)) [] := by
  refine meets_of_go mix k_l02_alive ⟨by simp, by simp, by simp⟩ ?_
  have h := of_meets [[97, 98, 99]] (by simp) (by simp [cat])
  have e : cat [[97, 98, 99]] = [97, 98, 99] := by simp [cat]
  have h8 := sha_abc
  rw [e] at h
  simp
  refine call_intro h ?_ ?_
  · simp [Bss, B_abc]
  generalize sha [97, 98, 99] = d at *
  simp [dv, h8]
  refine post_end (.inr rfl) ?_
  simp
theorem pairs_walk (m : UInt8) (a b : Dg) : Meets Tryd.prog Gt fn_l02_ShaPairs [bv m, dv a, dv b] [] true (.v (.bool true)) [] := by
  refine meets_of_go mix k_l02_ShaPairs ⟨by simp, by simp, by simp⟩ ?_
  have ta : List.take 32 a.bs = a.bs := List.take_of_length_le (by simp)
  have tb : List.take 32 b.bs = b.bs := List.take_of_length_le (by simp)
  have tab : List.take 64 (a.bs ++ b.bs) = a.bs ++ b.bs := List.take_of_length_le (by simp)
  have f1 : fitsB (1 + 32) 1 := by decide
  have f2 : fitsB (1 + 32 + 32) 1 := by decide
  have h1 := pair_meets m a b
  have h2 := rof_meets (G := Gt) (m :: (a.bs ++ b.bs)) (by simp)
  generalize sha (m :: (a.bs ++ b.bs)) = d at *
  simp [dv]
  refine call_intro alive2_meets ?_ ?_
  · simp
  simp [f1, f2]
  refine call_intro h1 ?_ ?_
  · simp [dv]
  simp [f1, f2, ta, tb]
  refine call_intro h2 ?_ ?_
  · simp [dv, B_one, ta, tb, tab]
  simp [dv]
  refine post_end (.inr rfl) ?_
  simp
end Go.Proofs.YtngemgmnpcaamaaDoor.WL
