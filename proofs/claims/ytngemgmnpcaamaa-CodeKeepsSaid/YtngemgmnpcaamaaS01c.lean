/-
  CHAPTER 01: contracts of the writer.
-/
import Derived.Test.YtngemgmnpcaamaaS01b
namespace Go.Proofs.Ytngemgmnpcaamaa.WL
open Go

/-- A writer that holds these bytes. -/
def wrM (g : Nat) (bs : List Int) : List (Nat × Loc) := [(1000, .var 0 (.node [.row 2000 1 g 0 bs.length])), (2000, .rows g 1 (B bs))]

theorem bytes_meets {G : Nat → Option AV} (bs : List Int) (hb : bs.length ≤ 65536) :
    Meets Try.prog G 14 [.ptr 1000 0 0] (wrM 0 bs) true (.row 3000 1 1 0 bs.length) (wrM 1 bs ++ [(3000, .rows 1 1 (B bs))]) := by
  refine meets_of_go mix c14_chk ⟨by simp [wrM], by simp [wrM], by simp [wrM]⟩ ?_
  have h1 : bs.length ≤ maxLen ∧ bs.length ≤ 140737488355328 := by unfold maxLen; omega
  simp [c14, c14r0, c14r1, c14r3, wrM, h1]
  refine post_end (.inr rfl) ?_
  simp [c14R]

end Go.Proofs.Ytngemgmnpcaamaa.WL
