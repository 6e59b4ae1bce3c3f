/-
  CHAPTER 01: contracts of the laws' helpers: alive.
-/
import Derived.Test.YtngemgmnpcaamaaS01g
namespace Go.Proofs.Ytngemgmnpcaamaa.WL
open Go

def aliveB : List Int := [0, 0, 0, 0, 0, 0, 1, 2, 0, 0, 0, 2, 97, 98]
theorem alive_num : [] ++ [258].flatMap be8 = ([0, 0, 0, 0, 0, 0, 1, 2] : List Int) := by decide +kernel
theorem alive_txt : ([0, 0, 0, 0, 0, 0, 1, 2] : List Int) ++ [(⟨#[97, 98]⟩ : ByteArray)].flatMap txt = aliveB := by decide +kernel

theorem alive_meets {G : Nat → Option AV} : Meets Try.prog G 10 [] [] true (.v (.bool true)) [] := by
  refine meets_of_go mix c10_chk ⟨by simp, by simp, by simp⟩ ?_
  simp [c10, c10r0, c10r1, c10r2]
  have h1 := wnum_meets (G := G) [] [258] (by decide)
  rw [alive_num] at h1
  refine call_intro h1 ?_ ?_
  · simp [wrM, I64]
  simp [wrM, I64, c10r3]
  have h2 := wtext_meets (G := G) [0, 0, 0, 0, 0, 0, 1, 2] [⟨#[97, 98]⟩] (by decide +kernel) (by decide)
  rw [alive_txt] at h2
  refine call_intro h2 ?_ ?_
  · simp [wrM, Strs]
  simp [wrM, Strs, c10r4]
  refine call_intro (bytes_meets aliveB (by decide)) ?_ ?_
  · simp [wrM]
  simp [wrM]
  refine call_intro (read_meets aliveB (by decide)) ?_ ?_
  · simp
  simp [c10r5]
  refine call_intro (bytes_meets aliveB (by decide)) ?_ ?_
  · simp [wrM]
  have k1 : ((strOfNums aliveB).toList == ([0, 0, 0, 0, 0, 0, 1, 2, 0, 0, 0, 2, 97, 98] : List UInt8)) = true := by decide +kernel
  simp [wrM, k1]
  have h3 := num_meets (G := G) aliveB 0 14 (by decide) (by decide) (by decide)
  rw [show IntKind.i64.wrap (numF ((aliveB.drop 0).take 8)) = 258 by decide +kernel] at h3
  refine call_intro h3 ?_ ?_
  · simp [rdM, aliveB]
  simp [rdM]
  have h4 := text_meets (G := G) aliveB 8 6 2 2 (by decide) (by decide) (by decide) (by decide +kernel) (by decide) (by decide)
  refine call_intro h4 ?_ ?_
  · simp [rdM]
  have k2 : ((strOfNums ((aliveB.drop (8 + 4)).take 2)).toList == ([97, 98] : List UInt8)) = true := by decide +kernel
  simp only [Nat.reduceAdd] at k2
  simp [rdM, k2]
  refine call_intro (end_meets aliveB 14 0) ?_ ?_
  · simp [rdM]
  simp [rdM]
  refine post_end (.inr rfl) ?_
  simp [c10R]

end Go.Proofs.Ytngemgmnpcaamaa.WL
