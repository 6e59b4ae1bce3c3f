/-
  CHAPTER 12: walks of laws.
-/
import Derived.Test.YtmdjimkndeklmaaDoorS12f
import Derived.Test.YtmdjimkndeklmaaDoorP12
namespace Go.Proofs.YtmdjimkndeklmaaDoor.WL
open Go
set_option maxHeartbeats 4000000
variable {G : Nat → Option AV}

def Blk.one : Blk := ⟨0, 1, Dg.zero, Dg.zero, Dg.zero, []⟩
theorem alive12_meets : Meets Tryd.prog G fn_l12_alive [] [] true (.v (.bool true)) [] := by
  refine meets_of_go mix k_l12_alive ⟨by simp, by simp, by simp⟩ ?_
  have hl : Blk.one.bytes.length = 120 := by rw [Blk.bytes_len]; rfl
  have m1 := bwrite_meets (G := G) [] Blk.one (by rw [hl]; simp) (by simp [Blk.one])
  rw [List.nil_append] at m1
  have m2 := bgood_meets (G := G) Blk.one
  have hg : Blk.one.good = true := by decide
  rw [hg] at m2
  have m3 := bytes_meets (G := G) Blk.one.bytes (by omega)
  have m4 := bfollows_meets (G := G) Blk.one 0 1 Dg.zero Dg.zero
  have hf : Blk.one.follows 0 1 Dg.zero Dg.zero = true := by unfold Blk.follows; rw [hg]; simp [Blk.one]
  rw [hf] at m4
  rw [hl] at m3
  generalize Blk.one.bytes = x at *
  have hx : List.take 120 x = x := List.take_of_length_le (by omega)
  simp
  refine call_intro m1 ?_ ?_
  · simp [wrM, Blk.avS, Blk.one, dv]
  simp [wrM, Blk.avS, Blk.one, dv]
  refine call_intro m2 ?_ ?_
  · simp [Blk.avS, Blk.one, dv]
  simp [wrM, hl]
  refine call_intro m3 ?_ ?_
  · simp [wrM, hl]
  simp [wrM, hl]
  refine call_intro m4 ?_ ?_
  · simp [Blk.avS, Blk.one, dv]
  simp
  refine post_end (.inr rfl) ?_
  simp

end Go.Proofs.YtmdjimkndeklmaaDoor.WL
