/-
  CHAPTER 12: contracts of blocks: what follows, what is the same; reading.
-/
import Derived.Test.YtmdjimkndeklmaaDoorS12a
import Derived.Test.YtmdjimkndeklmaaDoorS09c
namespace Go.Proofs.YtmdjimkndeklmaaDoor.WL
open Go
set_option maxHeartbeats 4000000
variable {G : Nat → Option AV}

def Blk.follows (b : Blk) (e h : Int) (p s : Dg) : Bool := b.good && (decide (b.epoch = e) && decide (b.height = h) && decide (b.prev = p) && decide (b.state = s))
theorem dg_beq (a b : Dg) : (a.bs == b.bs) = decide (a = b) := by
  rw [Bool.eq_iff_iff, beq_iff_eq, decide_eq_true_eq]
  exact ⟨fun h => Dg.ext' h, fun h => by rw [h]⟩
theorem bfollows_meets (b : Blk) (e h : Int) (p s : Dg) : Meets Tryd.prog G fn_block_Follows [b.avS, .v (.int .i64 e), .v (.int .i64 h), dv p, dv s] [] true (.v (.bool (b.follows e h p s))) [] := by
  refine meets_of_go mix k_block_Follows ⟨by simp, by simp, by simp⟩ ?_
  have m1 := bgood_meets (G := G) b
  unfold Blk.follows
  have e1 := dg_beq b.prev p
  have e2 := dg_beq b.state s
  generalize b.good = g at *
  simp [Blk.avS, dv]
  refine call_intro m1 ?_ ?_
  · simp [Blk.avS, dv]
  cases g
  · simp [Blk.avS, dv]
    refine post_end (.inr rfl) ?_
    simp
  by_cases c1 : b.epoch = e
  · by_cases c2 : b.height = h
    · by_cases c3 : b.prev = p
      · by_cases c4 : b.state = s
        · rw [decide_eq_true c3] at e1; rw [decide_eq_true c4] at e2
          simp [Blk.avS, dv, c1, c2, e1, e2]
          refine post_end (.inr rfl) ?_
          simp [c1, c2, c3, c4]
        · rw [decide_eq_true c3] at e1; rw [decide_eq_false c4] at e2
          simp [Blk.avS, dv, c1, c2, e1, e2]
          refine post_end (.inr rfl) ?_
          simp [c1, c2, c3, c4]
      · rw [decide_eq_false c3] at e1
        simp [Blk.avS, dv, c1, c2, e1]
        refine post_end (.inr rfl) ?_
        simp [c1, c2, c3]
    · simp [Blk.avS, dv, c1, c2]
      refine post_end (.inr rfl) ?_
      simp [c1, c2]
  · simp [Blk.avS, dv, c1]
    refine post_end (.inr rfl) ?_
    simp [c1]
end Go.Proofs.YtmdjimkndeklmaaDoor.WL
