/-
  CHAPTER 12: walks of laws.
-/
import Derived.Test.YtmdjimkndeklmaaS12f
import Derived.Test.YtmdjimkndeklmaaP12
namespace Go.Proofs.Ytmdjimkndeklmaa.WL
open Go
set_option maxHeartbeats 4000000
variable {G : Nat → Option AV}

def Blk.one : Blk := ⟨0, 1, Dg.zero, Dg.zero, Dg.zero, []⟩
theorem alive12_meets : Meets Try.prog G fn_l12_alive [] [] true (.v (.bool true)) [] := by
  refine meets_of_go mix k_l12_alive ⟨by simp, by simp, by simp⟩ ?_
  have hl : Blk.one.bytes.length = 120 := by rw [Blk.bytes_len]; rfl
  have m1 := bwrite_meets (G := G) [] Blk.one (by rw [hl]; simp) (by simp [Blk.one])
  rw [List.nil_append] at m1
  have m2 := bgood_meets (G := G) Blk.one
  have hg : Blk.one.good = true := by decide
  rw [hg] at m2
  have m3 := bytes_meets (G := G) Blk.one.bytes (by omega)
  have m4 := bfollows_meets (G := G) Blk.one 0 1 Dg.zero Dg.zero
  have hf : Blk.one.follows 0 1 Dg.zero Dg.zero = true := by unfold Blk.follows; rw [hg]; simp [Blk.one]
  rw [hf] at m4
  rw [hl] at m3
  generalize Blk.one.bytes = x at *
  have hx : List.take 120 x = x := List.take_of_length_le (by omega)
  simp
  refine call_intro m1 ?_ ?_
  · simp [wrM, Blk.avS, Blk.one, dv]
  simp [wrM, Blk.avS, Blk.one, dv]
  refine call_intro m2 ?_ ?_
  · simp [Blk.avS, Blk.one, dv]
  simp [wrM, hl]
  refine call_intro m3 ?_ ?_
  · simp [wrM, hl]
  simp [wrM, hl]
  refine call_intro m4 ?_ ?_
  · simp [Blk.avS, Blk.one, dv]
  simp
  refine post_end (.inr rfl) ?_
  simp

theorem blkFollows_walk (b : Blk) (e h : Int) (p s : Dg) (hf : ∀ q ∈ b.qs, q.key.length ≤ reachBytes ∧ q.val.length ≤ reachBytes ∧ q.old.length ≤ reachBytes) :
    Meets Try.prog G fn_l12_BlockFollows [b.avS, .v (.int .i64 e), .v (.int .i64 h), dv p, dv s] [] true (.v (.bool true)) [] := by
  refine meets_of_go mix k_l12_BlockFollows ⟨by simp, by simp, by simp⟩ ?_
  have m1 := bgreat_meets (G := G) b 8192 (by omega) hf
  have m2 := rbgood_meets (G := G) b
  have m3 := bfollows_meets (G := G) b e h p s
  have m4 := bfollows_meets (G := G) b b.epoch b.height b.prev b.state
  have hs : b.follows b.epoch b.height b.prev b.state = b.good := by simp [Blk.follows]
  rw [hs] at m4
  have hfo : b.follows e h p s = (b.good && (decide (b.epoch = e) && decide (b.height = h) && decide (b.prev = p) && decide (b.state = s))) := rfl
  rw [hfo] at m3
  have e1 := dg_beq b.prev p
  have e2 := dg_beq b.state s
  generalize b.good = g at *
  generalize b.great 8192 = gr at *
  simp [Blk.avS, dv]
  refine call_intro alive12_meets ?_ ?_
  · simp
  simp
  refine call_intro m1 ?_ ?_
  · simp [Blk.avS, dv]
  cases gr
  case true =>
    simp
    refine post_end (.inr rfl) ?_
    simp
  simp [Blk.avS, dv]
  refine call_intro m2 ?_ ?_
  · simp [Blk.avS, dv]
  cases g
  · simp [Blk.avS, dv]
    refine call_intro m3 ?_ ?_
    · simp [Blk.avS, dv]
    simp [Blk.avS, dv]
    refine call_intro m4 ?_ ?_
    · simp [Blk.avS, dv]
    simp [Blk.avS, dv]
    refine call_intro m2 ?_ ?_
    · simp [Blk.avS, dv]
    simp
    refine post_end (.inr rfl) ?_
    simp
  by_cases c1 : b.epoch = e
  · by_cases c2 : b.height = h
    · by_cases c3 : b.prev = p
      · by_cases c4 : b.state = s
        · rw [decide_eq_true c3] at e1; rw [decide_eq_true c4] at e2
          rw [decide_eq_true c1, decide_eq_true c2, decide_eq_true c3, decide_eq_true c4] at m3
          simp [Blk.avS, dv, c1, c2, e1, e2]
          refine call_intro m3 ?_ ?_
          · simp [Blk.avS, dv, c1, c2]
          simp [Blk.avS, dv, c1, c2]
          refine call_intro m4 ?_ ?_
          · simp [Blk.avS, dv, c1, c2]
          simp [Blk.avS, dv, c1, c2]
          refine call_intro m2 ?_ ?_
          · simp [Blk.avS, dv, c1, c2]
          simp
          refine post_end (.inr rfl) ?_
          simp
        · rw [decide_eq_true c3] at e1; rw [decide_eq_false c4] at e2
          rw [decide_eq_false c4] at m3
          simp only [Bool.and_false, Bool.false_and] at m3
          simp [Blk.avS, dv, c1, c2, e1, e2]
          refine call_intro m3 ?_ ?_
          · simp [Blk.avS, dv, c1, c2, e1, e2]
          simp [Blk.avS, dv, c1, c2, e1, e2]
          refine call_intro m4 ?_ ?_
          · simp [Blk.avS, dv, c1, c2, e1, e2]
          simp [Blk.avS, dv, c1, c2, e1, e2]
          refine call_intro m2 ?_ ?_
          · simp [Blk.avS, dv, c1, c2, e1, e2]
          simp
          refine post_end (.inr rfl) ?_
          simp
      · rw [decide_eq_false c3] at e1
        rw [decide_eq_false c3] at m3
        simp only [Bool.and_false, Bool.false_and] at m3
        simp [Blk.avS, dv, c1, c2, e1]
        refine call_intro m3 ?_ ?_
        · simp [Blk.avS, dv, c1, c2, e1]
        simp [Blk.avS, dv, c1, c2, e1]
        refine call_intro m4 ?_ ?_
        · simp [Blk.avS, dv, c1, c2, e1]
        simp [Blk.avS, dv, c1, c2, e1]
        refine call_intro m2 ?_ ?_
        · simp [Blk.avS, dv, c1, c2, e1]
        simp
        refine post_end (.inr rfl) ?_
        simp
    · rw [decide_eq_false c2] at m3
      simp only [Bool.and_false, Bool.false_and] at m3
      simp [Blk.avS, dv, c1, c2]
      refine call_intro m3 ?_ ?_
      · simp [Blk.avS, dv, c1, c2]
      simp [Blk.avS, dv, c1, c2]
      refine call_intro m4 ?_ ?_
      · simp [Blk.avS, dv, c1, c2]
      simp [Blk.avS, dv, c1, c2]
      refine call_intro m2 ?_ ?_
      · simp [Blk.avS, dv, c1, c2]
      simp
      refine post_end (.inr rfl) ?_
      simp
  · rw [decide_eq_false c1] at m3
    simp only [Bool.and_false, Bool.false_and] at m3
    simp [Blk.avS, dv, c1]
    refine call_intro m3 ?_ ?_
    · simp [Blk.avS, dv, c1]
    simp [Blk.avS, dv, c1]
    refine call_intro m4 ?_ ?_
    · simp [Blk.avS, dv, c1]
    simp [Blk.avS, dv, c1]
    refine call_intro m2 ?_ ?_
    · simp [Blk.avS, dv, c1]
    simp
    refine post_end (.inr rfl) ?_
    simp
end Go.Proofs.Ytmdjimkndeklmaa.WL
