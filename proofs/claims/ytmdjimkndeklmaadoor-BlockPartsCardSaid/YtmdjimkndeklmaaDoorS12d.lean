/-
  CHAPTER 12: contracts of the reference: what can be, what is the same.
-/
import Derived.Test.YtmdjimkndeklmaaDoorS12c
namespace Go.Proofs.YtmdjimkndeklmaaDoor.WL
open Go
set_option maxHeartbeats 4000000
variable {G : Nat → Option AV}

def Blk.same (a b : Blk) : Bool := decide (a.epoch = b.epoch) && decide (a.height = b.height) && decide (a.prev = b.prev) && decide (a.state = b.state) && decide (a.next = b.next) && decide (a.qs = b.qs)
theorem Blk.same_iff (a b : Blk) : a.same b = true ↔ a = b := by
  cases a; cases b
  simp [Blk.same, and_assoc]
theorem rbsame_meets (a b : Blk) (hn : a.qs.length ≤ 1000000) : Meets Tryd.prog G fn_r12_Same [a.avS, b.avS] [] true (.v (.bool (a.same b))) [] := by
  refine meets_of_go mix k_r12_Same ⟨by simp, by simp, by simp⟩ ?_
  unfold Blk.same
  by_cases c1 : a.epoch = b.epoch
  case neg =>
    simp [Blk.avS, dv, c1]
    refine post_end (.inr rfl) ?_
    simp
  by_cases c2 : a.height = b.height
  case neg =>
    simp [Blk.avS, dv, c1, c2]
    refine post_end (.inr rfl) ?_
    simp
  by_cases c3 : a.prev = b.prev
  case neg =>
    simp [Blk.avS, dv, c1, c2, c3]
    refine post_end (.inr rfl) ?_
    simp
  by_cases c4 : a.state = b.state
  case neg =>
    simp [Blk.avS, dv, c1, c2, c3, c4]
    refine post_end (.inr rfl) ?_
    simp
  by_cases c5 : a.next = b.next
  case neg =>
    simp [Blk.avS, dv, c1, c2, c3, c4, c5]
    refine post_end (.inr rfl) ?_
    simp
  rw [decide_eq_true c1, decide_eq_true c2, decide_eq_true c3, decide_eq_true c4, decide_eq_true c5]
  obtain ⟨ve, vh, vp, vs, vn, xs⟩ := a
  obtain ⟨ue, uh, up, us, un, ys⟩ := b
  simp only at c1 c2 c3 c4 c5 hn ⊢
  subst c1 c2 c3 c4 c5
  simp only [Bool.true_and]
  by_cases c6 : xs.length = ys.length
  case neg =>
    have d6 : ¬ xs = ys := fun h => c6 (by rw [h])
    have e6 : ¬ (xs.length : Int) = (ys.length : Nat) := by omega
    simp [Blk.avS, dv, c6, e6]
    refine post_end (.inr rfl) ?_
    simp [d6]
  simp [Blk.avS, dv, c6]
  refine go_up xs.length (fun j (_ : Unit) => ∀ i (h : i < xs.length) (h' : i < ys.length), i < j → xs[i] = ys[i]) (fun j (_ : Unit) c => ⟨[(2, .ptr 2 c 0), (3, .ptr 3 c 0), (50, .v (.int .i64 (xs.length : Nat))), (51, .v (.int .i64 (j : Nat)))],
    [(2, .var c (Blk.avS ⟨ve, vh, vp, vs, vn, xs⟩)), (3, .var c (Blk.avS ⟨ve, vh, vp, vs, vn, ys⟩))], c + 1⟩) () _ (Weak.re (by simp [Blk.avS, dv, c6])) (by intro i _ _ h; omega) ?_ ?_
  · intro j _ c hj hx
    have hw : IntKind.i64.wrap ((j : Int) + 1) = ((j + 1 : Nat) : Int) := w64_succ (by omega)
    have hj' : j < ys.length := by omega
    have hcmp := cmp_reqs xs[j] ys[j]
    by_cases c7 : xs[j] = ys[j]
    · rw [decide_eq_true c7] at hcmp
      simp [hj, hj', Blk.avS, dv, Req.av, Chg.av, hcmp, hw]
      refine ⟨(), _, Weak.re (by simp [Blk.avS, dv]), ?_⟩
      intro i hi hi' hij
      rcases (show i < j ∨ i = j by omega) with h | rfl
      · exact hx i hi hi' h
      · exact c7
    · rw [decide_eq_false c7] at hcmp
      have d7 : ¬ xs = ys := fun h => c7 (by subst h; rfl)
      simp [hj, hj', Blk.avS, dv, Req.av, Chg.av, hcmp]
      refine post_end (.inr rfl) ?_
      simp [d7]
  · intro _ c hx
    have d7 : xs = ys := List.ext_getElem c6 fun i h h' => hx i h h' h
    simp [Blk.avS, dv]
    refine post_end (.inr rfl) ?_
    simp [d7]
end Go.Proofs.YtmdjimkndeklmaaDoor.WL
