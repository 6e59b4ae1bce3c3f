/-
  CHAPTER 02: walks of laws: cuts, ends.
-/
import Derived.Test.YtngemgmnpcaamaaDoorL02a
namespace Go.Proofs.YtngemgmnpcaamaaDoor.WL
open Go
set_option maxHeartbeats 4000000
attribute [local irreducible] comp hb sha

theorem cuts_walk (b : Bytes) (i j : Int) (hi : -9223372036854775808 ≤ i ∧ i < 9223372036854775808) (hj : -9223372036854775808 ≤ j ∧ j < 9223372036854775808) : Meets Tryd.prog Gt fn_l02_ShaCuts [.sl 1 (B b), .v (.int .i64 i), .v (.int .i64 j)] [] true (.v (.bool true)) [] := by
  refine meets_of_go mix k_l02_ShaCuts ⟨by simp, by simp, by simp⟩ ?_
  simp
  refine call_intro alive2_meets ?_ ?_
  · simp
  by_cases c1 : (8192 : Int) < (b.length : Nat)
  · simp [c1]
    refine post_end (.inr rfl) ?_
    simp
  by_cases c2 : i < 0
  · simp [c1, c2]
    refine post_end (.inr rfl) ?_
    simp
  by_cases c3 : j < i
  · simp [c1, c2, c3]
    refine post_end (.inr rfl) ?_
    simp
  by_cases c4 : (b.length : Int) < j
  · simp [c1, c2, c3, c4]
    refine post_end (.inr rfl) ?_
    simp
  obtain ⟨n, rfl⟩ : ∃ n : Nat, i = n := ⟨i.toNat, by omega⟩
  obtain ⟨m, rfl⟩ : ∃ m : Nat, j = m := ⟨j.toNat, by omega⟩
  have b1 : n ≤ m ∧ (n : Int) ≤ m ∧ m ≤ b.length ∧ (m : Int) ≤ (b.length : Nat) ∧ n ≤ b.length ∧ (n : Int) ≤ (b.length : Nat) := by omega
  have e : cat [List.take n b, List.drop n (List.take m b), List.drop m b] = b := by
    have h1 : List.take n b = List.take n (List.take m b) := by rw [List.take_take]; congr 1; omega
    have h2 : cat [List.take n b, List.drop n (List.take m b), List.drop m b] = List.take n b ++ (List.drop n (List.take m b) ++ List.drop m b) := by simp [cat]
    rw [h2, h1, ← List.append_assoc, List.take_append_drop, List.take_append_drop]
  have h1 := of_meets [List.take n b, List.drop n (List.take m b), List.drop m b] (by simp) (by rw [e]; omega)
  have h2 := rof_meets (G := Gt) b (by omega)
  rw [e] at h1
  generalize sha b = d at *
  simp [c1, c2, c3, c4, b1]
  refine call_intro h1 ?_ ?_
  · simp [Bss]
  simp
  refine call_intro h2 ?_ ?_
  · simp
  simp [dv]
  refine post_end (.inr rfl) ?_
  simp
end Go.Proofs.YtngemgmnpcaamaaDoor.WL
