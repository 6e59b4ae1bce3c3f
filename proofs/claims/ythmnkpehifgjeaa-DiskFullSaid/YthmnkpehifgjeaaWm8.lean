/- Texts put together: L16d. -/
import Derived.Test.YthmnkpehifgjeaaWm7
section
/-
  CHAPTER 16: walks of laws: a disk that is full.
-/
namespace Go.Proofs.Ythmnkpehifgjeaa.WL
open Go
set_option maxHeartbeats 8000000
variable {G : Nat → Option AV}

theorem diskFull_walk (name b : Bytes) (less : Int) : Meets Try.prog G fn_l16_DiskFull [.v (.string (mkS name)), .sl 1 (B b), .v (.int .i64 less)] [] true (.v (.bool true)) [] := by
  refine meets_of_go mix k_l16_DiskFull ⟨by simp, by simp, by simp⟩ ?_
  by_cases c1 : (4096 : Int) < (b.length : Nat)
  · simp
    refine call_intro alive16_meets ?_ ?_
    · simp
    simp [c1]
    refine post_end (.inr rfl) ?_
    simp
  by_cases c2 : (1024 : Int) < (name.length : Nat)
  · simp
    refine call_intro alive16_meets ?_ ?_
    · simp
    simp [c1, c2]
    refine post_end (.inr rfl) ?_
    simp
  by_cases c3 : less < 0
  · simp
    refine call_intro alive16_meets ?_ ?_
    · simp
    simp [c1, c2, c3]
    refine post_end (.inr rfl) ?_
    simp
  by_cases c4 : (4096 : Int) < less
  · simp
    refine call_intro alive16_meets ?_ ?_
    · simp
    simp [c1, c2, c3, c4]
    refine post_end (.inr rfl) ?_
    simp
  by_cases c5 : name = [98, 105, 103]
  · subst c5
    simp
    refine call_intro alive16_meets ?_ ?_
    · simp
    simp [c1, c2, c3, c4]
    refine post_end (.inr rfl) ?_
    simp
  have hne : (name == [98, 105, 103]) = false := by simpa using c5
  obtain ⟨l, rfl⟩ : ∃ l : Nat, less = (l : Nat) := ⟨less.toNat, by omega⟩
  have hl : l ≤ 4096 := by omega
  have hw : IntKind.i64.wrap (4194304 - (l : Int)) = ((4194304 - l : Nat) : Int) := by rw [w64_id (by omega)]; omega
  obtain ⟨N, hN⟩ : ∃ N, 4194304 - l = N := ⟨_, rfl⟩
  rw [hN] at hw
  have hmk1 : N ≤ 281474976710656 := by omega
  have hmk2 : N ≤ maxLen := le_max (by omega)
  have m1 := ins_ok0_0 (G := G) [98, 105, 103] (zeros N) 0 0 0 (by omega) (by omega) (by simp; omega)
  have m2 := acts_meets1 (G := G) ⟨[98, 105, 103], zeros N, []⟩ false 1 0 0
  try dsimp only at m1
  try dsimp only at m2
  simp only [fz_zero] at m1
  by_cases c6 : (l : Int) < (b.length : Nat)
  · have m3 := app_full1 (G := G) ⟨[98, 105, 103], zeros N, []⟩ name b 1 0 0 (by simp only [Fl.size, zeros_length, List.length_nil]; omega) (by omega) (by simp only [Fl.size, zeros_length, List.length_nil]; omega)
    have m4 := ins_full1 (G := G) ⟨[98, 105, 103], zeros N, []⟩ name b 1 0 0 (by simp only [Fl.size, zeros_length, List.length_nil]; omega) (by omega) (by simp only [Fl.size, zeros_length, List.length_nil]; omega)
    have m5 := read_none1 (G := G) ⟨[98, 105, 103], zeros N, []⟩ name c5 1 0 0
    try dsimp only at m3
    try dsimp only at m4
    try dsimp only at m5
    simp
    refine call_intro alive16_meets ?_ ?_
    · simp
    simp [c1, c2, c3, c4, hne]
    refine call_intro new_meets ?_ ?_
    · simp
    simp [hw, hmk1, hmk2]
    refine call_intro m1 ?_ ?_
    · simp [dkM]
    simp [dkM, c6]
    refine call_intro m2 ?_ ?_
    · simp [dkM]
    simp [dkM]
    refine call_intro m3 ?_ ?_
    · simp [dkM]
    simp [dkM]
    refine call_intro m2 ?_ ?_
    · simp [dkM]
    simp [dkM]
    refine call_intro m4 ?_ ?_
    · simp [dkM]
    simp [dkM]
    refine call_intro m5 ?_ ?_
    · simp [dkM]
    simp [dkM]
    refine post_end (.inr rfl) ?_
    simp
  · have m3 := app_ok1_1 (G := G) ⟨[98, 105, 103], zeros N, []⟩ name b c5 1 0 0 (by omega) (by omega) (by simp only [Fl.size, zeros_length, List.length_nil]; omega)
    have m5 := read_ok2_1 (G := G) ⟨[98, 105, 103], zeros N, []⟩ ⟨name, [], b⟩ c5 2 0 0 (by simp only [Fl.size, List.length_nil]; omega)
    try dsimp only at m3
    try dsimp only at m5
    simp only [fz_zero, List.nil_append, List.length_nil, Nat.zero_add] at m3 m5
    simp
    refine call_intro alive16_meets ?_ ?_
    · simp
    simp [c1, c2, c3, c4, hne]
    refine call_intro new_meets ?_ ?_
    · simp
    simp [hw, hmk1, hmk2]
    refine call_intro m1 ?_ ?_
    · simp [dkM]
    simp [dkM, c6]
    refine call_intro m2 ?_ ?_
    · simp [dkM]
    simp [dkM]
    refine call_intro m3 ?_ ?_
    · simp [dkM]
    simp [dkM]
    refine call_intro m5 ?_ ?_
    · simp [dkM]
    simp [dkM]
    refine post_end (.inr rfl) ?_
    simp
end Go.Proofs.Ythmnkpehifgjeaa.WL

end
