/-
  CHAPTER 01: the laws' arguments.
-/
import Derived.Test.YtngemgmnpcaamaaS01h
namespace Go.Proofs.Ytngemgmnpcaamaa.WL
open Go

theorem map_of_all {α : Type} {f : α → AV} : ∀ {xs : List AV}, (∀ x ∈ xs, ∃ a, x = f a) → ∃ zs : List α, xs = zs.map f
  | [], _ => ⟨[], rfl⟩
  | x :: xs, h => by
    obtain ⟨a, rfl⟩ := h x List.mem_cons_self
    obtain ⟨zs, rfl⟩ := map_of_all (xs := xs) fun y hy => h y (List.mem_cons_of_mem _ hy)
    exact ⟨a :: zs, rfl⟩

theorem typed_u8 {n : Nat} {av : AV} (h : Typed Try.prog n 5 av) : ∃ b : Int, av = .v (.int .u8 b) := by
  cases n with
  | zero => exact h.elim
  | succ n =>
    simp only [Typed, Try.underlying5] at h
    obtain ⟨i, rfl, _⟩ := h
    exact ⟨i, rfl⟩

theorem typed_bytes {n : Nat} {av : AV} (h : Typed Try.prog n 22 av) : ∃ bs : List Int, av = .sl 1 (B bs) ∧ bs.length ≤ maxLen := by
  cases n with
  | zero => exact h.elim
  | succ n =>
    simp only [Typed, Try.underlying22] at h
    obtain ⟨xs, rfl, hl, hx⟩ := h
    obtain ⟨bs, rfl⟩ := map_of_all (f := fun b : Int => AV.v (.int .u8 b)) (xs := xs) fun x hxx => typed_u8 (hx x hxx)
    have e : Try.prog.cellsOf 5 = 1 := by kernel_rfl
    rw [e]
    exact ⟨bs, rfl, by simpa using hl⟩

def zeros (n : Nat) : List Int := List.replicate n 0
theorem zeros_eq (n : Nat) : List.replicate n (AV.v (.int .u8 0)) = B (zeros n) := by simp [B, zeros]

theorem digest_fails {G : Nat → Option AV} (bs : List Int) (off n : Nat) (hk : n < 32) : Meets Try.prog G 15 [.ptr 1000 0 0] (rdM 0 bs off n) true (.arr 1 (B (zeros 32))) badM := by
  refine meets_of_go mix c15_chk ⟨by simp [badM], by simp, by simp [badM]⟩ ?_
  have h1 : (32 : Nat) ≤ maxLen := by decide
  have hz : (zeros 32).length = 32 := by simp [zeros]
  have hs : splice (B (zeros 32)) 0 [] = B (zeros 32) := by simp [splice]
  simp [-List.reduceReplicate, c15, c15r0, c15r1, c15r2, h1, zeros_eq, hz]
  refine call_intro (take_fails bs off n 32 (.inr (by omega))) ?_ ?_
  · simp [rdM, badM]
  simp [-List.reduceReplicate, rdM, badM, hz, hs, c15r3]
  refine post_end (.inr rfl) ?_
  simp [-List.reduceReplicate, c15R, hz]

end Go.Proofs.Ytngemgmnpcaamaa.WL
