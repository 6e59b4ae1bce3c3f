/-
  CHAPTER 02: contracts: words.
-/
import Derived.Test.YtmdjimkndeklmaaDoorCo
import Derived.Test.YtmdjimkndeklmaaDoorM02
namespace Go.Proofs.YtmdjimkndeklmaaDoor.WL
open Go
set_option maxHeartbeats 4000000

theorem rot_meets {G : Nat → Option AV} (x : UInt32) (r : Nat) (h : 0 < r ∧ r < 32) : Meets Tryd.prog G fn_bits_RotateLeft32 [wv x, .v (.int .i64 (-(r : Int)))] [] true (wv (rotr x r)) [] := by
  refine meets_of_go mix k_bits_RotateLeft32 ⟨by simp, by simp, by simp⟩ ?_
  have h1 : bitsOp .and .u64 (IntKind.u64.wrap (-(r : Int))) 31 = ((32 - r : Nat) : Int) := by
    obtain ⟨k, rfl⟩ : ∃ k : Fin 32, r = k.val := ⟨⟨r, h.2⟩, rfl⟩
    revert h
    revert k
    decide +kernel
  have h2 : (0 : Int) ≤ ((32 - r : Nat) : Int) := by omega
  have h3 : IntKind.u64.wrap (32 - ((32 - r : Nat) : Int)) = (r : Int) := by rw [u64_id (by omega)]; omega
  have h4 : min (32 - r) 32 = 32 - r := by omega
  have h5 : min r 32 = r := by omega
  have h6 := u32_shl x (32 - r) (by omega)
  have h7 := u32_shr x r h.2
  have h8 : (x <<< UInt32.ofNat (32 - r)) ||| (x >>> UInt32.ofNat r) = rotr x r := UInt32.or_comm _ _
  simp [h1, h2, h3, h4, h5, h6, h7, u32_or, h8]
  refine post_end (.inr rfl) ?_
  simp

theorem word_meets {G : Nat → Option AV} (b : Bytes) (h : 4 ≤ b.length) : Meets Tryd.prog G fn_sha_word [.sl 1 (B b)] [] true (wv (word4 (b.getD 0 0) (b.getD 1 0) (b.getD 2 0) (b.getD 3 0))) [] := by
  refine meets_of_go mix k_sha_word ⟨by simp, by simp, by simp⟩ ?_
  match b, h with
  | a :: b :: c :: d :: r, _ =>
    have h1 := u32_shl a.toUInt32 24 (by decide)
    have h2 := u32_shl b.toUInt32 16 (by decide)
    have h3 := u32_shl c.toUInt32 8 (by decide)
    simp only [Int.reducePow] at h1 h2 h3
    simp [u32_byte, h1, h2, h3, u32_or]
    refine post_end (.inr rfl) ?_
    simp [word4]

theorem turn_meets {G : Nat → Option AV} (x : UInt32) (r : Nat) (h : 0 < r ∧ r < 32) : Meets Tryd.prog G fn_r02_turn [wv x, .v (.int .u64 (r : Int))] [] true (wv (rotr x r)) [] := by
  refine meets_of_go mix k_r02_turn ⟨by simp, by simp, by simp⟩ ?_
  have h2 : (0 : Int) ≤ ((32 - r : Nat) : Int) := by omega
  have h3 : IntKind.u64.wrap (32 - (r : Int)) = ((32 - r : Nat) : Int) := by rw [u64_id (by omega)]; omega
  have h4 : min (32 - r) 32 = 32 - r := by omega
  have h5 : min r 32 = r := by omega
  have h6 := u32_shl x (32 - r) (by omega)
  have h7 := u32_shr x r h.2
  simp [h2, h3, h4, h5, h6, h7, u32_or]
  refine post_end (.inr rfl) ?_
  simp [rotr]

theorem three_meets {G : Nat → Option AV} (x : UInt32) (i j k : Nat) (hi : 0 < i ∧ i < 32) (hj : 0 < j ∧ j < 32) (hk : 0 < k ∧ k < 32) : Meets Tryd.prog G fn_r02_three [wv x, .v (.int .u64 (i : Int)), .v (.int .u64 (j : Int)), .v (.int .u64 (k : Int))] [] true (wv (rotr x i ^^^ rotr x j ^^^ rotr x k)) [] := by
  refine meets_of_go mix k_r02_three ⟨by simp, by simp, by simp⟩ ?_
  simp
  refine call_intro (turn_meets x i hi) ?_ ?_
  · simp
  simp
  refine call_intro (turn_meets x j hj) ?_ ?_
  · simp
  simp [u32_xor]
  refine call_intro (turn_meets x k hk) ?_ ?_
  · simp
  simp [u32_xor]
  refine post_end (.inr rfl) ?_
  simp
end Go.Proofs.YtmdjimkndeklmaaDoor.WL
