/-
  CHAPTER 01: contracts of the reference's writing.
-/
import Derived.Test.YtmdjimkndeklmaaDoorCo
import Derived.Test.YtmdjimkndeklmaaDoorM01
namespace Go.Proofs.YtmdjimkndeklmaaDoor.WL
open Go
set_option maxHeartbeats 4000000

theorem be8_set (n : Int) (j : Nat) (h : j < 8) : (zeros (8 - j) ++ (be8 n).drop (8 - j)).set (7 - j) (u8 (n.fdiv (2 ^ (8 * j)))) = zeros (8 - (j + 1)) ++ (be8 n).drop (8 - (j + 1)) := by
  rw [Int.fdiv_eq_ediv_of_nonneg _ (Int.le_of_lt (Int.pow_pos (by decide)))]
  match j, h with
  | 0, _ => simp [be8, zeros]
  | 1, _ => simp [be8, zeros]
  | 2, _ => simp [be8, zeros]
  | 3, _ => simp [be8, zeros]
  | 4, _ => simp [be8, zeros]
  | 5, _ => simp [be8, zeros]
  | 6, _ => simp [be8, zeros]
  | 7, _ => simp [be8, zeros]

theorem rfnum_meets {G : Nat → Option AV} (n : Int) : Meets Tryd.prog G fn_r01_Num [.v (.int .i64 n)] [] true (.v (.string (mkS (be8 n)))) [] := by
  refine meets_of_go mix k_r01_Num ⟨by simp, by simp, by simp⟩ ?_
  simp
  refine go_up 8 (fun j (x : Bytes) => x = zeros (8 - j) ++ (be8 n).drop (8 - j)) (fun j x c => ⟨[(0, .v (.int .i64 n)), (3, .ptr 3 3 0), (4, .v (.int .i64 (j : Nat)))], [(3, .var 3 (.arr 1 (B x)))], c⟩)
    (zeros 8) _ (Weak.refl _) (by simp) ?_ ?_
  · intro j x c hj hx
    have hw : IntKind.i64.wrap ((j : Int) + 1) = ((j + 1 : Nat) : Int) := w64_succ (by omega)
    have hw2 : IntKind.i64.wrap (7 - (j : Int)) = ((7 - j : Nat) : Int) := by rw [w64_id (by omega)]; omega
    have hw3 : IntKind.i64.wrap (8 * (j : Int)) = 8 * (j : Int) := w64_id (by omega)
    have hw4 : IntKind.u64.wrap (8 * (j : Int)) = 8 * (j : Int) := u64_id (by omega)
    have h0 : 0 ≤ 8 * (j : Int) := by omega
    have hj8 : (j : Int) < 8 := by omega
    have hxl : x.length = 8 := by rw [hx]; simp
    have hmin : min (8 * (j : Int)).toNat 64 = 8 * j := by omega
    have hs := be8_set n j hj
    rw [← hx] at hs
    have h7 : 7 - j < 8 := by omega
    have h7' : (7 - j : Nat) < (8 : Int) := by omega
    simp [hw, hw2, hw3, hw4, h0, hj8, hxl, hmin, h7, h7', bv_u8, B_set, Nat.mod_one]
    exact ⟨_, _, Weak.refl _, hs⟩
  · intro x c hx
    have hxl : x = be8 n := by rw [hx]; simp [zeros]
    subst hxl
    have ht : List.take 8 (be8 n) = be8 n := List.take_of_length_le (by simp)
    simp [ht]
    refine post_end (.inr rfl) ?_
    simp

theorem rfdigest_meets {G : Nat → Option AV} (d : Dg) : Meets Tryd.prog G fn_r01_Digest [dv d] [] true (.v (.string (mkS d.bs))) [] := by
  refine meets_of_go mix k_r01_Digest ⟨by simp, by simp, by simp⟩ ?_
  simp
  refine post_end (.inr rfl) ?_
  simp

end Go.Proofs.YtmdjimkndeklmaaDoor.WL
