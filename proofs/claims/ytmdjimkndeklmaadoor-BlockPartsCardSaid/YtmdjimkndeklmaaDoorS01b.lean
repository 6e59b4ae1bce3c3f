/-
  CHAPTER 01: contracts of the reader, second part.
-/
import Derived.Test.YtmdjimkndeklmaaDoorS01a
namespace Go.Proofs.YtmdjimkndeklmaaDoor.WL
open Go
set_option maxHeartbeats 4000000

/-- The reader's memory behind the first call. -/
def rdC (r : Rd) : List (Nat × Loc) := [(1000, .var 0 (.node [.row 1072000 1 5 r.pre.length r.s.length, .v (.bool r.bad)])), (1072000, .rows 5 1 (B (r.pre ++ r.s)))]

theorem num_meets {G : Nat → Option AV} (r : Rd) : Meets Tryd.prog G fn_code_Reader_Num [.ptr 1000 0 0] (rdM 0 r) true (.v (.int .i64 r.num)) (rdM 1 r.num') := by
  refine meets_of_go mix k_code_Reader_Num ⟨by simp [rdM], by simp, by simp [rdM]⟩ ?_
  simp
  refine call_intro (take_meets r 8) ?_ ?_
  · simp [rdM]
  simp [rdM]
  refine go_up (r.got 8).length (fun _ _ => True) (fun j (_ : Unit) c => ⟨[(3, .v (.int .u64 (beVal ((r.got 8).take j) : Nat))), (7, .row 1072000 1 5 (r.at_ 8) (r.got 8).length), (8, .v (.int .i64 ((r.got 8).length : Nat))), (9, .v (.int .i64 (j : Nat)))], rdC (r.skip 8), c⟩)
    () _ (Weak.refl _) trivial ?_ ?_
  · intro j _ c hj _
    have h8 : (r.got 8).length ≤ 8 := r.got_le 8
    have hw : IntKind.i64.wrap ((j : Int) + 1) = ((j + 1 : Nat) : Int) := w64_succ (by omega)
    have hlt : beVal ((r.got 8).take j) < 2 ^ 56 := Nat.lt_of_lt_of_le (beVal_lt _) (by
      rw [List.length_take]
      exact Nat.le_trans (Nat.pow_le_pow_right (by omega) (show min j (r.got 8).length ≤ 7 by omega)) (by decide))
    have hb := byte_u64 (beVal ((r.got 8).take j)) (r.got 8)[j] hlt
    rw [← beVal_take_succ _ _ hj] at hb
    have hget := r.at_get 8 j hj
    have hle := r.at_le 8
    simp [rdC, hj, hget, hw, hb]
    exact ⟨(), _, Weak.refl _, trivial⟩
  · intro _ c _
    simp [rdC]
    refine post_end (.inr rfl) ?_
    simp [Rd.num, Rd.num']

theorem num_nil {G : Nat → Option AV} : Meets Tryd.prog G fn_code_Reader_Num [.v (.pointer none)] [] true (.v (.int .i64 0)) [] := by
  refine meets_of_go mix k_code_Reader_Num ⟨by simp, by simp, by simp⟩ ?_
  simp
  refine call_intro (take_nil 8) ?_ ?_
  · simp
  simp
  refine go_up 0 (fun _ _ => True) (fun j (_ : Unit) c => ⟨[(3, .v (.int .u64 0)), (7, .v (.slice none 0 0)), (8, .v (.int .i64 0)), (9, .v (.int .i64 0))], [], c⟩)
    () _ (Weak.refl _) trivial ?_ ?_
  · intro j _ c hj _
    omega
  · intro _ c _
    have h : IntKind.i64.wrap 0 = 0 := by decide
    simp [h]
    refine post_end (.inr rfl) ?_
    simp

theorem digest_meets {G : Nat → Option AV} (r : Rd) : Meets Tryd.prog G fn_code_Reader_Digest [.ptr 1000 0 0] (rdM 0 r) true (dv r.dg) (rdM 1 r.dg') := by
  refine meets_of_go mix k_code_Reader_Digest ⟨by simp [rdM], by simp, by simp [rdM]⟩ ?_
  have h1 : (32 : Nat) ≤ maxLen := by decide
  have h3 := r.at_le 32
  have h4 : (r.got 32).length ≤ 32 := r.got_le 32
  have h5 : (List.take (r.got 32).length (List.drop (r.at_ 32) ((r.skip 32).pre ++ (r.skip 32).s))) = r.got 32 := by rw [Rd.at_drop]; simp
  have h6 : splice (B (zeros 32)) 0 (B (r.got 32)) = B r.dg.bs := splice_zeros 32 (r.got 32)
  simp [h1]
  refine call_intro (take_meets r 32) ?_ ?_
  · simp [rdM]
  simp [rdM, h3, h4, h5, h6]
  refine post_end (.inr rfl) ?_
  simp [Rd.dg']

theorem digest_nil {G : Nat → Option AV} : Meets Tryd.prog G fn_code_Reader_Digest [.v (.pointer none)] [] true (dv Dg.zero) [] := by
  refine meets_of_go mix k_code_Reader_Digest ⟨by simp, by simp, by simp⟩ ?_
  have h1 : (32 : Nat) ≤ maxLen := by decide
  have h6 : splice (B (zeros 32)) 0 (B []) = B (zeros 32) := splice_zeros 32 []
  simp only [B_nil] at h6
  simp [h1]
  refine call_intro (take_nil 32) ?_ ?_
  · simp
  simp [h6]
  refine post_end (.inr rfl) ?_
  simp

theorem in_meets {G : Nat → Option AV} (r : Rd) (lo hi : Int) : Meets Tryd.prog G fn_code_Reader_In [.ptr 1000 0 0, .v (.int .i64 lo), .v (.int .i64 hi)] (rdM 0 r) true (.v (.int .i64 (r.inn lo hi))) (rdM 1 (r.inn' lo hi)) := by
  refine meets_of_go mix k_code_Reader_In ⟨by simp [rdM], by simp, by simp [rdM]⟩ ?_
  simp
  refine call_intro (num_meets r) ?_ ?_
  · simp [rdM]
  simp [rdM]
  by_cases h1 : lo ≤ r.num
  · by_cases h2 : r.num ≤ hi
    · cases hb : r.num'.bad
      · simp [h1, h2]
        refine post_end (.inr rfl) ?_
        simp [Rd.inn, Rd.inn', Rd.inOk, h1, h2, hb]
      · simp [h1, h2]
        refine post_end (.inr rfl) ?_
        simp [Rd.inn, Rd.inn', Rd.inOk, hb, Rd.fault]
    · simp [h1, h2]
      refine post_end (.inr rfl) ?_
      simp [Rd.inn, Rd.inn', Rd.inOk, h2, Rd.fault]
  · simp [h1]
    refine post_end (.inr rfl) ?_
    simp [Rd.inn, Rd.inn', Rd.inOk, h1, Rd.fault]

theorem in_nil {G : Nat → Option AV} (lo hi : Int) : Meets Tryd.prog G fn_code_Reader_In [.v (.pointer none), .v (.int .i64 lo), .v (.int .i64 hi)] [] true (.v (.int .i64 0)) [] := by
  refine meets_of_go mix k_code_Reader_In ⟨by simp, by simp, by simp⟩ ?_
  simp
  refine call_intro num_nil ?_ ?_
  · simp
  simp
  refine post_end (.inr rfl) ?_
  simp

theorem end_meets {G : Nat → Option AV} (r : Rd) : Meets Tryd.prog G fn_code_Reader_End [.ptr 1000 0 0] (rdM 0 r) true (.v (.bool r.done)) (rdM 1 r) := by
  refine meets_of_go mix k_code_Reader_End ⟨by simp [rdM], by simp, by simp [rdM]⟩ ?_
  simp
  refine call_intro (good_meets r) ?_ ?_
  · simp [rdM]
  cases hb : r.bad
  · simp [rdM]
    refine post_end (.inr rfl) ?_
    simp [Rd.done, hb]
  · simp [rdM]
    refine post_end (.inr rfl) ?_
    simp [Rd.done, hb]

theorem end_nil {G : Nat → Option AV} : Meets Tryd.prog G fn_code_Reader_End [.v (.pointer none)] [] true (.v (.bool false)) [] := by
  refine meets_of_go mix k_code_Reader_End ⟨by simp, by simp, by simp⟩ ?_
  simp
  refine call_intro good_nil ?_ ?_
  · simp
  simp
  refine post_end (.inr rfl) ?_
  simp
end Go.Proofs.YtmdjimkndeklmaaDoor.WL
