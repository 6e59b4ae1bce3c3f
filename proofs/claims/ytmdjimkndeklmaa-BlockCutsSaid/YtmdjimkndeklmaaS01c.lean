/-
  CHAPTER 01: contracts of the reader: texts.
-/
import Derived.Test.YtmdjimkndeklmaaS01b
namespace Go.Proofs.Ytmdjimkndeklmaa.WL
open Go
set_option maxHeartbeats 4000000

def rdT (g : Nat) (r : Rd) : List (Nat × Loc) := [(1000, .var 0 (.node [.row 1092000 1 g r.pre.length r.s.length, .v (.bool r.bad)])), (1092000, .rows g 1 (B (r.pre ++ r.s)))]

theorem text_meets {G : Nat → Option AV} (r : Rd) (mx : Int) : Meets Try.prog G fn_code_Reader_Text [.ptr 1000 0 0, .v (.int .i64 mx)] (rdM 0 r) true (.v (.string (mkS (r.text mx)))) (rdM 1 (r.text' mx)) := by
  refine meets_of_go mix k_code_Reader_Text ⟨by simp [rdM], by simp, by simp [rdM]⟩ ?_
  simp
  refine call_intro (take_meets r 4) ?_ ?_
  · simp [rdM]
  simp [rdM]
  refine go_up (r.got 4).length (fun _ _ => True) (fun j (_ : Unit) c => ⟨[(0, .ptr 1000 0 0), (1, .v (.int .i64 mx)), (5, .v (.int .i64 (beVal ((r.got 4).take j) : Nat))), (9, .row 1092000 1 5 (r.at_ 4) (r.got 4).length), (10, .v (.int .i64 ((r.got 4).length : Nat))), (11, .v (.int .i64 (j : Nat)))], rdT 5 (r.skip 4), c⟩)
    () _ (Weak.refl _) trivial ?_ ?_
  · intro j _ c hj _
    have h8 : (r.got 4).length ≤ 4 := r.got_le 4
    have hw : IntKind.i64.wrap ((j : Int) + 1) = ((j + 1 : Nat) : Int) := w64_succ (by omega)
    have hlt : beVal ((r.got 4).take j) < 2 ^ 24 := Nat.lt_of_lt_of_le (beVal_lt _) (by
      rw [List.length_take]
      exact Nat.le_trans (Nat.pow_le_pow_right (by omega) (show min j (r.got 4).length ≤ 3 by omega)) (by decide))
    have hb := byte_i64 (beVal ((r.got 4).take j)) (r.got 4)[j] (by omega)
    have hu := (r.got 4)[j].toNat_lt
    rw [w64_id (n := ((beVal ((r.got 4).take j) * 256 + (r.got 4)[j].toNat : Nat) : Int)) (by omega), ← beVal_take_succ _ _ hj] at hb
    have hget := r.at_get 4 j hj
    have hle := r.at_le 4
    simp [rdT, hj, hget, hw, hb]
    exact ⟨(), _, Weak.refl _, trivial⟩
  · intro _ c _
    have h3 := (r.skip 4).at_le (r.len mx)
    have h5 : (List.take ((r.skip 4).got (r.len mx)).length (List.drop ((r.skip 4).at_ (r.len mx)) (((r.skip 4).skip (r.len mx)).pre ++ ((r.skip 4).skip (r.len mx)).s))) = (r.skip 4).got (r.len mx) := by rw [Rd.at_drop]; simp
    by_cases hm : mx < (beVal (r.got 4) : Int)
    · have hl : r.len mx = -1 := by simp [Rd.len, hm]
      rw [hl] at h3 h5
      simp [rdT, hm]
      refine call_intro (take_meets (r.skip 4) (-1)) ?_ ?_
      · simp [rdM]
      simp [rdM, h3, h5]
      refine post_end (.inr rfl) ?_
      simp [Rd.text, Rd.text', hl]
    · have hl : r.len mx = beVal (r.got 4) := by simp [Rd.len, hm]
      rw [hl] at h3 h5
      simp [rdT, hm]
      refine call_intro (take_meets (r.skip 4) (beVal (r.got 4) : Nat)) ?_ ?_
      · simp [rdM]
      simp [rdM, h3, h5]
      refine post_end (.inr rfl) ?_
      simp [Rd.text, Rd.text', hl]

theorem text_nil {G : Nat → Option AV} (mx : Int) : Meets Try.prog G fn_code_Reader_Text [.v (.pointer none), .v (.int .i64 mx)] [] true (.v (.string (mkS []))) [] := by
  refine meets_of_go mix k_code_Reader_Text ⟨by simp, by simp, by simp⟩ ?_
  simp
  refine call_intro (take_nil 4) ?_ ?_
  · simp
  simp
  refine go_up 0 (fun _ _ => True) (fun j (_ : Unit) c => ⟨[(0, .v (.pointer none)), (1, .v (.int .i64 mx)), (5, .v (.int .i64 0)), (9, .v (.slice none 0 0)), (10, .v (.int .i64 0)), (11, .v (.int .i64 0))], [], c⟩)
    () _ (Weak.refl _) trivial ?_ ?_
  · intro j _ c hj _
    omega
  · intro _ c _
    by_cases hm : mx < 0
    · simp [hm]
      refine call_intro (take_nil (-1)) ?_ ?_
      · simp
      simp
      refine post_end (.inr rfl) ?_
      simp
    · simp [hm]
      refine call_intro (take_nil 0) ?_ ?_
      · simp
      simp
      refine post_end (.inr rfl) ?_
      simp
end Go.Proofs.Ytmdjimkndeklmaa.WL
