/-
  CHAPTER 01: contracts of the reference.
-/
import Derived.Test.YtmdjimkndeklmaaDoorS01c
namespace Go.Proofs.YtmdjimkndeklmaaDoor.WL
open Go
set_option maxHeartbeats 4000000

/-- The reference's reader. -/
def rfM (r : Rd) : List (Nat × Loc) := [(1000, .var 0 (.node [.v (.string (mkS r.s)), .v (.bool r.bad)]))]

theorem rtake_meets {G : Nat → Option AV} (r : Rd) (k : Int) : Meets Tryd.prog G fn_r01_Reader_Take [.ptr 1000 0 0, .v (.int .i64 k)] (rfM r) true (.v (.string (mkS (r.got k)))) (rfM (r.skip k)) := by
  refine meets_of_go mix k_r01_Reader_Take ⟨by simp [rfM], by simp, by simp [rfM]⟩ ?_
  cases hok : r.ok k with
  | true =>
    have h := hok
    simp only [Rd.ok, Bool.and_eq_true, Bool.not_eq_true', decide_eq_true_eq] at h
    obtain ⟨⟨h1, h2⟩, h3⟩ := h
    have h4 : ¬ (k < 0) := by omega
    have h5 : ¬ ((r.s.length : Int) < k) := by omega
    obtain ⟨n, rfl⟩ := Int.eq_ofNat_of_zero_le h2
    have h6 : n ≤ r.s.length := by omega
    have h7 : r.s.take r.s.length = r.s := by simp
    simp [rfM, h1, h3, h4, h5, h6, h7, Rd.got, Rd.skip, hok]
    refine post_end (.inr rfl) ?_
    simp
  | false =>
    have h : r.bad = true ∨ k < 0 ∨ (r.s.length : Int) < k := by
      simp only [Rd.ok] at hok
      cases hb : r.bad
      · simp [hb] at hok; omega
      · simp
    cases hb : r.bad
    · simp [hb] at h
      by_cases h0 : k < 0
      · simp [rfM, hb, h0, Rd.got, Rd.skip, hok]
        refine post_end (.inr rfl) ?_
        simp [Rd.fault]
      · have h1 : (r.s.length : Int) < k := by omega
        simp [rfM, hb, h0, h1, Rd.got, Rd.skip, hok]
        refine post_end (.inr rfl) ?_
        simp [Rd.fault]
    · simp [rfM, hb, Rd.got, Rd.skip, hok]
      refine post_end (.inr rfl) ?_
      simp [Rd.fault]

theorem rnum_meets {G : Nat → Option AV} (r : Rd) : Meets Tryd.prog G fn_r01_Reader_Num [.ptr 1000 0 0] (rfM r) true (.v (.int .i64 r.num)) (rfM r.num') := by
  refine meets_of_go mix k_r01_Reader_Num ⟨by simp [rfM], by simp, by simp [rfM]⟩ ?_
  simp
  refine call_intro (rtake_meets r 8) ?_ ?_
  · simp [rfM]
  simp [rfM]
  have hz : IntKind.i64.wrap 0 = 0 := by decide
  refine go_up (r.got 8).length (fun _ _ => True) (fun j (_ : Unit) c => ⟨[(3, .v (.string (mkS (r.got 8)))), (4, .v (.int .i64 (IntKind.i64.wrap (beVal ((r.got 8).take j) : Nat)))), (5, .v (.int .i64 (j : Nat)))], rfM (r.skip 8), c⟩)
    () _ (by simp [beVal, hz, rfM]; exact Weak.refl _) trivial ?_ ?_
  · intro j _ c hj _
    have h8 : (r.got 8).length ≤ 8 := r.got_le 8
    have hw : IntKind.i64.wrap ((j : Int) + 1) = ((j + 1 : Nat) : Int) := w64_succ (by omega)
    have hlt : beVal ((r.got 8).take j) < 2 ^ 56 := Nat.lt_of_lt_of_le (beVal_lt _) (by
      rw [List.length_take]
      exact Nat.le_trans (Nat.pow_le_pow_right (by omega) (show min j (r.got 8).length ≤ 7 by omega)) (by decide))
    have hb := byte_i64 (beVal ((r.got 8).take j)) (r.got 8)[j] hlt
    have hi : IntKind.i64.wrap (beVal ((r.got 8).take j) : Nat) = (beVal ((r.got 8).take j) : Nat) := w64_id (by omega)
    rw [← beVal_take_succ _ _ hj] at hb
    simp [rfM, hj, hw, hi, hb]
    exact ⟨(), _, Weak.refl _, trivial⟩
  · intro _ c _
    simp [rfM]
    refine post_end (.inr rfl) ?_
    simp [Rd.num, Rd.num']

theorem rdigest_meets {G : Nat → Option AV} (r : Rd) : Meets Tryd.prog G fn_r01_Reader_Digest [.ptr 1000 0 0] (rfM r) true (dv r.dg) (rfM r.dg') := by
  refine meets_of_go mix k_r01_Reader_Digest ⟨by simp [rfM], by simp, by simp [rfM]⟩ ?_
  simp
  refine call_intro (rtake_meets r 32) ?_ ?_
  · simp [rfM]
  simp [rfM]
  have h8 : (r.got 32).length ≤ 32 := r.got_le 32
  refine go_up (r.got 32).length (fun j (x : Bytes) => x = (r.got 32).take j ++ zeros (32 - j)) (fun j (x : Bytes) c => ⟨[(2, .ptr 2 2 0), (3, .ptr 3 3 0), (4, .v (.string (mkS (r.got 32)))), (5, .v (.int .i64 (j : Nat)))],
    [(2, .var 2 (.arr 1 (B (zeros 32)))), (3, .var 3 (.arr 1 (B x))), (1000, .var 0 (.node [.v (.string (mkS (r.skip 32).s)), .v (.bool (r.skip 32).bad)]))], c⟩) (zeros 32) _ (Weak.refl _) (by simp) ?_ ?_
  · intro j x c hj hx
    have hw : IntKind.i64.wrap ((j : Int) + 1) = ((j + 1 : Nat) : Int) := w64_succ (by omega)
    have hl : x.length = 32 := by rw [hx]; simp; omega
    have hjx : j < x.length := by omega
    have hs : x.set j (r.got 32)[j] = (r.got 32).take (j + 1) ++ zeros (32 - (j + 1)) := by
      rw [hx]
      exact fill_zeros _ 32 j hj h8
    have hj32 : (j : Int) < 32 := by omega
    have hjn : j < 32 := by omega
    simp [hj, hw, hl, hjx, hj32, hjn, B_set, Nat.mod_one]
    exact ⟨_, _, Weak.refl _, hs⟩
  · intro x c hx
    have hl : x.length = 32 := by rw [hx]; simp; omega
    have hd : x = r.dg.bs := by rw [hx]; simp [Rd.dg_bs]
    subst hd
    simp [hl]
    refine post_end (.inr rfl) ?_
    simp [hl, Rd.dg']

theorem rin_meets {G : Nat → Option AV} (r : Rd) (lo hi : Int) : Meets Tryd.prog G fn_r01_Reader_In [.ptr 1000 0 0, .v (.int .i64 lo), .v (.int .i64 hi)] (rfM r) true (.v (.int .i64 (r.inn lo hi))) (rfM (r.inn' lo hi)) := by
  refine meets_of_go mix k_r01_Reader_In ⟨by simp [rfM], by simp, by simp [rfM]⟩ ?_
  simp
  refine call_intro (rnum_meets r) ?_ ?_
  · simp [rfM]
  have hf : r.num'.skip (-1) = Rd.fault := by simp [Rd.skip, Rd.ok]
  have kk : (r.num'.bad = false ∧ lo ≤ r.num ∧ r.num ≤ hi) ∨ r.num'.bad = true ∨ (r.num'.bad = false ∧ r.num < lo) ∨ (r.num'.bad = false ∧ ¬ r.num < lo ∧ hi < r.num) := by
    cases r.num'.bad
    · simp; omega
    · simp
  rcases kk with ⟨hb, h1, h2⟩ | hb | ⟨hb, h1⟩ | ⟨hb, h1, h2⟩
  · have h3 : ¬ r.num < lo := by omega
    have h4 : ¬ hi < r.num := by omega
    simp [rfM, h3, h4, hb]
    refine post_end (.inr rfl) ?_
    simp [Rd.inn, Rd.inn', Rd.inOk, h1, h2, hb]
  · simp [rfM, hb]
    refine call_intro (rtake_meets r.num' (-1)) ?_ ?_
    · simp [rfM, hb]
    simp [rfM, hf]
    refine post_end (.inr rfl) ?_
    simp [Rd.inn, Rd.inn', Rd.inOk, hb]
  · simp [rfM, h1, hb]
    refine call_intro (rtake_meets r.num' (-1)) ?_ ?_
    · simp [rfM, hb]
    simp [rfM, hf]
    refine post_end (.inr rfl) ?_
    have h3 : ¬ lo ≤ r.num := by omega
    simp [Rd.inn, Rd.inn', Rd.inOk, h3]
  · simp [rfM, h1, h2, hb]
    refine call_intro (rtake_meets r.num' (-1)) ?_ ?_
    · simp [rfM, hb]
    simp [rfM, hf]
    refine post_end (.inr rfl) ?_
    have h3 : ¬ r.num ≤ hi := by omega
    simp [Rd.inn, Rd.inn', Rd.inOk, h3]

theorem rgood_meets {G : Nat → Option AV} (r : Rd) : Meets Tryd.prog G fn_r01_Reader_Good [.ptr 1000 0 0] (rfM r) true (.v (.bool !r.bad)) (rfM r) := by
  refine meets_of_go mix k_r01_Reader_Good ⟨by simp [rfM], by simp, by simp [rfM]⟩ ?_
  simp [rfM]
  refine post_end (.inr rfl) ?_
  simp

theorem rend_meets {G : Nat → Option AV} (r : Rd) : Meets Tryd.prog G fn_r01_Reader_End [.ptr 1000 0 0] (rfM r) true (.v (.bool r.done)) (rfM r) := by
  refine meets_of_go mix k_r01_Reader_End ⟨by simp [rfM], by simp, by simp [rfM]⟩ ?_
  cases hb : r.bad
  · simp [rfM, hb]
    refine post_end (.inr rfl) ?_
    simp [Rd.done, hb, isEmpty_dec]
  · simp [rfM, hb]
    refine post_end (.inr rfl) ?_
    simp [Rd.done, hb]
end Go.Proofs.YtmdjimkndeklmaaDoor.WL
