/-
  CHAPTER 01: contracts of the reader.
-/
import Derived.Test.YtmdjimkndeklmaaDoorCo
import Derived.Test.YtmdjimkndeklmaaDoorM01
namespace Go.Proofs.YtmdjimkndeklmaaDoor.WL
open Go
set_option maxHeartbeats 4000000

/-- A reader's memory. -/
def rdM (g : Nat) (r : Rd) : List (Nat × Loc) := [(1000, .var 0 (.node [.row 2000 1 g r.pre.length r.s.length, .v (.bool r.bad)])), (2000, .rows g 1 (B (r.pre ++ r.s)))]
/-- Where the bytes lie that were taken. -/
def Rd.at_ (r : Rd) (k : Int) : Nat := if r.ok k = true then r.pre.length else 0
theorem Rd.at_le (r : Rd) (k : Int) : r.at_ k + (r.got k).length = (r.skip k).pre.length := by
  unfold Rd.at_ Rd.got Rd.skip
  split <;> simp [Rd.fault]
theorem Rd.at_drop (r : Rd) (k : Int) : ((r.skip k).pre ++ (r.skip k).s).drop (r.at_ k) = r.got k ++ (r.skip k).s := by
  unfold Rd.at_ Rd.got Rd.skip
  split <;> simp [Rd.fault]
theorem Rd.at_get (r : Rd) (k : Int) (j : Nat) (h : j < (r.got k).length) : ((r.skip k).pre ++ (r.skip k).s)[r.at_ k + j]? = some (r.got k)[j] := by
  rw [← List.getElem?_drop, Rd.at_drop, List.getElem?_append_left h, List.getElem?_eq_getElem h]

theorem read_meets {G : Nat → Option AV} (bs : Bytes) (h : fitsB bs.length 1) : Meets Tryd.prog G fn_code_Read [.sl 1 (B bs)] [] true (.ptr 1000 1 0) [(1000, .var 1 (.node [.row 2000 1 1 0 bs.length, .v (.bool false)])), (2000, .rows 1 1 (B bs))] := by
  refine meets_of_go mix k_code_Read ⟨by simp, by simp, by simp⟩ ?_
  simp [h]
  refine post_end (.inr rfl) ?_
  simp

theorem good_meets {G : Nat → Option AV} (r : Rd) : Meets Tryd.prog G fn_code_Reader_Good [.ptr 1000 0 0] (rdM 0 r) true (.v (.bool !r.bad)) (rdM 1 r) := by
  refine meets_of_go mix k_code_Reader_Good ⟨by simp [rdM], by simp, by simp [rdM]⟩ ?_
  simp [rdM]
  refine post_end (.inr rfl) ?_
  simp

theorem good_nil {G : Nat → Option AV} : Meets Tryd.prog G fn_code_Reader_Good [.v (.pointer none)] [] true (.v (.bool false)) [] := by
  refine meets_of_go mix k_code_Reader_Good ⟨by simp, by simp, by simp⟩ ?_
  simp
  refine post_end (.inr rfl) ?_
  simp

theorem take_meets {G : Nat → Option AV} (r : Rd) (k : Int) :
    Meets Tryd.prog G fn_code_Reader_take [.ptr 1000 0 0, .v (.int .i64 k)] (rdM 0 r) true (.row 2000 1 1 (r.at_ k) (r.got k).length) (rdM 1 (r.skip k)) := by
  refine meets_of_go mix k_code_Reader_take ⟨by simp [rdM], by simp [rdM], by simp [rdM]⟩ ?_
  cases hok : r.ok k with
  | true =>
    have h := hok
    simp only [Rd.ok, Bool.and_eq_true, Bool.not_eq_true', decide_eq_true_eq] at h
    obtain ⟨⟨h1, h2⟩, h3⟩ := h
    have h4 : ¬ (k < 0) := by omega
    have h5 : ¬ ((r.s.length : Int) < k) := by omega
    obtain ⟨n, rfl⟩ := Int.eq_ofNat_of_zero_le h2
    have h6 : n ≤ r.s.length := by omega
    simp [rdM, h1, h3, h4, h5, h6, Rd.at_, Rd.got, Rd.skip, hok]
    refine post_end (.inr rfl) ?_
    simp [h6]
  | false =>
    have h : r.bad = true ∨ k < 0 ∨ (r.s.length : Int) < k := by
      simp only [Rd.ok] at hok
      cases hb : r.bad
      · simp [hb] at hok; omega
      · simp
    cases hb : r.bad
    · simp [hb] at h
      by_cases h0 : k < 0
      · simp [rdM, hb, h0, Rd.at_, Rd.got, Rd.skip, hok]
        refine post_end (.inr rfl) ?_
        simp [Rd.fault]
      · have h1 : (r.s.length : Int) < k := by omega
        simp [rdM, hb, h0, h1, Rd.at_, Rd.got, Rd.skip, hok]
        refine post_end (.inr rfl) ?_
        simp [Rd.fault]
    · simp [rdM, hb, Rd.at_, Rd.got, Rd.skip, hok]
      refine post_end (.inr rfl) ?_
      simp [Rd.fault]

theorem take_nil {G : Nat → Option AV} (k : Int) : Meets Tryd.prog G fn_code_Reader_take [.v (.pointer none), .v (.int .i64 k)] [] true (.v (.slice none 0 0)) [] := by
  refine meets_of_go mix k_code_Reader_take ⟨by simp, by simp, by simp⟩ ?_
  simp
  refine post_end (.inr rfl) ?_
  simp

end Go.Proofs.YtmdjimkndeklmaaDoor.WL
