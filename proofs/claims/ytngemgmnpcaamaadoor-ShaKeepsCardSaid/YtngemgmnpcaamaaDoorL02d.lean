/-
  CHAPTER 02: walks of laws: what is handed in stays.
-/
import Derived.Test.YtngemgmnpcaamaaDoorL02c
namespace Go.Proofs.YtngemgmnpcaamaaDoor.WL
open Go
set_option maxHeartbeats 4000000
attribute [local irreducible] comp hb sha

theorem keeps_walk (a b : Bytes) : Meets Tryd.prog Gt fn_l02_ShaKeeps [.sl 1 (B a), .sl 1 (B b)] [] true (.v (.bool true)) [] := by
  refine meets_of_go mix k_l02_ShaKeeps ⟨by simp, by simp, by simp⟩ ?_
  simp
  refine call_intro alive2_meets ?_ ?_
  · simp
  by_cases c1 : (4096 : Int) < (a.length : Nat)
  · simp [c1]
    refine post_end (.inr rfl) ?_
    simp
  by_cases c2 : (4096 : Int) < (b.length : Nat)
  · simp [c1, c2]
    refine post_end (.inr rfl) ?_
    simp
  have f1 : fitsB a.length 1 := fits (by omega) (by omega)
  have f2 : fitsB (a.length + 80) 1 := fits (by omega) (by omega)
  have f3 : fitsB 80 1 := by decide
  have b1 : a.length ≤ a.length + 80 := by omega
  have b2 : (a.length : Int) ≤ (a.length : Int) + 80 := by omega
  have e : cat [a, b] = a ++ b := by simp [cat]
  have h1 := of_meets [a, b] (by simp) (by rw [e, List.length_append]; omega)
  rw [e] at h1
  generalize sha (a ++ b) = d at *
  simp [c1, c2, f1, f2, f3, b1, b2]
  refine call_intro h1 ?_ ?_
  · simp [Bss]
  simp
  refine go_up (a.length + 80) (fun _ _ => True) (fun j (_ : Unit) c => ⟨[(0, .sl 1 (B a)), (1, .sl 1 (B b)), (6, .ptr 6 c 0), (30, .row 19 1 c 0 (a.length + 80)), (31, .v (.int .i64 ((a.length : Int) + 80))), (32, .v (.int .i64 (j : Nat)))],
    [(6, .var c (dv d)), (19, .rows c 1 (B (a ++ zeros 80)))], c + 1⟩) () _ (Weak.re (by simp)) trivial ?_ ?_
  · intro j _ c hj _
    have hw : IntKind.i64.wrap ((j : Int) + 1) = ((j + 1 : Nat) : Int) := w64_succ (by omega)
    have hjm : (j : Int) < (a.length : Int) + 80 := by omega
    by_cases c3 : j < a.length
    · have c4 : (j : Int) < (a.length : Nat) := by omega
      have c5 : ¬ ((a.length : Nat) : Int) ≤ (j : Int) := by omega
      have hg : (a ++ zeros 80)[j]? = some a[j] := by rw [List.getElem?_append_left c3, List.getElem?_eq_getElem c3]
      simp [hjm, hg, c3, c4, c5, hw]
      exact ⟨(), _, Weak.re (by simp), trivial⟩
    · have c4 : ¬ (j : Int) < (a.length : Nat) := by omega
      have c5 : ((a.length : Nat) : Int) ≤ (j : Int) := by omega
      have hg : (a ++ zeros 80)[j]? = some 0 := by
        rw [List.getElem?_append_right (by omega)]
        simp only [zeros, List.getElem?_replicate]
        rw [if_pos (by omega)]
      simp [hjm, hg, c3, c4, c5, hw]
      exact ⟨(), _, Weak.re (by simp), trivial⟩
  · intro _ c _
    simp
    refine call_intro h1 ?_ ?_
    · simp [Bss]
    simp [dv]
    refine post_end (.inr rfl) ?_
    simp
end Go.Proofs.YtngemgmnpcaamaaDoor.WL
