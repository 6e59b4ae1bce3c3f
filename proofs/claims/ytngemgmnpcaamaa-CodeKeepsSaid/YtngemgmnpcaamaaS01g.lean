/-
  CHAPTER 01: contracts of the reader: texts, the end.
-/
import Derived.Test.YtngemgmnpcaamaaS01f
namespace Go.Proofs.Ytngemgmnpcaamaa.WL
open Go

def lenStep (v b : Int) : Int := bitsOp .or .i64 (IntKind.i64.wrap (v * 256)) (IntKind.i64.wrap b)
def lenF (bs : List Int) : Int := bs.foldl lenStep 0
theorem lenF_succ (l : List Int) (j : Nat) (b : Int) (h : l[j]? = some b) : lenF (l.take (j + 1)) = lenStep (lenF (l.take j)) b := by
  unfold lenF
  rw [List.take_add_one, h]
  simp

def textI (bs : List Int) (off n : Nat) (mx : Int) (S : SA) : Prop := ∃ (j c : Nat) (v : Int), j ≤ 4 ∧ v = lenF ((bs.drop off).take j) ∧
  S = ⟨[(0, .ptr 1000 0 0), (1, .v (.int .i64 mx)), (5, .v (.int .i64 v)), (9, .row 1092000 1 5 off 4), (10, .v (.int .i64 4)), (11, .v (.int .i64 (j : Int)))],
    [(1000, .var 0 (.node [.row 1092000 1 5 (off + 4) (n - 4), .v (.bool false)])), (1092000, .rows 5 1 (B bs))], c⟩

theorem text_meets {G : Nat → Option AV} (bs : List Int) (off n k : Nat) (mx : Int) (h : off + n ≤ bs.length) (hb : bs.length ≤ 65536) (hn : 4 ≤ n) (hk : lenF ((bs.drop off).take 4) = k) (hkn : k ≤ n - 4) (hmx : (k : Int) ≤ mx) :
    Meets Try.prog G 23 [.ptr 1000 0 0, .v (.int .i64 mx)] (rdM 0 bs off n) true (.v (.string (strOfNums ((bs.drop (off + 4)).take k)))) (rdM 1 bs (off + 4 + k) (n - 4 - k)) := by
  refine meets_of_go mix c23_chk ⟨by simp [rdM], by simp [rdM], by simp [rdM]⟩ ?_
  simp [c23, c23r0, c23r1, c23r2]
  refine call_intro (take_meets bs off n 4 h hb hn) ?_ ?_
  · simp [rdM]
  simp [rdM]
  refine go_loop (textI bs off n mx) (fun S => 5 - idxAt 11 S) _ (Weak.refl _) ⟨0, _, 0, by omega, by simp [lenF], rfl⟩ ?_
  rintro S' ⟨j, c, v, hj, hv, rfl⟩
  simp [c23r3]
  refine goC_split (fun hlt => ?_) (fun hge => ?_)
  · have hlt1 : (j : Int) < 4 := by simpa using hlt
    have hlt' : j < 4 := by omega
    have hx : off + j < bs.length := by omega
    have hw : IntKind.i64.wrap ((j : Int) + 1) = ((j + 1 : Nat) : Int) := by simp [IntKind.wrap, IntKind.bits, IntKind.signed]; omega
    simp [c23r4, c23r5, c23r6, hlt1, hx, hw]
    refine ⟨_, Weak.refl _, ⟨j + 1, c + 1 + 3 + 6 + 2, _, by omega, ?_, by simp; rfl⟩, by simp [idxAt]; omega⟩
    rw [lenF_succ (bs.drop off) j bs[off + j] (by simp [hx]), ← hv]
    simp [lenStep, IntKind.bits]
  · have : j = 4 := by simp at hge; omega
    subst this
    rw [hk] at hv
    subst hv
    have hng : ¬ mx < (k : Int) := by omega
    simp [c23r7, c23r9, hng]
    refine call_intro (take_meets bs (off + 4) (n - 4) k (by omega) hb hkn) ?_ ?_
    · simp [rdM]
    have hfit : off + 4 + k ≤ bs.length := by omega
    simp [rdM, hfit]
    refine post_end (.inr rfl) ?_
    simp [c23R]

theorem end_meets {G : Nat → Option AV} (bs : List Int) (off n : Nat) : Meets Try.prog G 30 [.ptr 1000 0 0] (rdM 0 bs off n) true (.v (.bool (decide (n = 0)))) (rdM 1 bs off n) := by
  refine meets_of_go mix c30_chk ⟨by simp [rdM], by simp, by simp [rdM]⟩ ?_
  simp [c30, c30r0, c30r1]
  refine call_intro (good_meets bs off n) ?_ ?_
  · simp [rdM]
  simp [rdM]
  refine post_end (.inr rfl) ?_
  simp [c30R]

end Go.Proofs.Ytngemgmnpcaamaa.WL
