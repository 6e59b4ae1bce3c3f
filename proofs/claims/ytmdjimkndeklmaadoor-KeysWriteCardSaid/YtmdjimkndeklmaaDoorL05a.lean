/-
  CHAPTER 05: walks of laws.
-/
import Derived.Test.YtmdjimkndeklmaaDoorS05c
import Derived.Test.YtmdjimkndeklmaaDoorP05
namespace Go.Proofs.YtmdjimkndeklmaaDoor.WL
open Go
set_option maxHeartbeats 4000000
attribute [local irreducible] comp hb sha leafD pairD secD shutD wholeD pubD ofD

def Dg.one (b : UInt8) : Dg := ⟨b :: zeros 31, by simp⟩
theorem one_set (b : UInt8) : AV.arr 1 ((B (zeros 32)).set 0 (bv b)) = dv (Dg.one b) := (rfl)
theorem bv1 : AV.v (.int .u8 1) = bv 1 := (rfl)
theorem bv5 : AV.v (.int .u8 5) = bv 5 := (rfl)
attribute [local irreducible] Dg.one

theorem alive5_meets : Meets Tryd.prog Gt fn_l05_alive [] [] true (.v (.bool true)) [] := by
  refine meets_of_go mix k_l05_alive ⟨by simp, by simp, by simp⟩ ?_
  have o1 := one_set 1
  have o5 := one_set 5
  generalize Dg.one 1 = D1 at *
  generalize Dg.one 5 = D5 at *
  have m1 := knew_meets D1 1 (by omega) 32 rfl
  have hl := leavesD_length D1 32 (2 ^ 1)
  have hc := sign_checks D1 1 1 D5 (by omega) (by decide)
  generalize leavesD D1 32 (2 ^ 1) = l at *
  have hl2 : l.length = 2 := hl
  have m2 := ksign_meets D1 ((1 : Nat) : Int) l 1 D5 (by omega) (by omega) 32 rfl
  have m3 := ksign_bad D1 ((1 : Nat) : Int) l 2 Dg.zero (by omega)
  have m4 := kkey_meets D1 ((1 : Nat) : Int) l (by omega)
  have m5 := kcheck_meets (rootD l) ((1 : Nat) : Int) D5 (signK D1 l 1 D5 32) (by omega) (by simp [signK])
  rw [hc] at m5
  clear hc
  generalize signK D1 l 1 D5 32 = S at *
  generalize rootD l = R at *
  simp only [Int.natCast_one] at m1 m2 m3 m4 m5
  simp [bv1, bv5, o1, o5]
  refine call_intro m1 ?_ ?_
  · simp [trM1]
  simp [trM1, hl2, bv5, o5]
  refine call_intro m2 ?_ ?_
  · simp [trM, hl2, Sig.avR, Sig.rows]
  simp [trM, Sig.avR, Sig.rows, hl2]
  refine call_intro m3 ?_ ?_
  · simp [trM, hl2, Sig.avR, Sig.rows]
  simp [trM, hl2, bv5, o5]
  refine call_intro m4 ?_ ?_
  · simp [trM, hl2, Sig.avR, Sig.rows]
  simp [trM, hl2, bv5, o5]
  refine call_intro m5 ?_ ?_
  · simp [Sig.avS]
  simp [Sig.avS]
  refine post_end (.inr rfl) ?_
  simp

def Sig.greatF (s : Sig) : Bool := decide (200 < s.op.length) || decide (200 < s.sh.length) || decide (200 < s.path.length)
theorem great5_meets (s : Sig) : Meets Tryd.prog Gt fn_l05_great [s.avS] [] true (.v (.bool s.greatF)) [] := by
  refine meets_of_go mix k_l05_great ⟨by simp, by simp, by simp⟩ ?_
  unfold Sig.greatF
  by_cases c1 : (200 : Int) < (s.op.length : Nat)
  · have d1 : 200 < s.op.length := by omega
    simp [Sig.avS, c1]
    refine post_end (.inr rfl) ?_
    simp [d1]
  have d1 : ¬ 200 < s.op.length := by omega
  by_cases c2 : (200 : Int) < (s.sh.length : Nat)
  · have d2 : 200 < s.sh.length := by omega
    simp [Sig.avS, c1, c2]
    refine post_end (.inr rfl) ?_
    simp [d2]
  have d2 : ¬ 200 < s.sh.length := by omega
  by_cases c3 : (200 : Int) < (s.path.length : Nat)
  · have d3 : 200 < s.path.length := by omega
    simp [Sig.avS, c1, c2, c3]
    refine post_end (.inr rfl) ?_
    simp [d3]
  have d3 : ¬ 200 < s.path.length := by omega
  simp [Sig.avS, c1, c2, c3]
  refine post_end (.inr rfl) ?_
  simp [d1, d2, d3]

theorem keysCheck_walk (root : Dg) (h : Int) (d : Dg) (s : Sig) (hh : -9223372036854775808 ≤ h ∧ h < 9223372036854775808) (hl : -9223372036854775808 ≤ s.leaf ∧ s.leaf < 9223372036854775808) :
    Meets Tryd.prog Gt fn_l05_KeysCheck [.node [dv root, .v (.int .i64 h)], dv d, s.avS] [] true (.v (.bool true)) [] := by
  refine meets_of_go mix k_l05_KeysCheck ⟨by simp, by simp, by simp⟩ ?_
  have m1 := great5_meets s
  have m2 := kcheck_meets root h d s hh hl
  have m3 := rkcheck_meets root h d s hh hl
  generalize checkK root h d s = e at *
  simp [Sig.avS]
  refine call_intro alive5_meets ?_ ?_
  · simp
  simp
  refine call_intro m1 ?_ ?_
  · simp [Sig.avS]
  cases hg : s.greatF
  · simp [Sig.avS]
    refine call_intro m2 ?_ ?_
    · simp [Sig.avS]
    simp [Sig.avS]
    refine call_intro m3 ?_ ?_
    · simp [Sig.avS]
    simp [Sig.avS]
    refine post_end (.inr rfl) ?_
    simp
  · simp [Sig.avS]
    refine post_end (.inr rfl) ?_
    simp
end Go.Proofs.YtmdjimkndeklmaaDoor.WL
