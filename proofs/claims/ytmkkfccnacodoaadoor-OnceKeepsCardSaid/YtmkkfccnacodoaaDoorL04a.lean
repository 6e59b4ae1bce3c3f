/-
  CHAPTER 04: walks of laws.
-/
import Derived.Test.YtmkkfccnacodoaaDoorS04c
import Derived.Test.YtmkkfccnacodoaaDoorP04q
namespace Go.Proofs.YtmkkfccnacodoaaDoor.WL
open Go
set_option maxHeartbeats 4000000
attribute [local irreducible] comp hb sha leafD pairD secD shutD wholeD pubD ofD

def Dg.one (b : UInt8) : Dg := ⟨b :: zeros 31, by simp⟩
theorem one_set (b : UInt8) : AV.arr 1 ((B (zeros 32)).set 0 (bv b)) = dv (Dg.one b) := (rfl)
theorem bv1 : AV.v (.int .u8 1) = bv 1 := (rfl)
theorem bv2 : AV.v (.int .u8 2) = bv 2 := (rfl)
theorem bv7 : AV.v (.int .u8 7) = bv 7 := (rfl)
theorem one_val : beVal (Dg.one 1).bs = 2 ^ 248 := by decide +kernel
attribute [local irreducible] Dg.one

theorem alive4_meets : Meets Tryd.prog Gt fn_l04_alive [] [] true (.v (.bool true)) [] := by
  refine meets_of_go mix k_l04_alive ⟨by simp, by simp, by simp⟩ ?_
  have o1 := one_set 1
  have o2 := one_set 2
  have hdiff := pub_differ (Dg.one 1) one_val
  generalize Dg.one 1 = D1 at *
  generalize Dg.one 2 = D2 at *
  have m1 := public_meets D1 0 (by omega) 32 rfl
  have m2 := public_meets D1 1 (by omega) 32 rfl
  have m3 := sign_meets D1 0 D2 (by omega) 32 rfl
  have hfit := ofD_fits D1 0 D2 32
  have ho := openL_length D1 0 D2 32
  have hs := shutL_length D1 0 D2 32
  generalize openL D1 0 D2 32 = o at *
  generalize shutL D1 0 D2 32 = s at *
  have m4 := check4_meets (pubD D1 0 32) D2 o s
  have m5 := check4_meets (pubD D1 1 32) D2 o s
  have c4 : checkO (pubD D1 0 32) D2 o s = true := by simp [checkO, hfit, ho, hs]
  have c5 : checkO (pubD D1 1 32) D2 o s = false := by simp [checkO, hfit, hdiff]
  rw [c4] at m4
  rw [c5] at m5
  clear c4 c5 hfit hdiff
  generalize pubD D1 0 32 = P0 at *
  generalize pubD D1 1 32 = P1 at *
  have hto : List.take 32 o = o := List.take_of_length_le (by omega)
  have hts : List.take 32 s = s := List.take_of_length_le (by omega)
  simp [bv1, bv2, o1, o2]
  refine call_intro m1 ?_ ?_
  · simp
  simp
  refine call_intro m3 ?_ ?_
  · simp
  simp
  refine call_intro m4 ?_ ?_
  · simp [ho, hs, hto, hts]
  simp
  refine call_intro m2 ?_ ?_
  · simp
  simp
  refine call_intro m3 ?_ ?_
  · simp
  simp
  refine call_intro m5 ?_ ?_
  · simp [ho, hs, hto, hts]
  simp
  refine post_end (.inr rfl) ?_
  simp

theorem onceSigns_walk (seed : Dg) (leaf : Int) (d : Dg) (hl : -9223372036854775808 ≤ leaf ∧ leaf < 9223372036854775808) :
    Meets Tryd.prog Gt fn_l04_OnceSigns [dv seed, .v (.int .i64 leaf), dv d] [] true (.v (.bool true)) [] := by
  refine meets_of_go mix k_l04_OnceSigns ⟨by simp, by simp, by simp⟩ ?_
  have m1 := public_meets seed leaf hl 32 rfl
  have m2 := rpublic_meets seed leaf hl 32 rfl
  have m3 := sign_meets seed leaf d hl 32 rfl
  have m4 := rsign_meets seed leaf d hl 32 rfl
  have ho := openL_length seed leaf d 32
  have hs := shutL_length seed leaf d 32
  generalize pubD seed leaf 32 = p at *
  generalize openL seed leaf d 32 = o at *
  generalize shutL seed leaf d 32 = s at *
  have m5 := rsame4_meets (G := Gt) o s o s (by omega) (by omega)
  rw [decide_eq_true rfl, decide_eq_true rfl] at m5
  have hto : List.take 32 o = o := List.take_of_length_le (by omega)
  have hts : List.take 32 s = s := List.take_of_length_le (by omega)
  simp
  refine call_intro alive4_meets ?_ ?_
  · simp
  simp
  refine call_intro m1 ?_ ?_
  · simp
  simp
  refine call_intro m2 ?_ ?_
  · simp
  simp
  refine call_intro m3 ?_ ?_
  · simp
  simp
  refine call_intro m4 ?_ ?_
  · simp
  simp
  refine call_intro m5 ?_ ?_
  · simp [ho, hs, hto, hts]
  simp
  refine post_end (.inr rfl) ?_
  simp
end Go.Proofs.YtmkkfccnacodoaaDoor.WL
