/-
  CHAPTER 03: walks of laws: keeping, paths.
-/
import Derived.Test.YtmkkfccnacodoaaDoorL03b
namespace Go.Proofs.YtmkkfccnacodoaaDoor.WL
open Go
set_option maxHeartbeats 4000000
attribute [local irreducible] comp hb sha leafD pairD

def Dg.seven : Dg := ⟨7 :: zeros 31, by simp⟩
theorem seven_set : AV.arr 1 ((B (zeros 32)).set 0 (bv 7)) = dv Dg.seven := (rfl)

theorem treeKeeps_walk (ds : List Dg) (at_ : Int) (hat : -9223372036854775808 ≤ at_ ∧ at_ < 9223372036854775808) :
    Meets Tryd.prog Gt fn_l03_TreeKeeps [.sl 32 (Dgs ds), .v (.int .i64 at_)] [] true (.v (.bool true)) [] := by
  refine meets_of_go mix k_l03_TreeKeeps ⟨by simp, by simp, by simp⟩ ?_
  simp
  refine call_intro alive3_meets ?_ ?_
  · simp
  by_cases c1 : (100 : Int) < (ds.length : Nat)
  · simp [c1]
    refine post_end (.inr rfl) ?_
    simp
  have f1 : fitsB ds.length 32 := fits (by omega) (by omega)
  have hrt := root_meets ds (by omega)
  have hsm := rsame_meets (G := Gt) ds ds (by omega)
  generalize rootD ds = r at *
  have htd : List.take ds.length ds = ds := List.take_of_length_le (by omega)
  by_cases c3 : 0 ≤ at_ ∧ at_ < (ds.length : Nat)
  · obtain ⟨i, rfl⟩ : ∃ i : Nat, at_ = i := ⟨at_.toNat, by omega⟩
    have c4 : i < ds.length := by omega
    have h1 := pathP_meets ds i c4 (by omega)
    have h3 := pathD_len ds i
    generalize pathD ds i = p at *
    simp [c1, f1]
    refine call_intro h1 ?_ ?_
    · simp [htd]
    simp [htd]
    refine call_intro hrt ?_ ?_
    · simp [htd]
    simp [htd]
    refine go_up p.length (fun j (x : List Dg) => x.length = p.length) (fun j x c => ⟨[(0, .sl 32 (Dgs ds)), (5, .row 14 32 c 0 ds.length), (6, .row 6 32 c 0 p.length), (26, .v (.int .i64 (p.length : Nat))), (27, .v (.int .i64 (j : Nat)))],
      [(6, .rows c 32 (Dgs x)), (14, .rows c 32 (Dgs ds))], c + 1⟩) p _ (Weak.re (by simp)) rfl ?_ ?_
    · intro j x c hj hx
      have hw : IntKind.i64.wrap ((j : Int) + 1) = ((j + 1 : Nat) : Int) := w64_succ (by omega)
      have hj2 : j < x.length := by omega
      simp [hj, hw, hj2, bv_lit 7 (by decide), show u8 7 = 7 by decide, seven_set, Dgs_set]
      exact ⟨x.set j Dg.seven, _, Weak.re (by simp), by simpa using hx⟩
    · intro x c hx
      simp
      refine call_intro hsm ?_ ?_
      · simp [htd]
      simp
      refine post_end (.inr rfl) ?_
      simp
  · have c4 : at_ < 0 ∨ (ds.length : Int) ≤ at_ := by omega
    simp [c1, f1]
    refine call_intro (pathP_none ds at_ c4) ?_ ?_
    · simp [htd]
    simp [htd]
    refine call_intro hrt ?_ ?_
    · simp [htd]
    simp [htd]
    refine go_up 0 (fun j (x : Unit) => True) (fun j x c => ⟨[(0, .sl 32 (Dgs ds)), (5, .row 14 32 c 0 ds.length), (6, .v (.slice none 0 0)), (26, .v (.int .i64 0)), (27, .v (.int .i64 (j : Nat)))],
      [(14, .rows c 32 (Dgs ds))], c + 1⟩) () _ (Weak.re (by simp)) trivial ?_ ?_
    · intro j x c hj hx
      omega
    · intro x c hx
      simp
      refine call_intro hsm ?_ ?_
      · simp [htd]
      simp
      refine post_end (.inr rfl) ?_
      simp

theorem treePaths_walk (ds : List Dg) (at_ k : Int) (hat : -9223372036854775808 ≤ at_ ∧ at_ < 9223372036854775808) (hk : -9223372036854775808 ≤ k ∧ k < 9223372036854775808) :
    Meets Tryd.prog Gt fn_l03_TreePaths [.sl 32 (Dgs ds), .v (.int .i64 at_), .v (.int .i64 k)] [] true (.v (.bool true)) [] := by
  refine meets_of_go mix k_l03_TreePaths ⟨by simp, by simp, by simp⟩ ?_
  simp
  refine call_intro alive3_meets ?_ ?_
  · simp
  by_cases c1 : (100 : Int) < (ds.length : Nat)
  · simp [c1]
    refine post_end (.inr rfl) ?_
    simp
  by_cases c2 : at_ < 0
  · simp [c1, c2]
    refine post_end (.inr rfl) ?_
    simp
  by_cases c3 : (ds.length : Int) ≤ at_
  · simp [c1, c2, c3]
    refine post_end (.inr rfl) ?_
    simp
  obtain ⟨i, rfl⟩ : ∃ i : Nat, at_ = i := ⟨at_.toNat, by omega⟩
  have c4 : i < ds.length := by omega
  have c5 : (i : Int) < (ds.length : Nat) := by omega
  have c6 : ¬ ds.length ≤ i := by omega
  have hrt := root_meets ds (by omega)
  have hpa := pathP_meets ds i c4 (by omega)
  have hpw := pathD_pow ds i (by omega)
  have hple := pathD_len ds i
  generalize rootD ds = r at *
  generalize pathD ds i = p at *
  have w1 : IntKind.u64.wrap (p.length : Int) = (p.length : Int) := u64_id (by omega)
  have hl8 : p.length < 64 := by
    rcases Nat.lt_or_ge p.length 64 with h | h
    · exact h
    · have := Nat.pow_le_pow_right (n := 2) (by omega) h
      omega
  have hmin : min p.length 64 = p.length := by omega
  obtain ⟨q, hq⟩ : ∃ q : Nat, q = 2 ^ p.length := ⟨_, rfl⟩
  rw [← hq] at hpw
  have hqi : ((2 : Int) ^ p.length) = (q : Int) := by rw [hq]; simp
  have w2 : IntKind.i64.wrap (q : Int) = (q : Int) := w64_id (by omega)
  have w3 : IntKind.i64.wrap (2 * (ds.length : Int)) = 2 * (ds.length : Int) := w64_id (by omega)
  have c7 : ¬ 2 * (ds.length : Int) ≤ (q : Int) := by omega
  have w4 : IntKind.i64.wrap ((p.length : Int) - 1) = (p.length : Int) - 1 := w64_id (by omega)
  by_cases d1 : k < 0
  · simp [c1, c2, c3, c6]
    refine call_intro hpa ?_ ?_
    · simp
    simp [w1, hmin, hqi, w2, w3, c7, w4, d1]
    refine post_end (.inr rfl) ?_
    simp
  by_cases d2 : (p.length : Int) - 1 ≤ k
  · simp [c1, c2, c3, c6]
    refine call_intro hpa ?_ ?_
    · simp
    simp [w1, hmin, hqi, w2, w3, c7, w4, d1, d2]
    refine post_end (.inr rfl) ?_
    simp
  obtain ⟨j, rfl⟩ : ∃ j : Nat, k = j := ⟨k.toNat, by omega⟩
  have hj : j < p.length := by omega
  obtain ⟨j1, hj1⟩ : ∃ j1 : Nat, j1 = j + 1 := ⟨_, rfl⟩
  have hj2 : j1 < p.length := by omega
  have w5 : IntKind.i64.wrap ((j : Int) + 1) = (j1 : Int) := by rw [w64_id (by omega)]; omega
  have hji : (j : Int) < (p.length : Nat) := by omega
  have hj2i : (j1 : Int) < (p.length : Nat) := by omega
  by_cases d3 : p[j] = p[j1]
  · simp [c1, c2, c3, c6]
    refine call_intro hpa ?_ ?_
    · simp
    simp [w1, hmin, hqi, w2, w3, c7, w4, d1, d2, w5, hj, hj2, hji, hj2i, d3]
    refine post_end (.inr rfl) ?_
    simp
  · have hn1 : ¬ j = j1 := by omega
    have hn2 : ¬ j1 = j := by omega
    have k1 := checkP_meets r ds[i] i ds.length ((p.set j p[j1]).set j1 p[j]) c4 (by omega)
    have k2 := rcheck_meets r ds.length ds[i] i ds.length ((p.set j p[j1]).set j1 p[j]) (Nat.le_refl _) c4 (by omega)
    have htk : List.take p.length ((p.set j p[j1]).set j1 p[j]) = (p.set j p[j1]).set j1 p[j] := List.take_of_length_le (by simp)
    generalize checkD r ds[i] i ds.length ((p.set j p[j1]).set j1 p[j]) = b at *
    simp [c1, c2, c3, c6]
    refine call_intro hpa ?_ ?_
    · simp
    simp [w1, hmin, hqi, w2, w3, c7, w4, d1, d2, w5, hj, hj2, hji, hj2i, d3]
    refine call_intro hrt ?_ ?_
    · simp
    simp [w5, hj, hj2, hji, hj2i, hn1, hn2, c4, c5, Dgs_set]
    refine call_intro k1 ?_ ?_
    · simp [htk]
    simp [htk, c4, c5]
    refine call_intro k2 ?_ ?_
    · simp [htk]
    simp [htk]
    refine post_end (.inr rfl) ?_
    simp
end Go.Proofs.YtmkkfccnacodoaaDoor.WL
