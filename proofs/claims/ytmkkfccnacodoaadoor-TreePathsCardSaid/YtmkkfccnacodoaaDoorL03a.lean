/-
  CHAPTER 03: walks of laws.
-/
import Derived.Test.YtmkkfccnacodoaaDoorS03c
import Derived.Test.YtmkkfccnacodoaaDoorP03
namespace Go.Proofs.YtmkkfccnacodoaaDoor.WL
open Go
set_option maxHeartbeats 4000000
attribute [local irreducible] comp hb sha leafD pairD

theorem Dgs_three (a b d : Dg) : [AV.arr 1 (B a.bs), AV.arr 1 (B b.bs), AV.arr 1 (B d.bs)] = Dgs [a, b, d] := (rfl)
theorem alive3_meets : Meets Tryd.prog Gt fn_l03_alive [] [] true (.v (.bool true)) [] := by
  refine meets_of_go mix k_l03_alive ⟨by simp, by simp, by simp⟩ ?_
  have ha := leaf_meets [97] (by simp)
  have hb := leaf_meets [98] (by simp)
  have hc := leaf_meets [99] (by simp)
  have ea : B [97] = [AV.v (.int .u8 97)] := (rfl)
  have eb : B [98] = [AV.v (.int .u8 98)] := (rfl)
  have ec : B [99] = [AV.v (.int .u8 99)] := (rfl)
  generalize leafD [97] = a at *
  generalize leafD [98] = b at *
  generalize leafD [99] = d at *
  have hr := root_meets [a, b, d] (by simp)
  have e : rootD [a, b, d] = pairD (pairD a b) d := by
    rw [rootD_up _ (by simp)]
    simp only [upD]
    rw [rootD_up _ (by simp)]
    simp only [upD, rootD_one]
  rw [e] at hr
  have hk := checkP_meets d d 0 1 [] (by omega) (by omega)
  rw [checkD_end _ _ _ _ _ (by omega)] at hk
  have p1 := rpair_meets a b
  have p2 := rpair_meets (pairD a b) d
  clear e
  generalize pairD a b = x at *
  generalize pairD x d = y at *
  simp
  refine call_intro ha ?_ ?_
  · simp [ea]
  simp
  refine call_intro hb ?_ ?_
  · simp [eb]
  simp
  refine call_intro hc ?_ ?_
  · simp [ec]
  simp
  refine call_intro hr ?_ ?_
  · simp [Dgs_three]
  simp [Dgs_three]
  refine call_intro p1 ?_ ?_
  · simp
  simp
  refine call_intro p2 ?_ ?_
  · simp
  simp
  refine call_intro hk ?_ ?_
  · simp
  simp
  refine post_end (.inr rfl) ?_
  simp

theorem treeChecks_walk (root leaf : Dg) (at_ count : Int) (path : List Dg) (hat : -9223372036854775808 ≤ at_ ∧ at_ < 9223372036854775808) (hc : -9223372036854775808 ≤ count ∧ count < 9223372036854775808) :
    Meets Tryd.prog Gt fn_l03_TreeChecks [dv root, dv leaf, .v (.int .i64 at_), .v (.int .i64 count), .sl 32 (Dgs path)] [] true (.v (.bool true)) [] := by
  refine meets_of_go mix k_l03_TreeChecks ⟨by simp, by simp, by simp⟩ ?_
  simp
  refine call_intro alive3_meets ?_ ?_
  · simp
  by_cases c1 : (100 : Int) < (path.length : Nat)
  · simp [c1]
    refine post_end (.inr rfl) ?_
    simp
  by_cases c2 : 0 ≤ at_
  · by_cases c3 : at_ < count
    · obtain ⟨i, rfl⟩ : ∃ i : Nat, at_ = i := ⟨at_.toNat, by omega⟩
      obtain ⟨n, rfl⟩ : ∃ n : Nat, count = n := ⟨count.toNat, by omega⟩
      have c4 : i < n := by omega
      have h1 := rcheck_meets root n leaf i n path (by omega) c4 (by omega)
      have h2 := checkP_meets root leaf i n path c4 (by omega)
      generalize checkD root leaf i n path = r at *
      simp [c1, c4]
      refine call_intro h1 ?_ ?_
      · simp
      simp
      refine call_intro h2 ?_ ?_
      · simp
      simp
      refine post_end (.inr rfl) ?_
      simp
    · simp [c1, c2, c3]
      refine call_intro (checkP_out root leaf at_ count path (by omega)) ?_ ?_
      · simp
      simp
      refine post_end (.inr rfl) ?_
      simp
  · simp [c1, c2]
    refine call_intro (checkP_out root leaf at_ count path (by omega)) ?_ ?_
    · simp
    simp
    refine post_end (.inr rfl) ?_
    simp

theorem treeRoots_walk (b : Bytes) (ds : List Dg) (at_ : Int) : Meets Tryd.prog Gt fn_l03_TreeRoots [.sl 1 (B b), .sl 32 (Dgs ds), .v (.int .i64 at_)] [] true (.v (.bool true)) [] := by
  refine meets_of_go mix k_l03_TreeRoots ⟨by simp, by simp, by simp⟩ ?_
  simp
  refine call_intro alive3_meets ?_ ?_
  · simp
  by_cases c1 : (4096 : Int) < (b.length : Nat)
  · simp [c1]
    refine post_end (.inr rfl) ?_
    simp
  by_cases c2 : (100 : Int) < (ds.length : Nat)
  · simp [c1, c2]
    refine post_end (.inr rfl) ?_
    simp
  have hlf := leaf_meets b (by omega)
  have hrlf := rleaf_meets b (by omega)
  have hrt := root_meets ds (by omega)
  have hrrt := rroot_meets ds.length ds (Nat.le_refl _) (by omega)
  generalize leafD b = x at *
  generalize rootD ds = r at *
  by_cases c3 : 0 ≤ at_ ∧ at_ < (ds.length : Nat)
  · obtain ⟨i, rfl⟩ : ∃ i : Nat, at_ = i := ⟨at_.toNat, by omega⟩
    have c4 : i < ds.length := by omega
    have h1 := pathP_meets ds i c4 (by omega)
    have h2 := rpath_meets ds.length ds i (Nat.le_refl _) (by omega) c4
    have h3 := pathD_len ds i
    generalize pathD ds i = p at *
    simp [c1, c2]
    refine call_intro h1 ?_ ?_
    · simp
    simp [c4]
    refine call_intro h2 ?_ ?_
    · simp
    simp
    refine call_intro hlf ?_ ?_
    · simp
    simp
    refine call_intro hrlf ?_ ?_
    · simp
    simp
    refine call_intro hrt ?_ ?_
    · simp
    simp
    refine call_intro hrrt ?_ ?_
    · simp
    simp
    refine call_intro (rsame_meets p p (by omega)) ?_ ?_
    · simp
    simp
    refine post_end (.inr rfl) ?_
    simp
  · have c4 : at_ < 0 ∨ (ds.length : Int) ≤ at_ := by omega
    simp [c1, c2]
    refine call_intro (pathP_none ds at_ c4) ?_ ?_
    · simp
    by_cases c5 : 0 ≤ at_
    · have c6 : ¬ at_ < (ds.length : Nat) := by omega
      simp [c5, c6]
      refine call_intro hlf ?_ ?_
      · simp
      simp
      refine call_intro hrlf ?_ ?_
      · simp
      simp
      refine call_intro hrt ?_ ?_
      · simp
      simp
      refine call_intro hrrt ?_ ?_
      · simp
      simp
      refine call_intro (rsame_meets [] [] (by simp)) ?_ ?_
      · simp
      simp
      refine post_end (.inr rfl) ?_
      simp
    · simp [c5]
      refine call_intro hlf ?_ ?_
      · simp
      simp
      refine call_intro hrlf ?_ ?_
      · simp
      simp
      refine call_intro hrt ?_ ?_
      · simp
      simp
      refine call_intro hrrt ?_ ?_
      · simp
      simp
      refine call_intro (rsame_meets [] [] (by simp)) ?_ ?_
      · simp
      simp
      refine post_end (.inr rfl) ?_
      simp
end Go.Proofs.YtmkkfccnacodoaaDoor.WL
