/-
  CHAPTER 03: contracts of the program.
-/
import Derived.Test.YtmkkfccnacodoaaDoorM03
import Derived.Test.YtmkkfccnacodoaaDoorS02f
namespace Go.Proofs.YtmkkfccnacodoaaDoor.WL
open Go
set_option maxHeartbeats 4000000
attribute [local irreducible] comp hb sha leafD pairD

theorem pair1_meets (a b : Dg) : Meets Tryd.prog Gt fn_sha_Pair [.v (.int .u8 1), dv a, dv b] [] true (dv (pairD a b)) [] := by
  unfold pairD
  exact pair_meets 1 a b

theorem leaf_meets (b : Bytes) (h : b.length ≤ 1000000) : Meets Tryd.prog Gt fn_tree_Leaf [.sl 1 (B b)] [] true (dv (leafD b)) [] := by
  refine meets_of_go mix k_tree_Leaf ⟨by simp, by simp, by simp⟩ ?_
  have e : cat [[0], b] = 0 :: b := by simp [cat]
  have h1 := of_meets [[0], b] (by simp) (by rw [e, List.length_cons]; omega)
  rw [e] at h1
  have e2 : sha (0 :: b) = leafD b := by unfold leafD; rfl
  rw [e2] at h1
  simp
  refine call_intro h1 ?_ ?_
  · simp [Bss, B_one]
  simp
  refine post_end (.inr rfl) ?_
  simp

theorem up_meets (ds : List Dg) (h0 : ds ≠ []) (hn : ds.length ≤ 1000000) :
    Meets Tryd.prog Gt fn_tree_up [.sl 32 (Dgs ds)] [] true (.row 1000 32 1 0 (upD ds).length) [(1000, .rows 1 32 (Dgs (upD ds)))] := by
  refine meets_of_go mix k_tree_up ⟨by simp, by simp, by simp⟩ ?_
  simp
  have hl := upD_length ds
  have hl0 : 0 < ds.length := List.length_pos_iff.2 h0
  refine go_up (ds.length / 2) (fun j (x : List Dg) => x = (upD ds).take j ∧ x.length = j) (fun j x c => ⟨[(0, .sl 32 (Dgs ds)), (3, .row 3 32 c 0 j), (4, .v (.int .i64 ((2 * j : Nat) : Int)))], [(3, .rows c 32 (Dgs x))], c + 1⟩) [] _ (Weak.re (by simp)) (by simp) ?_ ?_
  · rintro j x c hj ⟨hx, hxl⟩
    obtain ⟨q, hq⟩ : ∃ q : Nat, q = 2 * j := ⟨_, rfl⟩
    have hq2 : q < ds.length ∧ q + 1 < ds.length := by omega
    have c1 : (q : Int) < (ds.length : Nat) := by omega
    have c2 : IntKind.i64.wrap ((q : Int) + 1) = ((q + 1 : Nat) : Int) := w64_succ (by omega)
    have c3 : IntKind.i64.wrap ((q : Int) + 2) = ((q + 2 : Nat) : Int) := by rw [w64_id (by omega)]; omega
    have c4 : ¬ ((q + 1 : Nat) : Int) = (ds.length : Nat) := by omega
    have f1 : fitsB (j + 1) 32 := fits (by omega) (by omega)
    have hp := upD_pair ds j (by omega)
    rw [← hx] at hp
    have e1 : ds[2 * j]'(by omega) = ds[q]'hq2.1 := by simp [hq]
    have e2 : ds[2 * j + 1]'(by omega) = ds[q + 1]'hq2.2 := by simp [hq]
    rw [e1, e2] at hp
    rw [← hq]
    obtain ⟨q1, hq1⟩ : ∃ q1 : Nat, q1 = q + 1 := ⟨_, rfl⟩
    have hq3 : q1 < ds.length := by omega
    have e3 : ds[q + 1]'hq2.2 = ds[q1]'hq3 := by simp [hq1]
    rw [e3] at hp
    rw [← hq1] at c2 c4
    have c5 : ¬ ((q1 : Int) = (ds.length : Nat)) := by omega
    simp [c1, c2, c4, c5, hq2, hq3]
    refine call_intro (pair1_meets ds[q] ds[q1]) ?_ ?_
    · simp
    simp [f1, hxl, c3]
    exact ⟨x ++ [pairD ds[q] ds[q1]], _, Weak.re (by simp [Dgs_snoc, hxl]; omega), hp.symm, by simp [hxl]⟩
  · rintro x c ⟨hx, hxl⟩
    obtain ⟨j, hj⟩ : ∃ j : Nat, j = ds.length / 2 := ⟨_, rfl⟩
    rw [← hj] at hx hxl ⊢
    obtain ⟨q, hq⟩ : ∃ q : Nat, q = 2 * j := ⟨_, rfl⟩
    rw [← hq]
    by_cases ho : q + 1 = ds.length
    · have hq2 : q < ds.length := by omega
      have c1 : (q : Int) < (ds.length : Nat) := by omega
      have c2 : IntKind.i64.wrap ((q : Int) + 1) = (ds.length : Nat) := by rw [w64_id (by omega)]; omega
      have f1 : fitsB (j + 1) 32 := fits (by omega) (by omega)
      have hp := upD_one ds j (by omega)
      rw [← hx] at hp
      have e1 : ds[2 * j]'(by omega) = ds[q]'hq2 := by simp [hq]
      rw [e1, List.take_of_length_le (by omega)] at hp
      simp [c1, c2, hq2, f1, hxl]
      refine post_end (.inr rfl) ?_
      simp [hp, Dgs_snoc, hxl]
    · have c1 : ¬ (q : Int) < (ds.length : Nat) := by omega
      have hp : x = upD ds := by rw [hx, upD_all ds j (by omega)]
      subst hp
      simp [c1, hxl]
      refine post_end (.inr rfl) ?_
      simp [hxl]

theorem root_meets (ds : List Dg) (hn : ds.length ≤ 1000000) : Meets Tryd.prog Gt fn_tree_Root [.sl 32 (Dgs ds)] [] true (dv (rootD ds)) [] := by
  refine meets_of_go mix k_tree_Root ⟨by simp, by simp, by simp⟩ ?_
  by_cases h0 : ds = []
  · subst h0
    have h1 := of_meets [] (by simp) (by simp)
    rw [cat_nil] at h1
    rw [rootD_nil]
    simp
    refine call_intro h1 ?_ ?_
    · simp [Bss]
    simp
    refine post_end (.inr rfl) ?_
    simp
  · have hl0 : 0 < ds.length := List.length_pos_iff.2 h0
    have f1 : fitsB ds.length 32 := fits (by omega) (by omega)
    have n0 : ¬ ds.length = 0 := by omega
    simp [n0, h0, f1]
    refine go_wh (fun l : List Dg => l.length) (fun l => 0 < l.length ∧ l.length ≤ 1000000 ∧ rootD l = rootD ds) (fun l c => ⟨[(2, .ptr 2 c 0), (3, .row 3 32 c 0 l.length)], [(2, .var c (dv Dg.zero)), (3, .rows c 32 (Dgs l))], c + 1⟩) ds _ (Weak.re (by simp)) ⟨hl0, hn, rfl⟩ ?_
    rintro l c ⟨hl, hln, hr⟩
    by_cases h1 : 1 < l.length
    · have c1 : (1 : Int) < (l.length : Nat) := by omega
      simp [c1, h1]
      refine call_intro (up_meets l (List.length_pos_iff.1 hl) hln) ?_ ?_
      · simp
      simp
      exact ⟨upD l, _, Weak.re (by simp), ⟨by rw [upD_length]; omega, by rw [upD_length]; omega, by rw [← rootD_up l h1]; exact hr⟩, by show (upD l).length < l.length; rw [upD_length]; omega⟩
    · have c1 : ¬ (1 : Int) < (l.length : Nat) := by omega
      obtain ⟨a, rfl⟩ : ∃ a, l = [a] := by
        match l, hl, h1 with
        | [a], _, _ => exact ⟨a, rfl⟩
        | a :: b :: r, _, h => simp only [List.length_cons] at h; omega
      rw [rootD_one] at hr
      subst hr
      simp [c1, h1, Dgs_one]
      refine post_end (.inr rfl) ?_
      simp
end Go.Proofs.YtmkkfccnacodoaaDoor.WL
