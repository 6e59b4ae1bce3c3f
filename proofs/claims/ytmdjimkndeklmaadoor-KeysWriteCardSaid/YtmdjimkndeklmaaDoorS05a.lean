/-
  CHAPTER 05: contracts of the program: trees.
-/
import Derived.Test.YtmdjimkndeklmaaDoorM05
import Derived.Test.YtmdjimkndeklmaaDoorS04b
import Derived.Test.YtmdjimkndeklmaaDoorS03b
import Derived.Test.YtmdjimkndeklmaaDoorP05
namespace Go.Proofs.YtmdjimkndeklmaaDoor.WL
open Go
set_option maxHeartbeats 4000000
attribute [local irreducible] comp hb sha leafD pairD secD shutD wholeD pubD ofD

theorem kleaf_meets (p : Dg) : Meets Tryd.prog Gt fn_keys_leaf [dv p] [] true (dv (leafK p)) [] := by
  refine meets_of_go mix k_keys_leaf ⟨by simp, by simp, by simp⟩ ?_
  have h := leaf_meets p.bs (by simp)
  unfold leafK
  generalize leafD p.bs = y at *
  simp
  refine call_intro h ?_ ?_
  · simp
  simp
  refine post_end (.inr rfl) ?_
  simp

/-- A tree in memory. -/
def trM (g : Nat) (seed : Dg) (h : Int) (ls : List Dg) : List (Nat × Loc) := [(1000, .var 0 (.node [dv seed, .v (.int .i64 h), .row 2000 32 g 0 ls.length])), (2000, .rows g 32 (Dgs ls))]
def trM1 (seed : Dg) (h : Int) (ls : List Dg) : List (Nat × Loc) := [(1000, .var 1 (.node [dv seed, .v (.int .i64 h), .row 2000 32 1 0 ls.length])), (2000, .rows 1 32 (Dgs ls))]

theorem knew_bad (seed : Dg) (h : Int) (hh : h < 0 ∨ 6 < h) : Meets Tryd.prog Gt fn_keys_New [dv seed, .v (.int .i64 h)] [] true (.tup [.v (.pointer none), .v (.int .i64 1)]) [] := by
  refine meets_of_go mix k_keys_New ⟨by simp, by simp, by simp⟩ ?_
  by_cases c1 : h < 0
  · simp [c1]
    refine post_end (.inr rfl) ?_
    simp
  · have c2 : 6 < h := by omega
    simp [c1, c2]
    refine post_end (.inr rfl) ?_
    simp

theorem knew_meets (seed : Dg) (h : Nat) (hh : h ≤ 6) (N : Nat) (hN : N = 32) :
    Meets Tryd.prog Gt fn_keys_New [dv seed, .v (.int .i64 (h : Nat))] [] true (.tup [.ptr 1000 1 0, .v (.int .i64 0)]) (trM1 seed h (leavesD seed N (2 ^ h))) := by
  refine meets_of_go mix k_keys_New ⟨by simp [trM1], by simp [trM1], by simp [trM1]⟩ ?_
  have c1 : ¬ (h : Int) < 0 := by omega
  have c2 : ¬ (6 : Int) < (h : Nat) := by omega
  have c3 : ¬ 6 < h := by omega
  have hmin : min h 64 = h := by omega
  obtain ⟨q, hq⟩ : ∃ q : Nat, q = 2 ^ h := ⟨_, rfl⟩
  have hq64 : q ≤ 64 := by rw [hq]; exact Nat.le_trans (Nat.pow_le_pow_right (by omega) hh) (by decide)
  have hqi : ((2 : Int) ^ h) = (q : Int) := by rw [hq]; simp
  have w1 : IntKind.i64.wrap (q : Int) = (q : Int) := w64_id (by omega)
  rw [← hq]
  simp [c1, c2, c3, hmin, hqi, w1]
  refine go_up q (fun j (x : List Dg) => x = leavesD seed N j) (fun j x c => ⟨[(2, .ptr 2 c 0), (6, .ptr 17 c 0), (19, .v (.int .i64 (q : Nat))), (20, .v (.int .i64 (j : Nat)))],
    [(2, .var c (dv seed)), (17, .var c (.node [dv seed, .v (.int .i64 (h : Nat)), .row 33 32 c 0 x.length])), (33, .rows c 32 (Dgs x))], c + 1⟩) [] _ (Weak.re (by simp)) rfl ?_ ?_
  · intro j x c hj hx
    have hw : IntKind.i64.wrap ((j : Int) + 1) = ((j + 1 : Nat) : Int) := w64_succ (by omega)
    have hxl : x.length = j := by rw [hx]; simp
    have f1 : fitsB (j + 1) 32 := fits (by omega) (by omega)
    have m1 := public_meets seed (j : Int) (by omega) N hN
    have m2 := kleaf_meets (pubD seed (j : Int) N)
    have hnx : x ++ [leafK (pubD seed (j : Int) N)] = leavesD seed N (j + 1) := by rw [hx]; rfl
    generalize pubD seed (j : Int) N = p at *
    generalize leafK p = k at *
    simp [hj]
    refine call_intro m1 ?_ ?_
    · simp
    simp
    refine call_intro m2 ?_ ?_
    · simp
    simp [f1, hxl, hw, Dgs_snoc]
    exact ⟨x ++ [k], _, Weak.re (by simp [hxl]), hnx⟩
  · intro x c hx
    have hxl : x.length = q := by rw [hx]; simp
    rw [← hx]
    simp
    refine post_end (.inr rfl) ?_
    simp [trM1, hxl]

theorem kkey_nil : Meets Tryd.prog Gt fn_keys_Tree_Key [.v (.pointer none)] [] true (.node [dv Dg.zero, .v (.int .i64 0)]) [] := by
  refine meets_of_go mix k_keys_Tree_Key ⟨by simp, by simp, by simp⟩ ?_
  simp
  refine post_end (.inr rfl) ?_
  simp

theorem kkey_meets (seed : Dg) (h : Int) (ls : List Dg) (hl : ls.length ≤ 1000000) : Meets Tryd.prog Gt fn_keys_Tree_Key [.ptr 1000 0 0] (trM 0 seed h ls) true (.node [dv (rootD ls), .v (.int .i64 h)]) (trM 1 seed h ls) := by
  refine meets_of_go mix k_keys_Tree_Key ⟨by simp [trM], by simp, by simp [trM]⟩ ?_
  have m1 := root_meets ls hl
  generalize rootD ls = y at *
  have htl : List.take ls.length ls = ls := List.take_of_length_le (by omega)
  simp [trM]
  refine call_intro m1 ?_ ?_
  · simp [htl]
  simp [htl]
  refine post_end (.inr rfl) ?_
  simp [htl]

theorem ksign_nil (n : Int) (d : Dg) : Meets Tryd.prog Gt fn_keys_Tree_Sign [.v (.pointer none), .v (.int .i64 n), dv d] [] true (.tup [.node [.v (.int .i64 0), .node [.v (.slice none 0 0), .v (.slice none 0 0)], .v (.slice none 0 0)], .v (.int .i64 2)]) [] := by
  refine meets_of_go mix k_keys_Tree_Sign ⟨by simp, by simp, by simp⟩ ?_
  simp
  refine post_end (.inr rfl) ?_
  simp

theorem ksign_bad (seed : Dg) (h : Int) (ls : List Dg) (n : Int) (d : Dg) (hn : n < 0 ∨ (ls.length : Int) ≤ n) :
    Meets Tryd.prog Gt fn_keys_Tree_Sign [.ptr 1000 0 0, .v (.int .i64 n), dv d] (trM 0 seed h ls) true (.tup [.node [.v (.int .i64 0), .node [.v (.slice none 0 0), .v (.slice none 0 0)], .v (.slice none 0 0)], .v (.int .i64 1)]) (trM 1 seed h ls) := by
  refine meets_of_go mix k_keys_Tree_Sign ⟨by simp [trM], by simp, by simp [trM]⟩ ?_
  have m1 := pathP_none ls n hn
  have htl : List.take ls.length ls = ls := List.take_of_length_le (by omega)
  simp [trM]
  refine call_intro m1 ?_ ?_
  · simp [htl]
  simp [htl]
  refine post_end (.inr rfl) ?_
  simp [htl]

theorem ksign_meets (seed : Dg) (h : Int) (ls : List Dg) (n : Nat) (d : Dg) (hn : n < ls.length) (hl : ls.length ≤ 1000000) (N : Nat) (hN : N = 32) :
    Meets Tryd.prog Gt fn_keys_Tree_Sign [.ptr 1000 0 0, .v (.int .i64 (n : Nat)), dv d] (trM 0 seed h ls) true (.tup [Sig.avR 3000 4000 5000 1 (signK seed ls n d N), .v (.int .i64 0)]) (trM 1 seed h ls ++ Sig.rows 3000 4000 5000 1 (signK seed ls n d N)) := by
  refine meets_of_go mix k_keys_Tree_Sign ⟨by simp [trM, Sig.rows], by simp [trM, Sig.rows, Sig.avR], by simp [trM, Sig.rows]⟩ ?_
  have m1 := pathP_meets ls n hn hl
  have m2 := sign_meets seed (n : Int) d (by omega) N hN
  have ho := openL_length seed (n : Int) d N
  have hs := shutL_length seed (n : Int) d N
  unfold signK
  generalize openL seed (n : Int) d N = o at *
  generalize shutL seed (n : Int) d N = s at *
  generalize pathD ls n = p at *
  have htl : List.take ls.length ls = ls := List.take_of_length_le (by omega)
  simp [trM]
  refine call_intro m1 ?_ ?_
  · simp [htl]
  simp [htl]
  refine call_intro m2 ?_ ?_
  · simp
  simp
  refine post_end (.inr rfl) ?_
  simp [Sig.avR, Sig.rows, ho, hs]

theorem kcheck_meets (root : Dg) (h : Int) (d : Dg) (s : Sig) (hh : -9223372036854775808 ≤ h ∧ h < 9223372036854775808) (hl : -9223372036854775808 ≤ s.leaf ∧ s.leaf < 9223372036854775808) :
    Meets Tryd.prog Gt fn_keys_Check [.node [dv root, .v (.int .i64 h)], dv d, s.avS] [] true (.v (.bool (checkK root h d s))) [] := by
  refine meets_of_go mix k_keys_Check ⟨by simp, by simp, by simp⟩ ?_
  unfold checkK
  by_cases h1 : s.op.length = 32 ∧ s.sh.length = 32
  · have m1 := of4_meets d s.op s.sh 32 rfl h1.1 h1.2
    generalize ofD d s.op s.sh 32 = y at *
    have m2 := kleaf_meets y
    generalize leafK y = z at *
    by_cases h2 : 0 ≤ h
    · by_cases h3 : h ≤ 6
      · obtain ⟨n, rfl⟩ : ∃ n : Nat, h = n := ⟨h.toNat, by omega⟩
        have hmin : min n 64 = n := by omega
        obtain ⟨q, hq⟩ : ∃ q : Nat, q = 2 ^ n := ⟨_, rfl⟩
        have hq64 : q ≤ 64 := by rw [hq]; exact Nat.le_trans (Nat.pow_le_pow_right (by omega) (show n ≤ 6 by omega)) (by decide)
        have hqi : ((2 : Int) ^ n) = (q : Int) := by rw [hq]; simp
        have w1 : IntKind.i64.wrap (q : Int) = (q : Int) := w64_id (by omega)
        have hn6 : (n : Int) ≤ 6 := h3
        rw [Int.toNat_natCast, ← hq]
        by_cases h4 : 0 ≤ s.leaf ∧ s.leaf < (q : Nat)
        · obtain ⟨i, hi⟩ : ∃ i : Nat, s.leaf = i := ⟨s.leaf.toNat, by omega⟩
          rw [hi] at h4
          have m3 := checkP_meets root z i q s.path (by omega) (by omega)
          rw [hi, Int.toNat_natCast]
          generalize checkD root z i q s.path = e at *
          simp [Sig.avS]
          refine call_intro m1 ?_ ?_
          · simp
          simp [h2, h3, hn6]
          refine call_intro m2 ?_ ?_
          · simp
          simp [hmin, hqi, w1, hi]
          refine call_intro m3 ?_ ?_
          · simp
          simp
          refine post_end (.inr rfl) ?_
          have h5 : i < q := by omega
          simp [h1, h5]
        · have m3 := checkP_out root z s.leaf (q : Int) s.path (by omega)
          simp [Sig.avS]
          refine call_intro m1 ?_ ?_
          · simp
          simp [h2, h3, hn6]
          refine call_intro m2 ?_ ?_
          · simp
          simp [hmin, hqi, w1]
          refine call_intro m3 ?_ ?_
          · simp
          simp
          refine post_end (.inr rfl) ?_
          simp [h4]
      · simp [Sig.avS]
        refine call_intro m1 ?_ ?_
        · simp
        simp [h2, h3]
        refine post_end (.inr rfl) ?_
        simp [h3]
    · simp [Sig.avS]
      refine call_intro m1 ?_ ?_
      · simp
      simp [h2]
      refine post_end (.inr rfl) ?_
      simp [h2]
  · have m1 := of4_bad d s.op s.sh h1
    simp [Sig.avS]
    refine call_intro m1 ?_ ?_
    · simp
    simp
    refine post_end (.inr rfl) ?_
    simp [h1]
end Go.Proofs.YtmdjimkndeklmaaDoor.WL
