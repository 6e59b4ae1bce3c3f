/- Texts put together: S03b, S05a, S14d, S03c, S14g, S04c. -/
import Derived.Test.YtjlmpdbagmdbiaaDoorWm10
section
/-
  CHAPTER 03: contracts of the program: paths.
-/
namespace Go.Proofs.YtjlmpdbagmdbiaaDoor.WL
open Go
set_option maxHeartbeats 4000000
attribute [local irreducible] comp hb sha leafD pairD

theorem pathP_meets (ds : List Dg) (at_ : Nat) (h : at_ < ds.length) (hn : ds.length ≤ 1000000) :
    Meets Tryd.prog Gt fn_tree_Path [.v (.int .i64 (at_ : Nat)), .sl 32 (Dgs ds)] [] true (.tup [.row 1000 32 1 0 (pathD ds at_).length, .v (.bool true)]) [(1000, .rows 1 32 (Dgs (pathD ds at_)))] := by
  refine meets_of_go mix k_tree_Path ⟨by simp, by simp, by simp⟩ ?_
  have c0 : ¬ (at_ : Int) < 0 := by omega
  have c1 : ¬ (ds.length : Int) ≤ (at_ : Nat) := by omega
  have f1 : fitsB ds.length 32 := fits (by omega) (by omega)
  have c2 : ¬ ds.length ≤ at_ := by omega
  simp [c0, c1, c2, f1]
  refine go_wh (fun a : List Dg × Nat × List Dg => a.1.length) (fun a => a.2.1 < a.1.length ∧ a.1.length ≤ 1000000 ∧ a.2.2.length + a.1.length ≤ 2000000 ∧ a.2.2 ++ pathD a.1 a.2.1 = pathD ds at_)
    (fun a c => ⟨[(0, .v (.int .i64 (a.2.1 : Nat))), (6, .row 6 32 c 0 a.2.2.length), (7, .row 7 32 c 0 a.1.length)], [(6, .rows c 32 (Dgs a.2.2)), (7, .rows c 32 (Dgs a.1))], c + 1⟩) (ds, at_, []) _ (Weak.re (by simp)) ⟨h, hn, by simp; omega, by simp⟩ ?_
  rintro ⟨l, i, acc⟩ c ⟨hi, hln, hac, hp⟩
  simp only at hi hln hac hp
  by_cases h1 : 1 < l.length
  · have c3 : (1 : Int) < (l.length : Nat) := by omega
    have hx := xor_sib i (by omega)
    have hd : Int.tdiv (i : Int) 2 = ((i / 2 : Nat) : Int) := by rw [Int.tdiv_eq_ediv_of_nonneg (by omega)]; omega
    have hw : IntKind.i64.wrap ((i / 2 : Nat) : Int) = ((i / 2 : Nat) : Int) := w64_id (by omega)
    have hw2 : IntKind.i64.wrap ((i : Int) / 2) = (i : Int) / 2 := w64_id (by omega)
    rw [pathD_up l i h1] at hp
    have hul := upD_length l
    obtain ⟨s, hs⟩ : ∃ s, sib i = s := ⟨_, rfl⟩
    rw [hs] at hx hp
    by_cases h2 : s < l.length
    · have c4 : (s : Int) < (l.length : Nat) := by omega
      have f2 : fitsB (acc.length + 1) 32 := fits (by omega) (by omega)
      have hg : (l[s]?).toList = [l[s]] := by rw [List.getElem?_eq_getElem h2]; rfl
      rw [hg, ← List.append_assoc] at hp
      simp [c3, h1, hx, h2, c4, f2]
      refine call_intro (up_meets l (by intro e; subst e; simp at h2) hln) ?_ ?_
      · simp
      simp [hd, hw, hw2]
      exact ⟨(upD l, i / 2, acc ++ [l[s]]), _, Weak.re (by simp [Dgs_snoc]), ⟨by dsimp only; rw [hul]; omega, by dsimp only; rw [hul]; omega, by dsimp only; rw [hul, List.length_append, List.length_singleton]; omega, hp⟩, by show (upD l).length < l.length; rw [upD_length]; omega⟩
    · have c4 : ¬ (s : Int) < (l.length : Nat) := by omega
      have hg : (l[s]?).toList = [] := by rw [List.getElem?_eq_none (by omega)]; rfl
      rw [hg, List.nil_append] at hp
      simp [c3, h1, hx, h2, c4]
      refine call_intro (up_meets l (by intro e; subst e; simp at h1) hln) ?_ ?_
      · simp
      simp [hd, hw, hw2]
      exact ⟨(upD l, i / 2, acc), _, Weak.re (by simp), ⟨by dsimp only; rw [hul]; omega, by dsimp only; rw [hul]; omega, by dsimp only; rw [hul]; omega, hp⟩, by show (upD l).length < l.length; rw [upD_length]; omega⟩
  · have c3 : ¬ (1 : Int) < (l.length : Nat) := by omega
    rw [pathD_end l i (by omega), List.append_nil] at hp
    subst hp
    simp [c3, h1]
    refine post_end (.inr rfl) ?_
    simp

theorem checkP_out (root leaf : Dg) (at_ count : Int) (path : List Dg) (h : at_ < 0 ∨ count ≤ at_) : Meets Tryd.prog Gt fn_tree_Check [dv root, dv leaf, .v (.int .i64 at_), .v (.int .i64 count), .sl 32 (Dgs path)] [] true (.v (.bool false)) [] := by
  refine meets_of_go mix k_tree_Check ⟨by simp, by simp, by simp⟩ ?_
  by_cases c1 : at_ < 0
  · simp [c1]
    refine post_end (.inr rfl) ?_
    simp
  · have c2 : count ≤ at_ := by omega
    simp [c1, c2]
    refine post_end (.inr rfl) ?_
    simp

theorem checkP_meets (root leaf : Dg) (at_ count : Nat) (path : List Dg) (h : at_ < count) (hc : count < 9223372036854775808) :
    Meets Tryd.prog Gt fn_tree_Check [dv root, dv leaf, .v (.int .i64 (at_ : Nat)), .v (.int .i64 (count : Nat)), .sl 32 (Dgs path)] [] true (.v (.bool (checkD root leaf at_ count path))) [] := by
  refine meets_of_go mix k_tree_Check ⟨by simp, by simp, by simp⟩ ?_
  have c0 : ¬ (at_ : Int) < 0 := by omega
  have c1 : ¬ (count : Int) ≤ (at_ : Nat) := by omega
  have c2 : ¬ count ≤ at_ := by omega
  simp [c0, c1, c2]
  refine go_wh (fun a : Dg × Nat × Nat × List Dg => a.2.2.1) (fun a => a.2.1 < a.2.2.1 ∧ a.2.2.1 < 9223372036854775808 ∧ checkD root a.1 a.2.1 a.2.2.1 a.2.2.2 = checkD root leaf at_ count path)
    (fun a c => ⟨[(2, .v (.int .i64 (a.2.1 : Nat))), (3, .v (.int .i64 (a.2.2.1 : Nat))), (4, .sl 32 (Dgs a.2.2.2)), (5, .ptr 5 c 0), (6, .ptr 6 c 0)], [(5, .var c (dv root)), (6, .var c (dv a.1))], c + 1⟩) (leaf, at_, count, path) _ (Weak.re (by simp)) ⟨h, hc, rfl⟩ ?_
  rintro ⟨lf, i, n, p⟩ c ⟨hi, hn, hr⟩
  simp only at hi hn hr
  rw [← hr]
  by_cases h1 : 1 < n
  · have c3 : (1 : Int) < (n : Nat) := by omega
    have hx := xor_sib i (by omega)
    have hd : Int.tdiv (i : Int) 2 = ((i / 2 : Nat) : Int) := by rw [Int.tdiv_eq_ediv_of_nonneg (by omega)]; omega
    have hw : IntKind.i64.wrap ((i : Int) / 2) = (i : Int) / 2 := w64_id (by omega)
    have hw1 : IntKind.i64.wrap ((n : Int) - 1) = ((n - 1 : Nat) : Int) := by rw [w64_id (by omega)]; omega
    have hd2 : Int.tdiv ((n - 1 : Nat) : Int) 2 = (((n - 1) / 2 : Nat) : Int) := by rw [Int.tdiv_eq_ediv_of_nonneg (by omega)]; omega
    have hw2 : IntKind.i64.wrap (((n - 1) / 2 : Nat) : Int) = (((n - 1) / 2 : Nat) : Int) := w64_id (by omega)
    have hw3 : IntKind.i64.wrap ((((n - 1) / 2 : Nat) : Int) + 1) = (((n + 1) / 2 : Nat) : Int) := by rw [w64_id (by omega)]; omega
    obtain ⟨s, hs⟩ : ∃ s, sib i = s := ⟨_, rfl⟩
    rw [hs] at hx
    obtain ⟨n1, hn1⟩ : ∃ n1, n - 1 = n1 := ⟨_, rfl⟩
    rw [hn1] at hw1 hd2 hw2 hw3
    obtain ⟨n2, hn2⟩ : ∃ n2, n1 / 2 = n2 := ⟨_, rfl⟩
    rw [hn2] at hd2 hw2 hw3
    by_cases h2 : n ≤ s
    · have c4 : (n : Int) ≤ (s : Nat) := by omega
      have hu := checkD_up root lf i n p h1 (by omega)
      simp [c3, h1, hx, h2, c4, hd, hw, hw1, hd2, hw2, hw3]
      exact ⟨(lf, i / 2, (n + 1) / 2, p), _, Weak.re (by simp), ⟨by show i / 2 < (n + 1) / 2; omega, by show (n + 1) / 2 < _; omega, by dsimp only; rw [← hu, hr]⟩, by show (n + 1) / 2 < n; omega⟩
    · have c4 : ¬ (n : Int) ≤ (s : Nat) := by omega
      cases p with
      | nil =>
        have hu := checkD_none root lf i n h1 (by omega)
        simp [c3, h1, hx, h2, c4]
        refine post_end (.inr rfl) ?_
        simp [hu]
      | cons q ps =>
        have hu := checkD_pair root lf i n q ps h1 (by omega)
        have hn0 : ¬ ((ps.length : Int) + 1 = 0) := by omega
        have hn3 : (0 : Int) < (ps.length : Int) + 1 := by omega
        have hn4 : (1 : Int) ≤ (ps.length : Int) + 1 := by omega
        have hDg : Dgs (q :: ps) = dv q :: Dgs ps := rfl
        by_cases h3 : i % 2 = 1
        · have h4 : s < i := by rw [← hs]; unfold sib; rw [if_pos h3]; omega
          have c5 : (s : Int) < (i : Nat) := by omega
          rw [if_pos h3] at hu
          simp [c3, h1, hx, h2, c4, hn0, hn3, c5, h4, hDg]
          refine call_intro (pair1_meets q lf) ?_ ?_
          · simp
          simp [hd, hw, hw1, hd2, hw2, hw3, hn4]
          exact ⟨(pairD q lf, i / 2, (n + 1) / 2, ps), _, Weak.re (by simp), ⟨by show i / 2 < (n + 1) / 2; omega, by show (n + 1) / 2 < _; omega, by dsimp only; rw [← hu, hr]⟩, by show (n + 1) / 2 < n; omega⟩
        · have h4 : ¬ s < i := by rw [← hs]; unfold sib; rw [if_neg h3]; omega
          have c5 : ¬ (s : Int) < (i : Nat) := by omega
          rw [if_neg h3] at hu
          simp [c3, h1, hx, h2, c4, hn0, hn3, c5, h4, hDg]
          refine call_intro (pair1_meets lf q) ?_ ?_
          · simp
          simp [hd, hw, hw1, hd2, hw2, hw3, hn4]
          exact ⟨(pairD lf q, i / 2, (n + 1) / 2, ps), _, Weak.re (by simp), ⟨by show i / 2 < (n + 1) / 2; omega, by show (n + 1) / 2 < _; omega, by dsimp only; rw [← hu, hr]⟩, by show (n + 1) / 2 < n; omega⟩
  · have c3 : ¬ (1 : Int) < (n : Nat) := by omega
    have hu := checkD_end root lf i n p (by omega)
    rw [hu]
    by_cases h5 : p = []
    · subst h5
      simp [c3, h1]
      refine post_end (.inr rfl) ?_
      simp
    · have h6 : ¬ p.length = 0 := by intro e; exact h5 (List.eq_nil_of_length_eq_zero e)
      have h7 : ¬ ((p.length : Int) = 0) := by omega
      simp [c3, h1, h6, h7, h5]
      refine post_end (.inr rfl) ?_
      simp
end Go.Proofs.YtjlmpdbagmdbiaaDoor.WL

end
section
/-
  CHAPTER 05: contracts of the program: trees.
-/
namespace Go.Proofs.YtjlmpdbagmdbiaaDoor.WL
open Go
set_option maxHeartbeats 4000000
attribute [local irreducible] comp hb sha leafD pairD secD shutD wholeD pubD ofD

theorem kleaf_meets (p : Dg) : Meets Tryd.prog Gt fn_keys_leaf [dv p] [] true (dv (leafK p)) [] := by
  refine meets_of_go mix k_keys_leaf ⟨by simp, by simp, by simp⟩ ?_
  have h := leaf_meets p.bs (by simp)
  unfold leafK
  generalize leafD p.bs = y at *
  simp
  refine call_intro h ?_ ?_
  · simp
  simp
  refine post_end (.inr rfl) ?_
  simp

/-- A tree in memory. -/
def trM (g : Nat) (seed : Dg) (h : Int) (ls : List Dg) : List (Nat × Loc) := [(1000, .var 0 (.node [dv seed, .v (.int .i64 h), .row 2000 32 g 0 ls.length])), (2000, .rows g 32 (Dgs ls))]
def trM1 (seed : Dg) (h : Int) (ls : List Dg) : List (Nat × Loc) := [(1000, .var 1 (.node [dv seed, .v (.int .i64 h), .row 2000 32 1 0 ls.length])), (2000, .rows 1 32 (Dgs ls))]

theorem knew_meets (seed : Dg) (h : Nat) (hh : h ≤ 6) (N : Nat) (hN : N = 32) :
    Meets Tryd.prog Gt fn_keys_New [dv seed, .v (.int .i64 (h : Nat))] [] true (.tup [.ptr 1000 1 0, .v (.int .i64 0)]) (trM1 seed h (leavesD seed N (2 ^ h))) := by
  refine meets_of_go mix k_keys_New ⟨by simp [trM1], by simp [trM1], by simp [trM1]⟩ ?_
  have c1 : ¬ (h : Int) < 0 := by omega
  have c2 : ¬ (6 : Int) < (h : Nat) := by omega
  have c3 : ¬ 6 < h := by omega
  have hmin : min h 64 = h := by omega
  obtain ⟨q, hq⟩ : ∃ q : Nat, q = 2 ^ h := ⟨_, rfl⟩
  have hq64 : q ≤ 64 := by rw [hq]; exact Nat.le_trans (Nat.pow_le_pow_right (by omega) hh) (by decide)
  have hqi : ((2 : Int) ^ h) = (q : Int) := by rw [hq]; simp
  have w1 : IntKind.i64.wrap (q : Int) = (q : Int) := w64_id (by omega)
  rw [← hq]
  simp [c1, c2, c3, hmin, hqi, w1]
  refine go_up q (fun j (x : List Dg) => x = leavesD seed N j) (fun j x c => ⟨[(2, .ptr 2 c 0), (6, .ptr 17 c 0), (19, .v (.int .i64 (q : Nat))), (20, .v (.int .i64 (j : Nat)))],
    [(2, .var c (dv seed)), (17, .var c (.node [dv seed, .v (.int .i64 (h : Nat)), .row 33 32 c 0 x.length])), (33, .rows c 32 (Dgs x))], c + 1⟩) [] _ (Weak.re (by simp)) rfl ?_ ?_
  · intro j x c hj hx
    have hw : IntKind.i64.wrap ((j : Int) + 1) = ((j + 1 : Nat) : Int) := w64_succ (by omega)
    have hxl : x.length = j := by rw [hx]; simp
    have f1 : fitsB (j + 1) 32 := fits (by omega) (by omega)
    have m1 := public_meets seed (j : Int) (by omega) N hN
    have m2 := kleaf_meets (pubD seed (j : Int) N)
    have hnx : x ++ [leafK (pubD seed (j : Int) N)] = leavesD seed N (j + 1) := by rw [hx]; rfl
    generalize pubD seed (j : Int) N = p at *
    generalize leafK p = k at *
    simp [hj]
    refine call_intro m1 ?_ ?_
    · simp
    simp
    refine call_intro m2 ?_ ?_
    · simp
    simp [f1, hxl, hw, Dgs_snoc]
    exact ⟨x ++ [k], _, Weak.re (by simp [hxl]), hnx⟩
  · intro x c hx
    have hxl : x.length = q := by rw [hx]; simp
    rw [← hx]
    simp
    refine post_end (.inr rfl) ?_
    simp [trM1, hxl]

theorem kkey_meets (seed : Dg) (h : Int) (ls : List Dg) (hl : ls.length ≤ 1000000) : Meets Tryd.prog Gt fn_keys_Tree_Key [.ptr 1000 0 0] (trM 0 seed h ls) true (.node [dv (rootD ls), .v (.int .i64 h)]) (trM 1 seed h ls) := by
  refine meets_of_go mix k_keys_Tree_Key ⟨by simp [trM], by simp, by simp [trM]⟩ ?_
  have m1 := root_meets ls hl
  generalize rootD ls = y at *
  have htl : List.take ls.length ls = ls := List.take_of_length_le (by omega)
  simp [trM]
  refine call_intro m1 ?_ ?_
  · simp [htl]
  simp [htl]
  refine post_end (.inr rfl) ?_
  simp [htl]

theorem ksign_meets (seed : Dg) (h : Int) (ls : List Dg) (n : Nat) (d : Dg) (hn : n < ls.length) (hl : ls.length ≤ 1000000) (N : Nat) (hN : N = 32) :
    Meets Tryd.prog Gt fn_keys_Tree_Sign [.ptr 1000 0 0, .v (.int .i64 (n : Nat)), dv d] (trM 0 seed h ls) true (.tup [Sig.avR 3000 4000 5000 1 (signK seed ls n d N), .v (.int .i64 0)]) (trM 1 seed h ls ++ Sig.rows 3000 4000 5000 1 (signK seed ls n d N)) := by
  refine meets_of_go mix k_keys_Tree_Sign ⟨by simp [trM, Sig.rows], by simp [trM, Sig.rows, Sig.avR], by simp [trM, Sig.rows]⟩ ?_
  have m1 := pathP_meets ls n hn hl
  have m2 := sign_meets seed (n : Int) d (by omega) N hN
  have ho := openL_length seed (n : Int) d N
  have hs := shutL_length seed (n : Int) d N
  unfold signK
  generalize openL seed (n : Int) d N = o at *
  generalize shutL seed (n : Int) d N = s at *
  generalize pathD ls n = p at *
  have htl : List.take ls.length ls = ls := List.take_of_length_le (by omega)
  simp [trM]
  refine call_intro m1 ?_ ?_
  · simp [htl]
  simp [htl]
  refine call_intro m2 ?_ ?_
  · simp
  simp
  refine post_end (.inr rfl) ?_
  simp [Sig.avR, Sig.rows, ho, hs]

theorem kcheck_meets (root : Dg) (h : Int) (d : Dg) (s : Sig) (hh : -9223372036854775808 ≤ h ∧ h < 9223372036854775808) (hl : -9223372036854775808 ≤ s.leaf ∧ s.leaf < 9223372036854775808) :
    Meets Tryd.prog Gt fn_keys_Check [.node [dv root, .v (.int .i64 h)], dv d, s.avS] [] true (.v (.bool (checkK root h d s))) [] := by
  refine meets_of_go mix k_keys_Check ⟨by simp, by simp, by simp⟩ ?_
  unfold checkK
  by_cases h1 : s.op.length = 32 ∧ s.sh.length = 32
  · have m1 := of4_meets d s.op s.sh 32 rfl h1.1 h1.2
    generalize ofD d s.op s.sh 32 = y at *
    have m2 := kleaf_meets y
    generalize leafK y = z at *
    by_cases h2 : 0 ≤ h
    · by_cases h3 : h ≤ 6
      · obtain ⟨n, rfl⟩ : ∃ n : Nat, h = n := ⟨h.toNat, by omega⟩
        have hmin : min n 64 = n := by omega
        obtain ⟨q, hq⟩ : ∃ q : Nat, q = 2 ^ n := ⟨_, rfl⟩
        have hq64 : q ≤ 64 := by rw [hq]; exact Nat.le_trans (Nat.pow_le_pow_right (by omega) (show n ≤ 6 by omega)) (by decide)
        have hqi : ((2 : Int) ^ n) = (q : Int) := by rw [hq]; simp
        have w1 : IntKind.i64.wrap (q : Int) = (q : Int) := w64_id (by omega)
        have hn6 : (n : Int) ≤ 6 := h3
        rw [Int.toNat_natCast, ← hq]
        by_cases h4 : 0 ≤ s.leaf ∧ s.leaf < (q : Nat)
        · obtain ⟨i, hi⟩ : ∃ i : Nat, s.leaf = i := ⟨s.leaf.toNat, by omega⟩
          rw [hi] at h4
          have m3 := checkP_meets root z i q s.path (by omega) (by omega)
          rw [hi, Int.toNat_natCast]
          generalize checkD root z i q s.path = e at *
          simp [Sig.avS]
          refine call_intro m1 ?_ ?_
          · simp
          simp [h2, h3, hn6]
          refine call_intro m2 ?_ ?_
          · simp
          simp [hmin, hqi, w1, hi]
          refine call_intro m3 ?_ ?_
          · simp
          simp
          refine post_end (.inr rfl) ?_
          have h5 : i < q := by omega
          simp [h1, h5]
        · have m3 := checkP_out root z s.leaf (q : Int) s.path (by omega)
          simp [Sig.avS]
          refine call_intro m1 ?_ ?_
          · simp
          simp [h2, h3, hn6]
          refine call_intro m2 ?_ ?_
          · simp
          simp [hmin, hqi, w1]
          refine call_intro m3 ?_ ?_
          · simp
          simp
          refine post_end (.inr rfl) ?_
          simp [h4]
      · simp [Sig.avS]
        refine call_intro m1 ?_ ?_
        · simp
        simp [h2, h3]
        refine post_end (.inr rfl) ?_
        simp [h3]
    · simp [Sig.avS]
      refine call_intro m1 ?_ ?_
      · simp
      simp [h2]
      refine post_end (.inr rfl) ?_
      simp [h2]
  · have m1 := of4_bad d s.op s.sh h1
    simp [Sig.avS]
    refine call_intro m1 ?_ ?_
    · simp
    simp
    refine post_end (.inr rfl) ?_
    simp [h1]
end Go.Proofs.YtjlmpdbagmdbiaaDoor.WL

end
section
/-
  CHAPTER 08, 13: quorums, digests, whether a vote is right.
-/
namespace Go.Proofs.YtjlmpdbagmdbiaaDoor.WL
open Go
set_option maxHeartbeats 4000000
variable {G : Nat → Option AV}
attribute [local irreducible] sha comp hb checkK

theorem faults_int {n : Nat} : (if (n : Int) - 1 < 0 then 0 else (n : Int) - 1).tdiv 3 = (faults n : Nat) := by
  unfold faults
  rcases Nat.eq_zero_or_pos n with h | h
  · subst h; decide
  · have : (if (n : Int) - 1 < 0 then 0 else (n : Int) - 1) = ((n - 1 : Nat) : Int) := by split <;> omega
    rw [this]
    rfl
theorem cfaults_meets (c : Conf) (h : c.ms.length ≤ 1000000) : Meets Tryd.prog G fn_config_Faults [c.av] [] true (.v (.int .i64 (faults c.ms.length : Nat))) [] := by
  refine meets_of_go mix k_config_Faults ⟨by simp, by simp, by simp⟩ ?_
  have e := @faults_int c.ms.length
  have hs : IntKind.i64.wrap ((c.ms.length : Int) - 1) = (c.ms.length : Int) - 1 := w64_id (by omega)
  have hf : IntKind.i64.wrap (faults c.ms.length : Nat) = (faults c.ms.length : Nat) := w64_id (by unfold faults; omega)
  generalize faults c.ms.length = f at *
  simp [Conf.av, hs, e, hf]
  refine post_end (.inr rfl) ?_
  simp
theorem cquorum_meets (c : Conf) (h : c.ms.length ≤ 1000000) : Meets Tryd.prog G fn_config_Quorum [c.av] [] true (.v (.int .i64 (quorum c.ms.length : Nat))) [] := by
  refine meets_of_go mix k_config_Quorum ⟨by simp, by simp, by simp⟩ ?_
  have m1 := cfaults_meets (G := G) c h
  have hf : faults c.ms.length ≤ 1000000 := by unfold faults; omega
  have h1 : IntKind.i64.wrap ((c.ms.length : Int) + (faults c.ms.length : Nat)) = (c.ms.length : Int) + (faults c.ms.length : Nat) := w64_id (by omega)
  have h2 : IntKind.i64.wrap (IntKind.i64.wrap (((c.ms.length : Int) + (faults c.ms.length : Nat)).tdiv 2) + 1) = (quorum c.ms.length : Nat) := by
    have h4 : ((c.ms.length : Int) + (faults c.ms.length : Nat)).tdiv 2 = ((c.ms.length + faults c.ms.length) / 2 : Nat) := rfl
    have h5 : IntKind.i64.wrap (((c.ms.length + faults c.ms.length) / 2 : Nat) : Int) = ((c.ms.length + faults c.ms.length) / 2 : Nat) := w64_id (by omega)
    rw [h4, h5]
    exact w64_succ (by omega)
  generalize quorum c.ms.length = q at *
  generalize faults c.ms.length = f at *
  simp [Conf.av]
  refine call_intro m1 ?_ ?_
  · simp [Conf.av]
  simp [h1, h2]
  refine post_end (.inr rfl) ?_
  simp
theorem cweak_meets (c : Conf) (h : c.ms.length ≤ 1000000) : Meets Tryd.prog G fn_config_Weak [c.av] [] true (.v (.int .i64 (faults c.ms.length + 1 : Nat))) [] := by
  refine meets_of_go mix k_config_Weak ⟨by simp, by simp, by simp⟩ ?_
  have m1 := cfaults_meets (G := G) c h
  have hf : faults c.ms.length ≤ 1000000 := by unfold faults; omega
  generalize faults c.ms.length = f at *
  have h1 : IntKind.i64.wrap ((f : Int) + 1) = ((f + 1 : Nat) : Int) := w64_succ (by omega)
  simp [Conf.av]
  refine call_intro m1 ?_ ?_
  · simp [Conf.av]
  simp [h1]
  refine post_end (.inr rfl) ?_
  simp

def bConfig : Bytes := [99, 111, 110, 102, 105, 103]
def Conf.dg (c : Conf) : Dg := sha (bConfig ++ c.bytes)
theorem B_config : B bConfig = [AV.v (.int .u8 99), .v (.int .u8 111), .v (.int .u8 110), .v (.int .u8 102), .v (.int .u8 105), .v (.int .u8 103)] := (rfl)
def bVote : Bytes := [118, 111, 116, 101]
def Vote.signs (v : Vote) : Dg := sha (bVote ++ v.head)
theorem B_vote : B bVote = [AV.v (.int .u8 118), .v (.int .u8 111), .v (.int .u8 116), .v (.int .u8 101)] := (rfl)
theorem memsB_length (ms : List Mem) : (memsB ms).length = ms.length * 48 := by
  induction ms with
  | nil => rfl
  | cons m ms ih =>
    show (memB m ++ memsB ms).length = _
    rw [List.length_append, ih]
    simp [memB, nums_length]
    omega
theorem Conf.bytes_len (c : Conf) : c.bytes.length = 16 + c.ms.length * 48 := by simp [Conf.bytes, nums_length, memsB_length]
theorem Vote.head_len (v : Vote) : v.head.length = 72 := by simp [Vote.head, nums_length]

theorem cdigest_meets (c : Conf) (h : c.ms.length ≤ 1000) : Meets Tryd.prog Gt fn_config_Digest [c.av] [] true (dv c.dg) [] := by
  refine meets_of_go mix k_config_Digest ⟨by simp, by simp, by simp⟩ ?_
  have hrl : bConfig.length = 6 := rfl
  have hb := c.bytes_len
  have e : cat [bConfig, c.bytes] = bConfig ++ c.bytes := by simp [cat]
  have m1 := cwrite_meets (G := Gt) [] c (by simp) h
  rw [List.nil_append] at m1
  have m2 := bytes_meets (G := Gt) c.bytes (by omega)
  have m3 := of_meets [bConfig, c.bytes] (by simp) (by rw [e, List.length_append, hrl]; omega)
  rw [e] at m3
  unfold Conf.dg
  generalize sha (bConfig ++ c.bytes) = d at *
  generalize c.bytes = x at *
  have hx : List.take x.length x = x := List.take_of_length_le (by omega)
  have hB := B_config
  generalize bConfig = r at *
  have hr : List.take 6 r = r := List.take_of_length_le (by omega)
  simp [Conf.av, dv]
  refine call_intro m1 ?_ ?_
  · simp [wrM, Conf.av, dv]
  simp [wrM, Conf.av, dv]
  refine call_intro m2 ?_ ?_
  · simp [wrM]
  simp [wrM]
  refine call_intro m3 ?_ ?_
  · simp [Bss, hB, hx, hr]
  simp
  refine post_end (.inr rfl) ?_
  simp
theorem vsigns_meets (v : Vote) : Meets Tryd.prog Gt fn_vote_Signs [v.av] [] true (dv v.signs) [] := by
  refine meets_of_go mix k_vote_Signs ⟨by simp, by simp, by simp⟩ ?_
  have hrl : bVote.length = 4 := rfl
  have hb := v.head_len
  have e : cat [bVote, v.head] = bVote ++ v.head := by simp [cat]
  have m1 := vhead_meets (G := Gt) [] v (by simp)
  rw [List.nil_append] at m1
  have m2 := bytes_meets (G := Gt) v.head (by omega)
  have m3 := of_meets [bVote, v.head] (by simp) (by rw [e, List.length_append, hrl]; omega)
  rw [e] at m3
  unfold Vote.signs
  generalize sha (bVote ++ v.head) = d at *
  generalize v.head = x at *
  have hx : List.take x.length x = x := List.take_of_length_le (by omega)
  have hB := B_vote
  generalize bVote = r at *
  have hr : List.take 4 r = r := List.take_of_length_le (by omega)
  simp [Vote.av, dv]
  refine call_intro m1 ?_ ?_
  · simp [wrM, Vote.av, dv]
  simp [wrM, Vote.av, dv]
  refine call_intro m2 ?_ ?_
  · simp [wrM]
  simp [wrM]
  refine call_intro m3 ?_ ?_
  · simp [Bss, hB, hx, hr]
  simp
  refine post_end (.inr rfl) ?_
  simp
end Go.Proofs.YtjlmpdbagmdbiaaDoor.WL

end
section
/-
  CHAPTER 03: contracts of the reference.
-/
namespace Go.Proofs.YtjlmpdbagmdbiaaDoor.WL
open Go
set_option maxHeartbeats 4000000
attribute [local irreducible] comp hb sha leafD pairD

theorem rtext02_meets (b : Bytes) (h : b.length ≤ 100000000) : Meets Tryd.prog Gt fn_r02_Text [.v (.string (mkS b))] [] true (dv (sha b)) [] := by
  refine meets_of_go mix k_r02_Text ⟨by simp, by simp, by simp⟩ ?_
  have h1 := rof_meets (G := Gt) b h
  have h2 : b.length ≤ maxLen := le_max (by omega)
  simp [h2]
  refine call_intro h1 ?_ ?_
  · simp
  simp
  refine post_end (.inr rfl) ?_
  simp

theorem rleaf_meets (b : Bytes) (h : b.length ≤ 1000000) : Meets Tryd.prog Gt fn_r03_Leaf [.v (.string (mkS b))] [] true (dv (leafD b)) [] := by
  refine meets_of_go mix k_r03_Leaf ⟨by simp, by simp, by simp⟩ ?_
  have h1 := rtext02_meets (0 :: b) (by rw [List.length_cons]; omega)
  have e2 : sha (0 :: b) = leafD b := by unfold leafD; rfl
  rw [e2] at h1
  have f1 : fitsS (1 + b.length) := fitS (by omega)
  simp [f1]
  refine call_intro h1 ?_ ?_
  · simp
  simp
  refine post_end (.inr rfl) ?_
  simp

theorem rpair_meets (a b : Dg) : Meets Tryd.prog Gt fn_r03_Pair [dv a, dv b] [] true (dv (pairD a b)) [] := by
  refine meets_of_go mix k_r03_Pair ⟨by simp, by simp, by simp⟩ ?_
  have h1 := rtext02_meets (1 :: (a.bs ++ b.bs)) (by simp)
  have e2 : sha (1 :: (a.bs ++ b.bs)) = pairD a b := by unfold pairD; rfl
  rw [e2] at h1
  have f1 : fitsS (1 + 32) := fitS (by omega)
  have f2 : fitsS (1 + 32 + 32) := fitS (by omega)
  simp
  refine call_intro (rfdigest_meets a) ?_ ?_
  · simp
  simp [f1]
  refine call_intro (rfdigest_meets b) ?_ ?_
  · simp
  simp [f2]
  refine call_intro h1 ?_ ?_
  · simp
  simp
  refine post_end (.inr rfl) ?_
  simp

theorem tmod2 (j : Nat) : Int.tmod (j : Int) 2 = ((j % 2 : Nat) : Int) := by
  rw [Int.tmod_eq_emod_of_nonneg (by omega)]
  omega
theorem tdiv2 (j : Nat) : Int.tdiv (j : Int) 2 = ((j / 2 : Nat) : Int) := by
  rw [Int.tdiv_eq_ediv_of_nonneg (by omega)]
  omega

theorem rcheck_meets (root : Dg) : ∀ (n : Nat) (leaf : Dg) (at_ count : Nat) (path : List Dg), count ≤ n → at_ < count → count < 9223372036854775808 →
    Meets Tryd.prog Gt fn_r03_Check [dv root, dv leaf, .v (.int .i64 (at_ : Nat)), .v (.int .i64 (count : Nat)), .sl 32 (Dgs path)] [] true (.v (.bool (checkD root leaf at_ count path))) []
  | n, leaf, at_, count, path, hcn, hat, hc => by
    refine meets_of_go mix k_r03_Check ⟨by simp, by simp, by simp⟩ ?_
    by_cases h1 : count = 1
    · have c1 : (count : Int) = 1 := by omega
      rw [checkD_end root leaf at_ count path (by omega)]
      by_cases h5 : path = []
      · subst h5
        simp [h1]
        refine post_end (.inr rfl) ?_
        simp
      · have h6 : ¬ path.length = 0 := by intro e; exact h5 (List.eq_nil_of_length_eq_zero e)
        have h7 : ¬ ((path.length : Int) = 0) := by omega
        simp [h1, h6, h7, h5]
        refine post_end (.inr rfl) ?_
        simp
    · cases n with
      | zero => omega
      | succ n =>
        have c1 : ¬ (count : Int) = 1 := by omega
        have hd := tdiv2 count
        have hm2 := tmod2 count
        have hd2 := tdiv2 at_
        have hw2 : IntKind.i64.wrap ((at_ / 2 : Nat) : Int) = ((at_ / 2 : Nat) : Int) := w64_id (by omega)
        have hw : IntKind.i64.wrap ((count / 2 : Nat) : Int) = ((count / 2 : Nat) : Int) := w64_id (by omega)
        have hw3 : IntKind.i64.wrap (((count / 2 : Nat) : Int) + ((count % 2 : Nat) : Int)) = (((count + 1) / 2 : Nat) : Int) := by rw [w64_id (by omega)]; omega
        have hw4 : IntKind.i64.wrap ((count : Int) - 1) = ((count - 1 : Nat) : Int) := by rw [w64_id (by omega)]; omega
        obtain ⟨u, hu⟩ : ∃ u, (count + 1) / 2 = u := ⟨_, rfl⟩
        obtain ⟨c2, hc2⟩ : ∃ u, count / 2 = u := ⟨_, rfl⟩
        obtain ⟨cm, hcm⟩ : ∃ u, count % 2 = u := ⟨_, rfl⟩
        obtain ⟨a2, ha2⟩ : ∃ u, at_ / 2 = u := ⟨_, rfl⟩
        obtain ⟨n1, hn1⟩ : ∃ u, count - 1 = u := ⟨_, rfl⟩
        have k1 := rcheck_meets root n
        by_cases hs : count ≤ sib at_
        · have ho : at_ % 2 = 0 ∧ at_ = n1 := by
            unfold sib at hs
            split at hs <;> omega
          have hm : Int.tmod (at_ : Int) 2 = 0 := by rw [tmod2, ho.1]; rfl
          have hup := checkD_up root leaf at_ count path (by omega) hs
          rw [hu, ha2] at hup
          have ih := k1 leaf a2 u path (by omega) (by omega) (by omega)
          rw [← hup] at ih
          rw [hc2] at hd hw hw3
          rw [hcm] at hm2 hw3
          rw [ha2] at hd2 hw2
          rw [hu] at hw3
          rw [hn1, ← ho.2] at hw4
          simp [h1, c1, hd, hm2, hw, hw3, hm, hw4, hd2, hw2]
          refine call_intro ih ?_ ?_
          · simp
          simp
          refine post_end (.inr rfl) ?_
          simp
        · have hne : at_ % 2 = 1 ∨ at_ ≠ n1 := by
            unfold sib at hs
            split at hs <;> omega
          rw [hc2] at hd hw hw3
          rw [hcm] at hm2 hw3
          rw [ha2] at hd2 hw2
          rw [hu] at hw3
          rw [hn1] at hw4
          have c5 : ¬ (at_ % 2 = 0 ∧ (at_ : Int) = (n1 : Int)) := by omega
          cases path with
          | nil =>
            have hup := checkD_none root leaf at_ count (by omega) hs
            rw [hup]
            rcases Nat.mod_two_eq_zero_or_one at_ with hpar | hpar
            · have hm : Int.tmod (at_ : Int) 2 = 0 := by rw [tmod2, hpar]; rfl
              have c6 : ¬ (at_ : Int) = (n1 : Int) := by omega
              have c7 : ¬ at_ = n1 := by omega
              simp [h1, c1, hd, hm2, hw, hw3, hm, hw4, c6, c7]
              refine post_end (.inr rfl) ?_
              simp
            · have hm : Int.tmod (at_ : Int) 2 = 1 := by rw [tmod2, hpar]; rfl
              simp [h1, c1, hd, hm2, hw, hw3, hm, hw4]
              refine post_end (.inr rfl) ?_
              simp
          | cons q ps =>
            have hup := checkD_pair root leaf at_ count q ps (by omega) hs
            rw [hu, ha2] at hup
            have hn0 : ¬ ((ps.length : Int) + 1 = 0) := by omega
            have hn3 : (0 : Int) < (ps.length : Int) + 1 := by omega
            have hn4 : (1 : Int) ≤ (ps.length : Int) + 1 := by omega
            have hDg : Dgs (q :: ps) = dv q :: Dgs ps := rfl
            rcases Nat.mod_two_eq_zero_or_one at_ with hpar | hpar
            · have hm : Int.tmod (at_ : Int) 2 = 0 := by rw [tmod2, hpar]; rfl
              have c6 : ¬ (at_ : Int) = (n1 : Int) := by omega
              have c7 : ¬ at_ = n1 := by omega
              rw [if_neg (by omega)] at hup
              have ih := k1 (pairD leaf q) a2 u ps (by omega) (by omega) (by omega)
              rw [← hup] at ih
              simp [h1, c1, hd, hm2, hw, hw3, hm, hw4, c6, c7, hn0, hn3, hDg]
              refine call_intro (rpair_meets leaf q) ?_ ?_
              · simp
              simp [hd2, hw2, hn4]
              refine call_intro ih ?_ ?_
              · simp
              simp
              refine post_end (.inr rfl) ?_
              simp
            · have hm : Int.tmod (at_ : Int) 2 = 1 := by rw [tmod2, hpar]; rfl
              rw [if_pos hpar] at hup
              have ih := k1 (pairD q leaf) a2 u ps (by omega) (by omega) (by omega)
              rw [← hup] at ih
              simp [h1, c1, hd, hm2, hw, hw3, hm, hw4, hn0, hn3, hDg]
              refine call_intro (rpair_meets q leaf) ?_ ?_
              · simp
              simp [hd2, hw2, hn4]
              refine call_intro ih ?_ ?_
              · simp
              simp
              refine post_end (.inr rfl) ?_
              simp

theorem same_take {α : Type} [DecidableEq α] {a b : List α} {j : Nat} (ha : j < a.length) (hb : j < b.length) (h : a.take j = b.take j) (hj : a[j] = b[j]) : a.take (j + 1) = b.take (j + 1) := by
  rw [take_snoc _ _ ha, take_snoc _ _ hb, h, hj]

theorem rsame_meets {G : Nat → Option AV} (a b : List Dg) (ha : a.length ≤ 1000000000) : Meets Tryd.prog G fn_r03_Same [.sl 32 (Dgs a), .sl 32 (Dgs b)] [] true (.v (.bool (decide (a = b)))) [] := by
  refine meets_of_go mix k_r03_Same ⟨by simp, by simp, by simp⟩ ?_
  by_cases hl : a.length = b.length
  · simp [hl]
    refine go_up a.length (fun j (_ : Unit) => a.take j = b.take j) (fun j (_ : Unit) c => ⟨[(0, .sl 32 (Dgs a)), (1, .sl 32 (Dgs b)), (12, .v (.int .i64 (b.length : Nat))), (13, .v (.int .i64 (j : Nat)))], [], c⟩) () _ (Weak.refl _) (by simp) ?_ ?_
    · intro j _ c hj hx
      have hw : IntKind.i64.wrap ((j : Int) + 1) = ((j + 1 : Nat) : Int) := w64_succ (by omega)
      have hj2 : j < b.length := by omega
      by_cases he : a[j] = b[j]
      · simp [hj, hj2, he, hw]
        exact ⟨(), _, Weak.refl _, same_take hj hj2 hx he⟩
      · have hne : ¬ a = b := by intro e; subst e; exact he rfl
        simp [hj, hj2, he, hw]
        refine post_end (.inr rfl) ?_
        simp [hne]
    · intro _ c hx
      have he : a = b := by rw [List.take_length, hl, List.take_length] at hx; exact hx
      simp [hl]
      refine post_end (.inr rfl) ?_
      simp [he]
  · have hne : ¬ a = b := by intro e; subst e; exact hl rfl
    have c1 : ¬ (a.length : Int) = (b.length : Nat) := by omega
    simp [hl, c1]
    refine post_end (.inr rfl) ?_
    simp [hne]
end Go.Proofs.YtjlmpdbagmdbiaaDoor.WL

end
section
/-
  CHAPTER 08: the reference.
-/
namespace Go.Proofs.YtjlmpdbagmdbiaaDoor.WL
open Go
set_option maxHeartbeats 8000000
variable {G : Nat → Option AV}

theorem idxOf_hit {ms : List Mem} {id : Int} {k : Nat} (hk : k < ms.length) (h : (ms[k]).id = id) (hm : ∀ j (hj : j < ms.length), j < k → (ms[j]).id ≠ id) : idxOf ms id = (k : Int) := by
  have := Lib.idxBy_hit (fun _ y : Mem => decide (y.id = id)) ms ms.length k default hk (Nat.le_refl _) (decide_eq_true (by simp [hk, h])) (fun j hj => decide_eq_false (by simpa [show j < ms.length by omega] using hm j (by omega) hj))
  rwa [List.take_length] at this
theorem idxOf_miss {ms : List Mem} {id : Int} (hm : ∀ j (hj : j < ms.length), (ms[j]).id ≠ id) : idxOf ms id = -1 := by
  have := Lib.idxBy_miss (fun _ y : Mem => decide (y.id = id)) ms ms.length default (fun j hj => decide_eq_false (by simpa [show j < ms.length by omega] using hm j (by omega)))
  rwa [List.take_length] at this
attribute [local irreducible] sha idxOf faults quorum

theorem rright_meets (m : Mem) : Meets Tryd.prog G fn_r08_Right [m.av] [] true (.v (.bool m.good)) [] := by
  refine meets_of_go mix k_r08_Right ⟨by simp, by simp, by simp⟩ ?_
  have e : m.good = (decide (0 < m.id) && decide (m.id < 64) && decide (0 ≤ m.height) && decide (m.height < 7)) := by
    unfold Mem.good
    rw [Bool.eq_iff_iff]
    simp only [Bool.and_eq_true, decide_eq_true_eq]
    omega
  rw [e]
  by_cases c1 : 0 < m.id
  case neg =>
    simp [Mem.av, dv, c1]
    refine post_end (.inr rfl) ?_
    simp
  by_cases c2 : m.id < 64
  case neg =>
    simp [Mem.av, dv, c1, c2]
    refine post_end (.inr rfl) ?_
    simp
  by_cases c3 : 0 ≤ m.height
  case neg =>
    simp [Mem.av, dv, c1, c2, c3]
    refine post_end (.inr rfl) ?_
    simp
  by_cases c4 : m.height < 7
  case neg =>
    simp [Mem.av, dv, c1, c2, c3, c4]
    refine post_end (.inr rfl) ?_
    simp
  simp [Mem.av, dv, c1, c2, c3, c4]
  refine post_end (.inr rfl) ?_
  simp
theorem rplace_meets (c : Conf) (id : Int) (hn : c.ms.length ≤ 1000000) : Meets Tryd.prog G fn_r08_Place [c.av, .v (.int .i64 id)] [] true (.v (.int .i64 (idxOf c.ms id))) [] := by
  refine meets_of_go mix k_r08_Place ⟨by simp, by simp, by simp⟩ ?_
  have hhit := @idxOf_hit c.ms id
  have hmiss := @idxOf_miss c.ms id
  generalize idxOf c.ms id = res at *
  generalize hms : c.ms = ms at *
  simp [Conf.av, hms]
  refine go_up ms.length (fun j (_ : Unit) => ∀ i (h : i < ms.length), i < j → (ms[i]).id ≠ id) (fun j (_ : Unit) q => ⟨[(1, .v (.int .i64 id)), (8, .sl 34 (Mems ms)), (9, .v (.int .i64 (ms.length : Nat))), (10, .v (.int .i64 (j : Nat)))], [], q + 1⟩) () _ (Weak.re (by simp)) (by intro i _ h; omega) ?_ ?_
  · intro j _ q hj hx
    have hw : IntKind.i64.wrap ((j : Int) + 1) = ((j + 1 : Nat) : Int) := w64_succ (by omega)
    by_cases h : ms[j].id = id
    · have hr := hhit hj h (fun i hi hij => hx i hi hij)
      simp [hj, Mem.av, eq_true h]
      refine post_end (.inr rfl) ?_
      simp [hr]
    · simp [hj, Mem.av, h, hw]
      refine ⟨(), _, Weak.re (by simp), ?_⟩
      intro i hi hij
      rcases (show i < j ∨ i = j by omega) with h1 | rfl
      · exact hx i hi h1
      · exact h
  · intro _ q hx
    have hr := hmiss (fun j hj => hx j hj hj)
    simp
    refine post_end (.inr rfl) ?_
    simp [hr]
theorem rgood08_meets (c : Conf) : Meets Tryd.prog G fn_r08_Good [c.av] [] true (.v (.bool c.good)) [] := by
  refine meets_of_go mix k_r08_Good ⟨by simp, by simp, by simp⟩ ?_
  by_cases c1 : c.epoch < 0
  · have d1 : ¬ 0 ≤ c.epoch := by omega
    simp [Conf.av, c1]
    refine post_end (.inr rfl) ?_
    simp [Conf.good, d1]
  by_cases c2 : 1073741824 < c.epoch
  · have d1 : ¬ c.epoch ≤ 1073741824 := by omega
    simp [Conf.av, c1, c2]
    refine post_end (.inr rfl) ?_
    simp [Conf.good, d1]
  by_cases c3 : c.ms = []
  · simp [Conf.av, c1, c2, c3]
    refine post_end (.inr rfl) ?_
    simp [Conf.good, c3]
  have c3' : 0 < c.ms.length := List.length_pos_iff.2 c3
  have c5 : ¬ ((c.ms.length : Nat) : Int) < 1 := by omega
  by_cases c4 : (10 : Int) < (c.ms.length : Nat)
  · have d1 : ¬ c.ms.length ≤ 10 := by omega
    simp [Conf.av, c1, c2, c5, c4]
    refine post_end (.inr rfl) ?_
    simp [Conf.good, d1]
  have hno := @Conf.good_no c
  have hyes : (∀ j, j < c.ms.length → memOk c.ms j = true) → c.good = true := by
    intro h
    have : (List.range c.ms.length).all (memOk c.ms) = true := List.all_eq_true.2 fun j hj => h j (List.mem_range.1 hj)
    simp only [Conf.good, this, Bool.and_true, Bool.and_eq_true, decide_eq_true_eq]
    omega
  generalize hr : c.good = res at *
  generalize hms : c.ms = ms at *
  generalize hep : c.epoch = ep at *
  simp [Conf.av, c1, c2, c5, c4, hms, hep]
  refine go_up ms.length (fun j (_ : Unit) => ∀ i, i < j → memOk ms i = true) (fun j (_ : Unit) q => ⟨[(1, .ptr 1 q 0), (26, .sl 34 (Mems ms)), (27, .v (.int .i64 (ms.length : Nat))), (28, .v (.int .i64 (j : Nat)))], [(1, .var q (.node [.v (.int .i64 ep), .sl 34 (Mems ms)]))], q + 1⟩) () _ (Weak.re (by simp)) (by intro i h; omega) ?_ ?_
  · intro j _ q hj hx
    have hw : IntKind.i64.wrap ((j : Int) + 1) = ((j + 1 : Nat) : Int) := w64_succ (by omega)
    have hs : IntKind.i64.wrap ((j : Int) - 1) = (j : Int) - 1 := w64_id (by omega)
    have m1 := rright_meets (G := G) ms[j]
    have hnext : memOk ms j = true → ∀ i, i < j + 1 → memOk ms i = true := by
      intro h i hi
      rcases (show i < j ∨ i = j by omega) with h1 | rfl
      · exact hx i h1
      · exact h
    simp [hj]
    refine call_intro m1 ?_ ?_
    · simp
    simp
    cases hg : ms[j].good
    · have hb : memOk ms j = false := by simp [memOk, hj, hg]
      simp [hg]
      refine post_end (.inr rfl) ?_
      simp [hno hj hb]
    by_cases hj0 : j = 0
    · subst hj0
      have hb : memOk ms 0 = true := by simp [memOk, hj, hg]
      have hw1 : IntKind.i64.wrap 1 = 1 := w64_id (by omega)
      simp [hg, hw1]
      exact ⟨(), _, Weak.re (by simp), hnext hb⟩
    · have hj1 : 0 < j := by omega
      have hj2 : (j : Int) - 1 < ms.length := by omega
      have hj3 : ((j : Int) - 1).toNat = j - 1 := by omega
      have hj4 : j - 1 < ms.length := by omega
      have hj5 : (1 : Int) ≤ (j : Int) := by omega
      have e := memOk_pos (by omega) hj
      by_cases hl : ms[j-1].id < ms[j].id
      · have hb : memOk ms j = true := by rw [e, hg]; simp [hl]
        have hl' : ¬ ms[j].id ≤ ms[j-1].id := by omega
        simp [hg, hw, hs, hj0, hj1, hj2, hj3, hj4, hj5, hl', Mem.av]
        exact ⟨(), _, Weak.re (by simp), hnext hb⟩
      · have hb : memOk ms j = false := by rw [e, hg]; simp [hl]
        have hl' : ms[j].id ≤ ms[j-1].id := by omega
        simp [hg, hs, hj0, hj1, hj2, hj3, hj4, hj5, hl', Mem.av]
        refine post_end (.inr rfl) ?_
        simp [hno hj hb]
  · intro _ q hx
    have hb := hyes hx
    subst hb
    simp
    refine post_end (.inr rfl) ?_
    simp
end Go.Proofs.YtjlmpdbagmdbiaaDoor.WL

end
section
/-
  CHAPTER 04: contracts of the reference.
-/
namespace Go.Proofs.YtjlmpdbagmdbiaaDoor.WL
open Go
set_option maxHeartbeats 4000000
attribute [local irreducible] comp hb sha leafD pairD secD shutD wholeD pubD ofD

theorem rshut_meets (s : Dg) : Meets Tryd.prog Gt fn_r04_Shut [dv s] [] true (dv (shutD s)) [] := by
  refine meets_of_go mix k_r04_Shut ⟨by simp, by simp, by simp⟩ ?_
  have h1 := rof_meets (G := Gt) s.bs (by simp)
  have e2 : sha s.bs = shutD s := by unfold shutD; rfl
  rw [e2] at h1
  simp
  refine call_intro h1 ?_ ?_
  · simp
  simp
  refine post_end (.inr rfl) ?_
  simp

theorem rbit_meets {G : Nat → Option AV} (d : Dg) (i : Nat) (hi : i < 256) : Meets Tryd.prog G fn_r04_Bit [dv d, .v (.int .i64 (i : Nat))] [] true (.v (.int .i64 (bitD d i : Nat))) [] := by
  refine meets_of_go mix k_r04_Bit ⟨by simp, by simp, by simp⟩ ?_
  obtain ⟨q, hq⟩ : ∃ q : Nat, i / 8 = q := ⟨_, rfl⟩
  obtain ⟨r, hr⟩ : ∃ r : Nat, i % 8 = r := ⟨_, rfl⟩
  have d1 : Int.tdiv (i : Int) 8 = (q : Int) := by have := tdivN i 8; rw [hq] at this; exact this
  have d2 : Int.tmod (i : Int) 8 = (r : Int) := by have := tmodN i 8; rw [hr] at this; exact this
  have w0 : IntKind.i64.wrap (q : Int) = (q : Int) := w64_id (by omega)
  have hq32 : q < 32 := by omega
  have hq32i : (q : Int) < 32 := by omega
  have hql : q < d.bs.length := by rw [Dg.length]; omega
  obtain ⟨b, hb⟩ : ∃ b, d.bs[q] = b := ⟨_, rfl⟩
  have hbn := b.toNat_lt
  have hget : d.bs[q]? = some b := by rw [List.getElem?_eq_getElem hql, hb]
  have hbit : b.toNat / 2 ^ (7 - r) % 2 = bitD d i := by
    unfold bitD
    rw [hq, hr, List.getD_eq_getElem?_getD, hget, Option.getD_some]
  have wb : IntKind.i64.wrap (b.toNat : Int) = (b.toNat : Int) := w64_id (by omega)
  simp [d1, d2, w0, hq32, hq32i, hget, hb, wb]
  obtain ⟨f, hf⟩ : ∃ f : Nat → Nat, ∀ j, f j = b.toNat / 2 ^ j := ⟨_, fun _ => rfl⟩
  obtain ⟨g, hg⟩ : ∃ g : Nat → Nat, ∀ j, g j = r + j := ⟨_, fun _ => rfl⟩
  have hf0 : f 0 = b.toNat := by rw [hf]; simp
  have hg0 : g 0 = r := by rw [hg]; rfl
  refine go_up (7 - r) (fun j (_ : Unit) => True) (fun j _ c => ⟨[(5, .v (.int .i64 (f j : Nat))), (6, .v (.int .i64 (g j : Nat)))], [], c + 1⟩) () _ (Weak.re (by simp [hf0, hg0])) trivial ?_ ?_
  · intro j _ c hj _
    have hfj := hf j
    have hfj1 := hf (j + 1)
    have hgj := hg j
    have hgj1 := hg (j + 1)
    have hvl : f j ≤ b.toNat := by rw [hfj]; exact Nat.div_le_self _ _
    have e1 : f (j + 1) = f j / 2 := by rw [hfj1, Nat.pow_succ, ← Nat.div_div_eq_div_mul, ← hfj]
    generalize f j = v at *
    obtain ⟨v2, hv2⟩ : ∃ v2, f (j + 1) = v2 := ⟨_, rfl⟩
    obtain ⟨k1, hk1⟩ : ∃ v2, g (j + 1) = v2 := ⟨_, rfl⟩
    rw [hv2] at e1
    rw [hk1] at hgj1
    generalize g j = k at *
    have hk7 : (k : Int) < 7 := by omega
    have hk7n : k < 7 := by omega
    have d3 : Int.tdiv (v : Int) 2 = (v2 : Int) := by rw [tdiv2, e1]
    have w1 : IntKind.i64.wrap (v2 : Int) = (v2 : Int) := w64_id (by omega)
    have w2 : IntKind.i64.wrap ((k : Int) + 1) = (k1 : Int) := by rw [w64_id (by omega)]; omega
    simp [hk7, hk7n, d3, w1, w2]
    exact ⟨(), _, Weak.re (by simp [hv2, hk1]), trivial⟩
  · intro _ c _
    have hfj := hf (7 - r)
    have hgj := hg (7 - r)
    rw [← hfj] at hbit
    generalize f (7 - r) = v at *
    generalize g (7 - r) = k at *
    have hk : k = 7 := by omega
    subst hk
    have hm := tmod2 v
    rw [hbit] at hm
    simp [hm]
    refine post_end (.inr rfl) ?_
    simp

theorem rsame4_meets {G : Nat → Option AV} (a b c d : List Dg) (ha : a.length ≤ 1000000000) (hb : b.length ≤ 1000000000) :
    Meets Tryd.prog G fn_r04_Same [.node [.sl 32 (Dgs a), .sl 32 (Dgs b)], .node [.sl 32 (Dgs c), .sl 32 (Dgs d)]] [] true (.v (.bool (decide (a = c) && decide (b = d)))) [] := by
  refine meets_of_go mix k_r04_Same ⟨by simp, by simp, by simp⟩ ?_
  simp
  refine call_intro (rsame_meets a c ha) ?_ ?_
  · simp
  by_cases h : a = c
  · simp [h]
    refine call_intro (rsame_meets b d hb) ?_ ?_
    · simp
    simp
    refine post_end (.inr rfl) ?_
    simp
  · simp [h]
    refine post_end (.inr rfl) ?_
    simp
end Go.Proofs.YtjlmpdbagmdbiaaDoor.WL

end
