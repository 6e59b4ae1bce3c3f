/-
  CHAPTER 03: contracts of the program: paths.
-/
import Derived.Test.YtmkkfccnacodoaaDoorS03a
namespace Go.Proofs.YtmkkfccnacodoaaDoor.WL
open Go
set_option maxHeartbeats 4000000
attribute [local irreducible] comp hb sha leafD pairD

theorem pathP_none (ds : List Dg) (at_ : Int) (h : at_ < 0 ∨ (ds.length : Int) ≤ at_) : Meets Tryd.prog Gt fn_tree_Path [.v (.int .i64 at_), .sl 32 (Dgs ds)] [] true (.tup [.v (.slice none 0 0), .v (.bool false)]) [] := by
  refine meets_of_go mix k_tree_Path ⟨by simp, by simp, by simp⟩ ?_
  by_cases c1 : at_ < 0
  · simp [c1]
    refine post_end (.inr rfl) ?_
    simp
  · have c2 : (ds.length : Int) ≤ at_ := by omega
    simp [c1, c2]
    refine post_end (.inr rfl) ?_
    simp

theorem pathP_meets (ds : List Dg) (at_ : Nat) (h : at_ < ds.length) (hn : ds.length ≤ 1000000) :
    Meets Tryd.prog Gt fn_tree_Path [.v (.int .i64 (at_ : Nat)), .sl 32 (Dgs ds)] [] true (.tup [.row 1000 32 1 0 (pathD ds at_).length, .v (.bool true)]) [(1000, .rows 1 32 (Dgs (pathD ds at_)))] := by
  refine meets_of_go mix k_tree_Path ⟨by simp, by simp, by simp⟩ ?_
  have c0 : ¬ (at_ : Int) < 0 := by omega
  have c1 : ¬ (ds.length : Int) ≤ (at_ : Nat) := by omega
  have f1 : fitsB ds.length 32 := fits (by omega) (by omega)
  have c2 : ¬ ds.length ≤ at_ := by omega
  simp [c0, c1, c2, f1]
  refine go_wh (fun a : List Dg × Nat × List Dg => a.1.length) (fun a => a.2.1 < a.1.length ∧ a.1.length ≤ 1000000 ∧ a.2.2.length + a.1.length ≤ 2000000 ∧ a.2.2 ++ pathD a.1 a.2.1 = pathD ds at_)
    (fun a c => ⟨[(0, .v (.int .i64 (a.2.1 : Nat))), (6, .row 6 32 c 0 a.2.2.length), (7, .row 7 32 c 0 a.1.length)], [(6, .rows c 32 (Dgs a.2.2)), (7, .rows c 32 (Dgs a.1))], c + 1⟩) (ds, at_, []) _ (Weak.re (by simp)) ⟨h, hn, by simp; omega, by simp⟩ ?_
  rintro ⟨l, i, acc⟩ c ⟨hi, hln, hac, hp⟩
  simp only at hi hln hac hp
  by_cases h1 : 1 < l.length
  · have c3 : (1 : Int) < (l.length : Nat) := by omega
    have hx := xor_sib i (by omega)
    have hd : Int.tdiv (i : Int) 2 = ((i / 2 : Nat) : Int) := by rw [Int.tdiv_eq_ediv_of_nonneg (by omega)]; omega
    have hw : IntKind.i64.wrap ((i / 2 : Nat) : Int) = ((i / 2 : Nat) : Int) := w64_id (by omega)
    have hw2 : IntKind.i64.wrap ((i : Int) / 2) = (i : Int) / 2 := w64_id (by omega)
    rw [pathD_up l i h1] at hp
    have hul := upD_length l
    obtain ⟨s, hs⟩ : ∃ s, sib i = s := ⟨_, rfl⟩
    rw [hs] at hx hp
    by_cases h2 : s < l.length
    · have c4 : (s : Int) < (l.length : Nat) := by omega
      have f2 : fitsB (acc.length + 1) 32 := fits (by omega) (by omega)
      have hg : (l[s]?).toList = [l[s]] := by rw [List.getElem?_eq_getElem h2]; rfl
      rw [hg, ← List.append_assoc] at hp
      simp [c3, h1, hx, h2, c4, f2]
      refine call_intro (up_meets l (by intro e; subst e; simp at h2) hln) ?_ ?_
      · simp
      simp [hd, hw, hw2]
      exact ⟨(upD l, i / 2, acc ++ [l[s]]), _, Weak.re (by simp [Dgs_snoc]), ⟨by dsimp only; rw [hul]; omega, by dsimp only; rw [hul]; omega, by dsimp only; rw [hul, List.length_append, List.length_singleton]; omega, hp⟩, by show (upD l).length < l.length; rw [upD_length]; omega⟩
    · have c4 : ¬ (s : Int) < (l.length : Nat) := by omega
      have hg : (l[s]?).toList = [] := by rw [List.getElem?_eq_none (by omega)]; rfl
      rw [hg, List.nil_append] at hp
      simp [c3, h1, hx, h2, c4]
      refine call_intro (up_meets l (by intro e; subst e; simp at h1) hln) ?_ ?_
      · simp
      simp [hd, hw, hw2]
      exact ⟨(upD l, i / 2, acc), _, Weak.re (by simp), ⟨by dsimp only; rw [hul]; omega, by dsimp only; rw [hul]; omega, by dsimp only; rw [hul]; omega, hp⟩, by show (upD l).length < l.length; rw [upD_length]; omega⟩
  · have c3 : ¬ (1 : Int) < (l.length : Nat) := by omega
    rw [pathD_end l i (by omega), List.append_nil] at hp
    subst hp
    simp [c3, h1]
    refine post_end (.inr rfl) ?_
    simp

theorem checkP_out (root leaf : Dg) (at_ count : Int) (path : List Dg) (h : at_ < 0 ∨ count ≤ at_) : Meets Tryd.prog Gt fn_tree_Check [dv root, dv leaf, .v (.int .i64 at_), .v (.int .i64 count), .sl 32 (Dgs path)] [] true (.v (.bool false)) [] := by
  refine meets_of_go mix k_tree_Check ⟨by simp, by simp, by simp⟩ ?_
  by_cases c1 : at_ < 0
  · simp [c1]
    refine post_end (.inr rfl) ?_
    simp
  · have c2 : count ≤ at_ := by omega
    simp [c1, c2]
    refine post_end (.inr rfl) ?_
    simp

theorem checkP_meets (root leaf : Dg) (at_ count : Nat) (path : List Dg) (h : at_ < count) (hc : count < 9223372036854775808) :
    Meets Tryd.prog Gt fn_tree_Check [dv root, dv leaf, .v (.int .i64 (at_ : Nat)), .v (.int .i64 (count : Nat)), .sl 32 (Dgs path)] [] true (.v (.bool (checkD root leaf at_ count path))) [] := by
  refine meets_of_go mix k_tree_Check ⟨by simp, by simp, by simp⟩ ?_
  have c0 : ¬ (at_ : Int) < 0 := by omega
  have c1 : ¬ (count : Int) ≤ (at_ : Nat) := by omega
  have c2 : ¬ count ≤ at_ := by omega
  simp [c0, c1, c2]
  refine go_wh (fun a : Dg × Nat × Nat × List Dg => a.2.2.1) (fun a => a.2.1 < a.2.2.1 ∧ a.2.2.1 < 9223372036854775808 ∧ checkD root a.1 a.2.1 a.2.2.1 a.2.2.2 = checkD root leaf at_ count path)
    (fun a c => ⟨[(2, .v (.int .i64 (a.2.1 : Nat))), (3, .v (.int .i64 (a.2.2.1 : Nat))), (4, .sl 32 (Dgs a.2.2.2)), (5, .ptr 5 c 0), (6, .ptr 6 c 0)], [(5, .var c (dv root)), (6, .var c (dv a.1))], c + 1⟩) (leaf, at_, count, path) _ (Weak.re (by simp)) ⟨h, hc, rfl⟩ ?_
  rintro ⟨lf, i, n, p⟩ c ⟨hi, hn, hr⟩
  simp only at hi hn hr
  rw [← hr]
  by_cases h1 : 1 < n
  · have c3 : (1 : Int) < (n : Nat) := by omega
    have hx := xor_sib i (by omega)
    have hd : Int.tdiv (i : Int) 2 = ((i / 2 : Nat) : Int) := by rw [Int.tdiv_eq_ediv_of_nonneg (by omega)]; omega
    have hw : IntKind.i64.wrap ((i : Int) / 2) = (i : Int) / 2 := w64_id (by omega)
    have hw1 : IntKind.i64.wrap ((n : Int) - 1) = ((n - 1 : Nat) : Int) := by rw [w64_id (by omega)]; omega
    have hd2 : Int.tdiv ((n - 1 : Nat) : Int) 2 = (((n - 1) / 2 : Nat) : Int) := by rw [Int.tdiv_eq_ediv_of_nonneg (by omega)]; omega
    have hw2 : IntKind.i64.wrap (((n - 1) / 2 : Nat) : Int) = (((n - 1) / 2 : Nat) : Int) := w64_id (by omega)
    have hw3 : IntKind.i64.wrap ((((n - 1) / 2 : Nat) : Int) + 1) = (((n + 1) / 2 : Nat) : Int) := by rw [w64_id (by omega)]; omega
    obtain ⟨s, hs⟩ : ∃ s, sib i = s := ⟨_, rfl⟩
    rw [hs] at hx
    obtain ⟨n1, hn1⟩ : ∃ n1, n - 1 = n1 := ⟨_, rfl⟩
    rw [hn1] at hw1 hd2 hw2 hw3
    obtain ⟨n2, hn2⟩ : ∃ n2, n1 / 2 = n2 := ⟨_, rfl⟩
    rw [hn2] at hd2 hw2 hw3
    by_cases h2 : n ≤ s
    · have c4 : (n : Int) ≤ (s : Nat) := by omega
      have hu := checkD_up root lf i n p h1 (by omega)
      simp [c3, h1, hx, h2, c4, hd, hw, hw1, hd2, hw2, hw3]
      exact ⟨(lf, i / 2, (n + 1) / 2, p), _, Weak.re (by simp), ⟨by show i / 2 < (n + 1) / 2; omega, by show (n + 1) / 2 < _; omega, by dsimp only; rw [← hu, hr]⟩, by show (n + 1) / 2 < n; omega⟩
    · have c4 : ¬ (n : Int) ≤ (s : Nat) := by omega
      cases p with
      | nil =>
        have hu := checkD_none root lf i n h1 (by omega)
        simp [c3, h1, hx, h2, c4]
        refine post_end (.inr rfl) ?_
        simp [hu]
      | cons q ps =>
        have hu := checkD_pair root lf i n q ps h1 (by omega)
        have hn0 : ¬ ((ps.length : Int) + 1 = 0) := by omega
        have hn3 : (0 : Int) < (ps.length : Int) + 1 := by omega
        have hn4 : (1 : Int) ≤ (ps.length : Int) + 1 := by omega
        have hDg : Dgs (q :: ps) = dv q :: Dgs ps := rfl
        by_cases h3 : i % 2 = 1
        · have h4 : s < i := by rw [← hs]; unfold sib; rw [if_pos h3]; omega
          have c5 : (s : Int) < (i : Nat) := by omega
          rw [if_pos h3] at hu
          simp [c3, h1, hx, h2, c4, hn0, hn3, c5, h4, hDg]
          refine call_intro (pair1_meets q lf) ?_ ?_
          · simp
          simp [hd, hw, hw1, hd2, hw2, hw3, hn4]
          exact ⟨(pairD q lf, i / 2, (n + 1) / 2, ps), _, Weak.re (by simp), ⟨by show i / 2 < (n + 1) / 2; omega, by show (n + 1) / 2 < _; omega, by dsimp only; rw [← hu, hr]⟩, by show (n + 1) / 2 < n; omega⟩
        · have h4 : ¬ s < i := by rw [← hs]; unfold sib; rw [if_neg h3]; omega
          have c5 : ¬ (s : Int) < (i : Nat) := by omega
          rw [if_neg h3] at hu
          simp [c3, h1, hx, h2, c4, hn0, hn3, c5, h4, hDg]
          refine call_intro (pair1_meets lf q) ?_ ?_
          · simp
          simp [hd, hw, hw1, hd2, hw2, hw3, hn4]
          exact ⟨(pairD lf q, i / 2, (n + 1) / 2, ps), _, Weak.re (by simp), ⟨by show i / 2 < (n + 1) / 2; omega, by show (n + 1) / 2 < _; omega, by dsimp only; rw [← hu, hr]⟩, by show (n + 1) / 2 < n; omega⟩
  · have c3 : ¬ (1 : Int) < (n : Nat) := by omega
    have hu := checkD_end root lf i n p (by omega)
    rw [hu]
    by_cases h5 : p = []
    · subst h5
      simp [c3, h1]
      refine post_end (.inr rfl) ?_
      simp
    · have h6 : ¬ p.length = 0 := by intro e; exact h5 (List.eq_nil_of_length_eq_zero e)
      have h7 : ¬ ((p.length : Int) = 0) := by omega
      simp [c3, h1, h6, h7, h5]
      refine post_end (.inr rfl) ?_
      simp
end Go.Proofs.YtmkkfccnacodoaaDoor.WL
