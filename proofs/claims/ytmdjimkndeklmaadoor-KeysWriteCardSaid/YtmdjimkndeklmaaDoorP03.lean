/-
  CHAPTER 03: laws of trees, without any program.
-/
import Derived.Test.YtmdjimkndeklmaaDoorM03
namespace Go.Proofs.YtmdjimkndeklmaaDoor.WL
open Go
attribute [local irreducible] sha leafD pairD

/-- How many digests a path is of. -/
def plen (at_ count : Nat) : Nat :=
  if h : 1 < count then (if count ≤ sib at_ then 0 else 1) + plen (at_ / 2) ((count + 1) / 2) else 0
termination_by count
theorem plen_up (at_ count : Nat) (h : 1 < count) : plen at_ count = (if count ≤ sib at_ then 0 else 1) + plen (at_ / 2) ((count + 1) / 2) := by rw [plen.eq_def, dif_pos h]
theorem plen_end (at_ count : Nat) (h : count ≤ 1) : plen at_ count = 0 := by rw [plen.eq_def, dif_neg (by omega)]
theorem pathD_plen (l : List Dg) (at_ : Nat) : (pathD l at_).length = plen at_ l.length := by
  by_cases h : 1 < l.length
  · rw [pathD_up l at_ h, plen_up at_ l.length h, List.length_append, pathD_plen (upD l) (at_ / 2), upD_length]
    congr 1
    split
    · rw [List.getElem?_eq_none (by omega)]; rfl
    · rw [List.getElem?_eq_getElem (by omega)]; rfl
  · rw [pathD_end l at_ (by omega), plen_end at_ l.length (by omega)]
    rfl
termination_by l.length
decreasing_by
  rw [upD_length]
  omega
theorem checkD_len : ∀ (n : Nat) (root leaf : Dg) (at_ count : Nat) (p : List Dg), count ≤ n → checkD root leaf at_ count p = true → p.length = plen at_ count
  | n, root, leaf, at_, count, p, hn, h => by
    by_cases h1 : 1 < count
    · cases n with
      | zero => omega
      | succ n =>
        rw [plen_up at_ count h1]
        by_cases hs : count ≤ sib at_
        · rw [checkD_up _ _ _ _ _ h1 hs] at h
          rw [if_pos hs, checkD_len n _ _ _ _ _ (by omega) h, Nat.zero_add]
        · rw [if_neg hs]
          cases p with
          | nil => rw [checkD_none _ _ _ _ h1 hs] at h; cases h
          | cons q ps =>
            rw [checkD_pair _ _ _ _ _ _ h1 hs] at h
            rw [List.length_cons, checkD_len n _ _ _ _ _ (by omega) h, Nat.add_comm]
    · rw [checkD_end _ _ _ _ _ (by omega), Bool.and_eq_true, decide_eq_true_eq] at h
      rw [plen_end at_ count (by omega), h.1]
      rfl
theorem checkD_root : ∀ (n : Nat) (r1 r2 leaf : Dg) (at_ count : Nat) (p : List Dg), count ≤ n → checkD r1 leaf at_ count p = true → checkD r2 leaf at_ count p = true → r1 = r2
  | n, r1, r2, leaf, at_, count, p, hn, h, k => by
    by_cases h1 : 1 < count
    · cases n with
      | zero => omega
      | succ n =>
        by_cases hs : count ≤ sib at_
        · rw [checkD_up _ _ _ _ _ h1 hs] at h k
          exact checkD_root n _ _ _ _ _ _ (by omega) h k
        · cases p with
          | nil => rw [checkD_none _ _ _ _ h1 hs] at h; cases h
          | cons q ps =>
            rw [checkD_pair _ _ _ _ _ _ h1 hs] at h k
            exact checkD_root n _ _ _ _ _ _ (by omega) h k
    · rw [checkD_end _ _ _ _ _ (by omega), Bool.and_eq_true, decide_eq_true_eq, decide_eq_true_eq] at h k
      rw [← h.2, k.2]
theorem upD_at (l : List Dg) (at_ : Nat) (h : at_ < l.length) (h2 : at_ / 2 < (upD l).length) :
    (upD l)[at_ / 2] = if l.length ≤ sib at_ then l[at_] else if at_ % 2 = 1 then pairD (l[sib at_]?.getD l[at_]) l[at_] else pairD l[at_] (l[sib at_]?.getD l[at_]) := by
  rcases Nat.mod_two_eq_zero_or_one at_ with hp | hp
  · have hs : sib at_ = at_ + 1 := by unfold sib; rw [if_neg (by omega)]
    rw [hs]
    by_cases hl : l.length ≤ at_ + 1
    · rw [if_pos hl]
      have h3 := upD_last l (at_ / 2) (by omega)
      rw [List.getElem?_eq_getElem h2] at h3
      have h4 : l[2 * (at_ / 2)]'(by omega) = l[at_] := by congr 1; omega
      rw [Option.some.inj h3, h4]
    · rw [if_neg hl, if_neg (by omega)]
      have h3 := upD_get l (at_ / 2) (by omega)
      rw [List.getElem?_eq_getElem h2] at h3
      have h4 : l[2 * (at_ / 2)]'(by omega) = l[at_] := by congr 1; omega
      have h5 : l[2 * (at_ / 2) + 1]'(by omega) = l[at_ + 1]'(by omega) := by congr 1; omega
      rw [Option.some.inj h3, h4, h5, List.getElem?_eq_getElem (by omega)]
      rfl
  · have hs : sib at_ = at_ - 1 := by unfold sib; rw [if_pos hp]
    rw [hs, if_neg (by omega), if_pos hp]
    have h3 := upD_get l (at_ / 2) (by omega)
    rw [List.getElem?_eq_getElem h2] at h3
    have h4 : l[2 * (at_ / 2)]'(by omega) = l[at_ - 1]'(by omega) := by congr 1; omega
    have h5 : l[2 * (at_ / 2) + 1]'(by omega) = l[at_] := by congr 1; omega
    rw [Option.some.inj h3, h4, h5, List.getElem?_eq_getElem (by omega)]
    rfl
/-- Each leaf's path leads to the root. -/
theorem checkD_path : ∀ (n : Nat) (l : List Dg) (at_ : Nat) (h : at_ < l.length), l.length ≤ n → checkD (rootD l) l[at_] at_ l.length (pathD l at_) = true
  | n, l, at_, h, hn => by
    by_cases h1 : 1 < l.length
    · cases n with
      | zero => omega
      | succ n =>
        have hul := upD_length l
        have h2 : at_ / 2 < (upD l).length := by omega
        have ih := checkD_path n (upD l) (at_ / 2) h2 (by omega)
        rw [← rootD_up l h1, upD_at l at_ h h2, hul] at ih
        rw [pathD_up l at_ h1]
        by_cases hs : l.length ≤ sib at_
        · rw [if_pos hs] at ih
          rw [checkD_up _ _ _ _ _ h1 hs, List.getElem?_eq_none (by omega)]
          exact ih
        · rw [if_neg hs] at ih
          have hg : l[sib at_]? = some (l[sib at_]'(by omega)) := List.getElem?_eq_getElem (by omega)
          rw [hg] at ih ⊢
          show checkD _ _ _ _ (_ :: _) = true
          rw [checkD_pair _ _ _ _ _ _ h1 hs]
          exact ih
    · have : at_ = 0 := by omega
      subst this
      obtain ⟨a, rfl⟩ : ∃ a, l = [a] := List.length_eq_one_iff.1 (by omega)
      rw [checkD_end _ _ _ _ _ (by simp), pathD_end _ _ (by simp), rootD_one]
      simp
theorem upD_append : ∀ (n : Nat) (a b : List Dg), a.length = 2 * n → upD (a ++ b) = upD a ++ upD b
  | 0, a, b, h => by
    have : a = [] := List.eq_nil_of_length_eq_zero (by omega)
    subst this
    rfl
  | n + 1, a, b, h => by
    match a, h with
    | x :: y :: r, h =>
      have ih := upD_append n r b (by simp only [List.length_cons] at h; omega)
      simp only [List.cons_append, upD, ih]
    | [x], h => simp at h; omega
    | [], h => simp at h
/-- Halves. -/
theorem rootD_halves : ∀ (k : Nat) (a b : List Dg), a.length = 2 ^ k → b.length = 2 ^ k → rootD (a ++ b) = pairD (rootD a) (rootD b)
  | 0, a, b, ha, hb => by
    obtain ⟨x, rfl⟩ : ∃ x, a = [x] := List.length_eq_one_iff.1 (by simpa using ha)
    obtain ⟨y, rfl⟩ : ∃ y, b = [y] := List.length_eq_one_iff.1 (by simpa using hb)
    rw [rootD_up _ (by simp)]
    simp only [List.cons_append, List.nil_append, upD, rootD_one]
  | k + 1, a, b, ha, hb => by
    have hp : 0 < 2 ^ k := Nat.two_pow_pos k
    rw [Nat.pow_succ] at ha hb
    have ih := rootD_halves k (upD a) (upD b) (by rw [upD_length]; omega) (by rw [upD_length]; omega)
    rw [rootD_up (a ++ b) (by rw [List.length_append]; omega), upD_append (2 ^ k) a b (by omega), ih, rootD_up a (by omega), rootD_up b (by omega)]
theorem pow_even (k : Nat) (h : 0 < k) : 2 ^ k % 2 = 0 := by
  obtain ⟨j, rfl⟩ : ∃ j, k = j + 1 := ⟨k - 1, by omega⟩
  rw [Nat.pow_succ]
  omega
/-- A path's length. -/
theorem pathD_pow (l : List Dg) (at_ : Nat) (h : 0 < l.length) : 2 ^ (pathD l at_).length < 2 * l.length := by
  by_cases h1 : 1 < l.length
  · have hul := upD_length l
    have ih := pathD_pow (upD l) (at_ / 2) (by omega)
    rw [pathD_up l at_ h1, List.length_append]
    have h2 : (l[sib at_]?).toList.length ≤ 1 := by cases l[sib at_]? <;> simp
    have h3 : 2 ^ ((l[sib at_]?).toList.length + (pathD (upD l) (at_ / 2)).length) ≤ 2 ^ (1 + (pathD (upD l) (at_ / 2)).length) := Nat.pow_le_pow_right (by omega) (by omega)
    rw [Nat.pow_add 2 1] at h3
    rw [hul] at ih
    have h4 : 0 < (pathD (upD l) (at_ / 2)).length → 2 ^ (pathD (upD l) (at_ / 2)).length % 2 = 0 := pow_even _
    have h5 : (pathD (upD l) (at_ / 2)).length = 0 → 2 ^ (pathD (upD l) (at_ / 2)).length = 1 := fun e => by rw [e]
    omega
  · rw [pathD_end l at_ (by omega)]
    simp
    omega
termination_by l.length
decreasing_by
  rw [upD_length]
  omega
end Go.Proofs.YtmdjimkndeklmaaDoor.WL
