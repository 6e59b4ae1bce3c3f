/-
  CHAPTER 03: hash trees, without any program.
-/
import Derived.Test.YtmkkfccnacodoaaDoorM02
namespace Go.Proofs.YtmkkfccnacodoaaDoor.WL
open Go
attribute [local irreducible] sha

def leafD (b : Bytes) : Dg := sha (0 :: b)
def pairD (a b : Dg) : Dg := sha (1 :: (a.bs ++ b.bs))
attribute [local irreducible] leafD pairD
/-- The row above. -/
def upD : List Dg → List Dg
  | a :: b :: r => pairD a b :: upD r
  | [a] => [a]
  | [] => []
theorem upD_length : ∀ l : List Dg, (upD l).length = (l.length + 1) / 2
  | [] => by simp [upD]
  | [a] => by simp [upD]
  | a :: b :: r => by
    simp only [upD, List.length_cons, upD_length r]
    omega
theorem upD_get : ∀ (l : List Dg) (i : Nat) (h : 2 * i + 1 < l.length), (upD l)[i]? = some (pairD l[2 * i] l[2 * i + 1])
  | [], i, h => by simp at h
  | [a], i, h => by simp at h
  | a :: b :: r, 0, h => rfl
  | a :: b :: r, i + 1, h => by
    simp only [upD, List.getElem?_cons_succ]
    have h' : 2 * i + 1 < r.length := by simp only [List.length_cons] at h; omega
    rw [upD_get r i h']
    rfl
theorem upD_last : ∀ (l : List Dg) (i : Nat) (h : 2 * i + 1 = l.length), (upD l)[i]? = some l[2 * i]
  | [], i, h => by simp at h
  | [a], i, h => by
    have : i = 0 := by simp at h; omega
    subst this
    rfl
  | a :: b :: r, 0, h => by simp only [List.length_cons] at h; omega
  | a :: b :: r, i + 1, h => by
    simp only [upD, List.getElem?_cons_succ]
    have h' : 2 * i + 1 = r.length := by simp only [List.length_cons] at h; omega
    rw [upD_last r i h']
    rfl
theorem upD_pair (l : List Dg) (i : Nat) (h : 2 * i + 1 < l.length) : (upD l).take (i + 1) = (upD l).take i ++ [pairD l[2 * i] l[2 * i + 1]] := by
  rw [List.take_add_one, upD_get l i h]
  rfl
theorem upD_one (l : List Dg) (i : Nat) (h : 2 * i + 1 = l.length) : (upD l).take (i + 1) = (upD l).take i ++ [l[2 * i]] := by
  rw [List.take_add_one, upD_last l i h]
  rfl
theorem upD_all (l : List Dg) (i : Nat) (h : l.length ≤ 2 * i) : (upD l).take i = upD l := by
  apply List.take_of_length_le
  rw [upD_length]
  omega
/-- The topmost. -/
def rootD (l : List Dg) : Dg :=
  match l with
  | [] => sha []
  | [a] => a
  | a :: b :: r => rootD (upD (a :: b :: r))
termination_by l.length
decreasing_by
  rw [upD_length]
  simp only [List.length_cons]
  omega
theorem rootD_nil : rootD [] = sha [] := by rw [rootD]
theorem rootD_one (a : Dg) : rootD [a] = a := by rw [rootD]
theorem rootD_up (l : List Dg) (h : 1 < l.length) : rootD l = rootD (upD l) := by
  match l, h with
  | a :: b :: r, _ => rw [rootD]
/-- The neighbour's place. -/
def sib (at_ : Nat) : Nat := if at_ % 2 = 1 then at_ - 1 else at_ + 1
/-- What stands beside a leaf's way to the root, from below. -/
def pathD (l : List Dg) (at_ : Nat) : List Dg :=
  if h : 1 < l.length then (l[sib at_]?).toList ++ pathD (upD l) (at_ / 2) else []
termination_by l.length
decreasing_by
  rw [upD_length]
  omega
theorem pathD_up (l : List Dg) (at_ : Nat) (h : 1 < l.length) : pathD l at_ = (l[sib at_]?).toList ++ pathD (upD l) (at_ / 2) := by rw [pathD, dif_pos h]
theorem pathD_end (l : List Dg) (at_ : Nat) (h : l.length ≤ 1) : pathD l at_ = [] := by rw [pathD, dif_neg (by omega)]
theorem pathD_len (l : List Dg) (at_ : Nat) : (pathD l at_).length ≤ l.length := by
  by_cases h : 1 < l.length
  · rw [pathD_up l at_ h, List.length_append]
    have h1 : (l[sib at_]?).toList.length ≤ 1 := by cases l[sib at_]? <;> simp
    have h2 := pathD_len (upD l) (at_ / 2)
    have h3 := upD_length l
    omega
  · rw [pathD_end l at_ (by omega)]
    simp
termination_by l.length
decreasing_by
  rw [upD_length]
  omega
/-- Does a path lead to the root? -/
def checkD (root leaf : Dg) (at_ count : Nat) (path : List Dg) : Bool :=
  if h : 1 < count then
    if count ≤ sib at_ then checkD root leaf (at_ / 2) ((count + 1) / 2) path
    else match path with
      | [] => false
      | p :: ps => checkD root (if at_ % 2 = 1 then pairD p leaf else pairD leaf p) (at_ / 2) ((count + 1) / 2) ps
  else decide (path = []) && decide (leaf = root)
termination_by count
theorem checkD_end (root leaf : Dg) (at_ count : Nat) (path : List Dg) (h : count ≤ 1) : checkD root leaf at_ count path = (decide (path = []) && decide (leaf = root)) := by
  rw [checkD.eq_def, dif_neg (by omega)]
theorem checkD_up (root leaf : Dg) (at_ count : Nat) (path : List Dg) (h : 1 < count) (hs : count ≤ sib at_) : checkD root leaf at_ count path = checkD root leaf (at_ / 2) ((count + 1) / 2) path := by
  rw [checkD.eq_def, dif_pos h, if_pos hs]
theorem checkD_none (root leaf : Dg) (at_ count : Nat) (h : 1 < count) (hs : ¬ count ≤ sib at_) : checkD root leaf at_ count [] = false := by
  rw [checkD.eq_def, dif_pos h, if_neg hs]
theorem checkD_pair (root leaf : Dg) (at_ count : Nat) (p : Dg) (ps : List Dg) (h : 1 < count) (hs : ¬ count ≤ sib at_) :
    checkD root leaf at_ count (p :: ps) = checkD root (if at_ % 2 = 1 then pairD p leaf else pairD leaf p) (at_ / 2) ((count + 1) / 2) ps := by
  rw [checkD.eq_def, dif_pos h, if_neg hs]
/-- The neighbour's place, as the program reckons it. -/
theorem xor_sib (at_ : Nat) (h : at_ < 9223372036854775807) : bitsOp .xor .i64 (at_ : Int) 1 = (sib at_ : Int) := by
  simp only [bitsOp, BitVec.toNat_xor, BitVec.toNat_ofInt]
  have e1 : ((at_ : Int) % ((2 ^ IntKind.i64.bits : Nat) : Int)).toNat = at_ := by
    rw [← Int.natCast_emod, Int.toNat_natCast, Nat.mod_eq_of_lt (by simp only [IntKind.bits]; omega)]
  have e2 : ((1 : Int) % ((2 ^ IntKind.i64.bits : Nat) : Int)).toNat = 1 := by decide
  rw [e1, e2]
  have e3 : at_ ^^^ 1 = sib at_ := by
    unfold sib
    split
    · rename_i ho
      obtain ⟨k, rfl⟩ : ∃ k, at_ = 2 * k + 1 := ⟨at_ / 2, by omega⟩
      apply Nat.eq_of_testBit_eq
      intro i
      cases i with
      | zero => rw [Nat.testBit_xor]; simp [Nat.testBit_zero]; try omega
      | succ i => rw [Nat.testBit_xor, Nat.testBit_succ, Nat.testBit_succ, Nat.testBit_succ]; simp; try (congr 1; omega)
    · rename_i ho
      obtain ⟨k, rfl⟩ : ∃ k, at_ = 2 * k := ⟨at_ / 2, by omega⟩
      apply Nat.eq_of_testBit_eq
      intro i
      cases i with
      | zero => rw [Nat.testBit_xor]; simp [Nat.testBit_zero]; try omega
      | succ i => rw [Nat.testBit_xor, Nat.testBit_succ, Nat.testBit_succ, Nat.testBit_succ]; simp; try (congr 1; omega)
  rw [e3, IntKind.wrap_i64]
  unfold sib
  split <;> omega
end Go.Proofs.YtmkkfccnacodoaaDoor.WL
