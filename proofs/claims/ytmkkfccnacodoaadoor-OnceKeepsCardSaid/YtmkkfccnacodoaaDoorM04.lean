/-
  CHAPTER 04: signatures by keys that are used once, without any program.
-/
import Derived.Test.YtmkkfccnacodoaaDoorM03
namespace Go.Proofs.YtmkkfccnacodoaaDoor.WL
open Go
attribute [local irreducible] sha leafD pairD

def secB (seed : Dg) (leaf : Int) (n : Nat) : Bytes := 2 :: (seed.bs ++ (be8 leaf ++ be8 (n : Int)))
theorem secB_len (seed : Dg) (leaf : Int) (n : Nat) : (secB seed leaf n).length = 49 := by simp [secB]
/-- A secret: for a bit and what it may be. -/
def secD (seed : Dg) (leaf : Int) (bit is : Nat) : Dg := sha (secB seed leaf (2 * bit + is))
def shutD (s : Dg) : Dg := sha s.bs
/-- A digest's bit. -/
def bitD (d : Dg) (i : Nat) : Nat := (d.bs.getD (i / 8) 0).toNat / 2 ^ (7 - i % 8) % 2
theorem bitD_le (d : Dg) (i : Nat) : bitD d i = 0 ∨ bitD d i = 1 := by
  unfold bitD
  omega
attribute [local irreducible] secD shutD bitD
def pubL (seed : Dg) (leaf : Int) : Nat → List Dg
  | 0 => []
  | n + 1 => pubL seed leaf n ++ [shutD (secD seed leaf n 0), shutD (secD seed leaf n 1)]
theorem pubL_length (seed : Dg) (leaf : Int) (n : Nat) : (pubL seed leaf n).length = 2 * n := by
  induction n with
  | zero => rfl
  | succ n ih => simp only [pubL, List.length_append, ih, List.length_cons, List.length_nil]; omega
def wholeD (l : List Dg) : Dg := sha (flatD l)
/-- A public half. -/
def pubD (seed : Dg) (leaf : Int) (N : Nat) : Dg := wholeD (pubL seed leaf N)
def openL (seed : Dg) (leaf : Int) (d : Dg) : Nat → List Dg
  | 0 => []
  | n + 1 => openL seed leaf d n ++ [secD seed leaf n (bitD d n)]
def shutL (seed : Dg) (leaf : Int) (d : Dg) : Nat → List Dg
  | 0 => []
  | n + 1 => shutL seed leaf d n ++ [shutD (secD seed leaf n (1 - bitD d n))]
@[simp] theorem openL_length (seed : Dg) (leaf : Int) (d : Dg) (n : Nat) : (openL seed leaf d n).length = n := by
  induction n with
  | zero => rfl
  | succ n ih => simp only [openL, List.length_append, ih, List.length_cons, List.length_nil]
@[simp] theorem shutL_length (seed : Dg) (leaf : Int) (d : Dg) (n : Nat) : (shutL seed leaf d n).length = n := by
  induction n with
  | zero => rfl
  | succ n ih => simp only [shutL, List.length_append, ih, List.length_cons, List.length_nil]
/-- Two digests, in a bit's order. -/
def two (b : Nat) (x y : Dg) : List Dg := if b = 0 then [x, y] else [y, x]
def ofL (d : Dg) (o s : List Dg) : Nat → List Dg
  | 0 => []
  | n + 1 => ofL d o s n ++ two (bitD d n) (shutD (o.getD n Dg.zero)) (s.getD n Dg.zero)
theorem two_length (b : Nat) (x y : Dg) : (two b x y).length = 2 := by unfold two; split <;> rfl
theorem ofL_length (d : Dg) (o s : List Dg) (n : Nat) : (ofL d o s n).length = 2 * n := by
  induction n with
  | zero => rfl
  | succ n ih => simp only [ofL, List.length_append, ih, two_length]; omega
/-- Under which public half a signature is right. -/
def ofD (d : Dg) (o s : List Dg) (N : Nat) : Dg := wholeD (ofL d o s N)
/-- A signature's own public half. -/
theorem ofL_fits (seed : Dg) (leaf : Int) (d : Dg) (N : Nat) : ∀ n, n ≤ N → ofL d (openL seed leaf d N) (shutL seed leaf d N) n = pubL seed leaf n := by
  have ho : ∀ M n, n < M → (openL seed leaf d M).getD n Dg.zero = secD seed leaf n (bitD d n) := by
    intro M
    induction M with
    | zero => intro n h; omega
    | succ M ih =>
      intro n h
      simp only [openL, List.getD_eq_getElem?_getD]
      by_cases hm : n < M
      · rw [List.getElem?_append_left (by simpa using hm), ← List.getD_eq_getElem?_getD, ih n hm]
      · have : n = M := by omega
        subst this
        rw [List.getElem?_append_right (by simp)]
        simp
  have hs : ∀ M n, n < M → (shutL seed leaf d M).getD n Dg.zero = shutD (secD seed leaf n (1 - bitD d n)) := by
    intro M
    induction M with
    | zero => intro n h; omega
    | succ M ih =>
      intro n h
      simp only [shutL, List.getD_eq_getElem?_getD]
      by_cases hm : n < M
      · rw [List.getElem?_append_left (by simpa using hm), ← List.getD_eq_getElem?_getD, ih n hm]
      · have : n = M := by omega
        subst this
        rw [List.getElem?_append_right (by simp)]
        simp
  intro n
  induction n with
  | zero => intro _; rfl
  | succ n ih =>
    intro h
    simp only [ofL, pubL]
    rw [ih (by omega), ho N n (by omega), hs N n (by omega)]
    congr 1
    rcases bitD_le d n with hb | hb <;> simp [two, hb]
theorem ofD_fits (seed : Dg) (leaf : Int) (d : Dg) (N : Nat) : ofD d (openL seed leaf d N) (shutL seed leaf d N) N = pubD seed leaf N := by
  unfold ofD pubD
  rw [ofL_fits seed leaf d N N (Nat.le_refl _)]
/-- Only the first bits are signed. -/
theorem openL_first (seed : Dg) (leaf : Int) (d e : Dg) (n : Nat) (h : ∀ i, i < n → bitD d i = bitD e i) : openL seed leaf d n = openL seed leaf e n ∧ shutL seed leaf d n = shutL seed leaf e n := by
  induction n with
  | zero => exact ⟨rfl, rfl⟩
  | succ n ih =>
    obtain ⟨h1, h2⟩ := ih fun i hi => h i (by omega)
    simp only [openL, shutL, h1, h2, h n (by omega), and_self]
end Go.Proofs.YtmkkfccnacodoaaDoor.WL
