/-
  DATA: words of 32 bits.
-/
import Derived.Test.YtmdjimkndeklmaaDoorBa
namespace Go.Proofs.YtmdjimkndeklmaaDoor.WL
open Go

/-- A word as a number. -/
def w32 (w : UInt32) : Int := w.toNat
theorem w32_range (w : UInt32) : 0 ≤ w32 w ∧ w32 w < 4294967296 := by
  have := w.toNat_lt
  unfold w32
  omega
abbrev wv (w : UInt32) : AV := .v (.int .u32 (w32 w))
def U (ws : List UInt32) : List AV := ws.map wv
@[simp] theorem U_length (ws : List UInt32) : (U ws).length = ws.length := by simp [U]
@[simp] theorem U_closed (ws : List UInt32) : closeds (U ws) = true := by simp [U, closeds_all]
@[simp] theorem U_plain (ws : List UInt32) : plains (U ws) = true := by simp [U, plains_all]
@[simp] theorem U_get (n : Nat) (a : List UInt32) : (U a)[n]? = (a[n]?).map wv := by simp [U]
@[simp] theorem U_getElem (n : Nat) (a : List UInt32) (h : n < (U a).length) : (U a)[n] = wv (a[n]'(by simpa using h)) := by simp [U]
theorem U_set (L : List UInt32) (j : Nat) (x : UInt32) : (U L).set j (wv x) = U (L.set j x) := by simp [U, List.map_set]
@[simp] theorem U_nil : U [] = [] := rfl
theorem U_cons (w : UInt32) (ws : List UInt32) : U (w :: ws) = wv w :: U ws := rfl
def zeros32 (n : Nat) : List UInt32 := List.replicate n 0
@[simp] theorem zeros32_length (n : Nat) : (zeros32 n).length = n := by simp [zeros32]
@[simp] theorem rep_word (n : Nat) : rep n (.v (.int .u32 0)) = U (zeros32 n) := by simp [rep, U, zeros32]; exact .inr rfl
theorem fill_zeros32 (g : List UInt32) (n j : Nat) (hj : j < g.length) (h : g.length ≤ n) : (g.take j ++ zeros32 (n - j)).set j g[j] = g.take (j + 1) ++ zeros32 (n - (j + 1)) := by
  have e : n - j = (n - (j + 1)) + 1 := by omega
  have e2 : j - (g.take j).length = 0 := by rw [List.length_take]; omega
  have e3 : g.take (j + 1) = g.take j ++ [g[j]] := by rw [List.take_add_one, List.getElem?_eq_getElem hj]; rfl
  rw [e, List.set_append_right _ _ (by rw [List.length_take]; omega), e2, e3, List.append_assoc]
  rfl

/-! The operations. -/
theorem u32_lt (a : UInt32) : a.toNat < 4294967296 := a.toNat_lt
theorem u32_add (a b : UInt32) : IntKind.u32.wrap (w32 a + w32 b) = w32 (a + b) := by
  unfold w32
  rw [u32_mod, UInt32.toNat_add]
  omega
theorem u32_id (a : UInt32) : IntKind.u32.wrap (w32 a) = w32 a := by
  unfold w32
  have := u32_lt a
  rw [u32_mod]
  omega
theorem ofInt_u32 (a : UInt32) : BitVec.ofInt 32 (w32 a) = a.toBitVec := by
  unfold w32
  apply BitVec.eq_of_toNat_eq
  have := u32_lt a
  rw [BitVec.toNat_ofInt]
  show ((a.toNat : Int) % ((2 ^ 32 : Nat) : Int)).toNat = a.toNat
  omega
theorem u32_xor (a b : UInt32) : bitsOp .xor .u32 (w32 a) (w32 b) = w32 (a ^^^ b) := by
  simp only [bitsOp, IntKind.bits, ofInt_u32]
  exact u32_id (a ^^^ b)
theorem u32_and (a b : UInt32) : bitsOp .and .u32 (w32 a) (w32 b) = w32 (a &&& b) := by
  simp only [bitsOp, IntKind.bits, ofInt_u32]
  exact u32_id (a &&& b)
theorem u32_or (a b : UInt32) : bitsOp .or .u32 (w32 a) (w32 b) = w32 (a ||| b) := by
  simp only [bitsOp, IntKind.bits, ofInt_u32]
  exact u32_id (a ||| b)
theorem u32_not (a : UInt32) : bitsOp .xor .u32 4294967295 (w32 a) = w32 (~~~a) := by
  have e : (4294967295 : Int) = w32 4294967295 := rfl
  rw [e, u32_xor]
  congr 2
@[simp] theorem un_xor (a : UInt32) : unV .xor (.int .u32 (w32 a)) = some (.int .u32 (w32 (~~~a))) := by
  have e : IntKind.max .u32 = 4294967295 := by decide
  simp only [unV, IntKind.signed, e, Bool.false_eq_true, if_false, u32_not]
theorem u32_shl (a : UInt32) (n : Nat) (h : n < 32) : IntKind.u32.wrap (w32 a * 2 ^ n) = w32 (a <<< UInt32.ofNat n) := by
  unfold w32
  rw [u32_mod, UInt32.toNat_shiftLeft, Nat.shiftLeft_eq]
  have e : (UInt32.ofNat n).toNat % 32 = n := by
    rw [UInt32.toNat_ofNat']
    omega
  rw [e]
  have e2 : ((a.toNat : Int) * 2 ^ n) = ((a.toNat * 2 ^ n : Nat) : Int) := by simp
  rw [e2]
  omega
theorem u32_shr (a : UInt32) (n : Nat) (h : n < 32) : (w32 a).fdiv (2 ^ n) = w32 (a >>> UInt32.ofNat n) := by
  unfold w32
  rw [Int.fdiv_eq_ediv_of_nonneg _ (Int.le_of_lt (Int.pow_pos (by decide))), UInt32.toNat_shiftRight, Nat.shiftRight_eq_div_pow]
  have e : (UInt32.ofNat n).toNat % 32 = n := by
    rw [UInt32.toNat_ofNat']
    omega
  rw [e]
  simp
theorem u32_byte (b : UInt8) : IntKind.u32.wrap (b.toNat : Int) = w32 b.toUInt32 := by
  unfold w32
  have := b.toNat_lt
  rw [u32_mod]
  show _ = ((b.toNat : Nat) : Int)
  omega
theorem u8_word (w : UInt32) : u8 (w32 w) = w.toUInt8 := by
  unfold w32
  apply UInt8.toNat_inj.1
  have := u8_toNat (w.toNat : Int)
  have h2 : w.toUInt8.toNat = w.toNat % 256 := UInt32.toNat_toUInt8 w
  omega
end Go.Proofs.YtmdjimkndeklmaaDoor.WL
