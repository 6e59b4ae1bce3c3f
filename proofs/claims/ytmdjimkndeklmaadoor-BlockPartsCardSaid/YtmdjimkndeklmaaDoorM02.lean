/-
  CHAPTER 02: what the digest is, without any program.
-/
import Derived.Test.YtmdjimkndeklmaaDoorBb
import Derived.Test.YtmdjimkndeklmaaDoorM01
namespace Go.Proofs.YtmdjimkndeklmaaDoor.WL
open Go

/-- A word turned to the right. -/
def rotr (x : UInt32) (n : Nat) : UInt32 := (x >>> UInt32.ofNat n) ||| (x <<< UInt32.ofNat (32 - n))
/-- A word of four bytes, the highest first. -/
def word4 (a b c d : UInt8) : UInt32 := (a.toUInt32 <<< 24) ||| (b.toUInt32 <<< 16) ||| (c.toUInt32 <<< 8) ||| d.toUInt32
theorem word4_add (a b c d : UInt8) : (a.toUInt32 <<< 24) + (b.toUInt32 <<< 16) + (c.toUInt32 <<< 8) + d.toUInt32 = word4 a b c d := by
  have ha := a.toNat_lt
  have hb := b.toNat_lt
  have hc := c.toNat_lt
  have hd := d.toNat_lt
  have e24 : (a.toUInt32 <<< 24).toNat = a.toNat * 2 ^ 24 := by
    rw [UInt32.toNat_shiftLeft, Nat.shiftLeft_eq]
    show a.toNat * 2 ^ 24 % 2 ^ 32 = _
    omega
  have e16 : (b.toUInt32 <<< 16).toNat = b.toNat * 2 ^ 16 := by
    rw [UInt32.toNat_shiftLeft, Nat.shiftLeft_eq]
    show b.toNat * 2 ^ 16 % 2 ^ 32 = _
    omega
  have e8 : (c.toUInt32 <<< 8).toNat = c.toNat * 2 ^ 8 := by
    rw [UInt32.toNat_shiftLeft, Nat.shiftLeft_eq]
    show c.toNat * 2 ^ 8 % 2 ^ 32 = _
    omega
  have e0 : d.toUInt32.toNat = d.toNat := rfl
  have o1 : a.toNat * 2 ^ 24 ||| b.toNat * 2 ^ 16 = a.toNat * 2 ^ 24 + b.toNat * 2 ^ 16 := by
    rw [← Nat.shiftLeft_eq a.toNat, ← Nat.shiftLeft_add_eq_or_of_lt (by omega)]
  have o2 : (a.toNat * 2 ^ 24 + b.toNat * 2 ^ 16) ||| c.toNat * 2 ^ 8 = a.toNat * 2 ^ 24 + b.toNat * 2 ^ 16 + c.toNat * 2 ^ 8 := by
    have : a.toNat * 2 ^ 24 + b.toNat * 2 ^ 16 = (a.toNat * 2 ^ 8 + b.toNat) * 2 ^ 16 := by omega
    rw [this, ← Nat.shiftLeft_eq _ 16, ← Nat.shiftLeft_add_eq_or_of_lt (by omega)]
  have o3 : (a.toNat * 2 ^ 24 + b.toNat * 2 ^ 16 + c.toNat * 2 ^ 8) ||| d.toNat = a.toNat * 2 ^ 24 + b.toNat * 2 ^ 16 + c.toNat * 2 ^ 8 + d.toNat := by
    have : a.toNat * 2 ^ 24 + b.toNat * 2 ^ 16 + c.toNat * 2 ^ 8 = (a.toNat * 2 ^ 16 + b.toNat * 2 ^ 8 + c.toNat) * 2 ^ 8 := by omega
    rw [this, ← Nat.shiftLeft_eq _ 8, ← Nat.shiftLeft_add_eq_or_of_lt (by omega)]
  apply UInt32.toNat_inj.1
  unfold word4
  simp only [UInt32.toNat_add, UInt32.toNat_or, e24, e16, e8, e0, o1, o2, o3]
  omega

def s0 (x : UInt32) : UInt32 := rotr x 7 ^^^ rotr x 18 ^^^ (x >>> 3)
def s1 (x : UInt32) : UInt32 := rotr x 17 ^^^ rotr x 19 ^^^ (x >>> 10)
def words (b : Bytes) : List UInt32 := (List.range 16).map fun i => word4 (b.getD (4 * i) 0) (b.getD (4 * i + 1) 0) (b.getD (4 * i + 2) 0) (b.getD (4 * i + 3) 0)
/-- One word more. -/
def next (w : List UInt32) : UInt32 := w.getD (w.length - 16) 0 + s0 (w.getD (w.length - 15) 0) + w.getD (w.length - 7) 0 + s1 (w.getD (w.length - 2) 0)
def grow : Nat → List UInt32 → List UInt32
  | 0, w => w
  | n + 1, w => grow n w ++ [next (grow n w)]
@[simp] theorem words_length (b : Bytes) : (words b).length = 16 := by simp [words]
@[simp] theorem grow_length (n : Nat) (w : List UInt32) : (grow n w).length = w.length + n := by
  induction n with
  | zero => rfl
  | succ n ih => simp [grow, ih, Nat.add_assoc]
def table : List UInt32 := [
  0x428a2f98, 0x71374491, 0xb5c0fbcf, 0xe9b5dba5, 0x3956c25b, 0x59f111f1, 0x923f82a4, 0xab1c5ed5,
  0xd807aa98, 0x12835b01, 0x243185be, 0x550c7dc3, 0x72be5d74, 0x80deb1fe, 0x9bdc06a7, 0xc19bf174,
  0xe49b69c1, 0xefbe4786, 0x0fc19dc6, 0x240ca1cc, 0x2de92c6f, 0x4a7484aa, 0x5cb0a9dc, 0x76f988da,
  0x983e5152, 0xa831c66d, 0xb00327c8, 0xbf597fc7, 0xc6e00bf3, 0xd5a79147, 0x06ca6351, 0x14292967,
  0x27b70a85, 0x2e1b2138, 0x4d2c6dfc, 0x53380d13, 0x650a7354, 0x766a0abb, 0x81c2c92e, 0x92722c85,
  0xa2bfe8a1, 0xa81a664b, 0xc24b8b70, 0xc76c51a3, 0xd192e819, 0xd6990624, 0xf40e3585, 0x106aa070,
  0x19a4c116, 0x1e376c08, 0x2748774c, 0x34b0bcb5, 0x391c0cb3, 0x4ed8aa4a, 0x5b9cca4f, 0x682e6ff3,
  0x748f82ee, 0x78a5636f, 0x84c87814, 0x8cc70208, 0x90befffa, 0xa4506ceb, 0xbef9a3f7, 0xc67178f2]
@[simp] theorem table_length : table.length = 64 := rfl

structure St where
  a : UInt32
  b : UInt32
  c : UInt32
  d : UInt32
  e : UInt32
  f : UInt32
  g : UInt32
  h : UInt32
def St.list (s : St) : List UInt32 := [s.a, s.b, s.c, s.d, s.e, s.f, s.g, s.h]
def St.p (s : St) (k w : UInt32) : UInt32 := s.h + (rotr s.e 6 ^^^ rotr s.e 11 ^^^ rotr s.e 25) + ((s.e &&& s.f) ^^^ (~~~s.e &&& s.g)) + k + w
def St.q (s : St) : UInt32 := (rotr s.a 2 ^^^ rotr s.a 13 ^^^ rotr s.a 22) + ((s.a &&& s.b) ^^^ (s.a &&& s.c) ^^^ (s.b &&& s.c))
def St.round (s : St) (k w : UInt32) : St := ⟨s.p k w + s.q, s.a, s.b, s.c, s.d + s.p k w, s.e, s.f, s.g⟩
/-- The first n rounds. -/
def rounds (w : List UInt32) : Nat → St → St
  | 0, s => s
  | n + 1, s => (rounds w n s).round (table.getD n 0) (w.getD n 0)
theorem rounds_zero (w : List UInt32) (s : St) : rounds w 0 s = s := rfl
theorem rounds_succ (w : List UInt32) (n : Nat) (s : St) : rounds w (n + 1) s = (rounds w n s).round (table.getD n 0) (w.getD n 0) := rfl
theorem grow_zero (w : List UInt32) : grow 0 w = w := rfl
theorem grow_succ (n : Nat) (w : List UInt32) : grow (n + 1) w = grow n w ++ [next (grow n w)] := rfl
def St.plus (s t : St) : St := ⟨s.a + t.a, s.b + t.b, s.c + t.c, s.d + t.d, s.e + t.e, s.f + t.f, s.g + t.g, s.h + t.h⟩
/-- The state behind a block. -/
def comp (s : St) (b : Bytes) : St := s.plus (rounds (grow 48 (words b)) 64 s)
def iv : St := ⟨0x6a09e667, 0xbb67ae85, 0x3c6ef372, 0xa54ff53a, 0x510e527f, 0x9b05688c, 0x1f83d9ab, 0x5be0cd19⟩
/-- The state behind n blocks. -/
def hb : Nat → Bytes → St
  | 0, _ => iv
  | n + 1, b => comp (hb n b) ((b.drop (64 * n)).take 64)
/-- What stands behind the bytes: a mark, zeros, how many bits. -/
def fillN (n : Nat) : Nat := (119 - n % 64) % 64
def pad (b : Bytes) : Bytes := b ++ (128 :: (zeros (fillN b.length) ++ be8 (8 * b.length : Nat)))
theorem pad_length (b : Bytes) : (pad b).length % 64 = 0 := by
  simp only [pad, List.length_append, List.length_cons, zeros_length, be8_length, fillN]
  omega
def wbytes (x : UInt32) : Bytes := [(x >>> 24).toUInt8, (x >>> 16).toUInt8, (x >>> 8).toUInt8, x.toUInt8]
def St.bytes (s : St) : Bytes := s.list.flatMap wbytes
@[simp] theorem St.bytes_length (s : St) : s.bytes.length = 32 := rfl
/-- THE DIGEST. -/
def sha (b : Bytes) : Dg := ⟨(hb ((pad b).length / 64) (pad b)).bytes, rfl⟩

theorem sha_abc : (sha [97, 98, 99]).bs.take 8 = [0xba, 0x78, 0x16, 0xbf, 0x8f, 0x01, 0xcf, 0xea] := by decide +kernel

theorem hb_append (n : Nat) (b c : Bytes) (h : 64 * n ≤ b.length) : hb n (b ++ c) = hb n b := by
  induction n with
  | zero => rfl
  | succ n ih =>
    simp only [hb]
    rw [ih (by omega), List.drop_append_of_le_length (by omega), List.take_append_of_le_length (by rw [List.length_drop]; omega)]
end Go.Proofs.YtmdjimkndeklmaaDoor.WL
