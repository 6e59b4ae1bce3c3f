/-
  CHAPTER 01: what reading and writing is, without any program.
-/
import Derived.Test.YtmdjimkndeklmaaDoorBa
namespace Go.Proofs.YtmdjimkndeklmaaDoor.WL
open Go

/-- The number that bytes are, the highest first. -/
def beVal (bs : Bytes) : Nat := bs.foldl (fun v b => v * 256 + b.toNat) 0
theorem beVal_snoc (bs : Bytes) (b : UInt8) : beVal (bs ++ [b]) = beVal bs * 256 + b.toNat := by simp [beVal]
theorem beVal_fold : ∀ (bs : Bytes) (v : Nat), bs.foldl (fun v b => v * 256 + b.toNat) v < (v + 1) * 256 ^ bs.length
  | [], v => by simp
  | b :: bs, v => by
    have hb := b.toNat_lt
    have h := beVal_fold bs (v * 256 + b.toNat)
    have h2 : (v * 256 + b.toNat + 1) * 256 ^ bs.length ≤ (v + 1) * 256 * 256 ^ bs.length := Nat.mul_le_mul_right _ (by omega)
    rw [List.foldl_cons, List.length_cons, Nat.pow_succ, Nat.mul_comm (256 ^ bs.length) 256, ← Nat.mul_assoc]
    omega
theorem beVal_lt (bs : Bytes) : beVal bs < 256 ^ bs.length := by
  have := beVal_fold bs 0
  simpa [beVal] using this
theorem beVal_take_succ (l : Bytes) (j : Nat) (h : j < l.length) : beVal (l.take (j + 1)) = beVal (l.take j) * 256 + l[j].toNat := by
  rw [List.take_add_one, List.getElem?_eq_getElem h]
  exact beVal_snoc _ _

/-- A reader: what was read, what is left, whether something was wrong. -/
structure Rd where
  pre : Bytes
  s : Bytes
  bad : Bool
def Rd.fault : Rd := ⟨[], [], true⟩
def Rd.of (bs : Bytes) : Rd := ⟨[], bs, false⟩
def Rd.ok (r : Rd) (k : Int) : Bool := !r.bad && decide (0 ≤ k) && decide (k ≤ r.s.length)
/-- The next bytes, and the reader behind them. -/
def Rd.got (r : Rd) (k : Int) : Bytes := if r.ok k = true then r.s.take k.toNat else []
def Rd.skip (r : Rd) (k : Int) : Rd := if r.ok k = true then ⟨r.pre ++ r.s.take k.toNat, r.s.drop k.toNat, false⟩ else Rd.fault
def Rd.num (r : Rd) : Int := IntKind.i64.wrap (beVal (r.got 8) : Nat)
def Rd.num' (r : Rd) : Rd := r.skip 8
def Rd.inOk (r : Rd) (lo hi : Int) : Bool := !r.num'.bad && decide (lo ≤ r.num) && decide (r.num ≤ hi)
def Rd.inn (r : Rd) (lo hi : Int) : Int := if r.inOk lo hi = true then r.num else 0
def Rd.inn' (r : Rd) (lo hi : Int) : Rd := if r.inOk lo hi = true then r.num' else Rd.fault
/-- How many bytes a text has. -/
def Rd.len (r : Rd) (most : Int) : Int := if most < (beVal (r.got 4) : Int) then -1 else (beVal (r.got 4) : Int)
def Rd.text (r : Rd) (most : Int) : Bytes := (r.skip 4).got (r.len most)
def Rd.text' (r : Rd) (most : Int) : Rd := (r.skip 4).skip (r.len most)
def Rd.dg' (r : Rd) : Rd := r.skip 32
def Rd.done (r : Rd) : Bool := !r.bad && decide (r.s = [])

theorem Rd.got_len (r : Rd) (k : Nat) : (r.got k).length = 0 ∨ (r.got k).length = k := by
  unfold Rd.got Rd.ok
  split
  · rename_i h
    simp only [Bool.and_eq_true, decide_eq_true_eq] at h
    right
    rw [List.length_take]
    omega
  · left; rfl
theorem Rd.got_le (r : Rd) (k : Nat) : (r.got k).length ≤ k := by
  rcases r.got_len k with h | h <;> omega
def Rd.dg (r : Rd) : Dg := ⟨r.got 32 ++ zeros (32 - (r.got 32).length), by
  have h := r.got_le 32
  have e : ((32 : Nat) : Int) = 32 := rfl
  rw [e] at h
  simp only [List.length_append, zeros_length]
  omega⟩
theorem Rd.dg_bs (r : Rd) : r.dg.bs = r.got 32 ++ zeros (32 - (r.got 32).length) := rfl
theorem Rd.num_range (r : Rd) : -9223372036854775808 ≤ r.num ∧ r.num < 9223372036854775808 := w64_range _
theorem or_add {v c : Nat} (h : c < 256) : v * 256 ||| c = v * 256 + c := by
  have : v * 256 = v * 2 ^ 8 := rfl
  rw [this, ← Nat.shiftLeft_eq, ← Nat.shiftLeft_add_eq_or_of_lt (by omega)]
theorem bitsOp_or (k : IntKind) (a b : Nat) (ha : a < 2 ^ k.bits) (hb : b < 2 ^ k.bits) : bitsOp .or k (a : Int) (b : Int) = k.wrap ((a ||| b : Nat) : Int) := by
  simp only [bitsOp, BitVec.toNat_or, BitVec.toNat_ofInt]
  congr 3
  · have : ((a : Int) % ((2 ^ k.bits : Nat) : Int)).toNat = a := by
      rw [← Int.natCast_emod, Int.toNat_natCast, Nat.mod_eq_of_lt ha]
    exact this
  · have : ((b : Int) % ((2 ^ k.bits : Nat) : Int)).toNat = b := by
      rw [← Int.natCast_emod, Int.toNat_natCast, Nat.mod_eq_of_lt hb]
    exact this
/-- One byte more, as the program reckons it. -/
theorem byte_u64 (v : Nat) (b : UInt8) (h : v < 2 ^ 56) : bitsOp .or .u64 (IntKind.u64.wrap ((v : Int) * 256)) (IntKind.u64.wrap (b.toNat : Int)) = ((v * 256 + b.toNat : Nat) : Int) := by
  have hb := b.toNat_lt
  rw [u64_id (by omega), u64_id (by omega)]
  have := bitsOp_or .u64 (v * 256) b.toNat (by simp only [IntKind.bits]; omega) (by simp only [IntKind.bits]; omega)
  rw [Int.natCast_mul] at this
  simp only [Int.cast_ofNat_Int] at this
  rw [this, or_add (by omega), u64_id (by omega)]
/-- The same, with a sign. -/
theorem byte_i64 (v : Nat) (b : UInt8) (h : v < 2 ^ 56) : bitsOp .or .i64 (IntKind.i64.wrap ((v : Int) * 256)) (IntKind.i64.wrap (b.toNat : Int)) = IntKind.i64.wrap ((v * 256 + b.toNat : Nat) : Int) := by
  have hb := b.toNat_lt
  have e : ∀ n : Int, BitVec.ofInt 64 (IntKind.i64.wrap n) = BitVec.ofInt 64 n := by
    intro n
    apply BitVec.eq_of_toNat_eq
    rw [BitVec.toNat_ofInt, BitVec.toNat_ofInt, IntKind.wrap_i64]
    omega
  have k : bitsOp .or .i64 (IntKind.i64.wrap ((v : Int) * 256)) (IntKind.i64.wrap (b.toNat : Int)) = bitsOp .or .i64 ((v : Int) * 256) (b.toNat : Int) := by
    simp only [bitsOp, IntKind.bits, e]
  rw [k]
  have := bitsOp_or .i64 (v * 256) b.toNat (by simp only [IntKind.bits]; omega) (by simp only [IntKind.bits]; omega)
  rw [Int.natCast_mul] at this
  simp only [Int.cast_ofNat_Int] at this
  rw [this, or_add (by omega)]

/-! Writing. -/
def be8 (n : Int) : Bytes := [u8 (n / 72057594037927936), u8 (n / 281474976710656), u8 (n / 1099511627776), u8 (n / 4294967296), u8 (n / 16777216), u8 (n / 65536), u8 (n / 256), u8 n]
def be4 (n : Int) : Bytes := [u8 (n / 16777216), u8 (n / 65536), u8 (n / 256), u8 n]
def txt (s : Bytes) : Bytes := be4 s.length ++ s
@[simp] theorem be8_length (n : Int) : (be8 n).length = 8 := rfl
@[simp] theorem be4_length (n : Int) : (be4 n).length = 4 := rfl
@[simp] theorem txt_length (s : Bytes) : (txt s).length = 4 + s.length := by simp [txt]
theorem be8_drop (n : Int) : (be8 n).drop 4 = be4 n := rfl
theorem u8_congr {a b : Int} (h : a % 256 = b % 256) : u8 a = u8 b := by unfold u8; rw [h]
theorem be8_get (n : Int) (t : Nat) (h : t < 8) : (be8 n)[t]? = some (u8 (n / 2 ^ (56 - 8 * t))) := by
  match t, h with
  | 0, _ => simp [be8]
  | 1, _ => simp [be8]
  | 2, _ => simp [be8]
  | 3, _ => simp [be8]
  | 4, _ => simp [be8]
  | 5, _ => simp [be8]
  | 6, _ => simp [be8]
  | 7, _ => simp [be8]
theorem be8_take (n : Int) (t : Nat) (h : t < 8) : (be8 n).take (t + 1) = (be8 n).take t ++ [u8 (n / 2 ^ (56 - 8 * t))] := by
  rw [List.take_add_one, be8_get n t h]; rfl
theorem take_snoc {α : Type} (l : List α) (j : Nat) (h : j < l.length) : l.take (j + 1) = l.take j ++ [l[j]] := by
  rw [List.take_add_one, List.getElem?_eq_getElem h]; rfl
/-- As the program reckons it: without a sign. -/
theorem be8_u64 (n : Int) (t : Nat) (h : t < 8) : u8 ((IntKind.u64.wrap n).fdiv (2 ^ (56 - 8 * t))) = u8 (n / 2 ^ (56 - 8 * t)) := by
  rw [u64_mod, Int.fdiv_eq_ediv_of_nonneg _ (Int.le_of_lt (Int.pow_pos (by decide)))]
  apply u8_congr
  match t, h with
  | 0, _ => simp; omega
  | 1, _ => simp; omega
  | 2, _ => simp; omega
  | 3, _ => simp; omega
  | 4, _ => simp; omega
  | 5, _ => simp; omega
  | 6, _ => simp; omega
  | 7, _ => simp
theorem beVal_cons (b : UInt8) (bs : Bytes) : beVal (b :: bs) = b.toNat * 256 ^ bs.length + beVal bs := by
  have key : ∀ (bs : Bytes) (v : Nat), bs.foldl (fun v b => v * 256 + b.toNat) v = v * 256 ^ bs.length + beVal bs := by
    intro bs
    induction bs with
    | nil => intro v; simp [beVal]
    | cons c bs ih =>
      intro v
      simp only [List.foldl_cons, beVal, List.length_cons]
      rw [ih, ih (0 * 256 + c.toNat), Nat.pow_succ]
      simp only [Nat.zero_mul, Nat.zero_add, Nat.add_mul, Nat.mul_assoc, Nat.add_assoc, Nat.mul_comm (256 ^ bs.length) 256]
  show (b :: bs).foldl _ 0 = _
  rw [List.foldl_cons, key]
  simp
theorem beVal_be8 (n : Int) : (beVal (be8 n) : Int) = n % 18446744073709551616 := by
  simp only [be8, beVal_cons, List.length_cons, List.length_nil]
  simp only [beVal, List.foldl_nil]
  have h0 := u8_toNat (n / 72057594037927936)
  have h1 := u8_toNat (n / 281474976710656)
  have h2 := u8_toNat (n / 1099511627776)
  have h3 := u8_toNat (n / 4294967296)
  have h4 := u8_toNat (n / 16777216)
  have h5 := u8_toNat (n / 65536)
  have h6 := u8_toNat (n / 256)
  have h7 := u8_toNat n
  omega
theorem beVal_be4 (n : Int) : (beVal (be4 n) : Int) = n % 4294967296 := by
  simp only [be4, beVal_cons, List.length_cons, List.length_nil]
  simp only [beVal, List.foldl_nil]
  have h4 := u8_toNat (n / 16777216)
  have h5 := u8_toNat (n / 65536)
  have h6 := u8_toNat (n / 256)
  have h7 := u8_toNat n
  omega
def nums (ns : List Int) : Bytes := ns.flatMap be8
def txts (ss : List Bytes) : Bytes := ss.flatMap txt
theorem nums_length (ns : List Int) : (nums ns).length = 8 * ns.length := by
  induction ns with
  | nil => rfl
  | cons n ns ih => simp only [nums, List.flatMap_cons, List.length_append, be8_length, List.length_cons] at *; omega
theorem nums_snoc (ns : List Int) (j : Nat) (h : j < ns.length) : nums (ns.take (j + 1)) = nums (ns.take j) ++ be8 ns[j] := by
  simp only [nums, take_snoc _ _ h, List.flatMap_append, List.flatMap_cons, List.flatMap_nil, List.append_nil]
theorem txts_snoc (ns : List Bytes) (j : Nat) (h : j < ns.length) : txts (ns.take (j + 1)) = txts (ns.take j) ++ txt ns[j] := by
  simp only [txts, take_snoc _ _ h, List.flatMap_append, List.flatMap_cons, List.flatMap_nil, List.append_nil]
def flatD (ds : List Dg) : Bytes := ds.flatMap Dg.bs
theorem flatD_snoc (ns : List Dg) (j : Nat) (h : j < ns.length) : flatD (ns.take (j + 1)) = flatD (ns.take j) ++ ns[j].bs := by
  simp only [flatD, take_snoc _ _ h, List.flatMap_append, List.flatMap_cons, List.flatMap_nil, List.append_nil]
theorem flatD_length (ds : List Dg) : (flatD ds).length = 32 * ds.length := by
  induction ds with
  | nil => rfl
  | cons n ns ih => simp only [flatD, List.flatMap_cons, List.length_append, Dg.length, List.length_cons] at *; omega
theorem flat_snoc (ns : List Bytes) (j : Nat) (h : j < ns.length) : (ns.take (j + 1)).flatten = (ns.take j).flatten ++ ns[j] := by
  simp only [take_snoc _ _ h, List.flatten_append, List.flatten_cons, List.flatten_nil, List.append_nil]
theorem txts_take_le (ss : List Bytes) (j : Nat) : (txts (ss.take j)).length ≤ (txts ss).length := by
  conv => rhs; rw [← List.take_append_drop j ss]
  simp only [txts, List.flatMap_append, List.length_append]
  omega
theorem flat_take_le (ss : List Bytes) (j : Nat) : ((ss.take j).flatten).length ≤ (ss.flatten).length := by
  conv => rhs; rw [← List.take_append_drop j ss]
  simp only [List.flatten_append, List.length_append]
  omega
end Go.Proofs.YtmdjimkndeklmaaDoor.WL
