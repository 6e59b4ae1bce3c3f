/-
  DATA: bytes, texts, numbers, digests as abstract values, and what the machine's operations do to them.
-/
import Derived.Test.YtmdjimkndeklmaaDoorWm4
import Derived.Laws.BitsLemmas
import Derived.Laws.Strings
namespace Go.Proofs.YtmdjimkndeklmaaDoor.WL
open Go

theorem meets_of_go {P : Program} {G : Nat → Option AV} {f : Nat} {x : CCode} {rs : List CRes} {args : List AV} {M : List (Nat × Loc)} {keep : Bool} {res : AV} {M' : List (Nat × Loc)} (hmix : P.follows .mixedOrders = true) (hc : chkFn P f x rs args.length = true)
    (hg : goodM keep M' M' = true ∧ goodA keep M' res = true ∧ (M'.map (·.1)).Nodup) (h : go P G (postA rs res M') x [] ⟨argsL 0 args, M, 2⟩) : Meets P G f args M keep res M' := meets_of_awp hmix hc hg h

/-! Numbers. -/
attribute [simp] IntKind.bits Nat.mod_one
theorem w64_id {n : Int} (h : -9223372036854775808 ≤ n ∧ n < 9223372036854775808) : IntKind.i64.wrap n = n := by rw [IntKind.wrap_i64]; omega
theorem w64_succ {j : Nat} (h : j < 4611686018427387904) : IntKind.i64.wrap ((j : Int) + 1) = ((j + 1 : Nat) : Int) := by rw [IntKind.wrap_i64]; omega
theorem w64_add {a b : Nat} (h : a + b < 4611686018427387904) : IntKind.i64.wrap ((a : Int) + (b : Int)) = ((a + b : Nat) : Int) := by rw [IntKind.wrap_i64]; omega
theorem w64_range (n : Int) : -9223372036854775808 ≤ IntKind.i64.wrap n ∧ IntKind.i64.wrap n < 9223372036854775808 := by rw [IntKind.wrap_i64]; omega
theorem u64_id {n : Int} (h : 0 ≤ n ∧ n < 18446744073709551616) : IntKind.u64.wrap n = n := by simp [IntKind.wrap, IntKind.bits, IntKind.signed]; omega
theorem u64_mod (n : Int) : IntKind.u64.wrap n = n % 18446744073709551616 := by simp [IntKind.wrap, IntKind.bits, IntKind.signed]
theorem u32_mod (n : Int) : IntKind.u32.wrap n = n % 4294967296 := by simp [IntKind.wrap, IntKind.bits, IntKind.signed]
theorem u8_mod (n : Int) : IntKind.u8.wrap n = n % 256 := by simp [IntKind.wrap, IntKind.bits, IntKind.signed]
theorem i64_wf {n : Int} (h : (Lit.int .i64 n).wf = true) : -9223372036854775808 ≤ n ∧ n < 9223372036854775808 := by
  simp only [Lit.wf, Bool.and_eq_true, decide_eq_true_eq] at h
  have h1 : IntKind.min .i64 = -9223372036854775808 := by decide
  have h2 : IntKind.max .i64 = 9223372036854775807 := by decide
  omega
theorem u8_wf {n : Int} (h : (Lit.int .u8 n).wf = true) : 0 ≤ n ∧ n < 256 := by
  simp only [Lit.wf, Bool.and_eq_true, decide_eq_true_eq] at h
  have h1 : IntKind.min .u8 = 0 := by decide
  have h2 : IntKind.max .u8 = 255 := by decide
  omega

@[simp] theorem fdiv_lit (a : Int) (n : Nat) : a.fdiv (no_index (OfNat.ofNat n)) = a / (OfNat.ofNat n) := Int.fdiv_eq_ediv_of_nonneg _ (Int.natCast_nonneg n)

theorem le_max {n : Nat} (h : n ≤ 100000000000) : n ≤ maxLen := by unfold maxLen; omega
@[simp] theorem le_max8 : 8 ≤ maxLen := by decide
@[simp] theorem le_max32 : 32 ≤ maxLen := by decide
@[simp] theorem le_max64 : 64 ≤ maxLen := by decide

@[simp] theorem step_convM (m : Nat → Option Loc) (g d l g' n : Nat) : step .convM [.row l 1 g' 0 n] m g d = (match m l with
    | some (.rows g'' 1 xs) => if g'' = g' ∧ n = xs.length ∧ 0 < n then some (.sl 1 xs, [(l, none)]) else none
    | _ => none) := (rfl)
/-! Bytes. -/
abbrev Bytes := List UInt8
abbrev bv (b : UInt8) : AV := .v (.int .u8 (b.toNat : Int))
/-- The byte that a number ends in. -/
def u8 (n : Int) : UInt8 := UInt8.ofNat (n % 256).toNat
theorem bv_u8 (n : Int) : AV.v (.int .u8 (IntKind.u8.wrap n)) = bv (u8 n) := by
  unfold bv u8
  rw [u8_mod]
  have h : ((UInt8.ofNat (n % 256).toNat).toNat : Int) = n % 256 := by
    rw [UInt8.toNat_ofNat']
    omega
  rw [h]
theorem bv_mod (n : Int) : AV.v (.int .u8 (n % 256)) = bv (u8 n) := by rw [← u8_mod]; exact bv_u8 n
theorem bv_lit (n : Int) (h : 0 ≤ n ∧ n < 256) : AV.v (.int .u8 n) = bv (u8 n) := by
  rw [← bv_u8, u8_mod, Int.emod_eq_of_lt h.1 h.2]
theorem u8_toNat (n : Int) : ((u8 n).toNat : Int) = n % 256 := by
  unfold u8
  rw [UInt8.toNat_ofNat']
  omega
theorem u8_of (b : UInt8) : u8 (b.toNat : Int) = b := by
  have := b.toNat_lt
  unfold u8
  rw [show ((b.toNat : Int) % 256).toNat = b.toNat by omega]
  exact UInt8.ofNat_toNat
@[simp] theorem bv_closed (b : UInt8) : closed (bv b) = true := rfl
@[simp] theorem bv_plain (b : UInt8) : plain (bv b) = true := rfl
@[simp] theorem bv_solid (b : UInt8) : (bv b).solid = true := rfl
@[simp] theorem bv_size (b : UInt8) : (bv b).size = 1 := rfl
@[simp] theorem bv_agg (b : UInt8) : (bv b).isAgg = false := rfl

def B (bs : Bytes) : List AV := bs.map bv
@[simp] theorem B_length (bs : Bytes) : (B bs).length = bs.length := by simp [B]
@[simp] theorem B_closed (bs : Bytes) : closeds (B bs) = true := by simp [B, closeds_all]
@[simp] theorem B_plain (bs : Bytes) : plains (B bs) = true := by simp [B, plains_all]
@[simp] theorem B_append (a b : Bytes) : B a ++ B b = B (a ++ b) := by simp [B]
@[simp] theorem B_cons (b : UInt8) (s : Bytes) : bv b :: B s = B (b :: s) := (rfl)
theorem B_snoc (a : Bytes) (b : UInt8) : B a ++ [bv b] = B (a ++ [b]) := by simp [B]
@[simp] theorem B_drop (n : Nat) (a : Bytes) : (B a).drop n = B (a.drop n) := by simp [B]
@[simp] theorem B_take (n : Nat) (a : Bytes) : (B a).take n = B (a.take n) := by simp [B]
@[simp] theorem B_get (n : Nat) (a : Bytes) : (B a)[n]? = (a[n]?).map bv := by simp [B]
@[simp] theorem B_getElem (n : Nat) (a : Bytes) (h : n < (B a).length) : (B a)[n] = bv (a[n]'(by simpa using h)) := by simp [B]
@[simp] theorem B_nil : B [] = [] := rfl
theorem B_set (L : Bytes) (j : Nat) (x : UInt8) : (B L).set j (bv x) = B (L.set j x) := by simp [B, List.map_set]
theorem intsOf_bv : ∀ bs : Bytes, intsOf .u8 (B bs) = some (bs.map fun b => (b.toNat : Int))
  | [] => rfl
  | b :: bs => by
    have := intsOf_bv bs
    simp only [B, List.map_cons, bv, intsOf] at *
    rw [if_pos trivial, this]
    rfl
/-- Bytes as numbers. -/
def natsOf (bs : Bytes) : List Int := bs.map fun b => (b.toNat : Int)
@[simp] theorem B_ints (bs : Bytes) : intsOf .u8 (B bs) = some (natsOf bs) := intsOf_bv bs
def zeros (n : Nat) : Bytes := List.replicate n 0
@[simp] theorem zeros_length (n : Nat) : (zeros n).length = n := by simp [zeros]
@[simp] theorem rep_byte (n : Nat) : rep n (.v (.int .u8 0)) = B (zeros n) := by simp [rep, B, zeros]
@[simp] theorem zeros_drop (n k : Nat) : (zeros n).drop k = zeros (n - k) := by simp [zeros]
@[simp] theorem zeros_take (n k : Nat) : (zeros n).take k = zeros (min k n) := by simp [zeros]
/-- A byte laid over zeros. -/
theorem fill_zeros (g : Bytes) (n j : Nat) (hj : j < g.length) (h : g.length ≤ n) : (g.take j ++ zeros (n - j)).set j g[j] = g.take (j + 1) ++ zeros (n - (j + 1)) := by
  have e : n - j = (n - (j + 1)) + 1 := by omega
  have e2 : j - (g.take j).length = 0 := by rw [List.length_take]; omega
  have e3 : g.take (j + 1) = g.take j ++ [g[j]] := by rw [List.take_add_one, List.getElem?_eq_getElem hj]; rfl
  rw [e, List.set_append_right _ _ (by rw [List.length_take]; omega), e2, e3, List.append_assoc]
  rfl
theorem isEmpty_dec {α : Type} [DecidableEq α] (l : List α) : l.isEmpty = decide (l = []) := by cases l <;> simp
theorem splice_zeros (n : Nat) (x : Bytes) : splice (B (zeros n)) 0 (B x) = B (x ++ zeros (n - x.length)) := by simp [splice]
theorem toNats_inj {a b : Bytes} : (a.map fun b => (b.toNat : Int)) = b.map (fun b => (b.toNat : Int)) ↔ a = b := by
  constructor
  · revert b
    induction a with
    | nil => intro b h; cases b with
      | nil => rfl
      | cons y b => simp at h
    | cons x a ih => intro b h; cases b with
      | nil => simp at h
      | cons y b =>
        simp only [List.map_cons, List.cons.injEq] at h
        rw [UInt8.toNat_inj.1 (show x.toNat = y.toNat by omega), ih h.2]
  · rintro rfl; rfl
@[simp] theorem step_eqaB {m : Nat → Option Loc} {g d : Nat} (neg : Bool) (n : Nat) (a b : Bytes) (ha : a.length = n) (hb : b.length = n) : step (.eqa neg .u8 n) [.arr 1 (B a), .arr 1 (B b)] m g d = some (.v (.bool (if neg = true then !(a == b) else a == b)), []) := by
  have e : (natsOf a == natsOf b) = (a == b) := by
    rw [Bool.eq_iff_iff, beq_iff_eq, beq_iff_eq]
    exact toNats_inj
  have la : (natsOf a).length = n := by simp [natsOf, ha]
  have lb : (natsOf b).length = n := by simp [natsOf, hb]
  simp only [step, B_ints, la, lb, and_self, if_true, e]

/-! Texts. -/
def mkS (bs : Bytes) : ByteArray := ⟨bs.toArray⟩
@[simp] theorem mkS_size (bs : Bytes) : (mkS bs).size = bs.length := by simp [mkS, ByteArray.size]
theorem mkS_of (s : ByteArray) : s = mkS s.data.toList := by simp [mkS]
@[simp] theorem mkS_data (bs : Bytes) : (mkS bs).data.toList = bs := by simp [mkS]
@[simp] theorem mkS_append (a b : Bytes) : mkS a ++ mkS b = mkS (a ++ b) := by
  apply ByteArray.ext
  simp [mkS, ByteArray.data_append]
@[simp] theorem mkS_toList (a : Bytes) : (mkS a).toList = a := by rw [ByteArray.toList_eq, mkS_data]
@[simp] theorem mkS_bytes (bs : Bytes) : bytesAV (mkS bs) = B bs := by
  simp only [bytesAV, B, mkS_data]

@[simp] theorem mkS_nums (bs : Bytes) : strOfNums (natsOf bs) = mkS bs := by
  have h : ∀ b : UInt8, UInt8.ofNat (b.toNat : Int).toNat = b := fun b => by simp
  unfold strOfNums mkS natsOf
  rw [List.map_map]
  congr 2
  conv => rhs; rw [← List.map_id bs]
  exact List.map_congr_left fun b _ => h b
@[simp] theorem intsOf_nil (k : IntKind) : intsOf k [] = some [] := (rfl)
@[simp] theorem strOfNums_nil : strOfNums [] = mkS [] := (rfl)
@[simp] theorem mkS_extract (bs : Bytes) (i j : Nat) : (mkS bs).extract i j = mkS ((bs.take j).drop i) := by
  apply ByteArray.ext
  simp [mkS, ByteArray.data_extract, List.drop_take]
theorem mkS_inj {a b : Bytes} : mkS a = mkS b ↔ a = b := by
  constructor
  · intro h; have := congrArg (fun s => s.data.toList) h; simpa using this
  · rintro rfl; rfl

@[simp] theorem mkS_get (bs : Bytes) (i : Nat) : (mkS bs).data.toList[i]? = bs[i]? := by rw [mkS_data]
def sv (bs : Bytes) : AV := .v (.string (mkS bs))

/-- So long a text may be. -/
def fitsS (n : Nat) : Prop := n ≤ 9223372036854775807
instance (n : Nat) : Decidable (fitsS n) := inferInstanceAs (Decidable (_ ≤ _))
theorem fitS {n : Nat} (h : n ≤ 100000000000) : fitsS n := by unfold fitsS; omega

section
variable {m : Nat → Option Loc} {g d : Nat}
@[simp] theorem step_saddB (a b : Bytes) : step (.bin .add) [.v (.string (mkS a)), .v (.string (mkS b))] m g d = if fitsS (a.length + b.length) then some (.v (.string (mkS (a ++ b))), []) else none := by
  by_cases h : fitsS (a.length + b.length)
  · rw [if_pos h, step_sadd _ _ (by rw [mkS_size, mkS_size]; exact h), mkS_append]
  · rw [if_neg h]
    have h2 : ¬ ((mkS a).size + (mkS b).size ≤ 9223372036854775807) := by rw [mkS_size, mkS_size]; exact h
    simp only [step, binV, h2, if_false]
    rfl
@[simp] theorem step_idxSB (s : Bytes) (k : IntKind) (i : Int) (h : 0 ≤ i) : step .idxS [.v (.string (mkS s)), .v (.int k i)] m g d = (s[i.toNat]?).map fun b => (bv b, []) := by
  rw [step_idxS _ _ _ h, mkS_data]
end

/-! Lists of numbers, texts, digests. -/
def I64 (ns : List Int) : List AV := ns.map fun n => .v (.int .i64 n)
@[simp] theorem I64_length (ns : List Int) : (I64 ns).length = ns.length := by simp [I64]
@[simp] theorem I64_closed (ns : List Int) : closeds (I64 ns) = true := by simp [I64, closeds_all]
@[simp] theorem I64_plain (ns : List Int) : plains (I64 ns) = true := by simp [I64, plains_all]
@[simp] theorem I64_get (n : Nat) (a : List Int) : (I64 a)[n]? = (a[n]?).map fun n => .v (.int .i64 n) := by simp [I64]
@[simp] theorem I64_getElem (n : Nat) (a : List Int) (h : n < (I64 a).length) : (I64 a)[n] = .v (.int .i64 (a[n]'(by simpa using h))) := by simp [I64]
@[simp] theorem I64_append (a b : List Int) : I64 a ++ I64 b = I64 (a ++ b) := by simp [I64]
def Strs (ss : List Bytes) : List AV := ss.map fun s => .v (.string (mkS s))
@[simp] theorem Strs_length (ss : List Bytes) : (Strs ss).length = ss.length := by simp [Strs]
@[simp] theorem Strs_closed (ss : List Bytes) : closeds (Strs ss) = true := by simp [Strs, closeds_all]
@[simp] theorem Strs_plain (ss : List Bytes) : plains (Strs ss) = true := by simp [Strs, plains_all]
@[simp] theorem Strs_get (n : Nat) (a : List Bytes) : (Strs a)[n]? = (a[n]?).map fun s => .v (.string (mkS s)) := by simp [Strs]
@[simp] theorem Strs_getElem (n : Nat) (a : List Bytes) (h : n < (Strs a).length) : (Strs a)[n] = .v (.string (mkS (a[n]'(by simpa using h)))) := by simp [Strs]
@[simp] theorem Strs_append (a b : List Bytes) : Strs a ++ Strs b = Strs (a ++ b) := by simp [Strs]
@[simp] theorem Strs_drop (n : Nat) (a : List Bytes) : (Strs a).drop n = Strs (a.drop n) := by simp [Strs]
@[simp] theorem Strs_take (n : Nat) (a : List Bytes) : (Strs a).take n = Strs (a.take n) := by simp [Strs]
@[simp] theorem I64_drop (n : Nat) (a : List Int) : (I64 a).drop n = I64 (a.drop n) := by simp [I64]
@[simp] theorem I64_take (n : Nat) (a : List Int) : (I64 a).take n = I64 (a.take n) := by simp [I64]
@[simp] theorem Strs_nil : Strs [] = [] := (rfl)
@[simp] theorem I64_nil : I64 [] = [] := (rfl)
/-- A digest: 32 bytes. -/
structure Dg where
  bs : Bytes
  len : bs.length = 32
@[simp] theorem Dg.length (d : Dg) : d.bs.length = 32 := d.len
theorem Dg.ext' {a b : Dg} (h : a.bs = b.bs) : a = b := by
  cases a
  cases b
  simp only at h
  subst h
  rfl
instance : DecidableEq Dg := fun a b => if h : a.bs = b.bs then isTrue (Dg.ext' h) else isFalse fun e => h (congrArg Dg.bs e)
@[simp] theorem Dg.beq (a b : Dg) : (a.bs == b.bs) = decide (a = b) := by
  rw [Bool.eq_iff_iff, beq_iff_eq, decide_eq_true_eq]
  exact ⟨Dg.ext', fun h => by rw [h]⟩
@[simp] theorem Dg.take32 (d : Dg) : List.take 32 d.bs = d.bs := List.take_of_length_le (by simp)
def Dg.zero : Dg := ⟨zeros 32, by simp⟩
@[simp] theorem Dg.zero_bs : Dg.zero.bs = zeros 32 := rfl
abbrev dv (d : Dg) : AV := .arr 1 (B d.bs)
def Dgs (ds : List Dg) : List AV := ds.map dv
@[simp] theorem Dgs_length (ss : List Dg) : (Dgs ss).length = ss.length := by simp [Dgs]
@[simp] theorem Dgs_closed (ss : List Dg) : closeds (Dgs ss) = true := by simp [Dgs, closeds_all]
@[simp] theorem Dgs_plain (ss : List Dg) : plains (Dgs ss) = true := by simp [Dgs, plains_all]
@[simp] theorem Dgs_get (n : Nat) (a : List Dg) : (Dgs a)[n]? = (a[n]?).map dv := by simp [Dgs]
@[simp] theorem Dgs_getElem (n : Nat) (a : List Dg) (h : n < (Dgs a).length) : (Dgs a)[n] = dv (a[n]'(by simpa using h)) := by simp [Dgs]
@[simp] theorem Dgs_append (a b : List Dg) : Dgs a ++ Dgs b = Dgs (a ++ b) := by simp [Dgs]
@[simp] theorem Dgs_nil : Dgs [] = [] := rfl
theorem Dgs_one (d : Dg) : Dgs [d] = [dv d] := rfl
theorem Dgs_snoc (a : List Dg) (d : Dg) : Dgs a ++ [dv d] = Dgs (a ++ [d]) := by simp [Dgs]
@[simp] theorem Dgs_drop (n : Nat) (a : List Dg) : (Dgs a).drop n = Dgs (a.drop n) := by simp [Dgs]
@[simp] theorem Dgs_take (n : Nat) (a : List Dg) : (Dgs a).take n = Dgs (a.take n) := by simp [Dgs]
theorem Dgs_set (L : List Dg) (j : Nat) (x : Dg) : (Dgs L).set j (dv x) = Dgs (L.set j x) := by simp [Dgs, List.map_set]

/-! Shapes that often come. -/
theorem tys_cons {t : Ty} {ts : List Ty} {as : List AV} (h : TysOk (t :: ts) as) : ∃ a r, as = a :: r ∧ TyOk t a ∧ TysOk ts r := by
  cases as with
  | nil => simp [TysOk] at h
  | cons a r => simp only [TysOk] at h; exact ⟨a, r, rfl, h.1, h.2⟩
theorem tys_nil {as : List AV} (h : TysOk [] as) : as = [] := by
  cases as with
  | nil => rfl
  | cons a r => simp [TysOk] at h
theorem ty_st {fs : List Ty} {a : AV} (h : TyOk (.st fs) a) : ∃ as, a = .node as ∧ TysOk fs as := by simpa only [TyOk] using h
theorem ty_st1 {t1 : Ty} {a : AV} (h : TyOk (.st [t1]) a) : ∃ a1, a = .node [a1] ∧ TyOk t1 a1 := by
  obtain ⟨as, e, k0⟩ := ty_st h
  obtain ⟨a1, r1, e1, h1, k1⟩ := tys_cons k0
  have e9 := tys_nil k1
  subst e9
  subst e1
  subst e
  exact ⟨a1, rfl, h1⟩
theorem ty_st2 {t1 t2 : Ty} {a : AV} (h : TyOk (.st [t1, t2]) a) : ∃ a1 a2, a = .node [a1, a2] ∧ TyOk t1 a1 ∧ TyOk t2 a2 := by
  obtain ⟨as, e, k0⟩ := ty_st h
  obtain ⟨a1, r1, e1, h1, k1⟩ := tys_cons k0
  obtain ⟨a2, r2, e2, h2, k2⟩ := tys_cons k1
  have e9 := tys_nil k2
  subst e9
  subst e2
  subst e1
  subst e
  exact ⟨a1, a2, rfl, h1, h2⟩
theorem ty_st3 {t1 t2 t3 : Ty} {a : AV} (h : TyOk (.st [t1, t2, t3]) a) : ∃ a1 a2 a3, a = .node [a1, a2, a3] ∧ TyOk t1 a1 ∧ TyOk t2 a2 ∧ TyOk t3 a3 := by
  obtain ⟨as, e, k0⟩ := ty_st h
  obtain ⟨a1, r1, e1, h1, k1⟩ := tys_cons k0
  obtain ⟨a2, r2, e2, h2, k2⟩ := tys_cons k1
  obtain ⟨a3, r3, e3, h3, k3⟩ := tys_cons k2
  have e9 := tys_nil k3
  subst e9
  subst e3
  subst e2
  subst e1
  subst e
  exact ⟨a1, a2, a3, rfl, h1, h2, h3⟩
theorem ty_st4 {t1 t2 t3 t4 : Ty} {a : AV} (h : TyOk (.st [t1, t2, t3, t4]) a) : ∃ a1 a2 a3 a4, a = .node [a1, a2, a3, a4] ∧ TyOk t1 a1 ∧ TyOk t2 a2 ∧ TyOk t3 a3 ∧ TyOk t4 a4 := by
  obtain ⟨as, e, k0⟩ := ty_st h
  obtain ⟨a1, r1, e1, h1, k1⟩ := tys_cons k0
  obtain ⟨a2, r2, e2, h2, k2⟩ := tys_cons k1
  obtain ⟨a3, r3, e3, h3, k3⟩ := tys_cons k2
  obtain ⟨a4, r4, e4, h4, k4⟩ := tys_cons k3
  have e9 := tys_nil k4
  subst e9
  subst e4
  subst e3
  subst e2
  subst e1
  subst e
  exact ⟨a1, a2, a3, a4, rfl, h1, h2, h3, h4⟩
theorem ty_st5 {t1 t2 t3 t4 t5 : Ty} {a : AV} (h : TyOk (.st [t1, t2, t3, t4, t5]) a) : ∃ a1 a2 a3 a4 a5, a = .node [a1, a2, a3, a4, a5] ∧ TyOk t1 a1 ∧ TyOk t2 a2 ∧ TyOk t3 a3 ∧ TyOk t4 a4 ∧ TyOk t5 a5 := by
  obtain ⟨as, e, k0⟩ := ty_st h
  obtain ⟨a1, r1, e1, h1, k1⟩ := tys_cons k0
  obtain ⟨a2, r2, e2, h2, k2⟩ := tys_cons k1
  obtain ⟨a3, r3, e3, h3, k3⟩ := tys_cons k2
  obtain ⟨a4, r4, e4, h4, k4⟩ := tys_cons k3
  obtain ⟨a5, r5, e5, h5, k5⟩ := tys_cons k4
  have e9 := tys_nil k5
  subst e9
  subst e5
  subst e4
  subst e3
  subst e2
  subst e1
  subst e
  exact ⟨a1, a2, a3, a4, a5, rfl, h1, h2, h3, h4, h5⟩
theorem ty_st6 {t1 t2 t3 t4 t5 t6 : Ty} {a : AV} (h : TyOk (.st [t1, t2, t3, t4, t5, t6]) a) : ∃ a1 a2 a3 a4 a5 a6, a = .node [a1, a2, a3, a4, a5, a6] ∧ TyOk t1 a1 ∧ TyOk t2 a2 ∧ TyOk t3 a3 ∧ TyOk t4 a4 ∧ TyOk t5 a5 ∧ TyOk t6 a6 := by
  obtain ⟨as, e, k0⟩ := ty_st h
  obtain ⟨a1, r1, e1, h1, k1⟩ := tys_cons k0
  obtain ⟨a2, r2, e2, h2, k2⟩ := tys_cons k1
  obtain ⟨a3, r3, e3, h3, k3⟩ := tys_cons k2
  obtain ⟨a4, r4, e4, h4, k4⟩ := tys_cons k3
  obtain ⟨a5, r5, e5, h5, k5⟩ := tys_cons k4
  obtain ⟨a6, r6, e6, h6, k6⟩ := tys_cons k5
  have e9 := tys_nil k6
  subst e9
  subst e6
  subst e5
  subst e4
  subst e3
  subst e2
  subst e1
  subst e
  exact ⟨a1, a2, a3, a4, a5, a6, rfl, h1, h2, h3, h4, h5, h6⟩
theorem ty_st7 {t1 t2 t3 t4 t5 t6 t7 : Ty} {a : AV} (h : TyOk (.st [t1, t2, t3, t4, t5, t6, t7]) a) : ∃ a1 a2 a3 a4 a5 a6 a7, a = .node [a1, a2, a3, a4, a5, a6, a7] ∧ TyOk t1 a1 ∧ TyOk t2 a2 ∧ TyOk t3 a3 ∧ TyOk t4 a4 ∧ TyOk t5 a5 ∧ TyOk t6 a6 ∧ TyOk t7 a7 := by
  obtain ⟨as, e, k0⟩ := ty_st h
  obtain ⟨a1, r1, e1, h1, k1⟩ := tys_cons k0
  obtain ⟨a2, r2, e2, h2, k2⟩ := tys_cons k1
  obtain ⟨a3, r3, e3, h3, k3⟩ := tys_cons k2
  obtain ⟨a4, r4, e4, h4, k4⟩ := tys_cons k3
  obtain ⟨a5, r5, e5, h5, k5⟩ := tys_cons k4
  obtain ⟨a6, r6, e6, h6, k6⟩ := tys_cons k5
  obtain ⟨a7, r7, e7, h7, k7⟩ := tys_cons k6
  have e9 := tys_nil k7
  subst e9
  subst e7
  subst e6
  subst e5
  subst e4
  subst e3
  subst e2
  subst e1
  subst e
  exact ⟨a1, a2, a3, a4, a5, a6, a7, rfl, h1, h2, h3, h4, h5, h6, h7⟩
theorem ty_st8 {t1 t2 t3 t4 t5 t6 t7 t8 : Ty} {a : AV} (h : TyOk (.st [t1, t2, t3, t4, t5, t6, t7, t8]) a) : ∃ a1 a2 a3 a4 a5 a6 a7 a8, a = .node [a1, a2, a3, a4, a5, a6, a7, a8] ∧ TyOk t1 a1 ∧ TyOk t2 a2 ∧ TyOk t3 a3 ∧ TyOk t4 a4 ∧ TyOk t5 a5 ∧ TyOk t6 a6 ∧ TyOk t7 a7 ∧ TyOk t8 a8 := by
  obtain ⟨as, e, k0⟩ := ty_st h
  obtain ⟨a1, r1, e1, h1, k1⟩ := tys_cons k0
  obtain ⟨a2, r2, e2, h2, k2⟩ := tys_cons k1
  obtain ⟨a3, r3, e3, h3, k3⟩ := tys_cons k2
  obtain ⟨a4, r4, e4, h4, k4⟩ := tys_cons k3
  obtain ⟨a5, r5, e5, h5, k5⟩ := tys_cons k4
  obtain ⟨a6, r6, e6, h6, k6⟩ := tys_cons k5
  obtain ⟨a7, r7, e7, h7, k7⟩ := tys_cons k6
  obtain ⟨a8, r8, e8, h8, k8⟩ := tys_cons k7
  have e9 := tys_nil k8
  subst e9
  subst e8
  subst e7
  subst e6
  subst e5
  subst e4
  subst e3
  subst e2
  subst e1
  subst e
  exact ⟨a1, a2, a3, a4, a5, a6, a7, a8, rfl, h1, h2, h3, h4, h5, h6, h7, h8⟩
theorem ty_sl {sz bytes : Nat} {e : Ty} {a : AV} (h : TyOk (.sl sz bytes e) a) : ∃ xs, a = .sl sz xs ∧ (xs.length ≤ maxLen ∧ xs.length * bytes ≤ reachBytes) ∧ ∀ x ∈ xs, TyOk e x := by simpa only [TyOk] using h
theorem ty_bool {a : AV} (h : TyOk .bool a) : ∃ b, a = .v (.bool b) := by simpa only [TyOk] using h
abbrev Ty.bytes : Ty := .sl 1 1 (.int .u8)
abbrev Ty.dg : Ty := .arr 32 1 (.int .u8)
theorem ty_int {a : AV} (h : TyOk (.int .i64) a) : ∃ n : Int, a = .v (.int .i64 n) ∧ -9223372036854775808 ≤ n ∧ n < 9223372036854775808 := by
  obtain ⟨n, rfl, h⟩ := h
  exact ⟨n, rfl, i64_wf h⟩
theorem ty_u8 {a : AV} (h : TyOk (.int .u8) a) : ∃ b : UInt8, a = bv b := by
  obtain ⟨n, rfl, h⟩ := h
  exact ⟨u8 n, bv_lit n (u8_wf h)⟩
theorem ty_str {a : AV} (h : TyOk .str a) : ∃ s : Bytes, a = .v (.string (mkS s)) ∧ s.length ≤ reachBytes := by
  obtain ⟨s, rfl, h⟩ := h
  exact ⟨s.data.toList, by rw [← mkS_of], by rw [Array.length_toList]; exact h⟩
theorem ty_bytes {a : AV} (h : TyOk Ty.bytes a) : ∃ bs : Bytes, a = .sl 1 (B bs) ∧ bs.length ≤ reachBytes := by
  obtain ⟨xs, rfl, ⟨_, h1⟩, h2⟩ := h
  obtain ⟨bs, rfl, _⟩ := map_of_all (f := bv) (p := fun _ => True) fun x hx => by
    obtain ⟨b, e⟩ := ty_u8 (h2 x hx)
    exact ⟨b, e, trivial⟩
  exact ⟨bs, rfl, by simpa using h1⟩
theorem ty_dg {a : AV} (h : TyOk Ty.dg a) : ∃ d : Dg, a = dv d := by
  obtain ⟨xs, rfl, h1, h2⟩ := h
  obtain ⟨bs, rfl, _⟩ := map_of_all (f := bv) (p := fun _ => True) fun x hx => by
    obtain ⟨b, e⟩ := ty_u8 (h2 x hx)
    exact ⟨b, e, trivial⟩
  exact ⟨⟨bs, by simpa using h1⟩, rfl⟩
theorem ty_ints {a : AV} (h : TyOk (.sl 1 8 (.int .i64)) a) : ∃ ns : List Int, a = .sl 1 (I64 ns) ∧ ns.length * 8 ≤ reachBytes ∧ ∀ n ∈ ns, -9223372036854775808 ≤ n ∧ n < 9223372036854775808 := by
  obtain ⟨xs, rfl, ⟨_, h1⟩, h2⟩ := h
  obtain ⟨ns, rfl, h3⟩ := map_of_all (f := fun n : Int => AV.v (.int .i64 n)) (p := fun n => -9223372036854775808 ≤ n ∧ n < 9223372036854775808) fun x hx => ty_int (h2 x hx)
  exact ⟨ns, rfl, by simpa using h1, h3⟩
theorem ty_strs {a : AV} (h : TyOk (.sl 1 16 .str) a) : ∃ ss : List Bytes, a = .sl 1 (Strs ss) ∧ ss.length * 16 ≤ reachBytes ∧ ∀ s ∈ ss, s.length ≤ reachBytes := by
  obtain ⟨xs, rfl, ⟨_, h1⟩, h2⟩ := h
  obtain ⟨ns, rfl, h3⟩ := map_of_all (f := fun s : Bytes => AV.v (.string (mkS s))) (p := fun s => s.length ≤ reachBytes) fun x hx => ty_str (h2 x hx)
  exact ⟨ns, rfl, by simpa using h1, h3⟩
theorem ty_dgs {a : AV} (h : TyOk (.sl 32 32 Ty.dg) a) : ∃ ds : List Dg, a = .sl 32 (Dgs ds) ∧ ds.length * 32 ≤ reachBytes := by
  obtain ⟨xs, rfl, ⟨_, h1⟩, h2⟩ := h
  obtain ⟨ns, rfl, _⟩ := map_of_all (f := dv) (p := fun _ => True) fun x hx => by
    obtain ⟨d, e⟩ := ty_dg (h2 x hx)
    exact ⟨d, e, trivial⟩
  exact ⟨ns, rfl, by simpa using h1⟩

theorem Weak.of_eq {S S0 : SA} (h : S = S0) : Weak S S0 := h ▸ Weak.refl S
end Go.Proofs.YtmdjimkndeklmaaDoor.WL
