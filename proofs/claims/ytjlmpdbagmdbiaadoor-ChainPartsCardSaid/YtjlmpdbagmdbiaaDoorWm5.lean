/- Texts put together: Ba, M01, P01, M09, P01b, F01, P09, M12, P12, Bb, M02, M03, M04, M05, Bf, F13, P02, F20, T05, T09, T12, T13. -/
import Derived.Test.YtjlmpdbagmdbiaaDoorWm4
import Derived.Laws.BitsLemmas
import Derived.Laws.Strings
section
/-
  DATA: bytes, texts, numbers, digests as abstract values, and what the machine's operations do to them.
-/
namespace Go.Proofs.YtjlmpdbagmdbiaaDoor.WL
open Go

theorem meets_of_go {P : Program} {G : Nat → Option AV} {f : Nat} {x : CCode} {rs : List CRes} {args : List AV} {M : List (Nat × Loc)} {keep : Bool} {res : AV} {M' : List (Nat × Loc)} (hmix : P.follows .mixedOrders = true) (hc : chkFn P f x rs args.length = true)
    (hg : goodM keep M' M' = true ∧ goodA keep M' res = true ∧ (M'.map (·.1)).Nodup) (h : go P G (postA rs res M') x [] ⟨argsL 0 args, M, 2⟩) : Meets P G f args M keep res M' := meets_of_awp hmix hc hg h

/-! Numbers. -/
attribute [simp] IntKind.bits Nat.mod_one
theorem w64_id {n : Int} (h : -9223372036854775808 ≤ n ∧ n < 9223372036854775808) : IntKind.i64.wrap n = n := by rw [IntKind.wrap_i64]; omega
theorem w64_succ {j : Nat} (h : j < 4611686018427387904) : IntKind.i64.wrap ((j : Int) + 1) = ((j + 1 : Nat) : Int) := by rw [IntKind.wrap_i64]; omega
theorem u64_id {n : Int} (h : 0 ≤ n ∧ n < 18446744073709551616) : IntKind.u64.wrap n = n := by simp [IntKind.wrap, IntKind.bits, IntKind.signed]; omega
theorem u64_mod (n : Int) : IntKind.u64.wrap n = n % 18446744073709551616 := by simp [IntKind.wrap, IntKind.bits, IntKind.signed]
theorem u32_mod (n : Int) : IntKind.u32.wrap n = n % 4294967296 := by simp [IntKind.wrap, IntKind.bits, IntKind.signed]
theorem u8_mod (n : Int) : IntKind.u8.wrap n = n % 256 := by simp [IntKind.wrap, IntKind.bits, IntKind.signed]
theorem i64_wf {n : Int} (h : (Lit.int .i64 n).wf = true) : -9223372036854775808 ≤ n ∧ n < 9223372036854775808 := by
  simp only [Lit.wf, Bool.and_eq_true, decide_eq_true_eq] at h
  have h1 : IntKind.min .i64 = -9223372036854775808 := by decide
  have h2 : IntKind.max .i64 = 9223372036854775807 := by decide
  omega
theorem u8_wf {n : Int} (h : (Lit.int .u8 n).wf = true) : 0 ≤ n ∧ n < 256 := by
  simp only [Lit.wf, Bool.and_eq_true, decide_eq_true_eq] at h
  have h1 : IntKind.min .u8 = 0 := by decide
  have h2 : IntKind.max .u8 = 255 := by decide
  omega

@[simp] theorem fdiv_lit (a : Int) (n : Nat) : a.fdiv (no_index (OfNat.ofNat n)) = a / (OfNat.ofNat n) := Int.fdiv_eq_ediv_of_nonneg _ (Int.natCast_nonneg n)

theorem le_max {n : Nat} (h : n ≤ 100000000000) : n ≤ maxLen := by unfold maxLen; omega
@[simp] theorem le_max8 : 8 ≤ maxLen := by decide
@[simp] theorem le_max32 : 32 ≤ maxLen := by decide
@[simp] theorem le_max64 : 64 ≤ maxLen := by decide

@[simp] theorem step_convM (m : Nat → Option Loc) (g d l g' n : Nat) : step .convM [.row l 1 g' 0 n] m g d = (match m l with
    | some (.rows g'' 1 xs) => if g'' = g' ∧ n = xs.length ∧ 0 < n then some (.sl 1 xs, [(l, none)]) else none
    | _ => none) := (rfl)
/-! Bytes. -/
abbrev Bytes := List UInt8
abbrev bv (b : UInt8) : AV := .v (.int .u8 (b.toNat : Int))
/-- The byte that a number ends in. -/
def u8 (n : Int) : UInt8 := UInt8.ofNat (n % 256).toNat
theorem bv_u8 (n : Int) : AV.v (.int .u8 (IntKind.u8.wrap n)) = bv (u8 n) := by
  unfold bv u8
  rw [u8_mod]
  have h : ((UInt8.ofNat (n % 256).toNat).toNat : Int) = n % 256 := by
    rw [UInt8.toNat_ofNat']
    omega
  rw [h]
theorem bv_lit (n : Int) (h : 0 ≤ n ∧ n < 256) : AV.v (.int .u8 n) = bv (u8 n) := by
  rw [← bv_u8, u8_mod, Int.emod_eq_of_lt h.1 h.2]
theorem u8_toNat (n : Int) : ((u8 n).toNat : Int) = n % 256 := by
  unfold u8
  rw [UInt8.toNat_ofNat']
  omega
@[simp] theorem bv_closed (b : UInt8) : closed (bv b) = true := rfl
@[simp] theorem bv_plain (b : UInt8) : plain (bv b) = true := rfl
@[simp] theorem bv_solid (b : UInt8) : (bv b).solid = true := rfl
@[simp] theorem bv_size (b : UInt8) : (bv b).size = 1 := rfl
@[simp] theorem bv_agg (b : UInt8) : (bv b).isAgg = false := rfl

def B (bs : Bytes) : List AV := bs.map bv
@[simp] theorem B_length (bs : Bytes) : (B bs).length = bs.length := by simp [B]
@[simp] theorem B_closed (bs : Bytes) : closeds (B bs) = true := by simp [B, closeds_all]
@[simp] theorem B_plain (bs : Bytes) : plains (B bs) = true := by simp [B, plains_all]
@[simp] theorem B_append (a b : Bytes) : B a ++ B b = B (a ++ b) := by simp [B]
@[simp] theorem B_cons (b : UInt8) (s : Bytes) : bv b :: B s = B (b :: s) := (rfl)
theorem B_snoc (a : Bytes) (b : UInt8) : B a ++ [bv b] = B (a ++ [b]) := by simp [B]
@[simp] theorem B_drop (n : Nat) (a : Bytes) : (B a).drop n = B (a.drop n) := by simp [B]
@[simp] theorem B_take (n : Nat) (a : Bytes) : (B a).take n = B (a.take n) := by simp [B]
@[simp] theorem B_get (n : Nat) (a : Bytes) : (B a)[n]? = (a[n]?).map bv := by simp [B]
@[simp] theorem B_getElem (n : Nat) (a : Bytes) (h : n < (B a).length) : (B a)[n] = bv (a[n]'(by simpa using h)) := by simp [B]
@[simp] theorem B_nil : B [] = [] := rfl
theorem B_set (L : Bytes) (j : Nat) (x : UInt8) : (B L).set j (bv x) = B (L.set j x) := by simp [B, List.map_set]
theorem intsOf_bv : ∀ bs : Bytes, intsOf .u8 (B bs) = some (bs.map fun b => (b.toNat : Int))
  | [] => rfl
  | b :: bs => by
    have := intsOf_bv bs
    simp only [B, List.map_cons, bv, intsOf] at *
    rw [if_pos trivial, this]
    rfl
/-- Bytes as numbers. -/
def natsOf (bs : Bytes) : List Int := bs.map fun b => (b.toNat : Int)
@[simp] theorem B_ints (bs : Bytes) : intsOf .u8 (B bs) = some (natsOf bs) := intsOf_bv bs
def zeros (n : Nat) : Bytes := List.replicate n 0
@[simp] theorem zeros_length (n : Nat) : (zeros n).length = n := by simp [zeros]
@[simp] theorem rep_byte (n : Nat) : rep n (.v (.int .u8 0)) = B (zeros n) := by simp [rep, B, zeros]
@[simp] theorem zeros_drop (n k : Nat) : (zeros n).drop k = zeros (n - k) := by simp [zeros]
@[simp] theorem zeros_take (n k : Nat) : (zeros n).take k = zeros (min k n) := by simp [zeros]
/-- A byte laid over zeros. -/
theorem fill_zeros (g : Bytes) (n j : Nat) (hj : j < g.length) (h : g.length ≤ n) : (g.take j ++ zeros (n - j)).set j g[j] = g.take (j + 1) ++ zeros (n - (j + 1)) := by
  have e : n - j = (n - (j + 1)) + 1 := by omega
  have e2 : j - (g.take j).length = 0 := by rw [List.length_take]; omega
  have e3 : g.take (j + 1) = g.take j ++ [g[j]] := by rw [List.take_add_one, List.getElem?_eq_getElem hj]; rfl
  rw [e, List.set_append_right _ _ (by rw [List.length_take]; omega), e2, e3, List.append_assoc]
  rfl
theorem toNats_inj {a b : Bytes} : (a.map fun b => (b.toNat : Int)) = b.map (fun b => (b.toNat : Int)) ↔ a = b := by
  constructor
  · revert b
    induction a with
    | nil => intro b h; cases b with
      | nil => rfl
      | cons y b => simp at h
    | cons x a ih => intro b h; cases b with
      | nil => simp at h
      | cons y b =>
        simp only [List.map_cons, List.cons.injEq] at h
        rw [UInt8.toNat_inj.1 (show x.toNat = y.toNat by omega), ih h.2]
  · rintro rfl; rfl
@[simp] theorem step_eqaB {m : Nat → Option Loc} {g d : Nat} (neg : Bool) (n : Nat) (a b : Bytes) (ha : a.length = n) (hb : b.length = n) : step (.eqa neg .u8 n) [.arr 1 (B a), .arr 1 (B b)] m g d = some (.v (.bool (if neg = true then !(a == b) else a == b)), []) := by
  have e : (natsOf a == natsOf b) = (a == b) := by
    rw [Bool.eq_iff_iff, beq_iff_eq, beq_iff_eq]
    exact toNats_inj
  have la : (natsOf a).length = n := by simp [natsOf, ha]
  have lb : (natsOf b).length = n := by simp [natsOf, hb]
  simp only [step, B_ints, la, lb, and_self, if_true, e]

/-! Texts. -/
def mkS (bs : Bytes) : ByteArray := ⟨bs.toArray⟩
@[simp] theorem mkS_size (bs : Bytes) : (mkS bs).size = bs.length := by simp [mkS, ByteArray.size]
theorem mkS_of (s : ByteArray) : s = mkS s.data.toList := by simp [mkS]
@[simp] theorem mkS_data (bs : Bytes) : (mkS bs).data.toList = bs := by simp [mkS]
@[simp] theorem mkS_append (a b : Bytes) : mkS a ++ mkS b = mkS (a ++ b) := by
  apply ByteArray.ext
  simp [mkS, ByteArray.data_append]
@[simp] theorem mkS_toList (a : Bytes) : (mkS a).toList = a := by rw [ByteArray.toList_eq, mkS_data]
@[simp] theorem mkS_bytes (bs : Bytes) : bytesAV (mkS bs) = B bs := by
  simp only [bytesAV, B, mkS_data]

@[simp] theorem mkS_nums (bs : Bytes) : strOfNums (natsOf bs) = mkS bs := by
  have h : ∀ b : UInt8, UInt8.ofNat (b.toNat : Int).toNat = b := fun b => by simp
  unfold strOfNums mkS natsOf
  rw [List.map_map]
  congr 2
  conv => rhs; rw [← List.map_id bs]
  exact List.map_congr_left fun b _ => h b
@[simp] theorem intsOf_nil (k : IntKind) : intsOf k [] = some [] := (rfl)
@[simp] theorem strOfNums_nil : strOfNums [] = mkS [] := (rfl)
@[simp] theorem mkS_extract (bs : Bytes) (i j : Nat) : (mkS bs).extract i j = mkS ((bs.take j).drop i) := by
  apply ByteArray.ext
  simp [mkS, ByteArray.data_extract, List.drop_take]
@[simp] theorem mkS_get (bs : Bytes) (i : Nat) : (mkS bs).data.toList[i]? = bs[i]? := by rw [mkS_data]
/-- So long a text may be. -/
def fitsS (n : Nat) : Prop := n ≤ 9223372036854775807
instance (n : Nat) : Decidable (fitsS n) := inferInstanceAs (Decidable (_ ≤ _))
theorem fitS {n : Nat} (h : n ≤ 100000000000) : fitsS n := by unfold fitsS; omega

section
variable {m : Nat → Option Loc} {g d : Nat}
@[simp] theorem step_saddB (a b : Bytes) : step (.bin .add) [.v (.string (mkS a)), .v (.string (mkS b))] m g d = if fitsS (a.length + b.length) then some (.v (.string (mkS (a ++ b))), []) else none := by
  by_cases h : fitsS (a.length + b.length)
  · rw [if_pos h, step_sadd _ _ (by rw [mkS_size, mkS_size]; exact h), mkS_append]
  · rw [if_neg h]
    have h2 : ¬ ((mkS a).size + (mkS b).size ≤ 9223372036854775807) := by rw [mkS_size, mkS_size]; exact h
    simp only [step, binV, h2, if_false]
    rfl
@[simp] theorem step_idxSB (s : Bytes) (k : IntKind) (i : Int) (h : 0 ≤ i) : step .idxS [.v (.string (mkS s)), .v (.int k i)] m g d = (s[i.toNat]?).map fun b => (bv b, []) := by
  rw [step_idxS _ _ _ h, mkS_data]
end

/-! Lists of numbers, texts, digests. -/
def I64 (ns : List Int) : List AV := ns.map fun n => .v (.int .i64 n)
@[simp] theorem I64_length (ns : List Int) : (I64 ns).length = ns.length := by simp [I64]
@[simp] theorem I64_closed (ns : List Int) : closeds (I64 ns) = true := by simp [I64, closeds_all]
@[simp] theorem I64_plain (ns : List Int) : plains (I64 ns) = true := by simp [I64, plains_all]
@[simp] theorem I64_get (n : Nat) (a : List Int) : (I64 a)[n]? = (a[n]?).map fun n => .v (.int .i64 n) := by simp [I64]
@[simp] theorem I64_getElem (n : Nat) (a : List Int) (h : n < (I64 a).length) : (I64 a)[n] = .v (.int .i64 (a[n]'(by simpa using h))) := by simp [I64]
@[simp] theorem I64_append (a b : List Int) : I64 a ++ I64 b = I64 (a ++ b) := by simp [I64]
def Strs (ss : List Bytes) : List AV := ss.map fun s => .v (.string (mkS s))
@[simp] theorem Strs_length (ss : List Bytes) : (Strs ss).length = ss.length := by simp [Strs]
@[simp] theorem Strs_closed (ss : List Bytes) : closeds (Strs ss) = true := by simp [Strs, closeds_all]
@[simp] theorem Strs_plain (ss : List Bytes) : plains (Strs ss) = true := by simp [Strs, plains_all]
@[simp] theorem Strs_get (n : Nat) (a : List Bytes) : (Strs a)[n]? = (a[n]?).map fun s => .v (.string (mkS s)) := by simp [Strs]
@[simp] theorem Strs_getElem (n : Nat) (a : List Bytes) (h : n < (Strs a).length) : (Strs a)[n] = .v (.string (mkS (a[n]'(by simpa using h)))) := by simp [Strs]
@[simp] theorem Strs_append (a b : List Bytes) : Strs a ++ Strs b = Strs (a ++ b) := by simp [Strs]
@[simp] theorem Strs_drop (n : Nat) (a : List Bytes) : (Strs a).drop n = Strs (a.drop n) := by simp [Strs]
@[simp] theorem Strs_take (n : Nat) (a : List Bytes) : (Strs a).take n = Strs (a.take n) := by simp [Strs]
@[simp] theorem I64_drop (n : Nat) (a : List Int) : (I64 a).drop n = I64 (a.drop n) := by simp [I64]
@[simp] theorem I64_take (n : Nat) (a : List Int) : (I64 a).take n = I64 (a.take n) := by simp [I64]
@[simp] theorem Strs_nil : Strs [] = [] := (rfl)
@[simp] theorem I64_nil : I64 [] = [] := (rfl)
/-- A digest: 32 bytes. -/
structure Dg where
  bs : Bytes
  len : bs.length = 32
@[simp] theorem Dg.length (d : Dg) : d.bs.length = 32 := d.len
theorem Dg.ext' {a b : Dg} (h : a.bs = b.bs) : a = b := by
  cases a
  cases b
  simp only at h
  subst h
  rfl
instance : DecidableEq Dg := fun a b => if h : a.bs = b.bs then isTrue (Dg.ext' h) else isFalse fun e => h (congrArg Dg.bs e)
@[simp] theorem Dg.beq (a b : Dg) : (a.bs == b.bs) = decide (a = b) := by
  rw [Bool.eq_iff_iff, beq_iff_eq, decide_eq_true_eq]
  exact ⟨Dg.ext', fun h => by rw [h]⟩
@[simp] theorem Dg.take32 (d : Dg) : List.take 32 d.bs = d.bs := List.take_of_length_le (by simp)
def Dg.zero : Dg := ⟨zeros 32, by simp⟩
@[simp] theorem Dg.zero_bs : Dg.zero.bs = zeros 32 := rfl
abbrev dv (d : Dg) : AV := .arr 1 (B d.bs)
def Dgs (ds : List Dg) : List AV := ds.map dv
@[simp] theorem Dgs_length (ss : List Dg) : (Dgs ss).length = ss.length := by simp [Dgs]
@[simp] theorem Dgs_closed (ss : List Dg) : closeds (Dgs ss) = true := by simp [Dgs, closeds_all]
@[simp] theorem Dgs_plain (ss : List Dg) : plains (Dgs ss) = true := by simp [Dgs, plains_all]
@[simp] theorem Dgs_get (n : Nat) (a : List Dg) : (Dgs a)[n]? = (a[n]?).map dv := by simp [Dgs]
@[simp] theorem Dgs_getElem (n : Nat) (a : List Dg) (h : n < (Dgs a).length) : (Dgs a)[n] = dv (a[n]'(by simpa using h)) := by simp [Dgs]
@[simp] theorem Dgs_append (a b : List Dg) : Dgs a ++ Dgs b = Dgs (a ++ b) := by simp [Dgs]
@[simp] theorem Dgs_nil : Dgs [] = [] := rfl
@[simp] theorem Dgs_drop (n : Nat) (a : List Dg) : (Dgs a).drop n = Dgs (a.drop n) := by simp [Dgs]
@[simp] theorem Dgs_take (n : Nat) (a : List Dg) : (Dgs a).take n = Dgs (a.take n) := by simp [Dgs]
/-! Shapes that often come. -/
theorem tys_cons {t : Ty} {ts : List Ty} {as : List AV} (h : TysOk (t :: ts) as) : ∃ a r, as = a :: r ∧ TyOk t a ∧ TysOk ts r := by
  cases as with
  | nil => simp [TysOk] at h
  | cons a r => simp only [TysOk] at h; exact ⟨a, r, rfl, h.1, h.2⟩
theorem tys_nil {as : List AV} (h : TysOk [] as) : as = [] := by
  cases as with
  | nil => rfl
  | cons a r => simp [TysOk] at h
theorem ty_st {fs : List Ty} {a : AV} (h : TyOk (.st fs) a) : ∃ as, a = .node as ∧ TysOk fs as := by simpa only [TyOk] using h
theorem ty_st2 {t1 t2 : Ty} {a : AV} (h : TyOk (.st [t1, t2]) a) : ∃ a1 a2, a = .node [a1, a2] ∧ TyOk t1 a1 ∧ TyOk t2 a2 := by
  obtain ⟨as, e, k0⟩ := ty_st h
  obtain ⟨a1, r1, e1, h1, k1⟩ := tys_cons k0
  obtain ⟨a2, r2, e2, h2, k2⟩ := tys_cons k1
  have e9 := tys_nil k2
  subst e9
  subst e2
  subst e1
  subst e
  exact ⟨a1, a2, rfl, h1, h2⟩
theorem ty_st3 {t1 t2 t3 : Ty} {a : AV} (h : TyOk (.st [t1, t2, t3]) a) : ∃ a1 a2 a3, a = .node [a1, a2, a3] ∧ TyOk t1 a1 ∧ TyOk t2 a2 ∧ TyOk t3 a3 := by
  obtain ⟨as, e, k0⟩ := ty_st h
  obtain ⟨a1, r1, e1, h1, k1⟩ := tys_cons k0
  obtain ⟨a2, r2, e2, h2, k2⟩ := tys_cons k1
  obtain ⟨a3, r3, e3, h3, k3⟩ := tys_cons k2
  have e9 := tys_nil k3
  subst e9
  subst e3
  subst e2
  subst e1
  subst e
  exact ⟨a1, a2, a3, rfl, h1, h2, h3⟩
theorem ty_st4 {t1 t2 t3 t4 : Ty} {a : AV} (h : TyOk (.st [t1, t2, t3, t4]) a) : ∃ a1 a2 a3 a4, a = .node [a1, a2, a3, a4] ∧ TyOk t1 a1 ∧ TyOk t2 a2 ∧ TyOk t3 a3 ∧ TyOk t4 a4 := by
  obtain ⟨as, e, k0⟩ := ty_st h
  obtain ⟨a1, r1, e1, h1, k1⟩ := tys_cons k0
  obtain ⟨a2, r2, e2, h2, k2⟩ := tys_cons k1
  obtain ⟨a3, r3, e3, h3, k3⟩ := tys_cons k2
  obtain ⟨a4, r4, e4, h4, k4⟩ := tys_cons k3
  have e9 := tys_nil k4
  subst e9
  subst e4
  subst e3
  subst e2
  subst e1
  subst e
  exact ⟨a1, a2, a3, a4, rfl, h1, h2, h3, h4⟩
theorem ty_st5 {t1 t2 t3 t4 t5 : Ty} {a : AV} (h : TyOk (.st [t1, t2, t3, t4, t5]) a) : ∃ a1 a2 a3 a4 a5, a = .node [a1, a2, a3, a4, a5] ∧ TyOk t1 a1 ∧ TyOk t2 a2 ∧ TyOk t3 a3 ∧ TyOk t4 a4 ∧ TyOk t5 a5 := by
  obtain ⟨as, e, k0⟩ := ty_st h
  obtain ⟨a1, r1, e1, h1, k1⟩ := tys_cons k0
  obtain ⟨a2, r2, e2, h2, k2⟩ := tys_cons k1
  obtain ⟨a3, r3, e3, h3, k3⟩ := tys_cons k2
  obtain ⟨a4, r4, e4, h4, k4⟩ := tys_cons k3
  obtain ⟨a5, r5, e5, h5, k5⟩ := tys_cons k4
  have e9 := tys_nil k5
  subst e9
  subst e5
  subst e4
  subst e3
  subst e2
  subst e1
  subst e
  exact ⟨a1, a2, a3, a4, a5, rfl, h1, h2, h3, h4, h5⟩
theorem ty_st6 {t1 t2 t3 t4 t5 t6 : Ty} {a : AV} (h : TyOk (.st [t1, t2, t3, t4, t5, t6]) a) : ∃ a1 a2 a3 a4 a5 a6, a = .node [a1, a2, a3, a4, a5, a6] ∧ TyOk t1 a1 ∧ TyOk t2 a2 ∧ TyOk t3 a3 ∧ TyOk t4 a4 ∧ TyOk t5 a5 ∧ TyOk t6 a6 := by
  obtain ⟨as, e, k0⟩ := ty_st h
  obtain ⟨a1, r1, e1, h1, k1⟩ := tys_cons k0
  obtain ⟨a2, r2, e2, h2, k2⟩ := tys_cons k1
  obtain ⟨a3, r3, e3, h3, k3⟩ := tys_cons k2
  obtain ⟨a4, r4, e4, h4, k4⟩ := tys_cons k3
  obtain ⟨a5, r5, e5, h5, k5⟩ := tys_cons k4
  obtain ⟨a6, r6, e6, h6, k6⟩ := tys_cons k5
  have e9 := tys_nil k6
  subst e9
  subst e6
  subst e5
  subst e4
  subst e3
  subst e2
  subst e1
  subst e
  exact ⟨a1, a2, a3, a4, a5, a6, rfl, h1, h2, h3, h4, h5, h6⟩
theorem ty_st7 {t1 t2 t3 t4 t5 t6 t7 : Ty} {a : AV} (h : TyOk (.st [t1, t2, t3, t4, t5, t6, t7]) a) : ∃ a1 a2 a3 a4 a5 a6 a7, a = .node [a1, a2, a3, a4, a5, a6, a7] ∧ TyOk t1 a1 ∧ TyOk t2 a2 ∧ TyOk t3 a3 ∧ TyOk t4 a4 ∧ TyOk t5 a5 ∧ TyOk t6 a6 ∧ TyOk t7 a7 := by
  obtain ⟨as, e, k0⟩ := ty_st h
  obtain ⟨a1, r1, e1, h1, k1⟩ := tys_cons k0
  obtain ⟨a2, r2, e2, h2, k2⟩ := tys_cons k1
  obtain ⟨a3, r3, e3, h3, k3⟩ := tys_cons k2
  obtain ⟨a4, r4, e4, h4, k4⟩ := tys_cons k3
  obtain ⟨a5, r5, e5, h5, k5⟩ := tys_cons k4
  obtain ⟨a6, r6, e6, h6, k6⟩ := tys_cons k5
  obtain ⟨a7, r7, e7, h7, k7⟩ := tys_cons k6
  have e9 := tys_nil k7
  subst e9
  subst e7
  subst e6
  subst e5
  subst e4
  subst e3
  subst e2
  subst e1
  subst e
  exact ⟨a1, a2, a3, a4, a5, a6, a7, rfl, h1, h2, h3, h4, h5, h6, h7⟩
theorem ty_sl {sz bytes : Nat} {e : Ty} {a : AV} (h : TyOk (.sl sz bytes e) a) : ∃ xs, a = .sl sz xs ∧ (xs.length ≤ maxLen ∧ xs.length * bytes ≤ reachBytes) ∧ ∀ x ∈ xs, TyOk e x := by simpa only [TyOk] using h
abbrev Ty.bytes : Ty := .sl 1 1 (.int .u8)
abbrev Ty.dg : Ty := .arr 32 1 (.int .u8)
theorem ty_int {a : AV} (h : TyOk (.int .i64) a) : ∃ n : Int, a = .v (.int .i64 n) ∧ -9223372036854775808 ≤ n ∧ n < 9223372036854775808 := by
  obtain ⟨n, rfl, h⟩ := h
  exact ⟨n, rfl, i64_wf h⟩
theorem ty_u8 {a : AV} (h : TyOk (.int .u8) a) : ∃ b : UInt8, a = bv b := by
  obtain ⟨n, rfl, h⟩ := h
  exact ⟨u8 n, bv_lit n (u8_wf h)⟩
theorem ty_str {a : AV} (h : TyOk .str a) : ∃ s : Bytes, a = .v (.string (mkS s)) ∧ s.length ≤ reachBytes := by
  obtain ⟨s, rfl, h⟩ := h
  exact ⟨s.data.toList, by rw [← mkS_of], by rw [Array.length_toList]; exact h⟩
theorem ty_dg {a : AV} (h : TyOk Ty.dg a) : ∃ d : Dg, a = dv d := by
  obtain ⟨xs, rfl, h1, h2⟩ := h
  obtain ⟨bs, rfl, _⟩ := map_of_all (f := bv) (p := fun _ => True) fun x hx => by
    obtain ⟨b, e⟩ := ty_u8 (h2 x hx)
    exact ⟨b, e, trivial⟩
  exact ⟨⟨bs, by simpa using h1⟩, rfl⟩
theorem ty_dgs {a : AV} (h : TyOk (.sl 32 32 Ty.dg) a) : ∃ ds : List Dg, a = .sl 32 (Dgs ds) ∧ ds.length * 32 ≤ reachBytes := by
  obtain ⟨xs, rfl, ⟨_, h1⟩, h2⟩ := h
  obtain ⟨ns, rfl, _⟩ := map_of_all (f := dv) (p := fun _ => True) fun x hx => by
    obtain ⟨d, e⟩ := ty_dg (h2 x hx)
    exact ⟨d, e, trivial⟩
  exact ⟨ns, rfl, by simpa using h1⟩

end Go.Proofs.YtjlmpdbagmdbiaaDoor.WL

end
section
/-
  CHAPTER 01: what reading and writing is, without any program.
-/
namespace Go.Proofs.YtjlmpdbagmdbiaaDoor.WL
open Go

/-- The number that bytes are, the highest first. -/
def beVal (bs : Bytes) : Nat := bs.foldl (fun v b => v * 256 + b.toNat) 0
/-- A reader: what was read, what is left, whether something was wrong. -/
structure Rd where
  pre : Bytes
  s : Bytes
  bad : Bool
def Rd.fault : Rd := ⟨[], [], true⟩
def Rd.of (bs : Bytes) : Rd := ⟨[], bs, false⟩
def Rd.ok (r : Rd) (k : Int) : Bool := !r.bad && decide (0 ≤ k) && decide (k ≤ r.s.length)
/-- The next bytes, and the reader behind them. -/
def Rd.got (r : Rd) (k : Int) : Bytes := if r.ok k = true then r.s.take k.toNat else []
def Rd.skip (r : Rd) (k : Int) : Rd := if r.ok k = true then ⟨r.pre ++ r.s.take k.toNat, r.s.drop k.toNat, false⟩ else Rd.fault
def Rd.num (r : Rd) : Int := IntKind.i64.wrap (beVal (r.got 8) : Nat)
def Rd.num' (r : Rd) : Rd := r.skip 8
def Rd.inOk (r : Rd) (lo hi : Int) : Bool := !r.num'.bad && decide (lo ≤ r.num) && decide (r.num ≤ hi)
def Rd.inn (r : Rd) (lo hi : Int) : Int := if r.inOk lo hi = true then r.num else 0
def Rd.inn' (r : Rd) (lo hi : Int) : Rd := if r.inOk lo hi = true then r.num' else Rd.fault
/-- How many bytes a text has. -/
def Rd.len (r : Rd) (most : Int) : Int := if most < (beVal (r.got 4) : Int) then -1 else (beVal (r.got 4) : Int)
def Rd.text (r : Rd) (most : Int) : Bytes := (r.skip 4).got (r.len most)
def Rd.text' (r : Rd) (most : Int) : Rd := (r.skip 4).skip (r.len most)
def Rd.dg' (r : Rd) : Rd := r.skip 32
theorem Rd.got_len (r : Rd) (k : Nat) : (r.got k).length = 0 ∨ (r.got k).length = k := by
  unfold Rd.got Rd.ok
  split
  · rename_i h
    simp only [Bool.and_eq_true, decide_eq_true_eq] at h
    right
    rw [List.length_take]
    omega
  · left; rfl
theorem Rd.got_le (r : Rd) (k : Nat) : (r.got k).length ≤ k := by
  rcases r.got_len k with h | h <;> omega
def Rd.dg (r : Rd) : Dg := ⟨r.got 32 ++ zeros (32 - (r.got 32).length), by
  have h := r.got_le 32
  have e : ((32 : Nat) : Int) = 32 := rfl
  rw [e] at h
  simp only [List.length_append, zeros_length]
  omega⟩
/-! Writing. -/
def be8 (n : Int) : Bytes := [u8 (n / 72057594037927936), u8 (n / 281474976710656), u8 (n / 1099511627776), u8 (n / 4294967296), u8 (n / 16777216), u8 (n / 65536), u8 (n / 256), u8 n]
def be4 (n : Int) : Bytes := [u8 (n / 16777216), u8 (n / 65536), u8 (n / 256), u8 n]
def txt (s : Bytes) : Bytes := be4 s.length ++ s
@[simp] theorem be8_length (n : Int) : (be8 n).length = 8 := rfl
@[simp] theorem be4_length (n : Int) : (be4 n).length = 4 := rfl
@[simp] theorem txt_length (s : Bytes) : (txt s).length = 4 + s.length := by simp [txt]
theorem be8_drop (n : Int) : (be8 n).drop 4 = be4 n := rfl
theorem u8_congr {a b : Int} (h : a % 256 = b % 256) : u8 a = u8 b := by unfold u8; rw [h]
theorem be8_get (n : Int) (t : Nat) (h : t < 8) : (be8 n)[t]? = some (u8 (n / 2 ^ (56 - 8 * t))) := by
  match t, h with
  | 0, _ => simp [be8]
  | 1, _ => simp [be8]
  | 2, _ => simp [be8]
  | 3, _ => simp [be8]
  | 4, _ => simp [be8]
  | 5, _ => simp [be8]
  | 6, _ => simp [be8]
  | 7, _ => simp [be8]
theorem be8_take (n : Int) (t : Nat) (h : t < 8) : (be8 n).take (t + 1) = (be8 n).take t ++ [u8 (n / 2 ^ (56 - 8 * t))] := by
  rw [List.take_add_one, be8_get n t h]; rfl
theorem take_snoc {α : Type} (l : List α) (j : Nat) (h : j < l.length) : l.take (j + 1) = l.take j ++ [l[j]] := by
  rw [List.take_add_one, List.getElem?_eq_getElem h]; rfl
/-- As the program reckons it: without a sign. -/
theorem be8_u64 (n : Int) (t : Nat) (h : t < 8) : u8 ((IntKind.u64.wrap n).fdiv (2 ^ (56 - 8 * t))) = u8 (n / 2 ^ (56 - 8 * t)) := by
  rw [u64_mod, Int.fdiv_eq_ediv_of_nonneg _ (Int.le_of_lt (Int.pow_pos (by decide)))]
  apply u8_congr
  match t, h with
  | 0, _ => simp; omega
  | 1, _ => simp; omega
  | 2, _ => simp; omega
  | 3, _ => simp; omega
  | 4, _ => simp; omega
  | 5, _ => simp; omega
  | 6, _ => simp; omega
  | 7, _ => simp
def nums (ns : List Int) : Bytes := ns.flatMap be8
def txts (ss : List Bytes) : Bytes := ss.flatMap txt
theorem nums_length (ns : List Int) : (nums ns).length = 8 * ns.length := by
  induction ns with
  | nil => rfl
  | cons n ns ih => simp only [nums, List.flatMap_cons, List.length_append, be8_length, List.length_cons] at *; omega
theorem nums_snoc (ns : List Int) (j : Nat) (h : j < ns.length) : nums (ns.take (j + 1)) = nums (ns.take j) ++ be8 ns[j] := by
  simp only [nums, take_snoc _ _ h, List.flatMap_append, List.flatMap_cons, List.flatMap_nil, List.append_nil]
theorem txts_snoc (ns : List Bytes) (j : Nat) (h : j < ns.length) : txts (ns.take (j + 1)) = txts (ns.take j) ++ txt ns[j] := by
  simp only [txts, take_snoc _ _ h, List.flatMap_append, List.flatMap_cons, List.flatMap_nil, List.append_nil]
def flatD (ds : List Dg) : Bytes := ds.flatMap Dg.bs
theorem flatD_snoc (ns : List Dg) (j : Nat) (h : j < ns.length) : flatD (ns.take (j + 1)) = flatD (ns.take j) ++ ns[j].bs := by
  simp only [flatD, take_snoc _ _ h, List.flatMap_append, List.flatMap_cons, List.flatMap_nil, List.append_nil]
theorem flatD_length (ds : List Dg) : (flatD ds).length = 32 * ds.length := by
  induction ds with
  | nil => rfl
  | cons n ns ih => simp only [flatD, List.flatMap_cons, List.length_append, Dg.length, List.length_cons] at *; omega
theorem flat_snoc (ns : List Bytes) (j : Nat) (h : j < ns.length) : (ns.take (j + 1)).flatten = (ns.take j).flatten ++ ns[j] := by
  simp only [take_snoc _ _ h, List.flatten_append, List.flatten_cons, List.flatten_nil, List.append_nil]
theorem txts_take_le (ss : List Bytes) (j : Nat) : (txts (ss.take j)).length ≤ (txts ss).length := by
  conv => rhs; rw [← List.take_append_drop j ss]
  simp only [txts, List.flatMap_append, List.length_append]
  omega
theorem flat_take_le (ss : List Bytes) (j : Nat) : ((ss.take j).flatten).length ≤ (ss.flatten).length := by
  conv => rhs; rw [← List.take_append_drop j ss]
  simp only [List.flatten_append, List.length_append]
  omega
theorem I64_2 (a b : Int) : [AV.v (.int .i64 a), .v (.int .i64 b)] = I64 [a, b] := (rfl)
end Go.Proofs.YtjlmpdbagmdbiaaDoor.WL

end
section
/-
  CHAPTER 01: what the laws say, without any program.
-/
namespace Go.Proofs.YtjlmpdbagmdbiaaDoor.WL
open Go

structure Part where
  kind : Int
  num : Int
  text : Bytes
  dg : Dg
  lo : Int
  hi : Int
/-- A part that can come in. -/
structure Part.Fits (p : Part) : Prop where
  num : -9223372036854775808 ≤ p.num ∧ p.num < 9223372036854775808
  text : p.text.length ≤ reachBytes
def Part.av (p : Part) : AV := .node [.v (.int .i64 p.kind), .v (.int .i64 p.num), .v (.string (mkS p.text)), dv p.dg, .v (.int .i64 p.lo), .v (.int .i64 p.hi)]
abbrev Ty.parts : Ty := .sl 37 80 (.st [.int .i64, .int .i64, .str, Ty.dg, .int .i64, .int .i64])
def textSum (ps : List Part) : Nat := (ps.map (·.text.length)).sum
def greatF (ps : List Part) : Bool := decide (16384 < textSum ps) || decide (200 < ps.length)
def Part.out (p : Part) : Bytes := if p.kind = 1 then txt p.text else if p.kind = 2 then p.dg.bs else be8 p.num
/-- A part's call on a reader: what it answers, what is left. -/
def Part.back (p : Part) (r : Rd) : Rd := if p.kind = 1 then r.text' p.text.length else if p.kind = 2 then r.dg' else r.inn' p.num p.num
def Part.same (p : Part) (r : Rd) : Bool := if p.kind = 1 then r.text p.text.length == p.text else if p.kind = 2 then decide (r.dg = p.dg) else decide (r.inn p.num p.num = p.num)

/-! What is read is what was written. -/
/-- What a call reads, is written down. -/
def Part.put (p : Part) (r : Rd) : Bytes := if p.kind = 1 then txt (r.text p.num) else if p.kind = 2 then r.dg.bs else if p.kind = 3 then be8 (r.inn p.lo p.hi) else be8 r.num
def Part.next (p : Part) (r : Rd) : Rd := if p.kind = 1 then r.text' p.num else if p.kind = 2 then r.dg' else if p.kind = 3 then r.inn' p.lo p.hi else r.num'

end Go.Proofs.YtjlmpdbagmdbiaaDoor.WL

end
section
/-
  CHAPTER 09: requests and replies, without any program.
-/
namespace Go.Proofs.YtjlmpdbagmdbiaaDoor.WL
open Go

structure Chg where
  kind : Int
  id : Int
  new : Int
  root : Dg
  height : Int
structure Req where
  client : Int
  num : Int
  kind : Int
  key : Bytes
  val : Bytes
  old : Bytes
  ch : Chg
def Chg.av (c : Chg) : AV := .node [.v (.int .i64 c.kind), .v (.int .i64 c.id), .v (.int .i64 c.new), .node [dv c.root, .v (.int .i64 c.height)]]
def Req.av (q : Req) : AV := .node [.v (.int .i64 q.client), .v (.int .i64 q.num), .node [.v (.int .i64 q.kind), .v (.string (mkS q.key)), .v (.string (mkS q.val)), .v (.string (mkS q.old)), q.ch.av]]
def Chg.zero : Chg := ⟨0, 0, 0, Dg.zero, 0⟩
def Req.zero : Req := ⟨0, 0, 0, [], [], [], Chg.zero⟩
@[simp] theorem Req.av_closed (q : Req) : closed q.av = true := by simp [Req.av, Chg.av]
@[simp] theorem Req.av_plain (q : Req) : plain q.av = true := by simp [Req.av, Chg.av]
@[simp] theorem Req.av_solid (q : Req) : q.av.solid = true := (rfl)
@[simp] theorem Req.av_agg (q : Req) : q.av.isAgg = true := (rfl)
@[simp] theorem Req.av_size (q : Req) : q.av.size = 42 := by simp [Req.av, Chg.av]

def Req.bytes (q : Req) : Bytes := nums [q.client, q.num, q.kind] ++ (txts [q.key, q.val, q.old] ++ (nums [q.ch.kind, q.ch.id, q.ch.new, q.ch.height] ++ q.ch.root.bs))
theorem Req.bytes_len (q : Req) : q.bytes.length = 100 + (q.key.length + q.val.length + q.old.length) := by
  simp [Req.bytes, nums_length, txts]
  omega
def Req.good (q : Req) : Bool := decide (1 ≤ q.client) && decide (q.client ≤ 64) && decide (1 ≤ q.num) && decide (q.num ≤ 1099511627776) && decide (1 ≤ q.kind) && decide (q.kind ≤ 7) &&
  (decide (q.key.length ≤ 1024) && decide (q.val.length ≤ 1024) && decide (q.old.length ≤ 1024))
/-- Reading: the reader behind so many parts. -/
def Rd.q1 (r : Rd) : Rd := r.inn' 1 64
def Rd.q2 (r : Rd) : Rd := r.q1.inn' 1 1099511627776
def Rd.q3 (r : Rd) : Rd := r.q2.inn' 1 7
def Rd.q4 (r : Rd) : Rd := r.q3.text' 1024
def Rd.q5 (r : Rd) : Rd := r.q4.text' 1024
def Rd.q6 (r : Rd) : Rd := r.q5.text' 1024
def Rd.q7 (r : Rd) : Rd := r.q6.num'
def Rd.q8 (r : Rd) : Rd := r.q7.num'
def Rd.q9 (r : Rd) : Rd := r.q8.num'
def Rd.q10 (r : Rd) : Rd := r.q9.num'
def Rd.req' (r : Rd) : Rd := r.q10.dg'
def Rd.req0 (r : Rd) : Req := ⟨r.inn 1 64, r.q1.inn 1 1099511627776, r.q2.inn 1 7, r.q3.text 1024, r.q4.text 1024, r.q5.text 1024, ⟨r.q6.num, r.q7.num, r.q8.num, r.q10.dg, r.q9.num⟩⟩
def Rd.req (r : Rd) : Req := if r.req'.bad = true then Req.zero else r.req0
structure Rep where
  client : Int
  num : Int
  code : Int
  vals : List Bytes
def Rep.zero : Rep := ⟨0, 0, 0, []⟩
/-- A reply whose texts lie in a slice. -/
def Rep.avS (a : Rep) : AV := .node [.v (.int .i64 a.client), .v (.int .i64 a.num), .v (.int .i64 a.code), .sl 1 (Strs a.vals)]
def Rep.bytes (a : Rep) : Bytes := nums [a.client, a.num, a.code, (a.vals.length : Int)] ++ txts a.vals
/-- So many texts. -/
def Rd.tx' (r : Rd) : Nat → Rd
  | 0 => r
  | n + 1 => (r.tx' n).text' 1024
def Rd.tx (r : Rd) : Nat → List Bytes
  | 0 => []
  | n + 1 => r.tx n ++ [(r.tx' n).text 1024]
@[simp] theorem Rd.tx_length (r : Rd) (n : Nat) : (r.tx n).length = n := by
  induction n with
  | zero => rfl
  | succ n ih => simp only [Rd.tx, List.length_append, ih, List.length_cons, List.length_nil]
def Rd.p1 (r : Rd) : Rd := r.inn' 1 64
def Rd.p2 (r : Rd) : Rd := r.p1.inn' 1 1099511627776
def Rd.p3 (r : Rd) : Rd := r.p2.inn' 0 1024
def Rd.p4 (r : Rd) : Rd := r.p3.inn' 0 256
def Rd.repN (r : Rd) : Nat := (r.p3.inn 0 256).toNat
def Rd.rep' (r : Rd) : Rd := r.p4.tx' r.repN
def Rd.rep0 (r : Rd) : Rep := ⟨r.inn 1 64, r.p1.inn 1 1099511627776, r.p2.inn 0 1024, r.p4.tx r.repN⟩
def Rd.rep (r : Rd) : Rep := if r.rep'.bad = true then Rep.zero else r.rep0
end Go.Proofs.YtjlmpdbagmdbiaaDoor.WL

end
section
/-
  CHAPTER 01: what is written is read; readers that have more behind them. Without any program.
-/
namespace Go.Proofs.YtjlmpdbagmdbiaaDoor.WL
open Go

/-- A number that can be. -/
abbrev W64 (n : Int) : Prop := -9223372036854775808 ≤ n ∧ n < 9223372036854775808
/-! A reader with more behind it. -/
def Rd.ext (r : Rd) (t : Bytes) : Rd := ⟨r.pre, r.s ++ t, r.bad⟩
@[simp] theorem Rd.ext_bad (r : Rd) (t : Bytes) : (r.ext t).bad = r.bad := rfl
/-! Bytes tell what they are of. -/
end Go.Proofs.YtjlmpdbagmdbiaaDoor.WL

end
section
/-
  FORMATS: how things are written and read, put together out of few parts; what is written is read, what is read was so written, and bytes tell what they are of.
-/
namespace Go.Proofs.YtjlmpdbagmdbiaaDoor.WL
open Go

structure Fmt (α : Type) where
  rd : Rd → α
  rd' : Rd → Rd
  wr : α → Bytes
  good : α → Prop
  fits : α → Prop
/-- A reader that is bad has nothing. -/
def Rd.flt (r : Rd) : Prop := r.bad = true → r = Rd.fault
structure Fmt.Law {α : Type} (F : Fmt α) : Prop where
  fault : F.rd' Rd.fault = Rd.fault
  flt : ∀ r, r.flt → (F.rd' r).flt
  back : ∀ pre y a, F.good a → F.rd ⟨pre, F.wr a ++ y, false⟩ = a ∧ F.rd' ⟨pre, F.wr a ++ y, false⟩ = ⟨pre ++ F.wr a, y, false⟩
  one : ∀ r, (F.rd' r).bad = false → r.bad = false ∧ (F.rd' r).pre = r.pre ++ F.wr (F.rd r) ∧ r.s = F.wr (F.rd r) ++ (F.rd' r).s ∧ F.good (F.rd r)
  fit : ∀ a, F.good a → F.fits a
  inj : ∀ a b x y, F.fits a → F.fits b → F.wr a ++ x = F.wr b ++ y → a = b ∧ x = y

/-! Numbers. -/
def inF (lo hi : Int) : Fmt Int := ⟨fun r => r.inn lo hi, fun r => r.inn' lo hi, be8, fun n => W64 n ∧ lo ≤ n ∧ n ≤ hi, W64⟩
/-! Texts. -/
def textF (mx : Int) : Fmt Bytes := ⟨fun r => r.text mx, fun r => r.text' mx, txt, fun s => s.length < 4294967296 ∧ (s.length : Int) ≤ mx, fun s => s.length < 4294967296⟩
/-! Digests. -/
def dgF : Fmt Dg := ⟨Rd.dg, Rd.dg', Dg.bs, fun _ => True, fun _ => True⟩
/-! One behind the other, the second as the first one tells. -/
def seqF {α β : Type} (F : Fmt α) (K : α → Fmt β) : Fmt (α × β) :=
  ⟨fun r => (F.rd r, (K (F.rd r)).rd (F.rd' r)), fun r => (K (F.rd r)).rd' (F.rd' r), fun p => F.wr p.1 ++ (K p.1).wr p.2, fun p => F.good p.1 ∧ (K p.1).good p.2, fun p => F.fits p.1 ∧ (K p.1).fits p.2⟩
/-! Seen as another type. -/
def mapF {α β : Type} (F : Fmt α) (f : α → β) (g : β → α) : Fmt β := ⟨fun r => f (F.rd r), F.rd', fun b => F.wr (g b), fun b => F.good (g b), fun b => F.fits (g b)⟩
/-! What is read is nothing if there was a fault. -/
def zeroF {α : Type} (F : Fmt α) (z : α) : Fmt α := ⟨fun r => if (F.rd' r).bad = true then z else F.rd r, F.rd', F.wr, F.good, F.fits⟩
/-! So many, each as those ahead of it tell. -/
def repR {α : Type} (K : List α → Fmt α) (r : Rd) : Nat → List α × Rd
  | 0 => ([], r)
  | n + 1 => ((repR K r n).1 ++ [(K (repR K r n).1).rd (repR K r n).2], (K (repR K r n).1).rd' (repR K r n).2)
def repW {α : Type} (K : List α → Fmt α) : List α → List α → Bytes
  | _, [] => []
  | p, a :: l => (K p).wr a ++ repW K (p ++ [a]) l
def repG {α : Type} (K : List α → Fmt α) : List α → List α → Prop
  | _, [] => True
  | p, a :: l => (K p).good a ∧ repG K (p ++ [a]) l
def repT {α : Type} (K : List α → Fmt α) : List α → List α → Prop
  | _, [] => True
  | p, a :: l => (K p).fits a ∧ repT K (p ++ [a]) l
def repF {α : Type} (K : List α → Fmt α) (n : Nat) : Fmt (List α) := ⟨fun r => (repR K r n).1, fun r => (repR K r n).2, repW K [], fun l => l.length = n ∧ repG K [] l, fun l => l.length = n ∧ repT K [] l⟩
@[simp] theorem repR_length {α : Type} (K : List α → Fmt α) (r : Rd) (n : Nat) : (repR K r n).1.length = n := by
  induction n with
  | zero => rfl
  | succ n ih => simp [repR, ih]
/-! How many, and then so many. -/
def cntF {α : Type} (lo hi : Int) (K : List α → Fmt α) : Fmt (List α) := mapF (seqF (inF lo hi) fun n => repF K n.toNat) (·.2) (fun l => ((l.length : Int), l))
/-- The same reader in other words. -/
theorem Fmt.Law.congr {α : Type} {F G : Fmt α} (h : F.Law) (h1 : ∀ r, G.rd r = F.rd r) (h2 : ∀ r, G.rd' r = F.rd' r) (h3 : ∀ a, G.wr a = F.wr a) (h4 : ∀ a, G.good a ↔ F.good a) (h5 : ∀ a, G.fits a ↔ F.fits a) : G.Law where
  fault := by rw [h2]; exact h.fault
  flt r hr := by rw [h2]; exact h.flt r hr
  back pre y a hg := by rw [h3, h1, h2]; exact h.back pre y a ((h4 a).1 hg)
  one r hb := by rw [h2] at hb ⊢; rw [h1, h3, h4]; exact h.one r hb
  fit a hg := (h5 a).2 (h.fit a ((h4 a).1 hg))
  inj a b x y ha hb hx := by rw [h3, h3] at hx; exact h.inj a b x y ((h5 a).1 ha) ((h5 b).1 hb) hx
end Go.Proofs.YtjlmpdbagmdbiaaDoor.WL

end
section
/-
  CHAPTER 09: laws of requests and replies, without any program.
-/
namespace Go.Proofs.YtjlmpdbagmdbiaaDoor.WL
open Go

/-- A request that can come in. -/
structure Req.Fits (q : Req) : Prop where
  client : W64 q.client
  num : W64 q.num
  kind : W64 q.kind
  ckind : W64 q.ch.kind
  cid : W64 q.ch.id
  cnew : W64 q.ch.new
  cheight : W64 q.ch.height
  key : q.key.length < 4294967296
  val : q.val.length < 4294967296
  old : q.old.length < 4294967296
/-- A reply that can come in. -/
structure Rep.Fits (a : Rep) : Prop where
  client : W64 a.client
  num : W64 a.num
  code : W64 a.code
  len : a.vals.length < 4611686018427387904
  vals : ∀ v ∈ a.vals, v.length < 4294967296
end Go.Proofs.YtjlmpdbagmdbiaaDoor.WL

end
section
/-
  CHAPTER 12: blocks, without any program.
-/
namespace Go.Proofs.YtjlmpdbagmdbiaaDoor.WL
open Go

def Reqs (qs : List Req) : List AV := qs.map Req.av
@[simp] theorem Reqs_length (qs : List Req) : (Reqs qs).length = qs.length := by simp [Reqs]
@[simp] theorem Reqs_closed (qs : List Req) : closeds (Reqs qs) = true := by simp [Reqs, closeds_all]
@[simp] theorem Reqs_plain (qs : List Req) : plains (Reqs qs) = true := by simp [Reqs, plains_all]
@[simp] theorem Reqs_get (n : Nat) (qs : List Req) : (Reqs qs)[n]? = (qs[n]?).map Req.av := by simp [Reqs]
@[simp] theorem Reqs_getElem (n : Nat) (qs : List Req) (h : n < (Reqs qs).length) : (Reqs qs)[n] = (qs[n]'(by simpa using h)).av := by simp [Reqs]
@[simp] theorem Reqs_append (a b : List Req) : Reqs a ++ Reqs b = Reqs (a ++ b) := by simp [Reqs]
@[simp] theorem Reqs_nil : Reqs [] = [] := (rfl)
@[simp] theorem Reqs_drop (n : Nat) (a : List Req) : (Reqs a).drop n = Reqs (a.drop n) := by simp [Reqs]
@[simp] theorem Reqs_take (n : Nat) (a : List Req) : (Reqs a).take n = Reqs (a.take n) := by simp [Reqs]
@[simp] theorem Req.av_sub (q : Req) : sub true 42 q.av 0 = some q.av := by simp [Req.av, Chg.av]
structure Blk where
  epoch : Int
  height : Int
  prev : Dg
  state : Dg
  next : Dg
  qs : List Req
def Blk.zero : Blk := ⟨0, 0, Dg.zero, Dg.zero, Dg.zero, []⟩
def Blk.avS (b : Blk) : AV := .node [.v (.int .i64 b.epoch), .v (.int .i64 b.height), dv b.prev, dv b.state, dv b.next, .sl 42 (Reqs b.qs)]
def reqsB (qs : List Req) : Bytes := qs.flatMap Req.bytes
def Blk.head (b : Blk) : Bytes := nums [b.epoch, b.height] ++ (flatD [b.prev, b.state, b.next] ++ nums [(b.qs.length : Int)])
def Blk.bytes (b : Blk) : Bytes := b.head ++ reqsB b.qs
theorem Blk.head_len (b : Blk) : b.head.length = 120 := by
  simp [Blk.head, nums_length, flatD]
theorem Blk.bytes_len (b : Blk) : b.bytes.length = 120 + (reqsB b.qs).length := by
  rw [Blk.bytes, List.length_append, Blk.head_len]
theorem reqsB_snoc (qs : List Req) (q : Req) : reqsB (qs ++ [q]) = reqsB qs ++ q.bytes := by simp [reqsB]
theorem reqsB_take (qs : List Req) (i : Nat) (h : i < qs.length) : reqsB (qs.take (i + 1)) = reqsB (qs.take i) ++ qs[i].bytes := by
  rw [List.take_succ_eq_append_getElem h, reqsB_snoc]
theorem reqsB_take_le (qs : List Req) (i : Nat) : (reqsB (qs.take i)).length ≤ (reqsB qs).length := by
  conv => rhs; rw [← List.take_append_drop i qs]
  simp only [reqsB, List.flatMap_append, List.length_append]
  omega
def Blk.good (b : Blk) : Bool := decide (0 ≤ b.epoch) && decide (b.epoch ≤ 1073741824) && decide (1 ≤ b.height) && decide (b.height ≤ 1024) && decide (b.qs.length ≤ 8) && b.qs.all Req.good
/-- Reading. -/
def Rd.b1 (r : Rd) : Rd := r.inn' 0 1073741824
def Rd.b2 (r : Rd) : Rd := r.b1.inn' 1 1024
def Rd.b3 (r : Rd) : Rd := r.b2.dg'
def Rd.b4 (r : Rd) : Rd := r.b3.dg'
def Rd.b5 (r : Rd) : Rd := r.b4.dg'
def Rd.b6 (r : Rd) : Rd := r.b5.inn' 0 8
/-- So many requests. -/
def Rd.rq' (r : Rd) : Nat → Rd
  | 0 => r
  | n + 1 => (r.rq' n).req'
def Rd.rq (r : Rd) : Nat → List Req
  | 0 => []
  | n + 1 => r.rq n ++ [(r.rq' n).req]
@[simp] theorem Rd.rq_length (r : Rd) (n : Nat) : (r.rq n).length = n := by
  induction n with
  | zero => rfl
  | succ n ih => simp only [Rd.rq, List.length_append, ih, List.length_cons, List.length_nil]
def Rd.blkN (r : Rd) : Nat := (r.b5.inn 0 8).toNat
def Rd.blk' (r : Rd) : Rd := r.b6.rq' r.blkN
def Rd.blk0 (r : Rd) : Blk := ⟨r.inn 0 1073741824, r.b1.inn 1 1024, r.b2.dg, r.b3.dg, r.b4.dg, r.b6.rq r.blkN⟩
def Rd.blk (r : Rd) : Blk := if r.blk'.bad = true then Blk.zero else r.blk0
end Go.Proofs.YtjlmpdbagmdbiaaDoor.WL

end
section
/-
  CHAPTER 12: laws of blocks, without any program.
-/
namespace Go.Proofs.YtjlmpdbagmdbiaaDoor.WL
open Go

/-- A block that can come in. -/
structure Blk.Fits (b : Blk) : Prop where
  epoch : W64 b.epoch
  height : W64 b.height
  len : b.qs.length < 4611686018427387904
  qs : ∀ q ∈ b.qs, q.Fits
end Go.Proofs.YtjlmpdbagmdbiaaDoor.WL

end
section
/-
  DATA: words of 32 bits.
-/
namespace Go.Proofs.YtjlmpdbagmdbiaaDoor.WL
open Go

/-- A word as a number. -/
def w32 (w : UInt32) : Int := w.toNat
abbrev wv (w : UInt32) : AV := .v (.int .u32 (w32 w))
def U (ws : List UInt32) : List AV := ws.map wv
@[simp] theorem U_length (ws : List UInt32) : (U ws).length = ws.length := by simp [U]
@[simp] theorem U_closed (ws : List UInt32) : closeds (U ws) = true := by simp [U, closeds_all]
@[simp] theorem U_plain (ws : List UInt32) : plains (U ws) = true := by simp [U, plains_all]
@[simp] theorem U_get (n : Nat) (a : List UInt32) : (U a)[n]? = (a[n]?).map wv := by simp [U]
@[simp] theorem U_getElem (n : Nat) (a : List UInt32) (h : n < (U a).length) : (U a)[n] = wv (a[n]'(by simpa using h)) := by simp [U]
theorem U_set (L : List UInt32) (j : Nat) (x : UInt32) : (U L).set j (wv x) = U (L.set j x) := by simp [U, List.map_set]
@[simp] theorem U_nil : U [] = [] := rfl
def zeros32 (n : Nat) : List UInt32 := List.replicate n 0
@[simp] theorem zeros32_length (n : Nat) : (zeros32 n).length = n := by simp [zeros32]
@[simp] theorem rep_word (n : Nat) : rep n (.v (.int .u32 0)) = U (zeros32 n) := by simp [rep, U, zeros32]; exact .inr rfl
theorem fill_zeros32 (g : List UInt32) (n j : Nat) (hj : j < g.length) (h : g.length ≤ n) : (g.take j ++ zeros32 (n - j)).set j g[j] = g.take (j + 1) ++ zeros32 (n - (j + 1)) := by
  have e : n - j = (n - (j + 1)) + 1 := by omega
  have e2 : j - (g.take j).length = 0 := by rw [List.length_take]; omega
  have e3 : g.take (j + 1) = g.take j ++ [g[j]] := by rw [List.take_add_one, List.getElem?_eq_getElem hj]; rfl
  rw [e, List.set_append_right _ _ (by rw [List.length_take]; omega), e2, e3, List.append_assoc]
  rfl

/-! The operations. -/
theorem u32_lt (a : UInt32) : a.toNat < 4294967296 := a.toNat_lt
theorem u32_add (a b : UInt32) : IntKind.u32.wrap (w32 a + w32 b) = w32 (a + b) := by
  unfold w32
  rw [u32_mod, UInt32.toNat_add]
  omega
theorem u32_id (a : UInt32) : IntKind.u32.wrap (w32 a) = w32 a := by
  unfold w32
  have := u32_lt a
  rw [u32_mod]
  omega
theorem ofInt_u32 (a : UInt32) : BitVec.ofInt 32 (w32 a) = a.toBitVec := by
  unfold w32
  apply BitVec.eq_of_toNat_eq
  have := u32_lt a
  rw [BitVec.toNat_ofInt]
  show ((a.toNat : Int) % ((2 ^ 32 : Nat) : Int)).toNat = a.toNat
  omega
theorem u32_xor (a b : UInt32) : bitsOp .xor .u32 (w32 a) (w32 b) = w32 (a ^^^ b) := by
  simp only [bitsOp, IntKind.bits, ofInt_u32]
  exact u32_id (a ^^^ b)
theorem u32_and (a b : UInt32) : bitsOp .and .u32 (w32 a) (w32 b) = w32 (a &&& b) := by
  simp only [bitsOp, IntKind.bits, ofInt_u32]
  exact u32_id (a &&& b)
theorem u32_or (a b : UInt32) : bitsOp .or .u32 (w32 a) (w32 b) = w32 (a ||| b) := by
  simp only [bitsOp, IntKind.bits, ofInt_u32]
  exact u32_id (a ||| b)
theorem u32_not (a : UInt32) : bitsOp .xor .u32 4294967295 (w32 a) = w32 (~~~a) := by
  have e : (4294967295 : Int) = w32 4294967295 := rfl
  rw [e, u32_xor]
  congr 2
@[simp] theorem un_xor (a : UInt32) : unV .xor (.int .u32 (w32 a)) = some (.int .u32 (w32 (~~~a))) := by
  have e : IntKind.max .u32 = 4294967295 := by decide
  simp only [unV, IntKind.signed, e, Bool.false_eq_true, if_false, u32_not]
theorem u32_shl (a : UInt32) (n : Nat) (h : n < 32) : IntKind.u32.wrap (w32 a * 2 ^ n) = w32 (a <<< UInt32.ofNat n) := by
  unfold w32
  rw [u32_mod, UInt32.toNat_shiftLeft, Nat.shiftLeft_eq]
  have e : (UInt32.ofNat n).toNat % 32 = n := by
    rw [UInt32.toNat_ofNat']
    omega
  rw [e]
  have e2 : ((a.toNat : Int) * 2 ^ n) = ((a.toNat * 2 ^ n : Nat) : Int) := by simp
  rw [e2]
  omega
theorem u32_shr (a : UInt32) (n : Nat) (h : n < 32) : (w32 a).fdiv (2 ^ n) = w32 (a >>> UInt32.ofNat n) := by
  unfold w32
  rw [Int.fdiv_eq_ediv_of_nonneg _ (Int.le_of_lt (Int.pow_pos (by decide))), UInt32.toNat_shiftRight, Nat.shiftRight_eq_div_pow]
  have e : (UInt32.ofNat n).toNat % 32 = n := by
    rw [UInt32.toNat_ofNat']
    omega
  rw [e]
  simp
theorem u32_byte (b : UInt8) : IntKind.u32.wrap (b.toNat : Int) = w32 b.toUInt32 := by
  unfold w32
  have := b.toNat_lt
  rw [u32_mod]
  show _ = ((b.toNat : Nat) : Int)
  omega
theorem u8_word (w : UInt32) : u8 (w32 w) = w.toUInt8 := by
  unfold w32
  apply UInt8.toNat_inj.1
  have := u8_toNat (w.toNat : Int)
  have h2 : w.toUInt8.toNat = w.toNat % 256 := UInt32.toNat_toUInt8 w
  omega
end Go.Proofs.YtjlmpdbagmdbiaaDoor.WL

end
section
/-
  CHAPTER 02: what the digest is, without any program.
-/
namespace Go.Proofs.YtjlmpdbagmdbiaaDoor.WL
open Go

/-- A word turned to the right. -/
def rotr (x : UInt32) (n : Nat) : UInt32 := (x >>> UInt32.ofNat n) ||| (x <<< UInt32.ofNat (32 - n))
/-- A word of four bytes, the highest first. -/
def word4 (a b c d : UInt8) : UInt32 := (a.toUInt32 <<< 24) ||| (b.toUInt32 <<< 16) ||| (c.toUInt32 <<< 8) ||| d.toUInt32
theorem word4_add (a b c d : UInt8) : (a.toUInt32 <<< 24) + (b.toUInt32 <<< 16) + (c.toUInt32 <<< 8) + d.toUInt32 = word4 a b c d := by
  have ha := a.toNat_lt
  have hb := b.toNat_lt
  have hc := c.toNat_lt
  have hd := d.toNat_lt
  have e24 : (a.toUInt32 <<< 24).toNat = a.toNat * 2 ^ 24 := by
    rw [UInt32.toNat_shiftLeft, Nat.shiftLeft_eq]
    show a.toNat * 2 ^ 24 % 2 ^ 32 = _
    omega
  have e16 : (b.toUInt32 <<< 16).toNat = b.toNat * 2 ^ 16 := by
    rw [UInt32.toNat_shiftLeft, Nat.shiftLeft_eq]
    show b.toNat * 2 ^ 16 % 2 ^ 32 = _
    omega
  have e8 : (c.toUInt32 <<< 8).toNat = c.toNat * 2 ^ 8 := by
    rw [UInt32.toNat_shiftLeft, Nat.shiftLeft_eq]
    show c.toNat * 2 ^ 8 % 2 ^ 32 = _
    omega
  have e0 : d.toUInt32.toNat = d.toNat := rfl
  have o1 : a.toNat * 2 ^ 24 ||| b.toNat * 2 ^ 16 = a.toNat * 2 ^ 24 + b.toNat * 2 ^ 16 := by
    rw [← Nat.shiftLeft_eq a.toNat, ← Nat.shiftLeft_add_eq_or_of_lt (by omega)]
  have o2 : (a.toNat * 2 ^ 24 + b.toNat * 2 ^ 16) ||| c.toNat * 2 ^ 8 = a.toNat * 2 ^ 24 + b.toNat * 2 ^ 16 + c.toNat * 2 ^ 8 := by
    have : a.toNat * 2 ^ 24 + b.toNat * 2 ^ 16 = (a.toNat * 2 ^ 8 + b.toNat) * 2 ^ 16 := by omega
    rw [this, ← Nat.shiftLeft_eq _ 16, ← Nat.shiftLeft_add_eq_or_of_lt (by omega)]
  have o3 : (a.toNat * 2 ^ 24 + b.toNat * 2 ^ 16 + c.toNat * 2 ^ 8) ||| d.toNat = a.toNat * 2 ^ 24 + b.toNat * 2 ^ 16 + c.toNat * 2 ^ 8 + d.toNat := by
    have : a.toNat * 2 ^ 24 + b.toNat * 2 ^ 16 + c.toNat * 2 ^ 8 = (a.toNat * 2 ^ 16 + b.toNat * 2 ^ 8 + c.toNat) * 2 ^ 8 := by omega
    rw [this, ← Nat.shiftLeft_eq _ 8, ← Nat.shiftLeft_add_eq_or_of_lt (by omega)]
  apply UInt32.toNat_inj.1
  unfold word4
  simp only [UInt32.toNat_add, UInt32.toNat_or, e24, e16, e8, e0, o1, o2, o3]
  omega

def s0 (x : UInt32) : UInt32 := rotr x 7 ^^^ rotr x 18 ^^^ (x >>> 3)
def s1 (x : UInt32) : UInt32 := rotr x 17 ^^^ rotr x 19 ^^^ (x >>> 10)
def words (b : Bytes) : List UInt32 := (List.range 16).map fun i => word4 (b.getD (4 * i) 0) (b.getD (4 * i + 1) 0) (b.getD (4 * i + 2) 0) (b.getD (4 * i + 3) 0)
/-- One word more. -/
def next (w : List UInt32) : UInt32 := w.getD (w.length - 16) 0 + s0 (w.getD (w.length - 15) 0) + w.getD (w.length - 7) 0 + s1 (w.getD (w.length - 2) 0)
def grow : Nat → List UInt32 → List UInt32
  | 0, w => w
  | n + 1, w => grow n w ++ [next (grow n w)]
@[simp] theorem words_length (b : Bytes) : (words b).length = 16 := by simp [words]
@[simp] theorem grow_length (n : Nat) (w : List UInt32) : (grow n w).length = w.length + n := by
  induction n with
  | zero => rfl
  | succ n ih => simp [grow, ih, Nat.add_assoc]
def table : List UInt32 := [
  0x428a2f98, 0x71374491, 0xb5c0fbcf, 0xe9b5dba5, 0x3956c25b, 0x59f111f1, 0x923f82a4, 0xab1c5ed5,
  0xd807aa98, 0x12835b01, 0x243185be, 0x550c7dc3, 0x72be5d74, 0x80deb1fe, 0x9bdc06a7, 0xc19bf174,
  0xe49b69c1, 0xefbe4786, 0x0fc19dc6, 0x240ca1cc, 0x2de92c6f, 0x4a7484aa, 0x5cb0a9dc, 0x76f988da,
  0x983e5152, 0xa831c66d, 0xb00327c8, 0xbf597fc7, 0xc6e00bf3, 0xd5a79147, 0x06ca6351, 0x14292967,
  0x27b70a85, 0x2e1b2138, 0x4d2c6dfc, 0x53380d13, 0x650a7354, 0x766a0abb, 0x81c2c92e, 0x92722c85,
  0xa2bfe8a1, 0xa81a664b, 0xc24b8b70, 0xc76c51a3, 0xd192e819, 0xd6990624, 0xf40e3585, 0x106aa070,
  0x19a4c116, 0x1e376c08, 0x2748774c, 0x34b0bcb5, 0x391c0cb3, 0x4ed8aa4a, 0x5b9cca4f, 0x682e6ff3,
  0x748f82ee, 0x78a5636f, 0x84c87814, 0x8cc70208, 0x90befffa, 0xa4506ceb, 0xbef9a3f7, 0xc67178f2]
@[simp] theorem table_length : table.length = 64 := rfl

structure St where
  a : UInt32
  b : UInt32
  c : UInt32
  d : UInt32
  e : UInt32
  f : UInt32
  g : UInt32
  h : UInt32
def St.list (s : St) : List UInt32 := [s.a, s.b, s.c, s.d, s.e, s.f, s.g, s.h]
def St.p (s : St) (k w : UInt32) : UInt32 := s.h + (rotr s.e 6 ^^^ rotr s.e 11 ^^^ rotr s.e 25) + ((s.e &&& s.f) ^^^ (~~~s.e &&& s.g)) + k + w
def St.q (s : St) : UInt32 := (rotr s.a 2 ^^^ rotr s.a 13 ^^^ rotr s.a 22) + ((s.a &&& s.b) ^^^ (s.a &&& s.c) ^^^ (s.b &&& s.c))
def St.round (s : St) (k w : UInt32) : St := ⟨s.p k w + s.q, s.a, s.b, s.c, s.d + s.p k w, s.e, s.f, s.g⟩
/-- The first n rounds. -/
def rounds (w : List UInt32) : Nat → St → St
  | 0, s => s
  | n + 1, s => (rounds w n s).round (table.getD n 0) (w.getD n 0)
theorem rounds_zero (w : List UInt32) (s : St) : rounds w 0 s = s := rfl
theorem rounds_succ (w : List UInt32) (n : Nat) (s : St) : rounds w (n + 1) s = (rounds w n s).round (table.getD n 0) (w.getD n 0) := rfl
theorem grow_zero (w : List UInt32) : grow 0 w = w := rfl
theorem grow_succ (n : Nat) (w : List UInt32) : grow (n + 1) w = grow n w ++ [next (grow n w)] := rfl
def St.plus (s t : St) : St := ⟨s.a + t.a, s.b + t.b, s.c + t.c, s.d + t.d, s.e + t.e, s.f + t.f, s.g + t.g, s.h + t.h⟩
/-- The state behind a block. -/
def comp (s : St) (b : Bytes) : St := s.plus (rounds (grow 48 (words b)) 64 s)
def iv : St := ⟨0x6a09e667, 0xbb67ae85, 0x3c6ef372, 0xa54ff53a, 0x510e527f, 0x9b05688c, 0x1f83d9ab, 0x5be0cd19⟩
/-- The state behind n blocks. -/
def hb : Nat → Bytes → St
  | 0, _ => iv
  | n + 1, b => comp (hb n b) ((b.drop (64 * n)).take 64)
/-- What stands behind the bytes: a mark, zeros, how many bits. -/
def fillN (n : Nat) : Nat := (119 - n % 64) % 64
def pad (b : Bytes) : Bytes := b ++ (128 :: (zeros (fillN b.length) ++ be8 (8 * b.length : Nat)))
theorem pad_length (b : Bytes) : (pad b).length % 64 = 0 := by
  simp only [pad, List.length_append, List.length_cons, zeros_length, be8_length, fillN]
  omega
def wbytes (x : UInt32) : Bytes := [(x >>> 24).toUInt8, (x >>> 16).toUInt8, (x >>> 8).toUInt8, x.toUInt8]
def St.bytes (s : St) : Bytes := s.list.flatMap wbytes
@[simp] theorem St.bytes_length (s : St) : s.bytes.length = 32 := rfl
/-- THE DIGEST. -/
def sha (b : Bytes) : Dg := ⟨(hb ((pad b).length / 64) (pad b)).bytes, rfl⟩

theorem hb_append (n : Nat) (b c : Bytes) (h : 64 * n ≤ b.length) : hb n (b ++ c) = hb n b := by
  induction n with
  | zero => rfl
  | succ n ih =>
    simp only [hb]
    rw [ih (by omega), List.drop_append_of_le_length (by omega), List.take_append_of_le_length (by rw [List.length_drop]; omega)]
end Go.Proofs.YtjlmpdbagmdbiaaDoor.WL

end
section
/-
  CHAPTER 03: hash trees, without any program.
-/
namespace Go.Proofs.YtjlmpdbagmdbiaaDoor.WL
open Go
attribute [local irreducible] sha

def leafD (b : Bytes) : Dg := sha (0 :: b)
def pairD (a b : Dg) : Dg := sha (1 :: (a.bs ++ b.bs))
attribute [local irreducible] leafD pairD
/-- The neighbour's place. -/
def sib (at_ : Nat) : Nat := if at_ % 2 = 1 then at_ - 1 else at_ + 1
/-- Does a path lead to the root? -/
def checkD (root leaf : Dg) (at_ count : Nat) (path : List Dg) : Bool :=
  if h : 1 < count then
    if count ≤ sib at_ then checkD root leaf (at_ / 2) ((count + 1) / 2) path
    else match path with
      | [] => false
      | p :: ps => checkD root (if at_ % 2 = 1 then pairD p leaf else pairD leaf p) (at_ / 2) ((count + 1) / 2) ps
  else decide (path = []) && decide (leaf = root)
termination_by count
theorem checkD_end (root leaf : Dg) (at_ count : Nat) (path : List Dg) (h : count ≤ 1) : checkD root leaf at_ count path = (decide (path = []) && decide (leaf = root)) := by
  rw [checkD.eq_def, dif_neg (by omega)]
theorem checkD_up (root leaf : Dg) (at_ count : Nat) (path : List Dg) (h : 1 < count) (hs : count ≤ sib at_) : checkD root leaf at_ count path = checkD root leaf (at_ / 2) ((count + 1) / 2) path := by
  rw [checkD.eq_def, dif_pos h, if_pos hs]
theorem checkD_none (root leaf : Dg) (at_ count : Nat) (h : 1 < count) (hs : ¬ count ≤ sib at_) : checkD root leaf at_ count [] = false := by
  rw [checkD.eq_def, dif_pos h, if_neg hs]
theorem checkD_pair (root leaf : Dg) (at_ count : Nat) (p : Dg) (ps : List Dg) (h : 1 < count) (hs : ¬ count ≤ sib at_) :
    checkD root leaf at_ count (p :: ps) = checkD root (if at_ % 2 = 1 then pairD p leaf else pairD leaf p) (at_ / 2) ((count + 1) / 2) ps := by
  rw [checkD.eq_def, dif_pos h, if_neg hs]
/-- The neighbour's place, as the program reckons it. -/
theorem xor_sib (at_ : Nat) (h : at_ < 9223372036854775807) : bitsOp .xor .i64 (at_ : Int) 1 = (sib at_ : Int) := by
  simp only [bitsOp, BitVec.toNat_xor, BitVec.toNat_ofInt]
  have e1 : ((at_ : Int) % ((2 ^ IntKind.i64.bits : Nat) : Int)).toNat = at_ := by
    rw [← Int.natCast_emod, Int.toNat_natCast, Nat.mod_eq_of_lt (by simp only [IntKind.bits]; omega)]
  have e2 : ((1 : Int) % ((2 ^ IntKind.i64.bits : Nat) : Int)).toNat = 1 := by decide
  rw [e1, e2]
  have e3 : at_ ^^^ 1 = sib at_ := by
    unfold sib
    split
    · rename_i ho
      obtain ⟨k, rfl⟩ : ∃ k, at_ = 2 * k + 1 := ⟨at_ / 2, by omega⟩
      apply Nat.eq_of_testBit_eq
      intro i
      cases i with
      | zero => rw [Nat.testBit_xor]; simp [Nat.testBit_zero]; try omega
      | succ i => rw [Nat.testBit_xor, Nat.testBit_succ, Nat.testBit_succ, Nat.testBit_succ]; simp; try (congr 1; omega)
    · rename_i ho
      obtain ⟨k, rfl⟩ : ∃ k, at_ = 2 * k := ⟨at_ / 2, by omega⟩
      apply Nat.eq_of_testBit_eq
      intro i
      cases i with
      | zero => rw [Nat.testBit_xor]; simp [Nat.testBit_zero]; try omega
      | succ i => rw [Nat.testBit_xor, Nat.testBit_succ, Nat.testBit_succ, Nat.testBit_succ]; simp; try (congr 1; omega)
  rw [e3, IntKind.wrap_i64]
  unfold sib
  split <;> omega
end Go.Proofs.YtjlmpdbagmdbiaaDoor.WL

end
section
/-
  CHAPTER 04: signatures by keys that are used once, without any program.
-/
namespace Go.Proofs.YtjlmpdbagmdbiaaDoor.WL
open Go
attribute [local irreducible] sha leafD pairD

def secB (seed : Dg) (leaf : Int) (n : Nat) : Bytes := 2 :: (seed.bs ++ (be8 leaf ++ be8 (n : Int)))
/-- A secret: for a bit and what it may be. -/
def secD (seed : Dg) (leaf : Int) (bit is : Nat) : Dg := sha (secB seed leaf (2 * bit + is))
def shutD (s : Dg) : Dg := sha s.bs
/-- A digest's bit. -/
def bitD (d : Dg) (i : Nat) : Nat := (d.bs.getD (i / 8) 0).toNat / 2 ^ (7 - i % 8) % 2
theorem bitD_le (d : Dg) (i : Nat) : bitD d i = 0 ∨ bitD d i = 1 := by
  unfold bitD
  omega
attribute [local irreducible] secD shutD bitD
def pubL (seed : Dg) (leaf : Int) : Nat → List Dg
  | 0 => []
  | n + 1 => pubL seed leaf n ++ [shutD (secD seed leaf n 0), shutD (secD seed leaf n 1)]
def wholeD (l : List Dg) : Dg := sha (flatD l)
/-- A public half. -/
def pubD (seed : Dg) (leaf : Int) (N : Nat) : Dg := wholeD (pubL seed leaf N)
/-- Two digests, in a bit's order. -/
def two (b : Nat) (x y : Dg) : List Dg := if b = 0 then [x, y] else [y, x]
def ofL (d : Dg) (o s : List Dg) : Nat → List Dg
  | 0 => []
  | n + 1 => ofL d o s n ++ two (bitD d n) (shutD (o.getD n Dg.zero)) (s.getD n Dg.zero)
theorem two_length (b : Nat) (x y : Dg) : (two b x y).length = 2 := by unfold two; split <;> rfl
theorem ofL_length (d : Dg) (o s : List Dg) (n : Nat) : (ofL d o s n).length = 2 * n := by
  induction n with
  | zero => rfl
  | succ n ih => simp only [ofL, List.length_append, ih, two_length]; omega
/-- Under which public half a signature is right. -/
def ofD (d : Dg) (o s : List Dg) (N : Nat) : Dg := wholeD (ofL d o s N)
end Go.Proofs.YtjlmpdbagmdbiaaDoor.WL

end
section
/-
  CHAPTER 05: many one-time keys under one root, without any program.
-/
namespace Go.Proofs.YtjlmpdbagmdbiaaDoor.WL
open Go
attribute [local irreducible] sha leafD pairD secD shutD wholeD pubD ofD

structure Sig where
  leaf : Int
  op : List Dg
  sh : List Dg
  path : List Dg
def Sig.zero : Sig := ⟨0, [], [], []⟩
def Sig.avS (s : Sig) : AV := .node [.v (.int .i64 s.leaf), .node [.sl 32 (Dgs s.op), .sl 32 (Dgs s.sh)], .sl 32 (Dgs s.path)]
def Sig.rows (a b c g : Nat) (s : Sig) : List (Nat × Loc) := [(a, .rows g 32 (Dgs s.op)), (b, .rows g 32 (Dgs s.sh)), (c, .rows g 32 (Dgs s.path))]
def leafK (p : Dg) : Dg := leafD p.bs
/-- Whether a signature is right under a key. -/
def checkK (root : Dg) (h : Int) (d : Dg) (s : Sig) : Bool :=
  decide (s.op.length = 32 ∧ s.sh.length = 32) && (decide (0 ≤ h ∧ h ≤ 6) && (decide (0 ≤ s.leaf ∧ s.leaf < ((2 ^ h.toNat : Nat) : Int)) && checkD root (leafK (ofD d s.op s.sh 32)) s.leaf.toNat (2 ^ h.toNat) s.path))
def Sig.ok (s : Sig) : Bool := decide (s.op.length = 32 ∧ s.sh.length = 32 ∧ s.path.length ≤ 6)
def Sig.bytes (s : Sig) : Bytes := nums [s.leaf, (s.path.length : Int)] ++ (flatD s.op ++ (flatD s.sh ++ flatD s.path))
theorem Sig.bytes_len (s : Sig) : s.bytes.length = 16 + 32 * (s.op.length + s.sh.length + s.path.length) := by
  simp only [Sig.bytes, List.length_append, nums_length, flatD_length, List.length_cons, List.length_nil]
  omega
/-- So many digests read. -/
def Rd.ds' (r : Rd) : Nat → Rd
  | 0 => r
  | n + 1 => (r.ds' n).dg'
def Rd.ds (r : Rd) : Nat → List Dg
  | 0 => []
  | n + 1 => r.ds n ++ [(r.ds' n).dg]
@[simp] theorem Rd.ds_length (r : Rd) (n : Nat) : (r.ds n).length = n := by
  induction n with
  | zero => rfl
  | succ n ih => simp only [Rd.ds, List.length_append, ih, List.length_cons, List.length_nil]
def Rd.s2 (r : Rd) : Rd := r.num'.inn' 0 6
def Rd.sN (r : Rd) : Nat := (r.num'.inn 0 6).toNat
def Rd.sig' (r : Rd) : Rd := ((r.s2.ds' 32).ds' 32).ds' r.sN
def Rd.sig0 (r : Rd) : Sig := ⟨r.num, r.s2.ds 32, (r.s2.ds' 32).ds 32, ((r.s2.ds' 32).ds' 32).ds r.sN⟩
def Rd.sig (r : Rd) : Sig := if r.sig'.bad = true then Sig.zero else r.sig0
end Go.Proofs.YtjlmpdbagmdbiaaDoor.WL

end
section
/-
  A CONTRACT TOLD ANEW: rows that a call made are given away as slices that stay as they are.
-/
namespace Go.Proofs.YtjlmpdbagmdbiaaDoor.WL
open Go

def newE (L : Names) : List (Nat × Loc) → Prop
  | [] => True
  | e :: r => look L e.1 = some (some (e.1, e.2.gen)) ∧ newE L r
/-- Every name stands for itself. -/
def sameNames : List (Nat × Loc) → Names
  | [] => []
  | (k, c) :: r => (k, some (k, c.gen)) :: sameNames r

attribute [simp] newE sameNames

/-! Values that hold no reference, seen from outside. -/
mutual
theorem closed_more {M : List (Nat × Loc)} {L : Names} {nb gn : Nat} : ∀ (a : AV), closed a = true → goodA false M a = true ∧ pairsA a a = [] ∧ renA L nb gn a = a
  | .top, _ => by simp [goodA, pairsA, renA]
  | .v x, _ => by
    refine ⟨by simp [goodA], ?_, rfl⟩
    unfold pairsA
    split <;> simp_all
  | .node cs, h => by
    simp only [closed] at h
    obtain ⟨h1, h2, h3⟩ := closeds_more (M := M) (L := L) (nb := nb) (gn := gn) cs h
    simp only [goodA, pairsA, renA, h1, h2, h3, and_self]
  | .arr _ _, h => by simp only [closed] at h; simp [goodA, pairsA, renA, h]
  | .sl _ _, h => by simp only [closed] at h; simp [goodA, pairsA, renA, h]
  | .iptr _, h => by simp only [closed] at h; simp [goodA, pairsA, renA, h]
  | .ptr .., h => by simp [closed] at h
  | .row .., h => by simp [closed] at h
  | .vrow .., h => by simp [closed] at h
  | .rptr .., h => by simp [closed] at h
  | .tup _, h => by simp [closed] at h
theorem closeds_more {M : List (Nat × Loc)} {L : Names} {nb gn : Nat} : ∀ (as : List AV), closeds as = true → goods false M as = true ∧ pairsL as as = [] ∧ rens L nb gn as = as
  | [], _ => by simp [goods, pairsL, rens]
  | a :: as, h => by
    simp only [closeds, Bool.and_eq_true] at h
    obtain ⟨h1, h2, h3⟩ := closed_more (M := M) (L := L) (nb := nb) (gn := gn) a h.1
    obtain ⟨k1, k2, k3⟩ := closeds_more (M := M) (L := L) (nb := nb) (gn := gn) as h.2
    simp only [goods, pairsL, rens, h1, h2, h3, k1, k2, k3, List.append_nil, Bool.and_self, and_self]
end
theorem goodA_closed {M : List (Nat × Loc)} {a : AV} (h : closed a = true) : goodA false M a = true := (closed_more (L := []) (nb := 0) (gn := 0) a h).1
theorem pairsA_closed {a : AV} (h : closed a = true) : pairsA a a = [] := (closed_more (M := []) (L := []) (nb := 0) (gn := 0) a h).2.1
theorem renA_closed {L : Names} {nb gn : Nat} {a : AV} (h : closed a = true) : renA L nb gn a = a := (closed_more (M := []) a h).2.2
theorem Fit_closed {m : Nat → Option Loc} {L : Names} {a : AV} (h : closed a = true) : Fit m L a a = True := eq_true (Fit_refl a h).1
theorem FitR_closed {m : Nat → Option Loc} {L : Names} {a : AV} (h : closed a = true) : FitR m L a a = True := by
  have := (Fit_refl (m := m) (L := L) a h).1
  cases a <;> first | exact eq_true this | (simp [closed] at h)
theorem touch_closed {m : Nat → Option Loc} {a : AV} (h : closed a = true) : touch m a a = [] := (Fit_refl (L := []) a h).2
theorem touchR_closed {m : Nat → Option Loc} {a : AV} (h : closed a = true) : touchR m a a = [] := by
  have := (Fit_refl (m := m) (L := []) a h).2
  cases a <;> first | exact this | (simp [closed] at h)
theorem Stamped_closed {U : Nat → Prop} {a : AV} (h : closed a = true) : Stamped U a = True := eq_true (closed_stamped a h)
theorem isTup_closed {a : AV} (h : closed a = true) : a.isTup = false := by cases a <;> first | rfl | (simp [closed] at h)
theorem refOf_closed {a : AV} (h : closed a = true) : refOf a = none := by cases a <;> first | rfl | (simp [closed] at h)
@[simp] theorem goods_closeds {M : List (Nat × Loc)} {as : List AV} (h : closeds as = true) : goods false M as = true := (closeds_more (L := []) (nb := 0) (gn := 0) as h).1
@[simp] theorem pairsL_closeds {as : List AV} (h : closeds as = true) : pairsL as as = [] := (closeds_more (M := []) (L := []) (nb := 0) (gn := 0) as h).2.1
@[simp] theorem rens_closeds {L : Names} {nb gn : Nat} {as : List AV} (h : closeds as = true) : rens L nb gn as = as := (closeds_more (M := []) as h).2.2
end Go.Proofs.YtjlmpdbagmdbiaaDoor.WL

end
section
/-
  FORMATS of signatures, requests, replies, blocks, votes, plans, configurations, words, links.
-/
namespace Go.Proofs.YtjlmpdbagmdbiaaDoor.WL
open Go
attribute [local irreducible] sha

theorem Fmt.Law.same {α : Type} {F G : Fmt α} (h : F.Law) (h1 : ∀ r, G.rd r = F.rd r) (h2 : ∀ r, G.rd' r = F.rd' r) (h3 : ∀ a, G.fits a → G.wr a = F.wr a) (h4 : ∀ a, G.good a ↔ F.good a) (h5 : ∀ a, G.fits a → F.fits a) (h6 : ∀ a, G.good a → G.fits a) : G.Law where
  fault := by rw [h2]; exact h.fault
  flt r hr := by rw [h2]; exact h.flt r hr
  back pre y a hg := by rw [h3 a (h6 a hg), h1, h2]; exact h.back pre y a ((h4 a).1 hg)
  one r hb := by
    rw [h2] at hb ⊢
    have := h.one r hb
    rw [h1, h4, h3 _ (h6 _ ((h4 _).2 this.2.2.2))]
    exact this
  fit a hg := h6 a hg
  inj a b x y ha hb hx := by rw [h3 a ha, h3 b hb] at hx; exact h.inj a b x y (h5 a ha) (h5 b hb) hx

/-! So many alike. -/
/-! Signatures. -/
def Sig.Fits (s : Sig) : Prop := W64 s.leaf ∧ s.op.length = 32 ∧ s.sh.length = 32 ∧ s.path.length ≤ 6
def sigF : Fmt Sig := ⟨Rd.sig, Rd.sig', Sig.bytes, Sig.Fits, Sig.Fits⟩
/-! Requests. -/
/-! Replies. -/
/-! Blocks. -/
def blkF : Fmt Blk := ⟨Rd.blk, Rd.blk', Blk.bytes, fun b => b.Fits ∧ b.good = true, Blk.Fits⟩
/-! Votes. -/
section
attribute [local irreducible] Rd.sig Rd.sig' Rd.blk Rd.blk' Rd.inn Rd.inn' Rd.dg Rd.dg' repR
structure Vote where
  kind : Int
  epoch : Int
  height : Int
  round : Int
  dg : Dg
  src : Int
  sig : Sig
def Vote.zero : Vote := ⟨0, 0, 0, 0, Dg.zero, 0, Sig.zero⟩
def voteR : Fmt (Int × Int × Int × Int × Int × Dg × Sig) := seqF (inF 1 2) fun _ => seqF (inF 0 1073741824) fun _ => seqF (inF 1 1024) fun _ => seqF (inF 0 1024) fun _ => seqF (inF 1 63) fun _ => seqF dgF fun _ => sigF
def voteF : Fmt Vote := zeroF (mapF voteR (fun x => ⟨x.1, x.2.1, x.2.2.1, x.2.2.2.1, x.2.2.2.2.2.1, x.2.2.2.2.1, x.2.2.2.2.2.2⟩) (fun v => (v.kind, v.epoch, v.height, v.round, v.src, v.dg, v.sig))) Vote.zero
def Vote.head (v : Vote) : Bytes := nums [v.kind, v.epoch, v.height, v.round, v.src] ++ v.dg.bs
theorem voteF_wr (v : Vote) : voteF.wr v = v.head ++ v.sig.bytes := by
  show be8 v.kind ++ (be8 v.epoch ++ (be8 v.height ++ (be8 v.round ++ (be8 v.src ++ (v.dg.bs ++ v.sig.bytes))))) = _
  simp [Vote.head, nums]
def Vote.good (v : Vote) : Bool := decide (1 ≤ v.kind) && decide (v.kind ≤ 2) && decide (0 ≤ v.epoch) && decide (v.epoch ≤ 1073741824) && decide (1 ≤ v.height) && decide (v.height ≤ 1024) && decide (0 ≤ v.round) && decide (v.round ≤ 1024) && decide (1 ≤ v.src) && decide (v.src ≤ 63)

/-! Plans. -/
structure Plan where
  epoch : Int
  height : Int
  round : Int
  valid : Int
  blk : Blk
  src : Int
  sig : Sig
def Plan.zero : Plan := ⟨0, 0, 0, 0, Blk.zero, 0, Sig.zero⟩
def planR : Fmt (Int × Int × Int × Int × Int × Blk × Sig) := seqF (inF 0 1073741824) fun _ => seqF (inF 1 1024) fun _ => seqF (inF 0 1024) fun n => seqF (inF (-1) (n - 1)) fun _ => seqF (inF 1 63) fun _ => seqF blkF fun _ => sigF
def planF : Fmt Plan := zeroF (mapF planR (fun x => ⟨x.1, x.2.1, x.2.2.1, x.2.2.2.1, x.2.2.2.2.2.1, x.2.2.2.2.1, x.2.2.2.2.2.2⟩) (fun p => (p.epoch, p.height, p.round, p.valid, p.src, p.blk, p.sig))) Plan.zero
def Plan.head (p : Plan) : Bytes := nums [p.epoch, p.height, p.round, p.valid, p.src] ++ p.blk.bytes
/-! Configurations. -/
structure Mem where
  id : Int
  root : Dg
  height : Int
structure Conf where
  epoch : Int
  ms : List Mem
def Conf.zero : Conf := ⟨0, []⟩
def lastId (l : List Mem) : Int := match l.getLast? with
  | some m => m.id
  | none => 0
@[simp] theorem lastId_nil : lastId [] = 0 := (rfl)
@[simp] theorem lastId_snoc (l : List Mem) (m : Mem) : lastId (l ++ [m]) = m.id := by simp [lastId]
def memF (l : List Mem) : Fmt Mem := mapF (seqF (inF (lastId l + 1) 63) fun _ => seqF (inF 0 6) fun _ => dgF) (fun x => ⟨x.1, x.2.2, x.2.1⟩) (fun m => (m.id, m.height, m.root))
def confF : Fmt Conf := zeroF (mapF (seqF (inF 0 1073741824) fun _ => cntF 1 10 memF) (fun x => ⟨x.1, x.2⟩) (fun c => (c.epoch, c.ms))) Conf.zero
def memB (m : Mem) : Bytes := nums [m.id, m.height] ++ m.root.bs
def memsB (ms : List Mem) : Bytes := ms.flatMap memB
def Conf.bytes (c : Conf) : Bytes := nums [c.epoch, (c.ms.length : Int)] ++ memsB c.ms
/-! Words. -/
structure Cert where
  round : Int
  votes : List Vote
def Cert.zero : Cert := ⟨0, []⟩
def certF : Fmt Cert := zeroF (mapF (seqF (inF 0 1024) fun _ => cntF 1 10 (fun _ => voteF)) (fun x => ⟨x.1, x.2⟩) (fun c => (c.round, c.votes))) Cert.zero
def votesB (vs : List Vote) : Bytes := vs.flatMap voteF.wr
def Cert.bytes (c : Cert) : Bytes := nums [c.round, (c.votes.length : Int)] ++ votesB c.votes
/-- Whether it can be written: its signatures can. -/
def Cert.ok (c : Cert) : Bool := c.votes.all fun v => v.sig.ok

/-! Links. -/
structure Lnk where
  blk : Blk
  cert : Cert
  conf : Conf
def Lnk.zero : Lnk := ⟨Blk.zero, Cert.zero, Conf.zero⟩
def linkF : Fmt Lnk := zeroF (mapF (seqF blkF fun _ => seqF certF fun _ => confF) (fun x => ⟨x.1, x.2.1, x.2.2⟩) (fun l => (l.blk, l.cert, l.conf))) Lnk.zero
end
/-! As values. -/
@[simp] theorem Sig.avS_closed (q : Sig) : closed (Sig.avS q) = true := by simp [Sig.avS]
@[simp] theorem Sig.avS_solid (q : Sig) : (Sig.avS q).solid = true := by simp [Sig.avS]
@[simp] theorem Sig.avS_agg (q : Sig) : (Sig.avS q).isAgg = true := by simp [Sig.avS]
@[simp] theorem Sig.avS_size (q : Sig) : (Sig.avS q).size = 4 := by simp [Sig.avS]
@[simp] theorem Sig.avS_sub (q : Sig) : sub true 4 (Sig.avS q) 0 = some (Sig.avS q) := by simp [Sig.avS]
@[simp] theorem Sig.avS_good {M : List (Nat × Loc)} (q : Sig) : goodA false M (Sig.avS q) = true := goodA_closed (Sig.avS_closed q)
@[simp] theorem Sig.avS_pairs (q : Sig) : pairsA (Sig.avS q) (Sig.avS q) = [] := pairsA_closed (Sig.avS_closed q)
@[simp] theorem Sig.avS_ren {L : Names} {nb gn : Nat} (q : Sig) : renA L nb gn (Sig.avS q) = Sig.avS q := renA_closed (Sig.avS_closed q)
@[simp] theorem Sig.avS_fit {m : Nat → Option Loc} {L : Names} (q : Sig) : Fit m L (Sig.avS q) (Sig.avS q) = True := Fit_closed (Sig.avS_closed q)
@[simp] theorem Sig.avS_fitR {m : Nat → Option Loc} {L : Names} (q : Sig) : FitR m L (Sig.avS q) (Sig.avS q) = True := FitR_closed (Sig.avS_closed q)
@[simp] theorem Sig.avS_touch {m : Nat → Option Loc} (q : Sig) : touch m (Sig.avS q) (Sig.avS q) = [] := touch_closed (Sig.avS_closed q)
@[simp] theorem Sig.avS_touchR {m : Nat → Option Loc} (q : Sig) : touchR m (Sig.avS q) (Sig.avS q) = [] := touchR_closed (Sig.avS_closed q)
@[simp] theorem Sig.avS_stamped {U : Nat → Prop} (q : Sig) : Stamped U (Sig.avS q) = True := Stamped_closed (Sig.avS_closed q)
@[simp] theorem Sig.avS_tup (q : Sig) : (Sig.avS q).isTup = false := isTup_closed (Sig.avS_closed q)
@[simp] theorem Sig.avS_ref (q : Sig) : refOf (Sig.avS q) = none := refOf_closed (Sig.avS_closed q)
@[simp] theorem Sig.avS_put (q : Sig) (x : AV) : putAt true 4 x (Sig.avS q) 0 = some x := by simp [Sig.avS]
@[simp] theorem Blk.avS_closed (q : Blk) : closed (Blk.avS q) = true := by simp [Blk.avS]
@[simp] theorem Blk.avS_solid (q : Blk) : (Blk.avS q).solid = true := by simp [Blk.avS]
@[simp] theorem Blk.avS_agg (q : Blk) : (Blk.avS q).isAgg = true := by simp [Blk.avS]
@[simp] theorem Blk.avS_size (q : Blk) : (Blk.avS q).size = 99 := by simp [Blk.avS]
@[simp] theorem Blk.avS_sub (q : Blk) : sub true 99 (Blk.avS q) 0 = some (Blk.avS q) := by simp [Blk.avS]
@[simp] theorem Blk.avS_good {M : List (Nat × Loc)} (q : Blk) : goodA false M (Blk.avS q) = true := goodA_closed (Blk.avS_closed q)
@[simp] theorem Blk.avS_pairs (q : Blk) : pairsA (Blk.avS q) (Blk.avS q) = [] := pairsA_closed (Blk.avS_closed q)
@[simp] theorem Blk.avS_ren {L : Names} {nb gn : Nat} (q : Blk) : renA L nb gn (Blk.avS q) = Blk.avS q := renA_closed (Blk.avS_closed q)
@[simp] theorem Blk.avS_fit {m : Nat → Option Loc} {L : Names} (q : Blk) : Fit m L (Blk.avS q) (Blk.avS q) = True := Fit_closed (Blk.avS_closed q)
@[simp] theorem Blk.avS_fitR {m : Nat → Option Loc} {L : Names} (q : Blk) : FitR m L (Blk.avS q) (Blk.avS q) = True := FitR_closed (Blk.avS_closed q)
@[simp] theorem Blk.avS_touch {m : Nat → Option Loc} (q : Blk) : touch m (Blk.avS q) (Blk.avS q) = [] := touch_closed (Blk.avS_closed q)
@[simp] theorem Blk.avS_touchR {m : Nat → Option Loc} (q : Blk) : touchR m (Blk.avS q) (Blk.avS q) = [] := touchR_closed (Blk.avS_closed q)
@[simp] theorem Blk.avS_stamped {U : Nat → Prop} (q : Blk) : Stamped U (Blk.avS q) = True := Stamped_closed (Blk.avS_closed q)
@[simp] theorem Blk.avS_tup (q : Blk) : (Blk.avS q).isTup = false := isTup_closed (Blk.avS_closed q)
@[simp] theorem Blk.avS_ref (q : Blk) : refOf (Blk.avS q) = none := refOf_closed (Blk.avS_closed q)
@[simp] theorem Blk.avS_put (q : Blk) (x : AV) : putAt true 99 x (Blk.avS q) 0 = some x := by simp [Blk.avS]
@[simp] theorem Rep.avS_closed (q : Rep) : closed (Rep.avS q) = true := by simp [Rep.avS]
@[simp] theorem Rep.avS_solid (q : Rep) : (Rep.avS q).solid = true := by simp [Rep.avS]
@[simp] theorem Rep.avS_agg (q : Rep) : (Rep.avS q).isAgg = true := by simp [Rep.avS]
@[simp] theorem Rep.avS_size (q : Rep) : (Rep.avS q).size = 4 := by simp [Rep.avS]
@[simp] theorem Rep.avS_sub (q : Rep) : sub true 4 (Rep.avS q) 0 = some (Rep.avS q) := by simp [Rep.avS]
@[simp] theorem Rep.avS_good {M : List (Nat × Loc)} (q : Rep) : goodA false M (Rep.avS q) = true := goodA_closed (Rep.avS_closed q)
@[simp] theorem Rep.avS_pairs (q : Rep) : pairsA (Rep.avS q) (Rep.avS q) = [] := pairsA_closed (Rep.avS_closed q)
@[simp] theorem Rep.avS_ren {L : Names} {nb gn : Nat} (q : Rep) : renA L nb gn (Rep.avS q) = Rep.avS q := renA_closed (Rep.avS_closed q)
@[simp] theorem Rep.avS_fit {m : Nat → Option Loc} {L : Names} (q : Rep) : Fit m L (Rep.avS q) (Rep.avS q) = True := Fit_closed (Rep.avS_closed q)
@[simp] theorem Rep.avS_fitR {m : Nat → Option Loc} {L : Names} (q : Rep) : FitR m L (Rep.avS q) (Rep.avS q) = True := FitR_closed (Rep.avS_closed q)
@[simp] theorem Rep.avS_touch {m : Nat → Option Loc} (q : Rep) : touch m (Rep.avS q) (Rep.avS q) = [] := touch_closed (Rep.avS_closed q)
@[simp] theorem Rep.avS_touchR {m : Nat → Option Loc} (q : Rep) : touchR m (Rep.avS q) (Rep.avS q) = [] := touchR_closed (Rep.avS_closed q)
@[simp] theorem Rep.avS_stamped {U : Nat → Prop} (q : Rep) : Stamped U (Rep.avS q) = True := Stamped_closed (Rep.avS_closed q)
@[simp] theorem Rep.avS_tup (q : Rep) : (Rep.avS q).isTup = false := isTup_closed (Rep.avS_closed q)
@[simp] theorem Rep.avS_ref (q : Rep) : refOf (Rep.avS q) = none := refOf_closed (Rep.avS_closed q)
@[simp] theorem Rep.avS_put (q : Rep) (x : AV) : putAt true 4 x (Rep.avS q) 0 = some x := by simp [Rep.avS]
@[simp] theorem Req.av_good {M : List (Nat × Loc)} (q : Req) : goodA false M (Req.av q) = true := goodA_closed (Req.av_closed q)
@[simp] theorem Req.av_pairs (q : Req) : pairsA (Req.av q) (Req.av q) = [] := pairsA_closed (Req.av_closed q)
@[simp] theorem Req.av_ren {L : Names} {nb gn : Nat} (q : Req) : renA L nb gn (Req.av q) = Req.av q := renA_closed (Req.av_closed q)
@[simp] theorem Req.av_fit {m : Nat → Option Loc} {L : Names} (q : Req) : Fit m L (Req.av q) (Req.av q) = True := Fit_closed (Req.av_closed q)
@[simp] theorem Req.av_fitR {m : Nat → Option Loc} {L : Names} (q : Req) : FitR m L (Req.av q) (Req.av q) = True := FitR_closed (Req.av_closed q)
@[simp] theorem Req.av_touch {m : Nat → Option Loc} (q : Req) : touch m (Req.av q) (Req.av q) = [] := touch_closed (Req.av_closed q)
@[simp] theorem Req.av_touchR {m : Nat → Option Loc} (q : Req) : touchR m (Req.av q) (Req.av q) = [] := touchR_closed (Req.av_closed q)
@[simp] theorem Req.av_stamped {U : Nat → Prop} (q : Req) : Stamped U (Req.av q) = True := Stamped_closed (Req.av_closed q)
@[simp] theorem Req.av_tup (q : Req) : (Req.av q).isTup = false := isTup_closed (Req.av_closed q)
@[simp] theorem Req.av_ref (q : Req) : refOf (Req.av q) = none := refOf_closed (Req.av_closed q)
@[simp] theorem Req.av_put (q : Req) (x : AV) : putAt true 42 x (Req.av q) 0 = some x := by simp [Req.av, Chg.av]
def Vote.av (v : Vote) : AV := .node [.v (.int .i64 v.kind), .v (.int .i64 v.epoch), .v (.int .i64 v.height), .v (.int .i64 v.round), dv v.dg, .v (.int .i64 v.src), v.sig.avS]
@[simp] theorem Vote.av_closed (q : Vote) : closed (Vote.av q) = true := by simp [Vote.av]
@[simp] theorem Vote.av_solid (q : Vote) : (Vote.av q).solid = true := by simp [Vote.av]
@[simp] theorem Vote.av_agg (q : Vote) : (Vote.av q).isAgg = true := by simp [Vote.av]
@[simp] theorem Vote.av_size (q : Vote) : (Vote.av q).size = 41 := by simp [Vote.av]
@[simp] theorem Vote.av_sub (q : Vote) : sub true 41 (Vote.av q) 0 = some (Vote.av q) := by simp [Vote.av]
@[simp] theorem Vote.av_good {M : List (Nat × Loc)} (q : Vote) : goodA false M (Vote.av q) = true := goodA_closed (Vote.av_closed q)
@[simp] theorem Vote.av_pairs (q : Vote) : pairsA (Vote.av q) (Vote.av q) = [] := pairsA_closed (Vote.av_closed q)
@[simp] theorem Vote.av_ren {L : Names} {nb gn : Nat} (q : Vote) : renA L nb gn (Vote.av q) = Vote.av q := renA_closed (Vote.av_closed q)
@[simp] theorem Vote.av_fit {m : Nat → Option Loc} {L : Names} (q : Vote) : Fit m L (Vote.av q) (Vote.av q) = True := Fit_closed (Vote.av_closed q)
@[simp] theorem Vote.av_fitR {m : Nat → Option Loc} {L : Names} (q : Vote) : FitR m L (Vote.av q) (Vote.av q) = True := FitR_closed (Vote.av_closed q)
@[simp] theorem Vote.av_touch {m : Nat → Option Loc} (q : Vote) : touch m (Vote.av q) (Vote.av q) = [] := touch_closed (Vote.av_closed q)
@[simp] theorem Vote.av_touchR {m : Nat → Option Loc} (q : Vote) : touchR m (Vote.av q) (Vote.av q) = [] := touchR_closed (Vote.av_closed q)
@[simp] theorem Vote.av_stamped {U : Nat → Prop} (q : Vote) : Stamped U (Vote.av q) = True := Stamped_closed (Vote.av_closed q)
@[simp] theorem Vote.av_tup (q : Vote) : (Vote.av q).isTup = false := isTup_closed (Vote.av_closed q)
@[simp] theorem Vote.av_ref (q : Vote) : refOf (Vote.av q) = none := refOf_closed (Vote.av_closed q)
@[simp] theorem Vote.av_put (q : Vote) (x : AV) : putAt true 41 x (Vote.av q) 0 = some x := by simp [Vote.av]
def Votes (l : List Vote) : List AV := l.map Vote.av
@[simp] theorem Votes_length (l : List Vote) : (Votes l).length = l.length := by simp [Votes]
@[simp] theorem Votes_closed (l : List Vote) : closeds (Votes l) = true := by simp [Votes, closeds_all]
@[simp] theorem Votes_get (n : Nat) (l : List Vote) : (Votes l)[n]? = (l[n]?).map Vote.av := by simp [Votes]
@[simp] theorem Votes_getElem (n : Nat) (l : List Vote) (h : n < (Votes l).length) : (Votes l)[n] = Vote.av (l[n]'(by simpa [Votes] using h)) := by simp [Votes]
@[simp] theorem Votes_append (a b : List Vote) : Votes a ++ Votes b = Votes (a ++ b) := by simp [Votes]
@[simp] theorem Votes_drop (n : Nat) (a : List Vote) : (Votes a).drop n = Votes (a.drop n) := by simp [Votes]
@[simp] theorem Votes_take (n : Nat) (a : List Vote) : (Votes a).take n = Votes (a.take n) := by simp [Votes]
@[simp] theorem Votes_nil : Votes [] = [] := (rfl)
def Plan.av (p : Plan) : AV := .node [.v (.int .i64 p.epoch), .v (.int .i64 p.height), .v (.int .i64 p.round), .v (.int .i64 p.valid), p.blk.avS, .v (.int .i64 p.src), p.sig.avS]
@[simp] theorem Plan.av_closed (q : Plan) : closed (Plan.av q) = true := by simp [Plan.av]
@[simp] theorem Plan.av_solid (q : Plan) : (Plan.av q).solid = true := by simp [Plan.av]
@[simp] theorem Plan.av_agg (q : Plan) : (Plan.av q).isAgg = true := by simp [Plan.av]
@[simp] theorem Plan.av_size (q : Plan) : (Plan.av q).size = 108 := by simp [Plan.av]
@[simp] theorem Plan.av_sub (q : Plan) : sub true 108 (Plan.av q) 0 = some (Plan.av q) := by simp [Plan.av]
@[simp] theorem Plan.av_good {M : List (Nat × Loc)} (q : Plan) : goodA false M (Plan.av q) = true := goodA_closed (Plan.av_closed q)
@[simp] theorem Plan.av_pairs (q : Plan) : pairsA (Plan.av q) (Plan.av q) = [] := pairsA_closed (Plan.av_closed q)
@[simp] theorem Plan.av_ren {L : Names} {nb gn : Nat} (q : Plan) : renA L nb gn (Plan.av q) = Plan.av q := renA_closed (Plan.av_closed q)
@[simp] theorem Plan.av_fit {m : Nat → Option Loc} {L : Names} (q : Plan) : Fit m L (Plan.av q) (Plan.av q) = True := Fit_closed (Plan.av_closed q)
@[simp] theorem Plan.av_fitR {m : Nat → Option Loc} {L : Names} (q : Plan) : FitR m L (Plan.av q) (Plan.av q) = True := FitR_closed (Plan.av_closed q)
@[simp] theorem Plan.av_touch {m : Nat → Option Loc} (q : Plan) : touch m (Plan.av q) (Plan.av q) = [] := touch_closed (Plan.av_closed q)
@[simp] theorem Plan.av_touchR {m : Nat → Option Loc} (q : Plan) : touchR m (Plan.av q) (Plan.av q) = [] := touchR_closed (Plan.av_closed q)
@[simp] theorem Plan.av_stamped {U : Nat → Prop} (q : Plan) : Stamped U (Plan.av q) = True := Stamped_closed (Plan.av_closed q)
@[simp] theorem Plan.av_tup (q : Plan) : (Plan.av q).isTup = false := isTup_closed (Plan.av_closed q)
@[simp] theorem Plan.av_ref (q : Plan) : refOf (Plan.av q) = none := refOf_closed (Plan.av_closed q)
@[simp] theorem Plan.av_put (q : Plan) (x : AV) : putAt true 108 x (Plan.av q) 0 = some x := by simp [Plan.av]
def Mem.av (m : Mem) : AV := .node [.v (.int .i64 m.id), .node [dv m.root, .v (.int .i64 m.height)]]
@[simp] theorem Mem.av_closed (q : Mem) : closed (Mem.av q) = true := by simp [Mem.av]
@[simp] theorem Mem.av_solid (q : Mem) : (Mem.av q).solid = true := by simp [Mem.av]
@[simp] theorem Mem.av_agg (q : Mem) : (Mem.av q).isAgg = true := by simp [Mem.av]
@[simp] theorem Mem.av_size (q : Mem) : (Mem.av q).size = 34 := by simp [Mem.av]
@[simp] theorem Mem.av_sub (q : Mem) : sub true 34 (Mem.av q) 0 = some (Mem.av q) := by simp [Mem.av]
@[simp] theorem Mem.av_good {M : List (Nat × Loc)} (q : Mem) : goodA false M (Mem.av q) = true := goodA_closed (Mem.av_closed q)
@[simp] theorem Mem.av_pairs (q : Mem) : pairsA (Mem.av q) (Mem.av q) = [] := pairsA_closed (Mem.av_closed q)
@[simp] theorem Mem.av_ren {L : Names} {nb gn : Nat} (q : Mem) : renA L nb gn (Mem.av q) = Mem.av q := renA_closed (Mem.av_closed q)
@[simp] theorem Mem.av_fit {m : Nat → Option Loc} {L : Names} (q : Mem) : Fit m L (Mem.av q) (Mem.av q) = True := Fit_closed (Mem.av_closed q)
@[simp] theorem Mem.av_fitR {m : Nat → Option Loc} {L : Names} (q : Mem) : FitR m L (Mem.av q) (Mem.av q) = True := FitR_closed (Mem.av_closed q)
@[simp] theorem Mem.av_touch {m : Nat → Option Loc} (q : Mem) : touch m (Mem.av q) (Mem.av q) = [] := touch_closed (Mem.av_closed q)
@[simp] theorem Mem.av_touchR {m : Nat → Option Loc} (q : Mem) : touchR m (Mem.av q) (Mem.av q) = [] := touchR_closed (Mem.av_closed q)
@[simp] theorem Mem.av_stamped {U : Nat → Prop} (q : Mem) : Stamped U (Mem.av q) = True := Stamped_closed (Mem.av_closed q)
@[simp] theorem Mem.av_tup (q : Mem) : (Mem.av q).isTup = false := isTup_closed (Mem.av_closed q)
@[simp] theorem Mem.av_ref (q : Mem) : refOf (Mem.av q) = none := refOf_closed (Mem.av_closed q)
@[simp] theorem Mem.av_put (q : Mem) (x : AV) : putAt true 34 x (Mem.av q) 0 = some x := by simp [Mem.av]
def Mems (l : List Mem) : List AV := l.map Mem.av
@[simp] theorem Mems_length (l : List Mem) : (Mems l).length = l.length := by simp [Mems]
@[simp] theorem Mems_closed (l : List Mem) : closeds (Mems l) = true := by simp [Mems, closeds_all]
@[simp] theorem Mems_get (n : Nat) (l : List Mem) : (Mems l)[n]? = (l[n]?).map Mem.av := by simp [Mems]
@[simp] theorem Mems_getElem (n : Nat) (l : List Mem) (h : n < (Mems l).length) : (Mems l)[n] = Mem.av (l[n]'(by simpa [Mems] using h)) := by simp [Mems]
@[simp] theorem Mems_append (a b : List Mem) : Mems a ++ Mems b = Mems (a ++ b) := by simp [Mems]
@[simp] theorem Mems_drop (n : Nat) (a : List Mem) : (Mems a).drop n = Mems (a.drop n) := by simp [Mems]
@[simp] theorem Mems_take (n : Nat) (a : List Mem) : (Mems a).take n = Mems (a.take n) := by simp [Mems]
@[simp] theorem Mems_nil : Mems [] = [] := (rfl)
def Conf.av (c : Conf) : AV := .node [.v (.int .i64 c.epoch), .sl 34 (Mems c.ms)]
@[simp] theorem Conf.av_closed (q : Conf) : closed (Conf.av q) = true := by simp [Conf.av]
@[simp] theorem Conf.av_solid (q : Conf) : (Conf.av q).solid = true := by simp [Conf.av]
@[simp] theorem Conf.av_agg (q : Conf) : (Conf.av q).isAgg = true := by simp [Conf.av]
@[simp] theorem Conf.av_size (q : Conf) : (Conf.av q).size = 2 := by simp [Conf.av]
@[simp] theorem Conf.av_sub (q : Conf) : sub true 2 (Conf.av q) 0 = some (Conf.av q) := by simp [Conf.av]
@[simp] theorem Conf.av_good {M : List (Nat × Loc)} (q : Conf) : goodA false M (Conf.av q) = true := goodA_closed (Conf.av_closed q)
@[simp] theorem Conf.av_pairs (q : Conf) : pairsA (Conf.av q) (Conf.av q) = [] := pairsA_closed (Conf.av_closed q)
@[simp] theorem Conf.av_ren {L : Names} {nb gn : Nat} (q : Conf) : renA L nb gn (Conf.av q) = Conf.av q := renA_closed (Conf.av_closed q)
@[simp] theorem Conf.av_fit {m : Nat → Option Loc} {L : Names} (q : Conf) : Fit m L (Conf.av q) (Conf.av q) = True := Fit_closed (Conf.av_closed q)
@[simp] theorem Conf.av_fitR {m : Nat → Option Loc} {L : Names} (q : Conf) : FitR m L (Conf.av q) (Conf.av q) = True := FitR_closed (Conf.av_closed q)
@[simp] theorem Conf.av_touch {m : Nat → Option Loc} (q : Conf) : touch m (Conf.av q) (Conf.av q) = [] := touch_closed (Conf.av_closed q)
@[simp] theorem Conf.av_touchR {m : Nat → Option Loc} (q : Conf) : touchR m (Conf.av q) (Conf.av q) = [] := touchR_closed (Conf.av_closed q)
@[simp] theorem Conf.av_stamped {U : Nat → Prop} (q : Conf) : Stamped U (Conf.av q) = True := Stamped_closed (Conf.av_closed q)
@[simp] theorem Conf.av_tup (q : Conf) : (Conf.av q).isTup = false := isTup_closed (Conf.av_closed q)
@[simp] theorem Conf.av_ref (q : Conf) : refOf (Conf.av q) = none := refOf_closed (Conf.av_closed q)
@[simp] theorem Conf.av_put (q : Conf) (x : AV) : putAt true 2 x (Conf.av q) 0 = some x := by simp [Conf.av]
def Cert.av (c : Cert) : AV := .node [.v (.int .i64 c.round), .sl 41 (Votes c.votes)]
@[simp] theorem Cert.av_closed (q : Cert) : closed (Cert.av q) = true := by simp [Cert.av]
@[simp] theorem Cert.av_solid (q : Cert) : (Cert.av q).solid = true := by simp [Cert.av]
@[simp] theorem Cert.av_agg (q : Cert) : (Cert.av q).isAgg = true := by simp [Cert.av]
@[simp] theorem Cert.av_size (q : Cert) : (Cert.av q).size = 2 := by simp [Cert.av]
@[simp] theorem Cert.av_sub (q : Cert) : sub true 2 (Cert.av q) 0 = some (Cert.av q) := by simp [Cert.av]
@[simp] theorem Cert.av_good {M : List (Nat × Loc)} (q : Cert) : goodA false M (Cert.av q) = true := goodA_closed (Cert.av_closed q)
@[simp] theorem Cert.av_pairs (q : Cert) : pairsA (Cert.av q) (Cert.av q) = [] := pairsA_closed (Cert.av_closed q)
@[simp] theorem Cert.av_ren {L : Names} {nb gn : Nat} (q : Cert) : renA L nb gn (Cert.av q) = Cert.av q := renA_closed (Cert.av_closed q)
@[simp] theorem Cert.av_fit {m : Nat → Option Loc} {L : Names} (q : Cert) : Fit m L (Cert.av q) (Cert.av q) = True := Fit_closed (Cert.av_closed q)
@[simp] theorem Cert.av_fitR {m : Nat → Option Loc} {L : Names} (q : Cert) : FitR m L (Cert.av q) (Cert.av q) = True := FitR_closed (Cert.av_closed q)
@[simp] theorem Cert.av_touch {m : Nat → Option Loc} (q : Cert) : touch m (Cert.av q) (Cert.av q) = [] := touch_closed (Cert.av_closed q)
@[simp] theorem Cert.av_touchR {m : Nat → Option Loc} (q : Cert) : touchR m (Cert.av q) (Cert.av q) = [] := touchR_closed (Cert.av_closed q)
@[simp] theorem Cert.av_stamped {U : Nat → Prop} (q : Cert) : Stamped U (Cert.av q) = True := Stamped_closed (Cert.av_closed q)
@[simp] theorem Cert.av_tup (q : Cert) : (Cert.av q).isTup = false := isTup_closed (Cert.av_closed q)
@[simp] theorem Cert.av_ref (q : Cert) : refOf (Cert.av q) = none := refOf_closed (Cert.av_closed q)
@[simp] theorem Cert.av_put (q : Cert) (x : AV) : putAt true 2 x (Cert.av q) 0 = some x := by simp [Cert.av]
def Lnk.av (l : Lnk) : AV := .node [l.blk.avS, l.cert.av, l.conf.av]
@[simp] theorem Lnk.av_closed (q : Lnk) : closed (Lnk.av q) = true := by simp [Lnk.av]
@[simp] theorem Lnk.av_solid (q : Lnk) : (Lnk.av q).solid = true := by simp [Lnk.av]
@[simp] theorem Lnk.av_agg (q : Lnk) : (Lnk.av q).isAgg = true := by simp [Lnk.av]
@[simp] theorem Lnk.av_size (q : Lnk) : (Lnk.av q).size = 103 := by simp [Lnk.av]
@[simp] theorem Lnk.av_sub (q : Lnk) : sub true 103 (Lnk.av q) 0 = some (Lnk.av q) := by simp [Lnk.av]
@[simp] theorem Lnk.av_good {M : List (Nat × Loc)} (q : Lnk) : goodA false M (Lnk.av q) = true := goodA_closed (Lnk.av_closed q)
@[simp] theorem Lnk.av_pairs (q : Lnk) : pairsA (Lnk.av q) (Lnk.av q) = [] := pairsA_closed (Lnk.av_closed q)
@[simp] theorem Lnk.av_ren {L : Names} {nb gn : Nat} (q : Lnk) : renA L nb gn (Lnk.av q) = Lnk.av q := renA_closed (Lnk.av_closed q)
@[simp] theorem Lnk.av_fit {m : Nat → Option Loc} {L : Names} (q : Lnk) : Fit m L (Lnk.av q) (Lnk.av q) = True := Fit_closed (Lnk.av_closed q)
@[simp] theorem Lnk.av_fitR {m : Nat → Option Loc} {L : Names} (q : Lnk) : FitR m L (Lnk.av q) (Lnk.av q) = True := FitR_closed (Lnk.av_closed q)
@[simp] theorem Lnk.av_touch {m : Nat → Option Loc} (q : Lnk) : touch m (Lnk.av q) (Lnk.av q) = [] := touch_closed (Lnk.av_closed q)
@[simp] theorem Lnk.av_touchR {m : Nat → Option Loc} (q : Lnk) : touchR m (Lnk.av q) (Lnk.av q) = [] := touchR_closed (Lnk.av_closed q)
@[simp] theorem Lnk.av_stamped {U : Nat → Prop} (q : Lnk) : Stamped U (Lnk.av q) = True := Stamped_closed (Lnk.av_closed q)
@[simp] theorem Lnk.av_tup (q : Lnk) : (Lnk.av q).isTup = false := isTup_closed (Lnk.av_closed q)
@[simp] theorem Lnk.av_ref (q : Lnk) : refOf (Lnk.av q) = none := refOf_closed (Lnk.av_closed q)
@[simp] theorem Lnk.av_put (q : Lnk) (x : AV) : putAt true 103 x (Lnk.av q) 0 = some x := by simp [Lnk.av]
def Lnks (l : List Lnk) : List AV := l.map Lnk.av
@[simp] theorem Lnks_length (l : List Lnk) : (Lnks l).length = l.length := by simp [Lnks]
@[simp] theorem Lnks_closed (l : List Lnk) : closeds (Lnks l) = true := by simp [Lnks, closeds_all]
@[simp] theorem Lnks_get (n : Nat) (l : List Lnk) : (Lnks l)[n]? = (l[n]?).map Lnk.av := by simp [Lnks]
@[simp] theorem Lnks_getElem (n : Nat) (l : List Lnk) (h : n < (Lnks l).length) : (Lnks l)[n] = Lnk.av (l[n]'(by simpa [Lnks] using h)) := by simp [Lnks]
@[simp] theorem Lnks_append (a b : List Lnk) : Lnks a ++ Lnks b = Lnks (a ++ b) := by simp [Lnks]
@[simp] theorem Lnks_drop (n : Nat) (a : List Lnk) : (Lnks a).drop n = Lnks (a.drop n) := by simp [Lnks]
@[simp] theorem Lnks_take (n : Nat) (a : List Lnk) : (Lnks a).take n = Lnks (a.take n) := by simp [Lnks]
@[simp] theorem Lnks_nil : Lnks [] = [] := (rfl)
end Go.Proofs.YtjlmpdbagmdbiaaDoor.WL

end
section
/-
  CHAPTER 02: how the digest is reckoned piece by piece.
-/
namespace Go.Proofs.YtjlmpdbagmdbiaaDoor.WL
open Go
attribute [local irreducible] comp

/-- The bytes that wait for their block's end. -/
def rem (d : Bytes) : Bytes := d.drop (64 * (d.length / 64))
theorem rem_length (d : Bytes) : (rem d).length = d.length % 64 := by
  simp only [rem, List.length_drop]
  omega
theorem hb_succ (n : Nat) (b : Bytes) : hb (n + 1) b = comp (hb n b) ((b.drop (64 * n)).take 64) := rfl
/-- More bytes, not up to a block's end. -/
theorem hb_more (d x : Bytes) (h : (rem d).length + x.length < 64) : (d ++ x).length / 64 = d.length / 64 ∧ rem (d ++ x) = rem d ++ x ∧ hb ((d ++ x).length / 64) (d ++ x) = hb (d.length / 64) d := by
  rw [rem_length] at h
  have h1 : (d ++ x).length / 64 = d.length / 64 := by rw [List.length_append]; omega
  refine ⟨h1, ?_, ?_⟩
  · rw [rem, h1, List.drop_append_of_le_length (by omega)]
    rfl
  · rw [h1]
    exact hb_append _ _ _ (by omega)
/-- Just to a block's end. -/
theorem hb_full (d x : Bytes) (h : (rem d).length + x.length = 64) : (d ++ x).length / 64 = d.length / 64 + 1 ∧ rem (d ++ x) = [] ∧ hb ((d ++ x).length / 64) (d ++ x) = comp (hb (d.length / 64) d) (rem d ++ x) := by
  have h0 := h
  rw [rem_length] at h
  have hx : 0 < x.length := by omega
  have h1 : (d ++ x).length / 64 = d.length / 64 + 1 := by rw [List.length_append]; omega
  refine ⟨h1, ?_, ?_⟩
  · rw [rem, h1, List.drop_of_length_le (by rw [List.length_append]; omega)]
  · rw [h1, hb_succ, hb_append _ _ _ (by omega), List.drop_append_of_le_length (by omega)]
    congr 1
    show (rem d ++ x).take 64 = _
    exact List.take_of_length_le (by rw [List.length_append]; omega)
theorem fill_small (n : Nat) (h : n % 64 < 56) : fillN n = 55 - n % 64 := by unfold fillN; omega
theorem fill_great (n : Nat) (h : 56 ≤ n % 64) : fillN n = 119 - n % 64 := by unfold fillN; omega
/-- The end, in one block. -/
theorem sha_small (d : Bytes) (h : d.length % 64 < 56) : (sha d).bs = (comp (hb (d.length / 64) d) (rem d ++ 128 :: (zeros (55 - d.length % 64) ++ be8 (8 * d.length : Nat)))).bytes := by
  show (hb ((pad d).length / 64) (pad d)).bytes = _
  have hl := rem_length d
  have e : pad d = d ++ (128 :: (zeros (55 - d.length % 64) ++ be8 (8 * d.length : Nat))) := by rw [pad, fill_small _ h]
  obtain ⟨_, _, h3⟩ := hb_full d (128 :: (zeros (55 - d.length % 64) ++ be8 (8 * d.length : Nat))) (by simp only [List.length_cons, List.length_append, zeros_length, be8_length]; omega)
  rw [e, h3]
/-- The end, in two blocks. -/
theorem sha_great (d : Bytes) (h : 56 ≤ d.length % 64) : (sha d).bs = (comp (comp (hb (d.length / 64) d) (rem d ++ 128 :: zeros (63 - d.length % 64))) (zeros 56 ++ be8 (8 * d.length : Nat))).bytes := by
  show (hb ((pad d).length / 64) (pad d)).bytes = _
  have hl := rem_length d
  have hlt : d.length % 64 < 64 := Nat.mod_lt _ (by decide)
  have e : pad d = (d ++ 128 :: zeros (63 - d.length % 64)) ++ (zeros 56 ++ be8 (8 * d.length : Nat)) := by
    rw [pad, fill_great _ h, show 119 - d.length % 64 = (63 - d.length % 64) + 56 by omega]
    simp only [zeros, ← List.replicate_append_replicate, List.append_assoc, List.cons_append]
  obtain ⟨h1, h2, h3⟩ := hb_full d (128 :: zeros (63 - d.length % 64)) (by simp only [List.length_cons, zeros_length]; omega)
  obtain ⟨_, _, k3⟩ := hb_full (d ++ 128 :: zeros (63 - d.length % 64)) (zeros 56 ++ be8 (8 * d.length : Nat)) (by rw [h2]; simp)
  rw [e, k3, h2, h3, List.nil_append]
end Go.Proofs.YtjlmpdbagmdbiaaDoor.WL

end
section
/-
  CHAPTER 20: mails, without any program.
-/
namespace Go.Proofs.YtjlmpdbagmdbiaaDoor.WL
open Go
attribute [local irreducible] sha
attribute [local irreducible] Rd.sig Rd.sig' Rd.blk Rd.blk' Rd.inn Rd.inn' Rd.dg Rd.dg' Rd.rep Rd.rep' Rd.req Rd.req' repR

structure Piece where
  at_ : Int
  count : Int
  tree : Dg
  data : Bytes
  path : List Dg
def Piece.zero : Piece := ⟨0, 0, Dg.zero, [], []⟩
def pieceF : Fmt Piece := mapF (seqF (inF 0 1024) fun _ => seqF (inF 0 1024) fun _ => seqF (inF 0 16) fun n => seqF dgF fun _ => seqF (repF (fun _ => dgF) n.toNat) fun _ => textF 1024)
  (fun x => ⟨x.1, x.2.1, x.2.2.2.1, x.2.2.2.2.2, x.2.2.2.2.1⟩) (fun p => (p.at_, p.count, (p.path.length : Int), p.tree, p.path, p.data))
def Piece.bytes (p : Piece) : Bytes := nums [p.at_, p.count, (p.path.length : Int)] ++ (flatD (p.tree :: p.path) ++ txt p.data)
def Piece.av (p : Piece) : AV := .node [.v (.int .i64 p.at_), .v (.int .i64 p.count), dv p.tree, .v (.string (mkS p.data)), .sl 32 (Dgs p.path)]
@[simp] theorem Piece.av_closed (q : Piece) : closed (Piece.av q) = true := by simp [Piece.av]
@[simp] theorem Piece.av_solid (q : Piece) : (Piece.av q).solid = true := by simp [Piece.av]
@[simp] theorem Piece.av_agg (q : Piece) : (Piece.av q).isAgg = true := by simp [Piece.av]
@[simp] theorem Piece.av_size (q : Piece) : (Piece.av q).size = 36 := by simp [Piece.av]
@[simp] theorem Piece.av_sub (q : Piece) : sub true 36 (Piece.av q) 0 = some (Piece.av q) := by simp [Piece.av]
@[simp] theorem Piece.av_good {M : List (Nat × Loc)} (q : Piece) : goodA false M (Piece.av q) = true := goodA_closed (Piece.av_closed q)
@[simp] theorem Piece.av_pairs (q : Piece) : pairsA (Piece.av q) (Piece.av q) = [] := pairsA_closed (Piece.av_closed q)
@[simp] theorem Piece.av_ren {L : Names} {nb gn : Nat} (q : Piece) : renA L nb gn (Piece.av q) = Piece.av q := renA_closed (Piece.av_closed q)
@[simp] theorem Piece.av_fit {m : Nat → Option Loc} {L : Names} (q : Piece) : Fit m L (Piece.av q) (Piece.av q) = True := Fit_closed (Piece.av_closed q)
@[simp] theorem Piece.av_fitR {m : Nat → Option Loc} {L : Names} (q : Piece) : FitR m L (Piece.av q) (Piece.av q) = True := FitR_closed (Piece.av_closed q)
@[simp] theorem Piece.av_touch {m : Nat → Option Loc} (q : Piece) : touch m (Piece.av q) (Piece.av q) = [] := touch_closed (Piece.av_closed q)
@[simp] theorem Piece.av_touchR {m : Nat → Option Loc} (q : Piece) : touchR m (Piece.av q) (Piece.av q) = [] := touchR_closed (Piece.av_closed q)
@[simp] theorem Piece.av_stamped {U : Nat → Prop} (q : Piece) : Stamped U (Piece.av q) = True := Stamped_closed (Piece.av_closed q)
@[simp] theorem Piece.av_tup (q : Piece) : (Piece.av q).isTup = false := isTup_closed (Piece.av_closed q)
@[simp] theorem Piece.av_ref (q : Piece) : refOf (Piece.av q) = none := refOf_closed (Piece.av_closed q)
@[simp] theorem Piece.av_put (q : Piece) (x : AV) : putAt true 36 x (Piece.av q) 0 = some x := by simp [Piece.av]
def Pcs (l : List Piece) : List AV := l.map Piece.av
@[simp] theorem Pcs_length (l : List Piece) : (Pcs l).length = l.length := by simp [Pcs]
@[simp] theorem Pcs_closed (l : List Piece) : closeds (Pcs l) = true := by simp [Pcs, closeds_all]
@[simp] theorem Pcs_get (n : Nat) (l : List Piece) : (Pcs l)[n]? = (l[n]?).map Piece.av := by simp [Pcs]
@[simp] theorem Pcs_getElem (n : Nat) (l : List Piece) (h : n < (Pcs l).length) : (Pcs l)[n] = Piece.av (l[n]'(by simpa [Pcs] using h)) := by simp [Pcs]
@[simp] theorem Pcs_append (a b : List Piece) : Pcs a ++ Pcs b = Pcs (a ++ b) := by simp [Pcs]
@[simp] theorem Pcs_drop (n : Nat) (a : List Piece) : (Pcs a).drop n = Pcs (a.drop n) := by simp [Pcs]
@[simp] theorem Pcs_take (n : Nat) (a : List Piece) : (Pcs a).take n = Pcs (a.take n) := by simp [Pcs]
@[simp] theorem Pcs_nil : Pcs [] = [] := (rfl)
structure Mail where
  kind : Int
  plan : Plan
  vote : Vote
  req : Req
  rep : Rep
  height : Int
  blk : Blk
  cert : Cert
  links : List Lnk
  pieces : List Piece
def Mail.zero : Mail := ⟨0, Plan.zero, Vote.zero, Req.zero, Rep.zero, 0, Blk.zero, Cert.zero, [], []⟩
def Mail.av (m : Mail) : AV := .node [.v (.int .i64 m.kind), m.plan.av, m.vote.av, m.req.av, m.rep.avS, .v (.int .i64 m.height), m.blk.avS, m.cert.av, .sl 103 (Lnks m.links), .sl 36 (Pcs m.pieces)]
@[simp] theorem Mail.av_closed (q : Mail) : closed (Mail.av q) = true := by simp [Mail.av]
@[simp] theorem Mail.av_solid (q : Mail) : (Mail.av q).solid = true := by simp [Mail.av]
@[simp] theorem Mail.av_agg (q : Mail) : (Mail.av q).isAgg = true := by simp [Mail.av]
@[simp] theorem Mail.av_size (q : Mail) : (Mail.av q).size = 300 := by simp [Mail.av]
@[simp] theorem Mail.av_sub (q : Mail) : sub true 300 (Mail.av q) 0 = some (Mail.av q) := by simp [Mail.av]
@[simp] theorem Mail.av_good {M : List (Nat × Loc)} (q : Mail) : goodA false M (Mail.av q) = true := goodA_closed (Mail.av_closed q)
@[simp] theorem Mail.av_pairs (q : Mail) : pairsA (Mail.av q) (Mail.av q) = [] := pairsA_closed (Mail.av_closed q)
@[simp] theorem Mail.av_ren {L : Names} {nb gn : Nat} (q : Mail) : renA L nb gn (Mail.av q) = Mail.av q := renA_closed (Mail.av_closed q)
@[simp] theorem Mail.av_fit {m : Nat → Option Loc} {L : Names} (q : Mail) : Fit m L (Mail.av q) (Mail.av q) = True := Fit_closed (Mail.av_closed q)
@[simp] theorem Mail.av_fitR {m : Nat → Option Loc} {L : Names} (q : Mail) : FitR m L (Mail.av q) (Mail.av q) = True := FitR_closed (Mail.av_closed q)
@[simp] theorem Mail.av_touch {m : Nat → Option Loc} (q : Mail) : touch m (Mail.av q) (Mail.av q) = [] := touch_closed (Mail.av_closed q)
@[simp] theorem Mail.av_touchR {m : Nat → Option Loc} (q : Mail) : touchR m (Mail.av q) (Mail.av q) = [] := touchR_closed (Mail.av_closed q)
@[simp] theorem Mail.av_stamped {U : Nat → Prop} (q : Mail) : Stamped U (Mail.av q) = True := Stamped_closed (Mail.av_closed q)
@[simp] theorem Mail.av_tup (q : Mail) : (Mail.av q).isTup = false := isTup_closed (Mail.av_closed q)
@[simp] theorem Mail.av_ref (q : Mail) : refOf (Mail.av q) = none := refOf_closed (Mail.av_closed q)
@[simp] theorem Mail.av_put (q : Mail) (x : AV) : putAt true 300 x (Mail.av q) 0 = some x := by simp [Mail.av]

def linksF : Fmt (List Lnk) := cntF 0 1024 (fun _ => linkF)
def piecesF : Fmt (List Piece) := cntF 0 1024 (fun _ => pieceF)
def Mail.body (m : Mail) : Bytes :=
  if m.kind = 1 then planF.wr m.plan else if m.kind = 2 then voteF.wr m.vote else if m.kind = 3 then m.req.bytes else if m.kind = 4 then be8 m.height ++ m.rep.bytes else if m.kind = 5 then m.blk.bytes ++ m.cert.bytes
  else if m.kind = 6 then be8 m.height else if m.kind = 8 then linksF.wr m.links else if m.kind = 9 then m.blk.bytes ++ m.cert.bytes ++ piecesF.wr m.pieces else []
/-- Whether it can be written. -/
def Mail.ok (m : Mail) : Bool :=
  if m.kind = 1 then m.plan.sig.ok else if m.kind = 2 then m.vote.sig.ok else if m.kind = 5 then m.cert.ok else if m.kind = 8 then m.links.all (fun l => l.cert.ok) else if m.kind = 9 then m.cert.ok else true
def Mail.bytes (m : Mail) : Bytes := be8 m.kind ++ m.body
end Go.Proofs.YtjlmpdbagmdbiaaDoor.WL

end
section
/-
  CHAPTER 05: arguments that come in.
-/
namespace Go.Proofs.YtjlmpdbagmdbiaaDoor.WL
open Go

abbrev Ty.dgs : Ty := .sl 32 32 Ty.dg
abbrev Ty.sig : Ty := .st [.int .i64, .st [Ty.dgs, Ty.dgs], Ty.dgs]
theorem ty_sig {a : AV} (h : TyOk Ty.sig a) : ∃ s : Sig, a = s.avS ∧ W64 s.leaf := by
  obtain ⟨a1, a2, a3, rfl, h1, h2, h3⟩ := ty_st3 h
  obtain ⟨n1, rfl, w1⟩ := ty_int h1
  obtain ⟨b1, b2, rfl, g1, g2⟩ := ty_st2 h2
  obtain ⟨o, rfl, _⟩ := ty_dgs g1
  obtain ⟨s, rfl, _⟩ := ty_dgs g2
  obtain ⟨p, rfl, _⟩ := ty_dgs h3
  exact ⟨⟨n1, o, s, p⟩, rfl, w1⟩
structure KeyD where
  root : Dg
  height : Int
def KeyD.av (k : KeyD) : AV := .node [dv k.root, .v (.int .i64 k.height)]
abbrev Ty.key : Ty := .st [Ty.dg, .int .i64]
end Go.Proofs.YtjlmpdbagmdbiaaDoor.WL

end
section
/-
  CHAPTER 09: arguments that come in.
-/
namespace Go.Proofs.YtjlmpdbagmdbiaaDoor.WL
open Go

abbrev Ty.chg : Ty := .st [.int .i64, .int .i64, .int .i64, .st [Ty.dg, .int .i64]]
abbrev Ty.req : Ty := .st [.int .i64, .int .i64, .st [.int .i64, .str, .str, .str, Ty.chg]]
theorem ty_chg {a : AV} (h : TyOk Ty.chg a) : ∃ c : Chg, a = c.av ∧ W64 c.kind ∧ W64 c.id ∧ W64 c.new ∧ W64 c.height := by
  obtain ⟨a1, a2, a3, a4, rfl, h1, h2, h3, h4⟩ := ty_st4 h
  obtain ⟨n1, rfl, w1⟩ := ty_int h1
  obtain ⟨n2, rfl, w2⟩ := ty_int h2
  obtain ⟨n3, rfl, w3⟩ := ty_int h3
  obtain ⟨b1, b2, rfl, g1, g2⟩ := ty_st2 h4
  obtain ⟨d, rfl⟩ := ty_dg g1
  obtain ⟨n4, rfl, w4⟩ := ty_int g2
  exact ⟨⟨n1, n2, n3, d, n4⟩, rfl, w1, w2, w3, w4⟩
/-- What is known of a request that comes in. -/
structure Req.In (q : Req) : Prop where
  client : W64 q.client
  num : W64 q.num
  kind : W64 q.kind
  ckind : W64 q.ch.kind
  cid : W64 q.ch.id
  cnew : W64 q.ch.new
  cheight : W64 q.ch.height
  key : q.key.length ≤ reachBytes
  val : q.val.length ≤ reachBytes
  old : q.old.length ≤ reachBytes
theorem ty_req {a : AV} (h : TyOk Ty.req a) : ∃ q : Req, a = q.av ∧ q.In := by
  obtain ⟨a1, a2, a3, rfl, h1, h2, h3⟩ := ty_st3 h
  obtain ⟨n1, rfl, w1⟩ := ty_int h1
  obtain ⟨n2, rfl, w2⟩ := ty_int h2
  obtain ⟨b1, b2, b3, b4, b5, rfl, g1, g2, g3, g4, g5⟩ := ty_st5 h3
  obtain ⟨n3, rfl, w3⟩ := ty_int g1
  obtain ⟨s1, rfl, l1⟩ := ty_str g2
  obtain ⟨s2, rfl, l2⟩ := ty_str g3
  obtain ⟨s3, rfl, l3⟩ := ty_str g4
  obtain ⟨c, rfl, x1, x2, x3, x4⟩ := ty_chg g5
  exact ⟨⟨n1, n2, n3, s1, s2, s3, c⟩, rfl, w1, w2, w3, x1, x2, x3, x4, l1, l2, l3⟩
abbrev Ty.rep : Ty := .st [.int .i64, .int .i64, .int .i64, .sl 1 16 .str]
end Go.Proofs.YtjlmpdbagmdbiaaDoor.WL

end
section
/-
  CHAPTER 12: arguments that come in.
-/
namespace Go.Proofs.YtjlmpdbagmdbiaaDoor.WL
open Go

abbrev Ty.blk : Ty := .st [.int .i64, .int .i64, Ty.dg, Ty.dg, Ty.dg, .sl 42 136 Ty.req]
theorem ty_reqs {a : AV} (h : TyOk (.sl 42 136 Ty.req) a) : ∃ qs : List Req, a = .sl 42 (Reqs qs) ∧ qs.length * 136 ≤ reachBytes ∧ ∀ q ∈ qs, q.In := by
  obtain ⟨xs, rfl, ⟨_, h1⟩, h2⟩ := h
  obtain ⟨ns, rfl, h3⟩ := map_of_all (f := Req.av) (p := fun q => q.In) fun x hx => ty_req (h2 x hx)
  exact ⟨ns, rfl, by simpa using h1, h3⟩
/-- What is known of a block that comes in. -/
structure Blk.In (b : Blk) : Prop where
  epoch : W64 b.epoch
  height : W64 b.height
  len : b.qs.length * 136 ≤ reachBytes
  qs : ∀ q ∈ b.qs, q.In
theorem ty_blk {a : AV} (h : TyOk Ty.blk a) : ∃ b : Blk, a = b.avS ∧ b.In := by
  obtain ⟨a1, a2, a3, a4, a5, a6, rfl, h1, h2, h3, h4, h5, h6⟩ := ty_st6 h
  obtain ⟨n1, rfl, w1⟩ := ty_int h1
  obtain ⟨n2, rfl, w2⟩ := ty_int h2
  obtain ⟨d1, rfl⟩ := ty_dg h3
  obtain ⟨d2, rfl⟩ := ty_dg h4
  obtain ⟨d3, rfl⟩ := ty_dg h5
  obtain ⟨qs, rfl, l, hq⟩ := ty_reqs h6
  exact ⟨⟨n1, n2, d1, d2, d3, qs⟩, rfl, w1, w2, l, hq⟩
theorem Blk.In.texts {b : Blk} (h : b.In) : ∀ q ∈ b.qs, q.key.length ≤ reachBytes ∧ q.val.length ≤ reachBytes ∧ q.old.length ≤ reachBytes :=
  fun q hq => ⟨(h.qs q hq).key, (h.qs q hq).val, (h.qs q hq).old⟩
end Go.Proofs.YtjlmpdbagmdbiaaDoor.WL

end
section
/-
  CHAPTERS 13, 08, 14, 15, 20: arguments that come in.
-/
namespace Go.Proofs.YtjlmpdbagmdbiaaDoor.WL
open Go

theorem ty_list {α : Type} {e : Ty} {sz bytes : Nat} {f : α → AV} {p : α → Prop} (he : ∀ a, TyOk e a → ∃ x, a = f x ∧ p x) {a : AV} (h : TyOk (.sl sz bytes e) a) : ∃ xs : List α, a = .sl sz (xs.map f) ∧ xs.length * bytes ≤ reachBytes ∧ ∀ x ∈ xs, p x := by
  obtain ⟨xs, rfl, ⟨_, h1⟩, h2⟩ := ty_sl h
  obtain ⟨ns, rfl, h3⟩ := map_of_all (f := f) (p := p) fun x hx => he x (h2 x hx)
  exact ⟨ns, rfl, by simpa using h1, h3⟩

abbrev Ty.vote : Ty := .st [.int .i64, .int .i64, .int .i64, .int .i64, Ty.dg, .int .i64, Ty.sig]
structure Vote.In (v : Vote) : Prop where
  kind : W64 v.kind
  epoch : W64 v.epoch
  height : W64 v.height
  round : W64 v.round
  src : W64 v.src
  leaf : W64 v.sig.leaf
theorem ty_vote {a : AV} (h : TyOk Ty.vote a) : ∃ v : Vote, a = v.av ∧ v.In := by
  obtain ⟨a1, a2, a3, a4, a5, a6, a7, rfl, h1, h2, h3, h4, h5, h6, h7⟩ := ty_st7 h
  obtain ⟨n1, rfl, w1⟩ := ty_int h1
  obtain ⟨n2, rfl, w2⟩ := ty_int h2
  obtain ⟨n3, rfl, w3⟩ := ty_int h3
  obtain ⟨n4, rfl, w4⟩ := ty_int h4
  obtain ⟨d, rfl⟩ := ty_dg h5
  obtain ⟨n6, rfl, w6⟩ := ty_int h6
  obtain ⟨s, rfl, w7⟩ := ty_sig h7
  exact ⟨⟨n1, n2, n3, n4, d, n6, s⟩, rfl, w1, w2, w3, w4, w6, w7⟩
abbrev Ty.plan : Ty := .st [.int .i64, .int .i64, .int .i64, .int .i64, Ty.blk, .int .i64, Ty.sig]
structure Plan.In (p : Plan) : Prop where
  epoch : W64 p.epoch
  height : W64 p.height
  round : W64 p.round
  valid : W64 p.valid
  blk : p.blk.In
  src : W64 p.src
  leaf : W64 p.sig.leaf
abbrev Ty.mem : Ty := .st [.int .i64, .st [Ty.dg, .int .i64]]
def Mem.In (m : Mem) : Prop := W64 m.id ∧ W64 m.height
theorem ty_mem {a : AV} (h : TyOk Ty.mem a) : ∃ m : Mem, a = m.av ∧ m.In := by
  obtain ⟨a1, a2, rfl, h1, h2⟩ := ty_st2 h
  obtain ⟨n, rfl, w1⟩ := ty_int h1
  obtain ⟨b1, b2, rfl, g1, g2⟩ := ty_st2 h2
  obtain ⟨d, rfl⟩ := ty_dg g1
  obtain ⟨k, rfl, w2⟩ := ty_int g2
  exact ⟨⟨n, d, k⟩, rfl, w1, w2⟩
abbrev Ty.conf : Ty := .st [.int .i64, .sl 34 48 Ty.mem]
structure Conf.In (c : Conf) : Prop where
  epoch : W64 c.epoch
  len : c.ms.length * 48 ≤ reachBytes
  ms : ∀ m ∈ c.ms, m.In
theorem ty_conf {a : AV} (h : TyOk Ty.conf a) : ∃ c : Conf, a = c.av ∧ c.In := by
  obtain ⟨a1, a2, rfl, h1, h2⟩ := ty_st2 h
  obtain ⟨n, rfl, w1⟩ := ty_int h1
  obtain ⟨ms, rfl, l, hm⟩ := ty_list (fun _ => ty_mem) h2
  exact ⟨⟨n, ms⟩, rfl, w1, l, hm⟩
abbrev Ty.cert : Ty := .st [.int .i64, .sl 41 152 Ty.vote]
structure Cert.In (c : Cert) : Prop where
  round : W64 c.round
  len : c.votes.length * 152 ≤ reachBytes
  votes : ∀ v ∈ c.votes, v.In
theorem ty_cert {a : AV} (h : TyOk Ty.cert a) : ∃ c : Cert, a = c.av ∧ c.In := by
  obtain ⟨a1, a2, rfl, h1, h2⟩ := ty_st2 h
  obtain ⟨n, rfl, w1⟩ := ty_int h1
  obtain ⟨vs, rfl, l, hm⟩ := ty_list (fun _ => ty_vote) h2
  exact ⟨⟨n, vs⟩, rfl, w1, l, hm⟩
abbrev Ty.link : Ty := .st [Ty.blk, Ty.cert, Ty.conf]
structure Lnk.In (l : Lnk) : Prop where
  blk : l.blk.In
  cert : l.cert.In
  conf : l.conf.In
theorem ty_link {a : AV} (h : TyOk Ty.link a) : ∃ l : Lnk, a = l.av ∧ l.In := by
  obtain ⟨a1, a2, a3, rfl, h1, h2, h3⟩ := ty_st3 h
  obtain ⟨b, rfl, w1⟩ := ty_blk h1
  obtain ⟨c, rfl, w2⟩ := ty_cert h2
  obtain ⟨d, rfl, w3⟩ := ty_conf h3
  exact ⟨⟨b, c, d⟩, rfl, w1, w2, w3⟩
theorem ty_links {a : AV} (h : TyOk (.sl 103 200 Ty.link) a) : ∃ ls : List Lnk, a = .sl 103 (Lnks ls) ∧ ls.length * 200 ≤ reachBytes ∧ ∀ l ∈ ls, l.In := ty_list (fun _ => ty_link) h
abbrev Ty.piece : Ty := .st [.int .i64, .int .i64, Ty.dg, .str, Ty.dgs]
structure Piece.In (p : Piece) : Prop where
  at_ : W64 p.at_
  count : W64 p.count
  data : p.data.length ≤ reachBytes
  path : p.path.length ≤ reachBytes
structure Mail.In (m : Mail) : Prop where
  kind : W64 m.kind
  plan : m.plan.In
  vote : m.vote.In
  req : m.req.In
  rep : (W64 m.rep.client ∧ W64 m.rep.num ∧ W64 m.rep.code) ∧ ∀ v ∈ m.rep.vals, v.length ≤ reachBytes
  height : W64 m.height
  blk : m.blk.In
  cert : m.cert.In
  linksn : m.links.length * 200 ≤ reachBytes
  links : ∀ l ∈ m.links, l.In
  piecesn : m.pieces.length * 88 ≤ reachBytes
  pieces : ∀ p ∈ m.pieces, p.In
end Go.Proofs.YtjlmpdbagmdbiaaDoor.WL

end
