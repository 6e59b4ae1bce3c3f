/- Texts put together: Ba, M01, P01, M09, P01b, F01, P09, M12, P12, Bb, M02, M03, M04, M05, Bf, F13, F20, P02, P03, P05, T05, T09, T12, T13. -/
import Derived.Test.YtglkfbhjimnboaaWm4
import Derived.Laws.BitsLemmas
import Derived.Laws.Strings
section
/-
  DATA: bytes, texts, numbers, digests as abstract values, and what the machine's operations do to them.
-/
namespace Go.Proofs.Ytglkfbhjimnboaa.WL
open Go

theorem meets_of_go {P : Program} {G : Nat → Option AV} {f : Nat} {x : CCode} {rs : List CRes} {args : List AV} {M : List (Nat × Loc)} {keep : Bool} {res : AV} {M' : List (Nat × Loc)} (hmix : P.follows .mixedOrders = true) (hc : chkFn P f x rs args.length = true)
    (hg : goodM keep M' M' = true ∧ goodA keep M' res = true ∧ (M'.map (·.1)).Nodup) (h : go P G (postA rs res M') x [] ⟨argsL 0 args, M, 2⟩) : Meets P G f args M keep res M' := meets_of_awp hmix hc hg h

/-! Numbers. -/
attribute [simp] IntKind.bits Nat.mod_one
theorem w64_id {n : Int} (h : -9223372036854775808 ≤ n ∧ n < 9223372036854775808) : IntKind.i64.wrap n = n := by rw [IntKind.wrap_i64]; omega
theorem w64_succ {j : Nat} (h : j < 4611686018427387904) : IntKind.i64.wrap ((j : Int) + 1) = ((j + 1 : Nat) : Int) := by rw [IntKind.wrap_i64]; omega
theorem w64_add {a b : Nat} (h : a + b < 4611686018427387904) : IntKind.i64.wrap ((a : Int) + (b : Int)) = ((a + b : Nat) : Int) := by rw [IntKind.wrap_i64]; omega
theorem w64_range (n : Int) : -9223372036854775808 ≤ IntKind.i64.wrap n ∧ IntKind.i64.wrap n < 9223372036854775808 := by rw [IntKind.wrap_i64]; omega
theorem u64_id {n : Int} (h : 0 ≤ n ∧ n < 18446744073709551616) : IntKind.u64.wrap n = n := by simp [IntKind.wrap, IntKind.bits, IntKind.signed]; omega
theorem u64_mod (n : Int) : IntKind.u64.wrap n = n % 18446744073709551616 := by simp [IntKind.wrap, IntKind.bits, IntKind.signed]
theorem u32_mod (n : Int) : IntKind.u32.wrap n = n % 4294967296 := by simp [IntKind.wrap, IntKind.bits, IntKind.signed]
theorem u8_mod (n : Int) : IntKind.u8.wrap n = n % 256 := by simp [IntKind.wrap, IntKind.bits, IntKind.signed]
theorem i64_wf {n : Int} (h : (Lit.int .i64 n).wf = true) : -9223372036854775808 ≤ n ∧ n < 9223372036854775808 := by
  simp only [Lit.wf, Bool.and_eq_true, decide_eq_true_eq] at h
  have h1 : IntKind.min .i64 = -9223372036854775808 := by decide
  have h2 : IntKind.max .i64 = 9223372036854775807 := by decide
  omega
theorem u8_wf {n : Int} (h : (Lit.int .u8 n).wf = true) : 0 ≤ n ∧ n < 256 := by
  simp only [Lit.wf, Bool.and_eq_true, decide_eq_true_eq] at h
  have h1 : IntKind.min .u8 = 0 := by decide
  have h2 : IntKind.max .u8 = 255 := by decide
  omega

@[simp] theorem fdiv_lit (a : Int) (n : Nat) : a.fdiv (no_index (OfNat.ofNat n)) = a / (OfNat.ofNat n) := Int.fdiv_eq_ediv_of_nonneg _ (Int.natCast_nonneg n)

theorem le_max {n : Nat} (h : n ≤ 100000000000) : n ≤ maxLen := by unfold maxLen; omega
@[simp] theorem le_max8 : 8 ≤ maxLen := by decide
@[simp] theorem le_max32 : 32 ≤ maxLen := by decide
@[simp] theorem le_max64 : 64 ≤ maxLen := by decide

@[simp] theorem step_convM (m : Nat → Option Loc) (g d l g' n : Nat) : step .convM [.row l 1 g' 0 n] m g d = (match m l with
    | some (.rows g'' 1 xs) => if g'' = g' ∧ n = xs.length ∧ 0 < n then some (.sl 1 xs, [(l, none)]) else none
    | _ => none) := (rfl)
/-! Bytes. -/
abbrev Bytes := List UInt8
abbrev bv (b : UInt8) : AV := .v (.int .u8 (b.toNat : Int))
/-- The byte that a number ends in. -/
def u8 (n : Int) : UInt8 := UInt8.ofNat (n % 256).toNat
theorem bv_u8 (n : Int) : AV.v (.int .u8 (IntKind.u8.wrap n)) = bv (u8 n) := by
  unfold bv u8
  rw [u8_mod]
  have h : ((UInt8.ofNat (n % 256).toNat).toNat : Int) = n % 256 := by
    rw [UInt8.toNat_ofNat']
    omega
  rw [h]
theorem bv_mod (n : Int) : AV.v (.int .u8 (n % 256)) = bv (u8 n) := by rw [← u8_mod]; exact bv_u8 n
theorem bv_lit (n : Int) (h : 0 ≤ n ∧ n < 256) : AV.v (.int .u8 n) = bv (u8 n) := by
  rw [← bv_u8, u8_mod, Int.emod_eq_of_lt h.1 h.2]
theorem u8_toNat (n : Int) : ((u8 n).toNat : Int) = n % 256 := by
  unfold u8
  rw [UInt8.toNat_ofNat']
  omega
theorem u8_of (b : UInt8) : u8 (b.toNat : Int) = b := by
  have := b.toNat_lt
  unfold u8
  rw [show ((b.toNat : Int) % 256).toNat = b.toNat by omega]
  exact UInt8.ofNat_toNat
@[simp] theorem bv_closed (b : UInt8) : closed (bv b) = true := rfl
@[simp] theorem bv_plain (b : UInt8) : plain (bv b) = true := rfl
@[simp] theorem bv_solid (b : UInt8) : (bv b).solid = true := rfl
@[simp] theorem bv_size (b : UInt8) : (bv b).size = 1 := rfl
@[simp] theorem bv_agg (b : UInt8) : (bv b).isAgg = false := rfl

def B (bs : Bytes) : List AV := bs.map bv
@[simp] theorem B_length (bs : Bytes) : (B bs).length = bs.length := by simp [B]
@[simp] theorem B_closed (bs : Bytes) : closeds (B bs) = true := by simp [B, closeds_all]
@[simp] theorem B_plain (bs : Bytes) : plains (B bs) = true := by simp [B, plains_all]
@[simp] theorem B_append (a b : Bytes) : B a ++ B b = B (a ++ b) := by simp [B]
@[simp] theorem B_cons (b : UInt8) (s : Bytes) : bv b :: B s = B (b :: s) := (rfl)
theorem B_snoc (a : Bytes) (b : UInt8) : B a ++ [bv b] = B (a ++ [b]) := by simp [B]
@[simp] theorem B_drop (n : Nat) (a : Bytes) : (B a).drop n = B (a.drop n) := by simp [B]
@[simp] theorem B_take (n : Nat) (a : Bytes) : (B a).take n = B (a.take n) := by simp [B]
@[simp] theorem B_get (n : Nat) (a : Bytes) : (B a)[n]? = (a[n]?).map bv := by simp [B]
@[simp] theorem B_getElem (n : Nat) (a : Bytes) (h : n < (B a).length) : (B a)[n] = bv (a[n]'(by simpa using h)) := by simp [B]
@[simp] theorem B_nil : B [] = [] := rfl
theorem B_set (L : Bytes) (j : Nat) (x : UInt8) : (B L).set j (bv x) = B (L.set j x) := by simp [B, List.map_set]
theorem intsOf_bv : ∀ bs : Bytes, intsOf .u8 (B bs) = some (bs.map fun b => (b.toNat : Int))
  | [] => rfl
  | b :: bs => by
    have := intsOf_bv bs
    simp only [B, List.map_cons, bv, intsOf] at *
    rw [if_pos trivial, this]
    rfl
/-- Bytes as numbers. -/
def natsOf (bs : Bytes) : List Int := bs.map fun b => (b.toNat : Int)
@[simp] theorem B_ints (bs : Bytes) : intsOf .u8 (B bs) = some (natsOf bs) := intsOf_bv bs
def zeros (n : Nat) : Bytes := List.replicate n 0
@[simp] theorem zeros_length (n : Nat) : (zeros n).length = n := by simp [zeros]
@[simp] theorem rep_byte (n : Nat) : rep n (.v (.int .u8 0)) = B (zeros n) := by simp [rep, B, zeros]
@[simp] theorem zeros_drop (n k : Nat) : (zeros n).drop k = zeros (n - k) := by simp [zeros]
@[simp] theorem zeros_take (n k : Nat) : (zeros n).take k = zeros (min k n) := by simp [zeros]
/-- A byte laid over zeros. -/
theorem fill_zeros (g : Bytes) (n j : Nat) (hj : j < g.length) (h : g.length ≤ n) : (g.take j ++ zeros (n - j)).set j g[j] = g.take (j + 1) ++ zeros (n - (j + 1)) := by
  have e : n - j = (n - (j + 1)) + 1 := by omega
  have e2 : j - (g.take j).length = 0 := by rw [List.length_take]; omega
  have e3 : g.take (j + 1) = g.take j ++ [g[j]] := by rw [List.take_add_one, List.getElem?_eq_getElem hj]; rfl
  rw [e, List.set_append_right _ _ (by rw [List.length_take]; omega), e2, e3, List.append_assoc]
  rfl
theorem isEmpty_dec {α : Type} [DecidableEq α] (l : List α) : l.isEmpty = decide (l = []) := by cases l <;> simp
theorem splice_zeros (n : Nat) (x : Bytes) : splice (B (zeros n)) 0 (B x) = B (x ++ zeros (n - x.length)) := by simp [splice]
theorem toNats_inj {a b : Bytes} : (a.map fun b => (b.toNat : Int)) = b.map (fun b => (b.toNat : Int)) ↔ a = b := by
  constructor
  · revert b
    induction a with
    | nil => intro b h; cases b with
      | nil => rfl
      | cons y b => simp at h
    | cons x a ih => intro b h; cases b with
      | nil => simp at h
      | cons y b =>
        simp only [List.map_cons, List.cons.injEq] at h
        rw [UInt8.toNat_inj.1 (show x.toNat = y.toNat by omega), ih h.2]
  · rintro rfl; rfl
@[simp] theorem step_eqaB {m : Nat → Option Loc} {g d : Nat} (neg : Bool) (n : Nat) (a b : Bytes) (ha : a.length = n) (hb : b.length = n) : step (.eqa neg .u8 n) [.arr 1 (B a), .arr 1 (B b)] m g d = some (.v (.bool (if neg = true then !(a == b) else a == b)), []) := by
  have e : (natsOf a == natsOf b) = (a == b) := by
    rw [Bool.eq_iff_iff, beq_iff_eq, beq_iff_eq]
    exact toNats_inj
  have la : (natsOf a).length = n := by simp [natsOf, ha]
  have lb : (natsOf b).length = n := by simp [natsOf, hb]
  simp only [step, B_ints, la, lb, and_self, if_true, e]

/-! Texts. -/
def mkS (bs : Bytes) : ByteArray := ⟨bs.toArray⟩
@[simp] theorem mkS_size (bs : Bytes) : (mkS bs).size = bs.length := by simp [mkS, ByteArray.size]
theorem mkS_of (s : ByteArray) : s = mkS s.data.toList := by simp [mkS]
@[simp] theorem mkS_data (bs : Bytes) : (mkS bs).data.toList = bs := by simp [mkS]
@[simp] theorem mkS_append (a b : Bytes) : mkS a ++ mkS b = mkS (a ++ b) := by
  apply ByteArray.ext
  simp [mkS, ByteArray.data_append]
@[simp] theorem mkS_toList (a : Bytes) : (mkS a).toList = a := by rw [ByteArray.toList_eq, mkS_data]
@[simp] theorem mkS_bytes (bs : Bytes) : bytesAV (mkS bs) = B bs := by
  simp only [bytesAV, B, mkS_data]

@[simp] theorem mkS_nums (bs : Bytes) : strOfNums (natsOf bs) = mkS bs := by
  have h : ∀ b : UInt8, UInt8.ofNat (b.toNat : Int).toNat = b := fun b => by simp
  unfold strOfNums mkS natsOf
  rw [List.map_map]
  congr 2
  conv => rhs; rw [← List.map_id bs]
  exact List.map_congr_left fun b _ => h b
@[simp] theorem intsOf_nil (k : IntKind) : intsOf k [] = some [] := (rfl)
@[simp] theorem strOfNums_nil : strOfNums [] = mkS [] := (rfl)
@[simp] theorem mkS_extract (bs : Bytes) (i j : Nat) : (mkS bs).extract i j = mkS ((bs.take j).drop i) := by
  apply ByteArray.ext
  simp [mkS, ByteArray.data_extract, List.drop_take]
theorem mkS_inj {a b : Bytes} : mkS a = mkS b ↔ a = b := by
  constructor
  · intro h; have := congrArg (fun s => s.data.toList) h; simpa using this
  · rintro rfl; rfl

@[simp] theorem mkS_get (bs : Bytes) (i : Nat) : (mkS bs).data.toList[i]? = bs[i]? := by rw [mkS_data]
def sv (bs : Bytes) : AV := .v (.string (mkS bs))

/-- So long a text may be. -/
def fitsS (n : Nat) : Prop := n ≤ 9223372036854775807
instance (n : Nat) : Decidable (fitsS n) := inferInstanceAs (Decidable (_ ≤ _))
theorem fitS {n : Nat} (h : n ≤ 100000000000) : fitsS n := by unfold fitsS; omega

section
variable {m : Nat → Option Loc} {g d : Nat}
@[simp] theorem step_saddB (a b : Bytes) : step (.bin .add) [.v (.string (mkS a)), .v (.string (mkS b))] m g d = if fitsS (a.length + b.length) then some (.v (.string (mkS (a ++ b))), []) else none := by
  by_cases h : fitsS (a.length + b.length)
  · rw [if_pos h, step_sadd _ _ (by rw [mkS_size, mkS_size]; exact h), mkS_append]
  · rw [if_neg h]
    have h2 : ¬ ((mkS a).size + (mkS b).size ≤ 9223372036854775807) := by rw [mkS_size, mkS_size]; exact h
    simp only [step, binV, h2, if_false]
    rfl
@[simp] theorem step_idxSB (s : Bytes) (k : IntKind) (i : Int) (h : 0 ≤ i) : step .idxS [.v (.string (mkS s)), .v (.int k i)] m g d = (s[i.toNat]?).map fun b => (bv b, []) := by
  rw [step_idxS _ _ _ h, mkS_data]
end

/-! Lists of numbers, texts, digests. -/
def I64 (ns : List Int) : List AV := ns.map fun n => .v (.int .i64 n)
@[simp] theorem I64_length (ns : List Int) : (I64 ns).length = ns.length := by simp [I64]
@[simp] theorem I64_closed (ns : List Int) : closeds (I64 ns) = true := by simp [I64, closeds_all]
@[simp] theorem I64_plain (ns : List Int) : plains (I64 ns) = true := by simp [I64, plains_all]
@[simp] theorem I64_get (n : Nat) (a : List Int) : (I64 a)[n]? = (a[n]?).map fun n => .v (.int .i64 n) := by simp [I64]
@[simp] theorem I64_getElem (n : Nat) (a : List Int) (h : n < (I64 a).length) : (I64 a)[n] = .v (.int .i64 (a[n]'(by simpa using h))) := by simp [I64]
@[simp] theorem I64_append (a b : List Int) : I64 a ++ I64 b = I64 (a ++ b) := by simp [I64]
def Strs (ss : List Bytes) : List AV := ss.map fun s => .v (.string (mkS s))
@[simp] theorem Strs_length (ss : List Bytes) : (Strs ss).length = ss.length := by simp [Strs]
@[simp] theorem Strs_closed (ss : List Bytes) : closeds (Strs ss) = true := by simp [Strs, closeds_all]
@[simp] theorem Strs_plain (ss : List Bytes) : plains (Strs ss) = true := by simp [Strs, plains_all]
@[simp] theorem Strs_get (n : Nat) (a : List Bytes) : (Strs a)[n]? = (a[n]?).map fun s => .v (.string (mkS s)) := by simp [Strs]
@[simp] theorem Strs_getElem (n : Nat) (a : List Bytes) (h : n < (Strs a).length) : (Strs a)[n] = .v (.string (mkS (a[n]'(by simpa using h)))) := by simp [Strs]
@[simp] theorem Strs_append (a b : List Bytes) : Strs a ++ Strs b = Strs (a ++ b) := by simp [Strs]
@[simp] theorem Strs_drop (n : Nat) (a : List Bytes) : (Strs a).drop n = Strs (a.drop n) := by simp [Strs]
@[simp] theorem Strs_take (n : Nat) (a : List Bytes) : (Strs a).take n = Strs (a.take n) := by simp [Strs]
@[simp] theorem I64_drop (n : Nat) (a : List Int) : (I64 a).drop n = I64 (a.drop n) := by simp [I64]
@[simp] theorem I64_take (n : Nat) (a : List Int) : (I64 a).take n = I64 (a.take n) := by simp [I64]
@[simp] theorem Strs_nil : Strs [] = [] := (rfl)
@[simp] theorem I64_nil : I64 [] = [] := (rfl)
/-- A digest: 32 bytes. -/
structure Dg where
  bs : Bytes
  len : bs.length = 32
@[simp] theorem Dg.length (d : Dg) : d.bs.length = 32 := d.len
theorem Dg.ext' {a b : Dg} (h : a.bs = b.bs) : a = b := by
  cases a
  cases b
  simp only at h
  subst h
  rfl
instance : DecidableEq Dg := fun a b => if h : a.bs = b.bs then isTrue (Dg.ext' h) else isFalse fun e => h (congrArg Dg.bs e)
@[simp] theorem Dg.beq (a b : Dg) : (a.bs == b.bs) = decide (a = b) := by
  rw [Bool.eq_iff_iff, beq_iff_eq, decide_eq_true_eq]
  exact ⟨Dg.ext', fun h => by rw [h]⟩
@[simp] theorem Dg.take32 (d : Dg) : List.take 32 d.bs = d.bs := List.take_of_length_le (by simp)
def Dg.zero : Dg := ⟨zeros 32, by simp⟩
@[simp] theorem Dg.zero_bs : Dg.zero.bs = zeros 32 := rfl
abbrev dv (d : Dg) : AV := .arr 1 (B d.bs)
def Dgs (ds : List Dg) : List AV := ds.map dv
@[simp] theorem Dgs_length (ss : List Dg) : (Dgs ss).length = ss.length := by simp [Dgs]
@[simp] theorem Dgs_closed (ss : List Dg) : closeds (Dgs ss) = true := by simp [Dgs, closeds_all]
@[simp] theorem Dgs_plain (ss : List Dg) : plains (Dgs ss) = true := by simp [Dgs, plains_all]
@[simp] theorem Dgs_get (n : Nat) (a : List Dg) : (Dgs a)[n]? = (a[n]?).map dv := by simp [Dgs]
@[simp] theorem Dgs_getElem (n : Nat) (a : List Dg) (h : n < (Dgs a).length) : (Dgs a)[n] = dv (a[n]'(by simpa using h)) := by simp [Dgs]
@[simp] theorem Dgs_append (a b : List Dg) : Dgs a ++ Dgs b = Dgs (a ++ b) := by simp [Dgs]
@[simp] theorem Dgs_nil : Dgs [] = [] := rfl
theorem Dgs_one (d : Dg) : Dgs [d] = [dv d] := rfl
theorem Dgs_snoc (a : List Dg) (d : Dg) : Dgs a ++ [dv d] = Dgs (a ++ [d]) := by simp [Dgs]
@[simp] theorem Dgs_drop (n : Nat) (a : List Dg) : (Dgs a).drop n = Dgs (a.drop n) := by simp [Dgs]
@[simp] theorem Dgs_take (n : Nat) (a : List Dg) : (Dgs a).take n = Dgs (a.take n) := by simp [Dgs]
theorem Dgs_set (L : List Dg) (j : Nat) (x : Dg) : (Dgs L).set j (dv x) = Dgs (L.set j x) := by simp [Dgs, List.map_set]

/-! Shapes that often come. -/
theorem tys_cons {t : Ty} {ts : List Ty} {as : List AV} (h : TysOk (t :: ts) as) : ∃ a r, as = a :: r ∧ TyOk t a ∧ TysOk ts r := by
  cases as with
  | nil => simp [TysOk] at h
  | cons a r => simp only [TysOk] at h; exact ⟨a, r, rfl, h.1, h.2⟩
theorem tys_nil {as : List AV} (h : TysOk [] as) : as = [] := by
  cases as with
  | nil => rfl
  | cons a r => simp [TysOk] at h
theorem ty_st {fs : List Ty} {a : AV} (h : TyOk (.st fs) a) : ∃ as, a = .node as ∧ TysOk fs as := by simpa only [TyOk] using h
theorem ty_st1 {t1 : Ty} {a : AV} (h : TyOk (.st [t1]) a) : ∃ a1, a = .node [a1] ∧ TyOk t1 a1 := by
  obtain ⟨as, e, k0⟩ := ty_st h
  obtain ⟨a1, r1, e1, h1, k1⟩ := tys_cons k0
  have e9 := tys_nil k1
  subst e9
  subst e1
  subst e
  exact ⟨a1, rfl, h1⟩
theorem ty_st2 {t1 t2 : Ty} {a : AV} (h : TyOk (.st [t1, t2]) a) : ∃ a1 a2, a = .node [a1, a2] ∧ TyOk t1 a1 ∧ TyOk t2 a2 := by
  obtain ⟨as, e, k0⟩ := ty_st h
  obtain ⟨a1, r1, e1, h1, k1⟩ := tys_cons k0
  obtain ⟨a2, r2, e2, h2, k2⟩ := tys_cons k1
  have e9 := tys_nil k2
  subst e9
  subst e2
  subst e1
  subst e
  exact ⟨a1, a2, rfl, h1, h2⟩
theorem ty_st3 {t1 t2 t3 : Ty} {a : AV} (h : TyOk (.st [t1, t2, t3]) a) : ∃ a1 a2 a3, a = .node [a1, a2, a3] ∧ TyOk t1 a1 ∧ TyOk t2 a2 ∧ TyOk t3 a3 := by
  obtain ⟨as, e, k0⟩ := ty_st h
  obtain ⟨a1, r1, e1, h1, k1⟩ := tys_cons k0
  obtain ⟨a2, r2, e2, h2, k2⟩ := tys_cons k1
  obtain ⟨a3, r3, e3, h3, k3⟩ := tys_cons k2
  have e9 := tys_nil k3
  subst e9
  subst e3
  subst e2
  subst e1
  subst e
  exact ⟨a1, a2, a3, rfl, h1, h2, h3⟩
theorem ty_st4 {t1 t2 t3 t4 : Ty} {a : AV} (h : TyOk (.st [t1, t2, t3, t4]) a) : ∃ a1 a2 a3 a4, a = .node [a1, a2, a3, a4] ∧ TyOk t1 a1 ∧ TyOk t2 a2 ∧ TyOk t3 a3 ∧ TyOk t4 a4 := by
  obtain ⟨as, e, k0⟩ := ty_st h
  obtain ⟨a1, r1, e1, h1, k1⟩ := tys_cons k0
  obtain ⟨a2, r2, e2, h2, k2⟩ := tys_cons k1
  obtain ⟨a3, r3, e3, h3, k3⟩ := tys_cons k2
  obtain ⟨a4, r4, e4, h4, k4⟩ := tys_cons k3
  have e9 := tys_nil k4
  subst e9
  subst e4
  subst e3
  subst e2
  subst e1
  subst e
  exact ⟨a1, a2, a3, a4, rfl, h1, h2, h3, h4⟩
theorem ty_st5 {t1 t2 t3 t4 t5 : Ty} {a : AV} (h : TyOk (.st [t1, t2, t3, t4, t5]) a) : ∃ a1 a2 a3 a4 a5, a = .node [a1, a2, a3, a4, a5] ∧ TyOk t1 a1 ∧ TyOk t2 a2 ∧ TyOk t3 a3 ∧ TyOk t4 a4 ∧ TyOk t5 a5 := by
  obtain ⟨as, e, k0⟩ := ty_st h
  obtain ⟨a1, r1, e1, h1, k1⟩ := tys_cons k0
  obtain ⟨a2, r2, e2, h2, k2⟩ := tys_cons k1
  obtain ⟨a3, r3, e3, h3, k3⟩ := tys_cons k2
  obtain ⟨a4, r4, e4, h4, k4⟩ := tys_cons k3
  obtain ⟨a5, r5, e5, h5, k5⟩ := tys_cons k4
  have e9 := tys_nil k5
  subst e9
  subst e5
  subst e4
  subst e3
  subst e2
  subst e1
  subst e
  exact ⟨a1, a2, a3, a4, a5, rfl, h1, h2, h3, h4, h5⟩
theorem ty_st6 {t1 t2 t3 t4 t5 t6 : Ty} {a : AV} (h : TyOk (.st [t1, t2, t3, t4, t5, t6]) a) : ∃ a1 a2 a3 a4 a5 a6, a = .node [a1, a2, a3, a4, a5, a6] ∧ TyOk t1 a1 ∧ TyOk t2 a2 ∧ TyOk t3 a3 ∧ TyOk t4 a4 ∧ TyOk t5 a5 ∧ TyOk t6 a6 := by
  obtain ⟨as, e, k0⟩ := ty_st h
  obtain ⟨a1, r1, e1, h1, k1⟩ := tys_cons k0
  obtain ⟨a2, r2, e2, h2, k2⟩ := tys_cons k1
  obtain ⟨a3, r3, e3, h3, k3⟩ := tys_cons k2
  obtain ⟨a4, r4, e4, h4, k4⟩ := tys_cons k3
  obtain ⟨a5, r5, e5, h5, k5⟩ := tys_cons k4
  obtain ⟨a6, r6, e6, h6, k6⟩ := tys_cons k5
  have e9 := tys_nil k6
  subst e9
  subst e6
  subst e5
  subst e4
  subst e3
  subst e2
  subst e1
  subst e
  exact ⟨a1, a2, a3, a4, a5, a6, rfl, h1, h2, h3, h4, h5, h6⟩
theorem ty_st7 {t1 t2 t3 t4 t5 t6 t7 : Ty} {a : AV} (h : TyOk (.st [t1, t2, t3, t4, t5, t6, t7]) a) : ∃ a1 a2 a3 a4 a5 a6 a7, a = .node [a1, a2, a3, a4, a5, a6, a7] ∧ TyOk t1 a1 ∧ TyOk t2 a2 ∧ TyOk t3 a3 ∧ TyOk t4 a4 ∧ TyOk t5 a5 ∧ TyOk t6 a6 ∧ TyOk t7 a7 := by
  obtain ⟨as, e, k0⟩ := ty_st h
  obtain ⟨a1, r1, e1, h1, k1⟩ := tys_cons k0
  obtain ⟨a2, r2, e2, h2, k2⟩ := tys_cons k1
  obtain ⟨a3, r3, e3, h3, k3⟩ := tys_cons k2
  obtain ⟨a4, r4, e4, h4, k4⟩ := tys_cons k3
  obtain ⟨a5, r5, e5, h5, k5⟩ := tys_cons k4
  obtain ⟨a6, r6, e6, h6, k6⟩ := tys_cons k5
  obtain ⟨a7, r7, e7, h7, k7⟩ := tys_cons k6
  have e9 := tys_nil k7
  subst e9
  subst e7
  subst e6
  subst e5
  subst e4
  subst e3
  subst e2
  subst e1
  subst e
  exact ⟨a1, a2, a3, a4, a5, a6, a7, rfl, h1, h2, h3, h4, h5, h6, h7⟩
theorem ty_st8 {t1 t2 t3 t4 t5 t6 t7 t8 : Ty} {a : AV} (h : TyOk (.st [t1, t2, t3, t4, t5, t6, t7, t8]) a) : ∃ a1 a2 a3 a4 a5 a6 a7 a8, a = .node [a1, a2, a3, a4, a5, a6, a7, a8] ∧ TyOk t1 a1 ∧ TyOk t2 a2 ∧ TyOk t3 a3 ∧ TyOk t4 a4 ∧ TyOk t5 a5 ∧ TyOk t6 a6 ∧ TyOk t7 a7 ∧ TyOk t8 a8 := by
  obtain ⟨as, e, k0⟩ := ty_st h
  obtain ⟨a1, r1, e1, h1, k1⟩ := tys_cons k0
  obtain ⟨a2, r2, e2, h2, k2⟩ := tys_cons k1
  obtain ⟨a3, r3, e3, h3, k3⟩ := tys_cons k2
  obtain ⟨a4, r4, e4, h4, k4⟩ := tys_cons k3
  obtain ⟨a5, r5, e5, h5, k5⟩ := tys_cons k4
  obtain ⟨a6, r6, e6, h6, k6⟩ := tys_cons k5
  obtain ⟨a7, r7, e7, h7, k7⟩ := tys_cons k6
  obtain ⟨a8, r8, e8, h8, k8⟩ := tys_cons k7
  have e9 := tys_nil k8
  subst e9
  subst e8
  subst e7
  subst e6
  subst e5
  subst e4
  subst e3
  subst e2
  subst e1
  subst e
  exact ⟨a1, a2, a3, a4, a5, a6, a7, a8, rfl, h1, h2, h3, h4, h5, h6, h7, h8⟩
theorem ty_sl {sz bytes : Nat} {e : Ty} {a : AV} (h : TyOk (.sl sz bytes e) a) : ∃ xs, a = .sl sz xs ∧ (xs.length ≤ maxLen ∧ xs.length * bytes ≤ reachBytes) ∧ ∀ x ∈ xs, TyOk e x := by simpa only [TyOk] using h
theorem ty_bool {a : AV} (h : TyOk .bool a) : ∃ b, a = .v (.bool b) := by simpa only [TyOk] using h
abbrev Ty.bytes : Ty := .sl 1 1 (.int .u8)
abbrev Ty.dg : Ty := .arr 32 1 (.int .u8)
theorem ty_int {a : AV} (h : TyOk (.int .i64) a) : ∃ n : Int, a = .v (.int .i64 n) ∧ -9223372036854775808 ≤ n ∧ n < 9223372036854775808 := by
  obtain ⟨n, rfl, h⟩ := h
  exact ⟨n, rfl, i64_wf h⟩
theorem ty_u8 {a : AV} (h : TyOk (.int .u8) a) : ∃ b : UInt8, a = bv b := by
  obtain ⟨n, rfl, h⟩ := h
  exact ⟨u8 n, bv_lit n (u8_wf h)⟩
theorem ty_str {a : AV} (h : TyOk .str a) : ∃ s : Bytes, a = .v (.string (mkS s)) ∧ s.length ≤ reachBytes := by
  obtain ⟨s, rfl, h⟩ := h
  exact ⟨s.data.toList, by rw [← mkS_of], by rw [Array.length_toList]; exact h⟩
theorem ty_bytes {a : AV} (h : TyOk Ty.bytes a) : ∃ bs : Bytes, a = .sl 1 (B bs) ∧ bs.length ≤ reachBytes := by
  obtain ⟨xs, rfl, ⟨_, h1⟩, h2⟩ := h
  obtain ⟨bs, rfl, _⟩ := map_of_all (f := bv) (p := fun _ => True) fun x hx => by
    obtain ⟨b, e⟩ := ty_u8 (h2 x hx)
    exact ⟨b, e, trivial⟩
  exact ⟨bs, rfl, by simpa using h1⟩
theorem ty_dg {a : AV} (h : TyOk Ty.dg a) : ∃ d : Dg, a = dv d := by
  obtain ⟨xs, rfl, h1, h2⟩ := h
  obtain ⟨bs, rfl, _⟩ := map_of_all (f := bv) (p := fun _ => True) fun x hx => by
    obtain ⟨b, e⟩ := ty_u8 (h2 x hx)
    exact ⟨b, e, trivial⟩
  exact ⟨⟨bs, by simpa using h1⟩, rfl⟩
theorem ty_ints {a : AV} (h : TyOk (.sl 1 8 (.int .i64)) a) : ∃ ns : List Int, a = .sl 1 (I64 ns) ∧ ns.length * 8 ≤ reachBytes ∧ ∀ n ∈ ns, -9223372036854775808 ≤ n ∧ n < 9223372036854775808 := by
  obtain ⟨xs, rfl, ⟨_, h1⟩, h2⟩ := h
  obtain ⟨ns, rfl, h3⟩ := map_of_all (f := fun n : Int => AV.v (.int .i64 n)) (p := fun n => -9223372036854775808 ≤ n ∧ n < 9223372036854775808) fun x hx => ty_int (h2 x hx)
  exact ⟨ns, rfl, by simpa using h1, h3⟩
theorem ty_strs {a : AV} (h : TyOk (.sl 1 16 .str) a) : ∃ ss : List Bytes, a = .sl 1 (Strs ss) ∧ ss.length * 16 ≤ reachBytes ∧ ∀ s ∈ ss, s.length ≤ reachBytes := by
  obtain ⟨xs, rfl, ⟨_, h1⟩, h2⟩ := h
  obtain ⟨ns, rfl, h3⟩ := map_of_all (f := fun s : Bytes => AV.v (.string (mkS s))) (p := fun s => s.length ≤ reachBytes) fun x hx => ty_str (h2 x hx)
  exact ⟨ns, rfl, by simpa using h1, h3⟩
theorem ty_dgs {a : AV} (h : TyOk (.sl 32 32 Ty.dg) a) : ∃ ds : List Dg, a = .sl 32 (Dgs ds) ∧ ds.length * 32 ≤ reachBytes := by
  obtain ⟨xs, rfl, ⟨_, h1⟩, h2⟩ := h
  obtain ⟨ns, rfl, _⟩ := map_of_all (f := dv) (p := fun _ => True) fun x hx => by
    obtain ⟨d, e⟩ := ty_dg (h2 x hx)
    exact ⟨d, e, trivial⟩
  exact ⟨ns, rfl, by simpa using h1⟩

theorem Weak.of_eq {S S0 : SA} (h : S = S0) : Weak S S0 := h ▸ Weak.refl S
end Go.Proofs.Ytglkfbhjimnboaa.WL

end
section
/-
  CHAPTER 01: what reading and writing is, without any program.
-/
namespace Go.Proofs.Ytglkfbhjimnboaa.WL
open Go

/-- The number that bytes are, the highest first. -/
def beVal (bs : Bytes) : Nat := bs.foldl (fun v b => v * 256 + b.toNat) 0
theorem beVal_snoc (bs : Bytes) (b : UInt8) : beVal (bs ++ [b]) = beVal bs * 256 + b.toNat := by simp [beVal]
theorem beVal_fold : ∀ (bs : Bytes) (v : Nat), bs.foldl (fun v b => v * 256 + b.toNat) v < (v + 1) * 256 ^ bs.length
  | [], v => by simp
  | b :: bs, v => by
    have hb := b.toNat_lt
    have h := beVal_fold bs (v * 256 + b.toNat)
    have h2 : (v * 256 + b.toNat + 1) * 256 ^ bs.length ≤ (v + 1) * 256 * 256 ^ bs.length := Nat.mul_le_mul_right _ (by omega)
    rw [List.foldl_cons, List.length_cons, Nat.pow_succ, Nat.mul_comm (256 ^ bs.length) 256, ← Nat.mul_assoc]
    omega
theorem beVal_lt (bs : Bytes) : beVal bs < 256 ^ bs.length := by
  have := beVal_fold bs 0
  simpa [beVal] using this
theorem beVal_take_succ (l : Bytes) (j : Nat) (h : j < l.length) : beVal (l.take (j + 1)) = beVal (l.take j) * 256 + l[j].toNat := by
  rw [List.take_add_one, List.getElem?_eq_getElem h]
  exact beVal_snoc _ _

/-- A reader: what was read, what is left, whether something was wrong. -/
structure Rd where
  pre : Bytes
  s : Bytes
  bad : Bool
def Rd.fault : Rd := ⟨[], [], true⟩
def Rd.of (bs : Bytes) : Rd := ⟨[], bs, false⟩
def Rd.ok (r : Rd) (k : Int) : Bool := !r.bad && decide (0 ≤ k) && decide (k ≤ r.s.length)
/-- The next bytes, and the reader behind them. -/
def Rd.got (r : Rd) (k : Int) : Bytes := if r.ok k = true then r.s.take k.toNat else []
def Rd.skip (r : Rd) (k : Int) : Rd := if r.ok k = true then ⟨r.pre ++ r.s.take k.toNat, r.s.drop k.toNat, false⟩ else Rd.fault
def Rd.num (r : Rd) : Int := IntKind.i64.wrap (beVal (r.got 8) : Nat)
def Rd.num' (r : Rd) : Rd := r.skip 8
def Rd.inOk (r : Rd) (lo hi : Int) : Bool := !r.num'.bad && decide (lo ≤ r.num) && decide (r.num ≤ hi)
def Rd.inn (r : Rd) (lo hi : Int) : Int := if r.inOk lo hi = true then r.num else 0
def Rd.inn' (r : Rd) (lo hi : Int) : Rd := if r.inOk lo hi = true then r.num' else Rd.fault
/-- How many bytes a text has. -/
def Rd.len (r : Rd) (most : Int) : Int := if most < (beVal (r.got 4) : Int) then -1 else (beVal (r.got 4) : Int)
def Rd.text (r : Rd) (most : Int) : Bytes := (r.skip 4).got (r.len most)
def Rd.text' (r : Rd) (most : Int) : Rd := (r.skip 4).skip (r.len most)
def Rd.dg' (r : Rd) : Rd := r.skip 32
def Rd.done (r : Rd) : Bool := !r.bad && decide (r.s = [])

theorem Rd.got_len (r : Rd) (k : Nat) : (r.got k).length = 0 ∨ (r.got k).length = k := by
  unfold Rd.got Rd.ok
  split
  · rename_i h
    simp only [Bool.and_eq_true, decide_eq_true_eq] at h
    right
    rw [List.length_take]
    omega
  · left; rfl
theorem Rd.got_le (r : Rd) (k : Nat) : (r.got k).length ≤ k := by
  rcases r.got_len k with h | h <;> omega
def Rd.dg (r : Rd) : Dg := ⟨r.got 32 ++ zeros (32 - (r.got 32).length), by
  have h := r.got_le 32
  have e : ((32 : Nat) : Int) = 32 := rfl
  rw [e] at h
  simp only [List.length_append, zeros_length]
  omega⟩
theorem Rd.dg_bs (r : Rd) : r.dg.bs = r.got 32 ++ zeros (32 - (r.got 32).length) := rfl
theorem Rd.num_range (r : Rd) : -9223372036854775808 ≤ r.num ∧ r.num < 9223372036854775808 := w64_range _
theorem or_add {v c : Nat} (h : c < 256) : v * 256 ||| c = v * 256 + c := by
  have : v * 256 = v * 2 ^ 8 := rfl
  rw [this, ← Nat.shiftLeft_eq, ← Nat.shiftLeft_add_eq_or_of_lt (by omega)]
theorem bitsOp_or (k : IntKind) (a b : Nat) (ha : a < 2 ^ k.bits) (hb : b < 2 ^ k.bits) : bitsOp .or k (a : Int) (b : Int) = k.wrap ((a ||| b : Nat) : Int) := by
  simp only [bitsOp, BitVec.toNat_or, BitVec.toNat_ofInt]
  congr 3
  · have : ((a : Int) % ((2 ^ k.bits : Nat) : Int)).toNat = a := by
      rw [← Int.natCast_emod, Int.toNat_natCast, Nat.mod_eq_of_lt ha]
    exact this
  · have : ((b : Int) % ((2 ^ k.bits : Nat) : Int)).toNat = b := by
      rw [← Int.natCast_emod, Int.toNat_natCast, Nat.mod_eq_of_lt hb]
    exact this
/-- One byte more, as the program reckons it. -/
theorem byte_u64 (v : Nat) (b : UInt8) (h : v < 2 ^ 56) : bitsOp .or .u64 (IntKind.u64.wrap ((v : Int) * 256)) (IntKind.u64.wrap (b.toNat : Int)) = ((v * 256 + b.toNat : Nat) : Int) := by
  have hb := b.toNat_lt
  rw [u64_id (by omega), u64_id (by omega)]
  have := bitsOp_or .u64 (v * 256) b.toNat (by simp only [IntKind.bits]; omega) (by simp only [IntKind.bits]; omega)
  rw [Int.natCast_mul] at this
  simp only [Int.cast_ofNat_Int] at this
  rw [this, or_add (by omega), u64_id (by omega)]
/-- The same, with a sign. -/
theorem byte_i64 (v : Nat) (b : UInt8) (h : v < 2 ^ 56) : bitsOp .or .i64 (IntKind.i64.wrap ((v : Int) * 256)) (IntKind.i64.wrap (b.toNat : Int)) = IntKind.i64.wrap ((v * 256 + b.toNat : Nat) : Int) := by
  have hb := b.toNat_lt
  have e : ∀ n : Int, BitVec.ofInt 64 (IntKind.i64.wrap n) = BitVec.ofInt 64 n := by
    intro n
    apply BitVec.eq_of_toNat_eq
    rw [BitVec.toNat_ofInt, BitVec.toNat_ofInt, IntKind.wrap_i64]
    omega
  have k : bitsOp .or .i64 (IntKind.i64.wrap ((v : Int) * 256)) (IntKind.i64.wrap (b.toNat : Int)) = bitsOp .or .i64 ((v : Int) * 256) (b.toNat : Int) := by
    simp only [bitsOp, IntKind.bits, e]
  rw [k]
  have := bitsOp_or .i64 (v * 256) b.toNat (by simp only [IntKind.bits]; omega) (by simp only [IntKind.bits]; omega)
  rw [Int.natCast_mul] at this
  simp only [Int.cast_ofNat_Int] at this
  rw [this, or_add (by omega)]

/-! Writing. -/
def be8 (n : Int) : Bytes := [u8 (n / 72057594037927936), u8 (n / 281474976710656), u8 (n / 1099511627776), u8 (n / 4294967296), u8 (n / 16777216), u8 (n / 65536), u8 (n / 256), u8 n]
def be4 (n : Int) : Bytes := [u8 (n / 16777216), u8 (n / 65536), u8 (n / 256), u8 n]
def txt (s : Bytes) : Bytes := be4 s.length ++ s
@[simp] theorem be8_length (n : Int) : (be8 n).length = 8 := rfl
@[simp] theorem be4_length (n : Int) : (be4 n).length = 4 := rfl
@[simp] theorem txt_length (s : Bytes) : (txt s).length = 4 + s.length := by simp [txt]
theorem be8_drop (n : Int) : (be8 n).drop 4 = be4 n := rfl
theorem u8_congr {a b : Int} (h : a % 256 = b % 256) : u8 a = u8 b := by unfold u8; rw [h]
theorem be8_get (n : Int) (t : Nat) (h : t < 8) : (be8 n)[t]? = some (u8 (n / 2 ^ (56 - 8 * t))) := by
  match t, h with
  | 0, _ => simp [be8]
  | 1, _ => simp [be8]
  | 2, _ => simp [be8]
  | 3, _ => simp [be8]
  | 4, _ => simp [be8]
  | 5, _ => simp [be8]
  | 6, _ => simp [be8]
  | 7, _ => simp [be8]
theorem be8_take (n : Int) (t : Nat) (h : t < 8) : (be8 n).take (t + 1) = (be8 n).take t ++ [u8 (n / 2 ^ (56 - 8 * t))] := by
  rw [List.take_add_one, be8_get n t h]; rfl
theorem take_snoc {α : Type} (l : List α) (j : Nat) (h : j < l.length) : l.take (j + 1) = l.take j ++ [l[j]] := by
  rw [List.take_add_one, List.getElem?_eq_getElem h]; rfl
/-- As the program reckons it: without a sign. -/
theorem be8_u64 (n : Int) (t : Nat) (h : t < 8) : u8 ((IntKind.u64.wrap n).fdiv (2 ^ (56 - 8 * t))) = u8 (n / 2 ^ (56 - 8 * t)) := by
  rw [u64_mod, Int.fdiv_eq_ediv_of_nonneg _ (Int.le_of_lt (Int.pow_pos (by decide)))]
  apply u8_congr
  match t, h with
  | 0, _ => simp; omega
  | 1, _ => simp; omega
  | 2, _ => simp; omega
  | 3, _ => simp; omega
  | 4, _ => simp; omega
  | 5, _ => simp; omega
  | 6, _ => simp; omega
  | 7, _ => simp
theorem beVal_cons (b : UInt8) (bs : Bytes) : beVal (b :: bs) = b.toNat * 256 ^ bs.length + beVal bs := by
  have key : ∀ (bs : Bytes) (v : Nat), bs.foldl (fun v b => v * 256 + b.toNat) v = v * 256 ^ bs.length + beVal bs := by
    intro bs
    induction bs with
    | nil => intro v; simp [beVal]
    | cons c bs ih =>
      intro v
      simp only [List.foldl_cons, beVal, List.length_cons]
      rw [ih, ih (0 * 256 + c.toNat), Nat.pow_succ]
      simp only [Nat.zero_mul, Nat.zero_add, Nat.add_mul, Nat.mul_assoc, Nat.add_assoc, Nat.mul_comm (256 ^ bs.length) 256]
  show (b :: bs).foldl _ 0 = _
  rw [List.foldl_cons, key]
  simp
theorem beVal_be8 (n : Int) : (beVal (be8 n) : Int) = n % 18446744073709551616 := by
  simp only [be8, beVal_cons, List.length_cons, List.length_nil]
  simp only [beVal, List.foldl_nil]
  have h0 := u8_toNat (n / 72057594037927936)
  have h1 := u8_toNat (n / 281474976710656)
  have h2 := u8_toNat (n / 1099511627776)
  have h3 := u8_toNat (n / 4294967296)
  have h4 := u8_toNat (n / 16777216)
  have h5 := u8_toNat (n / 65536)
  have h6 := u8_toNat (n / 256)
  have h7 := u8_toNat n
  omega
theorem beVal_be4 (n : Int) : (beVal (be4 n) : Int) = n % 4294967296 := by
  simp only [be4, beVal_cons, List.length_cons, List.length_nil]
  simp only [beVal, List.foldl_nil]
  have h4 := u8_toNat (n / 16777216)
  have h5 := u8_toNat (n / 65536)
  have h6 := u8_toNat (n / 256)
  have h7 := u8_toNat n
  omega
def nums (ns : List Int) : Bytes := ns.flatMap be8
def txts (ss : List Bytes) : Bytes := ss.flatMap txt
theorem nums_length (ns : List Int) : (nums ns).length = 8 * ns.length := by
  induction ns with
  | nil => rfl
  | cons n ns ih => simp only [nums, List.flatMap_cons, List.length_append, be8_length, List.length_cons] at *; omega
theorem nums_snoc (ns : List Int) (j : Nat) (h : j < ns.length) : nums (ns.take (j + 1)) = nums (ns.take j) ++ be8 ns[j] := by
  simp only [nums, take_snoc _ _ h, List.flatMap_append, List.flatMap_cons, List.flatMap_nil, List.append_nil]
theorem txts_snoc (ns : List Bytes) (j : Nat) (h : j < ns.length) : txts (ns.take (j + 1)) = txts (ns.take j) ++ txt ns[j] := by
  simp only [txts, take_snoc _ _ h, List.flatMap_append, List.flatMap_cons, List.flatMap_nil, List.append_nil]
def flatD (ds : List Dg) : Bytes := ds.flatMap Dg.bs
theorem flatD_snoc (ns : List Dg) (j : Nat) (h : j < ns.length) : flatD (ns.take (j + 1)) = flatD (ns.take j) ++ ns[j].bs := by
  simp only [flatD, take_snoc _ _ h, List.flatMap_append, List.flatMap_cons, List.flatMap_nil, List.append_nil]
theorem flatD_length (ds : List Dg) : (flatD ds).length = 32 * ds.length := by
  induction ds with
  | nil => rfl
  | cons n ns ih => simp only [flatD, List.flatMap_cons, List.length_append, Dg.length, List.length_cons] at *; omega
theorem flat_snoc (ns : List Bytes) (j : Nat) (h : j < ns.length) : (ns.take (j + 1)).flatten = (ns.take j).flatten ++ ns[j] := by
  simp only [take_snoc _ _ h, List.flatten_append, List.flatten_cons, List.flatten_nil, List.append_nil]
theorem txts_take_le (ss : List Bytes) (j : Nat) : (txts (ss.take j)).length ≤ (txts ss).length := by
  conv => rhs; rw [← List.take_append_drop j ss]
  simp only [txts, List.flatMap_append, List.length_append]
  omega
theorem flat_take_le (ss : List Bytes) (j : Nat) : ((ss.take j).flatten).length ≤ (ss.flatten).length := by
  conv => rhs; rw [← List.take_append_drop j ss]
  simp only [List.flatten_append, List.length_append]
  omega
theorem I64_2 (a b : Int) : [AV.v (.int .i64 a), .v (.int .i64 b)] = I64 [a, b] := (rfl)
end Go.Proofs.Ytglkfbhjimnboaa.WL

end
section
/-
  CHAPTER 01: what the laws say, without any program.
-/
namespace Go.Proofs.Ytglkfbhjimnboaa.WL
open Go

structure Part where
  kind : Int
  num : Int
  text : Bytes
  dg : Dg
  lo : Int
  hi : Int
/-- A part that can come in. -/
structure Part.Fits (p : Part) : Prop where
  num : -9223372036854775808 ≤ p.num ∧ p.num < 9223372036854775808
  text : p.text.length ≤ reachBytes
def Part.av (p : Part) : AV := .node [.v (.int .i64 p.kind), .v (.int .i64 p.num), .v (.string (mkS p.text)), dv p.dg, .v (.int .i64 p.lo), .v (.int .i64 p.hi)]
def Pv (ps : List Part) : List AV := ps.map Part.av
@[simp] theorem Pv_length (ps : List Part) : (Pv ps).length = ps.length := by simp [Pv]
@[simp] theorem Pv_closed (ps : List Part) : closeds (Pv ps) = true := by
  simp only [closeds_all, Pv, List.mem_map]
  rintro a ⟨p, _, rfl⟩
  simp [Part.av]
@[simp] theorem Pv_getElem (n : Nat) (a : List Part) (h : n < (Pv a).length) : (Pv a)[n] = (a[n]'(by simpa using h)).av := by simp [Pv]
@[simp] theorem Pv_get (n : Nat) (a : List Part) : (Pv a)[n]? = (a[n]?).map Part.av := by simp [Pv]

abbrev Ty.parts : Ty := .sl 37 80 (.st [.int .i64, .int .i64, .str, Ty.dg, .int .i64, .int .i64])
theorem ty_parts {a : AV} (h : TyOk Ty.parts a) : ∃ ps : List Part, a = .sl 37 (Pv ps) ∧ ps.length ≤ reachBytes ∧ ∀ p ∈ ps, p.Fits := by
  obtain ⟨xs, rfl, ⟨_, h1⟩, h2⟩ := ty_sl h
  obtain ⟨ps, rfl, h3⟩ := map_of_all (f := Part.av) (p := Part.Fits) fun x hx => by
    obtain ⟨as, rfl, k⟩ := ty_st (h2 x hx)
    obtain ⟨a, _, rfl, k1, k⟩ := tys_cons k
    obtain ⟨b, _, rfl, k2, k⟩ := tys_cons k
    obtain ⟨c, _, rfl, k3, k⟩ := tys_cons k
    obtain ⟨d, _, rfl, k4, k⟩ := tys_cons k
    obtain ⟨e, _, rfl, k5, k⟩ := tys_cons k
    obtain ⟨f, _, rfl, k6, k⟩ := tys_cons k
    obtain rfl := tys_nil k
    obtain ⟨a, rfl, _⟩ := ty_int k1
    obtain ⟨b, rfl, hb⟩ := ty_int k2
    obtain ⟨c, rfl, hc⟩ := ty_str k3
    obtain ⟨d, rfl⟩ := ty_dg k4
    obtain ⟨e, rfl, _⟩ := ty_int k5
    obtain ⟨f, rfl, _⟩ := ty_int k6
    exact ⟨⟨a, b, c, d, e, f⟩, rfl, hb, hc⟩
  refine ⟨ps, rfl, ?_, h3⟩
  rw [List.length_map] at h1
  omega

def textSum (ps : List Part) : Nat := (ps.map (·.text.length)).sum
def greatF (ps : List Part) : Bool := decide (16384 < textSum ps) || decide (200 < ps.length)
theorem textSum_snoc (ps : List Part) (j : Nat) (h : j < ps.length) : textSum (ps.take (j + 1)) = textSum (ps.take j) + ps[j].text.length := by
  simp only [textSum, take_snoc _ _ h, List.map_append, List.sum_append, List.map_cons, List.map_nil, List.sum_cons, List.sum_nil, Nat.add_zero]
theorem textSum_take_le (ps : List Part) (j : Nat) : textSum (ps.take j) ≤ textSum ps := by
  conv => rhs; rw [← List.take_append_drop j ps]
  simp only [textSum, List.map_append, List.sum_append]
  omega

theorem textSum_mem : ∀ (ps : List Part) (p : Part), p ∈ ps → p.text.length ≤ textSum ps
  | q :: ps, p, h => by
    simp only [textSum, List.map_cons, List.sum_cons]
    rcases List.mem_cons.1 h with rfl | h
    · omega
    · have := textSum_mem ps p h
      simp only [textSum] at this
      omega
def Part.out (p : Part) : Bytes := if p.kind = 1 then txt p.text else if p.kind = 2 then p.dg.bs else be8 p.num
def outs (ps : List Part) : Bytes := ps.flatMap Part.out
theorem outs_snoc (ps : List Part) (j : Nat) (h : j < ps.length) : outs (ps.take (j + 1)) = outs (ps.take j) ++ ps[j].out := by
  simp only [outs, take_snoc _ _ h, List.flatMap_append, List.flatMap_cons, List.flatMap_nil, List.append_nil]
theorem outs_cons (p : Part) (ps : List Part) : outs (p :: ps) = p.out ++ outs ps := by simp [outs]
theorem Part.out_le (p : Part) : p.out.length ≤ 32 + p.text.length := by
  unfold Part.out
  split
  · rw [txt_length]; omega
  · split
    · rw [Dg.length]; omega
    · rw [be8_length]; omega
theorem outs_le : ∀ (ps : List Part), (outs ps).length ≤ 32 * ps.length + textSum ps
  | [] => by simp [outs]
  | p :: ps => by
    have h1 := p.out_le
    have h2 := outs_le ps
    rw [outs_cons, List.length_append, List.length_cons]
    simp only [textSum, List.map_cons, List.sum_cons] at *
    omega

/-- A part's call on a reader: what it answers, what is left. -/
def Part.back (p : Part) (r : Rd) : Rd := if p.kind = 1 then r.text' p.text.length else if p.kind = 2 then r.dg' else r.inn' p.num p.num
def Part.same (p : Part) (r : Rd) : Bool := if p.kind = 1 then r.text p.text.length == p.text else if p.kind = 2 then decide (r.dg = p.dg) else decide (r.inn p.num p.num = p.num)

theorem Rd.got_app (pre x y : Bytes) (k : Nat) (h : x.length = k) : (⟨pre, x ++ y, false⟩ : Rd).got k = x := by
  subst h
  simp [Rd.got, Rd.ok]
  omega
theorem Rd.skip_app (pre x y : Bytes) (k : Nat) (h : x.length = k) : (⟨pre, x ++ y, false⟩ : Rd).skip k = ⟨pre ++ x, y, false⟩ := by
  subst h
  have : (x.length : Int) ≤ (x.length : Int) + y.length := by omega
  simp [Rd.skip, Rd.ok, this]
theorem Rd.got_few (r : Rd) (k : Nat) (h : r.s.length < k) : r.got k = [] := by
  have : ¬ ((k : Int) ≤ r.s.length) := by omega
  simp [Rd.got, Rd.ok, this]
theorem Rd.skip_few (r : Rd) (k : Nat) (h : r.s.length < k) : r.skip k = Rd.fault := by
  have : ¬ ((k : Int) ≤ r.s.length) := by omega
  simp [Rd.skip, Rd.ok, this]
theorem num_be8 (n : Int) (h : -9223372036854775808 ≤ n ∧ n < 9223372036854775808) : IntKind.i64.wrap (beVal (be8 n) : Nat) = n := by
  rw [beVal_be8, IntKind.wrap_i64]
  omega

theorem Part.back_app (p : Part) (h : p.Fits) (hl : p.text.length < 4294967296) (pre y : Bytes) : p.back ⟨pre, p.out ++ y, false⟩ = ⟨pre ++ p.out, y, false⟩ ∧ p.same ⟨pre, p.out ++ y, false⟩ = true := by
  have e8 : (8 : Int) = ((8 : Nat) : Int) := rfl
  have e4 : (4 : Int) = ((4 : Nat) : Int) := rfl
  have e32 : (32 : Int) = ((32 : Nat) : Int) := rfl
  unfold Part.back Part.same Part.out
  split
  · have h1 : (beVal (be4 p.text.length) : Int) = p.text.length := by rw [beVal_be4]; omega
    have h2 : (⟨pre, txt p.text ++ y, false⟩ : Rd).got 4 = be4 p.text.length := by
      rw [txt, List.append_assoc, e4]; exact Rd.got_app _ _ _ _ rfl
    have h3 : (⟨pre, txt p.text ++ y, false⟩ : Rd).skip 4 = ⟨pre ++ be4 p.text.length, p.text ++ y, false⟩ := by
      rw [txt, List.append_assoc, e4]; exact Rd.skip_app _ _ _ _ rfl
    have h4 : (⟨pre, txt p.text ++ y, false⟩ : Rd).len p.text.length = p.text.length := by
      unfold Rd.len
      rw [h2, h1, if_neg (by omega)]
    unfold Rd.text' Rd.text
    rw [h4, h3]
    constructor
    · rw [Rd.skip_app _ _ _ _ rfl, txt, List.append_assoc]
    · rw [Rd.got_app _ _ _ _ rfl]
      simp
  · split
    · unfold Rd.dg'
      rw [e32, Rd.skip_app _ _ _ _ p.dg.len]
      refine ⟨rfl, decide_eq_true (Dg.ext' ?_)⟩
      rw [Rd.dg_bs, e32, Rd.got_app _ _ _ _ p.dg.len]
      simp [zeros]
    · have h1 : (⟨pre, be8 p.num ++ y, false⟩ : Rd).num = p.num := by
        unfold Rd.num
        rw [e8, Rd.got_app _ _ _ _ (be8_length _)]
        exact num_be8 _ h.num
      have h2 : (⟨pre, be8 p.num ++ y, false⟩ : Rd).num' = ⟨pre ++ be8 p.num, y, false⟩ := by
        unfold Rd.num'
        rw [e8, Rd.skip_app _ _ _ _ (be8_length _)]
      have h3 : (⟨pre, be8 p.num ++ y, false⟩ : Rd).inOk p.num p.num = true := by
        unfold Rd.inOk
        rw [h1, h2]
        simp
      unfold Rd.inn' Rd.inn
      rw [if_pos h3, if_pos h3, h1, h2]
      exact ⟨rfl, by simp⟩

/-- With fewer bytes a fault comes, and stays. -/
theorem Rd.bad_skip (r : Rd) (k : Int) (h : r.bad = true) : (r.skip k).bad = true := by simp [Rd.skip, Rd.ok, h, Rd.fault]
theorem Part.back_bad (p : Part) (r : Rd) (h : r.bad = true) : (p.back r).bad = true := by
  unfold Part.back
  split
  · exact Rd.bad_skip _ _ (Rd.bad_skip _ _ h)
  · split
    · exact Rd.bad_skip _ _ h
    · have : r.num'.bad = true := Rd.bad_skip _ _ h
      simp [Rd.inn', Rd.inOk, this, Rd.fault]
theorem Part.back_few (p : Part) (h : p.Fits) (hl : p.text.length < 4294967296) (pre s t : Bytes) (ht : t ≠ []) (e : s ++ t = p.out) : (p.back ⟨pre, s, false⟩).bad = true := by
  have e8 : (8 : Int) = ((8 : Nat) : Int) := rfl
  have e4 : (4 : Int) = ((4 : Nat) : Int) := rfl
  have e32 : (32 : Int) = ((32 : Nat) : Int) := rfl
  have htl : 0 < t.length := List.length_pos_iff.2 ht
  have hlen := congrArg List.length e
  rw [List.length_append] at hlen
  unfold Part.back
  unfold Part.out at e hlen
  split
  · rename_i hk
    rw [if_pos hk] at e hlen
    rw [txt_length] at hlen
    unfold Rd.text'
    by_cases h4 : s.length < 4
    · exact Rd.bad_skip _ _ (by rw [e4, Rd.skip_few _ _ h4]; rfl)
    · have e2 : s = be4 p.text.length ++ s.drop 4 := by
        have h1 := congrArg (List.take 4) e
        rw [List.take_append_of_le_length (by omega), txt, List.take_append_of_le_length (by simp), List.take_of_length_le (l := be4 p.text.length) (by simp)] at h1
        rw [← h1]
        exact (List.take_append_drop 4 s).symm
      have h1 : (beVal (be4 p.text.length) : Int) = p.text.length := by rw [beVal_be4]; omega
      have h2 : (⟨pre, s, false⟩ : Rd).got 4 = be4 p.text.length := by
        rw [e2, e4]; exact Rd.got_app _ _ _ _ rfl
      have h3 : (⟨pre, s, false⟩ : Rd).skip 4 = ⟨pre ++ be4 p.text.length, s.drop 4, false⟩ := by
        rw [e4]
        conv => lhs; rw [e2]
        exact Rd.skip_app _ _ _ _ rfl
      have h5 : (⟨pre, s, false⟩ : Rd).len p.text.length = p.text.length := by
        unfold Rd.len
        rw [h2, h1, if_neg (by omega)]
      rw [h5, h3, Rd.skip_few _ _ (by simp only [List.length_drop]; omega)]
      rfl
  · rename_i hk
    rw [if_neg hk] at e hlen
    split
    · rename_i hk2
      rw [if_pos hk2] at e hlen
      unfold Rd.dg'
      rw [e32, Rd.skip_few _ _ (by simp only; have := p.dg.len; omega)]
      rfl
    · rename_i hk2
      rw [if_neg hk2] at e hlen
      rw [be8_length] at hlen
      have : (⟨pre, s, false⟩ : Rd).num'.bad = true := by
        unfold Rd.num'
        rw [e8, Rd.skip_few _ _ (by simp only; omega)]
        rfl
      simp [Rd.inn', Rd.inOk, this, Rd.fault]

def backs (ps : List Part) (r : Rd) : Rd := ps.foldl (fun r p => p.back r) r
theorem backs_snoc (ps : List Part) (j : Nat) (h : j < ps.length) (r : Rd) : backs (ps.take (j + 1)) r = ps[j].back (backs (ps.take j) r) := by
  simp only [backs, take_snoc _ _ h, List.foldl_append, List.foldl_cons, List.foldl_nil]
theorem backs_bad (ps : List Part) : ∀ r : Rd, r.bad = true → (backs ps r).bad = true := by
  induction ps with
  | nil => intro r h; exact h
  | cons p ps ih => intro r h; exact ih _ (p.back_bad r h)
/-- All parts are read back. -/
theorem backs_all : ∀ (ps : List Part), (∀ p ∈ ps, p.Fits ∧ p.text.length < 4294967296) → ∀ pre y : Bytes, backs ps ⟨pre, outs ps ++ y, false⟩ = ⟨pre ++ outs ps, y, false⟩
  | [], _, pre, y => by simp [backs, outs]
  | p :: ps, h, pre, y => by
    obtain ⟨h1, h2⟩ := h p List.mem_cons_self
    have k := (p.back_app h1 h2 pre (outs ps ++ y)).1
    show backs ps (p.back ⟨pre, outs (p :: ps) ++ y, false⟩) = _
    rw [outs_cons, List.append_assoc, k, backs_all ps (fun q hq => h q (List.mem_cons_of_mem _ hq)), List.append_assoc]
theorem backs_same (ps : List Part) (h : ∀ p ∈ ps, p.Fits ∧ p.text.length < 4294967296) (y : Bytes) (j : Nat) (hj : j < ps.length) : ps[j].same (backs (ps.take j) ⟨[], outs ps ++ y, false⟩) = true := by
  have e : outs ps ++ y = outs (ps.take j) ++ (ps[j].out ++ (outs (ps.drop (j + 1)) ++ y)) := by
    conv => lhs; rw [← List.take_append_drop j ps, List.drop_eq_getElem_cons hj]
    simp only [outs, List.flatMap_append, List.flatMap_cons, List.append_assoc]
  have hp : ∀ p ∈ ps.take j, p.Fits ∧ p.text.length < 4294967296 := fun p hp => h p (List.mem_of_mem_take hp)
  rw [e, backs_all _ hp]
  obtain ⟨h1, h2⟩ := h ps[j] (List.getElem_mem hj)
  exact (ps[j].back_app h1 h2 _ _).2
/-- Of a beginning they are not. -/
theorem backs_few : ∀ (ps : List Part), (∀ p ∈ ps, p.Fits ∧ p.text.length < 4294967296) → ∀ pre s t : Bytes, t ≠ [] → s ++ t = outs ps → (backs ps ⟨pre, s, false⟩).bad = true
  | [], _, pre, s, t, ht, e => by simp [outs] at e; exact absurd e.2 ht
  | p :: ps, h, pre, s, t, ht, e => by
    obtain ⟨h1, h2⟩ := h p List.mem_cons_self
    show (backs ps (p.back ⟨pre, s, false⟩)).bad = true
    rw [outs_cons] at e
    by_cases hl : s.length < p.out.length
    · refine backs_bad _ _ (p.back_few h1 h2 pre s (p.out.drop s.length) ?_ ?_)
      · intro e0
        have := congrArg List.length e0
        simp at this
        omega
      · have h3 := congrArg (List.take s.length) e
        rw [List.take_append_of_le_length (by omega), List.take_of_length_le (Nat.le_refl _), List.take_append_of_le_length (by omega)] at h3
        conv => lhs; lhs; rw [h3]
        exact List.take_append_drop _ _
    · have h3 := congrArg (List.take p.out.length) e
      rw [List.take_append_of_le_length (by omega), List.take_append_of_le_length (by omega), List.take_of_length_le (Nat.le_refl _)] at h3
      have h4 : s = p.out ++ s.drop p.out.length := by
        conv => rhs; lhs; rw [← h3]
        exact (List.take_append_drop _ _).symm
      have h5 := congrArg (List.drop p.out.length) e
      rw [List.drop_append_of_le_length (by omega), List.drop_append_of_le_length (by omega), List.drop_of_length_le (Nat.le_refl _), List.nil_append] at h5
      rw [h4, (p.back_app h1 h2 pre _).1]
      exact backs_few ps (fun q hq => h q (List.mem_cons_of_mem _ hq)) _ _ t ht h5

/-! What is read is what was written. -/
theorem beVal_inj : ∀ {a b : Bytes}, a.length = b.length → beVal a = beVal b → a = b
  | [], [], _, _ => rfl
  | x :: a, y :: b, hl, h => by
    simp only [List.length_cons, Nat.add_right_cancel_iff] at hl
    rw [beVal_cons, beVal_cons, hl] at h
    have h1 := beVal_lt a
    have h2 := beVal_lt b
    rw [hl] at h1
    have hq : x.toNat = y.toNat := by
      have e1 : (x.toNat * 256 ^ b.length + beVal a) / 256 ^ b.length = x.toNat := by
        rw [Nat.mul_comm, Nat.mul_add_div (by omega), Nat.div_eq_of_lt h1]; rfl
      have e2 : (y.toNat * 256 ^ b.length + beVal b) / 256 ^ b.length = y.toNat := by
        rw [Nat.mul_comm, Nat.mul_add_div (by omega), Nat.div_eq_of_lt h2]; rfl
      rw [← e1, ← e2, h]
    rw [hq] at h
    rw [UInt8.toNat_inj.1 hq, beVal_inj hl (by omega)]
  | [], _ :: _, hl, _ => by simp at hl
  | _ :: _, [], hl, _ => by simp at hl
theorem be8_beVal (x : Bytes) (h : x.length = 8) : be8 (IntKind.i64.wrap (beVal x : Nat)) = x := by
  apply beVal_inj (by rw [be8_length, h])
  have h1 := beVal_lt x
  rw [h] at h1
  have h2 := beVal_be8 (IntKind.i64.wrap (beVal x : Nat))
  have h3 : IntKind.i64.wrap (beVal x : Nat) % 18446744073709551616 = (beVal x : Nat) := by rw [IntKind.wrap_i64]; omega
  rw [h3] at h2
  omega
theorem be4_beVal (x : Bytes) (h : x.length = 4) : be4 (beVal x : Nat) = x := by
  apply beVal_inj (by rw [be4_length, h])
  have h1 := beVal_lt x
  rw [h] at h1
  have h2 := beVal_be4 (beVal x : Nat)
  omega

/-- What a call reads, is written down. -/
def Part.put (p : Part) (r : Rd) : Bytes := if p.kind = 1 then txt (r.text p.num) else if p.kind = 2 then r.dg.bs else if p.kind = 3 then be8 (r.inn p.lo p.hi) else be8 r.num
def Part.next (p : Part) (r : Rd) : Rd := if p.kind = 1 then r.text' p.num else if p.kind = 2 then r.dg' else if p.kind = 3 then r.inn' p.lo p.hi else r.num'

theorem Rd.skip_good {r : Rd} {k : Int} (h : (r.skip k).bad = false) : r.bad = false ∧ 0 ≤ k ∧ ((r.got k).length : Int) = k ∧ (r.skip k).pre = r.pre ++ r.got k ∧ (r.skip k).pre ++ (r.skip k).s = r.pre ++ r.s := by
  unfold Rd.skip Rd.got at *
  split at h
  · rename_i hk
    rw [if_pos hk, if_pos hk]
    simp only [Rd.ok, Bool.and_eq_true, Bool.not_eq_true', decide_eq_true_eq] at hk
    refine ⟨hk.1.1, hk.1.2, by rw [List.length_take]; omega, rfl, by simp⟩
  · simp [Rd.fault] at h
theorem Rd.skip_short (r : Rd) (k : Int) : (r.skip k).s.length ≤ r.s.length := by
  unfold Rd.skip
  split
  · simp
  · simp [Rd.fault]
theorem Rd.num_put {r : Rd} (h : r.num'.bad = false) : r.bad = false ∧ r.num'.pre = r.pre ++ be8 r.num ∧ r.num'.pre ++ r.num'.s = r.pre ++ r.s := by
  obtain ⟨h1, _, h2, h3, h4⟩ := Rd.skip_good h
  refine ⟨h1, ?_, h4⟩
  rw [Rd.num, be8_beVal _ (by omega)]
  exact h3
theorem Part.next_put (p : Part) (r : Rd) (h : (p.next r).bad = false) : r.bad = false ∧ (p.next r).pre = r.pre ++ p.put r ∧ (p.next r).pre ++ (p.next r).s = r.pre ++ r.s := by
  unfold Part.next Part.put at *
  split at h
  · rename_i hk
    rw [if_pos hk, if_pos hk]
    obtain ⟨h1, h0, h2, h3, h4⟩ := Rd.skip_good (r := r.skip 4) (k := r.len p.num) h
    obtain ⟨k1, _, k2, k3, k4⟩ := Rd.skip_good h1
    refine ⟨k1, ?_, h4.trans k4⟩
    have hl : r.len p.num = (beVal (r.got 4) : Nat) := by
      unfold Rd.len at h0 ⊢
      split at h0
      · omega
      · rename_i hm; rw [if_neg hm]
    have ht : ((r.text p.num).length : Int) = (beVal (r.got 4) : Nat) := by rw [← hl]; exact h2
    rw [txt, ht, be4_beVal _ (by omega), ← List.append_assoc, ← k3]
    exact h3
  · split at h
    · rename_i hk hk2
      rw [if_neg hk, if_neg hk, if_pos hk2, if_pos hk2]
      obtain ⟨h1, _, h2, h3, h4⟩ := Rd.skip_good (r := r) (k := 32) h
      refine ⟨h1, ?_, h4⟩
      have hl : (r.got 32).length = 32 := by omega
      rw [Rd.dg_bs, hl]
      simp only [Nat.sub_self]
      rw [show zeros 0 = [] from rfl, List.append_nil]
      exact h3
    · split at h
      · rename_i hk hk2 hk3
        rw [if_neg hk, if_neg hk, if_neg hk2, if_neg hk2, if_pos hk3, if_pos hk3]
        unfold Rd.inn' Rd.inn at *
        split at h
        · rename_i hok
          rw [if_pos hok, if_pos hok]
          exact Rd.num_put h
        · simp [Rd.fault] at h
      · rename_i hk hk2 hk3
        rw [if_neg hk, if_neg hk, if_neg hk2, if_neg hk2, if_neg hk3, if_neg hk3]
        exact Rd.num_put h
theorem Rd.got_short (r : Rd) (k : Int) : (r.got k).length ≤ r.s.length := by
  unfold Rd.got
  split
  · rw [List.length_take]; omega
  · simp
theorem Part.next_short (p : Part) (r : Rd) : (p.next r).s.length ≤ r.s.length := by
  unfold Part.next
  have hn : r.num'.s.length ≤ r.s.length := r.skip_short 8
  split
  · exact Nat.le_trans (Rd.skip_short _ _) (Rd.skip_short _ _)
  · split
    · exact Rd.skip_short _ _
    · split
      · unfold Rd.inn'
        split
        · exact hn
        · simp [Rd.fault]
      · exact hn
theorem Part.put_short (p : Part) (r : Rd) : (p.put r).length ≤ 32 + r.s.length := by
  unfold Part.put
  split
  · have h1 := Rd.got_short (r.skip 4) (r.len p.num)
    have h2 := r.skip_short 4
    rw [txt_length]
    unfold Rd.text
    omega
  · split
    · rw [Dg.length]; omega
    · split <;> (rw [be8_length]; omega)
/-- The reader behind the calls; what is written. -/
def nexts (ps : List Part) (r : Rd) : Rd := ps.foldl (fun r p => p.next r) r
def puts : List Part → Rd → Bytes
  | [], _ => []
  | p :: ps, r => p.put r ++ puts ps (p.next r)
theorem nexts_snoc (ps : List Part) (j : Nat) (h : j < ps.length) (r : Rd) : nexts (ps.take (j + 1)) r = ps[j].next (nexts (ps.take j) r) := by
  simp only [nexts, take_snoc _ _ h, List.foldl_append, List.foldl_cons, List.foldl_nil]
theorem puts_append : ∀ (as bs : List Part) (r : Rd), puts (as ++ bs) r = puts as r ++ puts bs (nexts as r)
  | [], _, _ => by simp [puts, nexts]
  | a :: as, bs, r => by
    simp only [List.cons_append, puts, puts_append as bs, List.append_assoc]
    rfl
theorem puts_snoc (ps : List Part) (j : Nat) (h : j < ps.length) (r : Rd) : puts (ps.take (j + 1)) r = puts (ps.take j) r ++ ps[j].put (nexts (ps.take j) r) := by
  rw [take_snoc _ _ h, puts_append]
  simp [puts]
theorem nexts_short : ∀ (ps : List Part) (r : Rd), (nexts ps r).s.length ≤ r.s.length
  | [], _ => Nat.le_refl _
  | p :: ps, r => Nat.le_trans (nexts_short ps (p.next r)) (p.next_short r)
theorem puts_short : ∀ (ps : List Part) (r : Rd), (puts ps r).length ≤ ps.length * (32 + r.s.length)
  | [], _ => by simp [puts]
  | p :: ps, r => by
    have h1 := p.put_short r
    have h2 := puts_short ps (p.next r)
    have h3 := p.next_short r
    have h4 : ps.length * (32 + (p.next r).s.length) ≤ ps.length * (32 + r.s.length) := Nat.mul_le_mul_left _ (by omega)
    simp only [puts, List.length_append, List.length_cons, Nat.succ_mul]
    omega
theorem puts_good : ∀ (ps : List Part) (r : Rd), (nexts ps r).bad = false → r.bad = false ∧ (nexts ps r).pre = r.pre ++ puts ps r ∧ (nexts ps r).pre ++ (nexts ps r).s = r.pre ++ r.s
  | [], r, h => ⟨h, by simp [nexts, puts], rfl⟩
  | p :: ps, r, h => by
    obtain ⟨h1, h2, h3⟩ := puts_good ps (p.next r) h
    obtain ⟨k1, k2, k3⟩ := p.next_put r h1
    refine ⟨k1, ?_, h3.trans k3⟩
    show (nexts ps (p.next r)).pre = _
    rw [h2, k2, puts, List.append_assoc]
/-- What is read to its end is what is written. -/
theorem puts_done (ps : List Part) (bs : Bytes) (h : (nexts ps (Rd.of bs)).done = true) : puts ps (Rd.of bs) = bs := by
  simp only [Rd.done, Bool.and_eq_true, Bool.not_eq_true', decide_eq_true_eq] at h
  obtain ⟨_, h2, h3⟩ := puts_good ps (Rd.of bs) h.1
  rw [h.2, List.append_nil] at h3
  rw [h3] at h2
  simpa [Rd.of] using h2.symm
end Go.Proofs.Ytglkfbhjimnboaa.WL

end
section
/-
  CHAPTER 09: requests and replies, without any program.
-/
namespace Go.Proofs.Ytglkfbhjimnboaa.WL
open Go

structure Chg where
  kind : Int
  id : Int
  new : Int
  root : Dg
  height : Int
structure Req where
  client : Int
  num : Int
  kind : Int
  key : Bytes
  val : Bytes
  old : Bytes
  ch : Chg
def Chg.av (c : Chg) : AV := .node [.v (.int .i64 c.kind), .v (.int .i64 c.id), .v (.int .i64 c.new), .node [dv c.root, .v (.int .i64 c.height)]]
def Req.av (q : Req) : AV := .node [.v (.int .i64 q.client), .v (.int .i64 q.num), .node [.v (.int .i64 q.kind), .v (.string (mkS q.key)), .v (.string (mkS q.val)), .v (.string (mkS q.old)), q.ch.av]]
def Chg.zero : Chg := ⟨0, 0, 0, Dg.zero, 0⟩
def Req.zero : Req := ⟨0, 0, 0, [], [], [], Chg.zero⟩
@[simp] theorem Req.av_closed (q : Req) : closed q.av = true := by simp [Req.av, Chg.av]
@[simp] theorem Req.av_plain (q : Req) : plain q.av = true := by simp [Req.av, Chg.av]
@[simp] theorem Req.av_solid (q : Req) : q.av.solid = true := (rfl)
@[simp] theorem Req.av_agg (q : Req) : q.av.isAgg = true := (rfl)
@[simp] theorem Req.av_size (q : Req) : q.av.size = 42 := by simp [Req.av, Chg.av]

def Req.bytes (q : Req) : Bytes := nums [q.client, q.num, q.kind] ++ (txts [q.key, q.val, q.old] ++ (nums [q.ch.kind, q.ch.id, q.ch.new, q.ch.height] ++ q.ch.root.bs))
theorem Req.bytes_len (q : Req) : q.bytes.length = 100 + (q.key.length + q.val.length + q.old.length) := by
  simp [Req.bytes, nums_length, txts]
  omega
def Req.good (q : Req) : Bool := decide (1 ≤ q.client) && decide (q.client ≤ 64) && decide (1 ≤ q.num) && decide (q.num ≤ 1099511627776) && decide (1 ≤ q.kind) && decide (q.kind ≤ 7) &&
  (decide (q.key.length ≤ 1024) && decide (q.val.length ≤ 1024) && decide (q.old.length ≤ 1024))
/-- Reading: the reader behind so many parts. -/
def Rd.q1 (r : Rd) : Rd := r.inn' 1 64
def Rd.q2 (r : Rd) : Rd := r.q1.inn' 1 1099511627776
def Rd.q3 (r : Rd) : Rd := r.q2.inn' 1 7
def Rd.q4 (r : Rd) : Rd := r.q3.text' 1024
def Rd.q5 (r : Rd) : Rd := r.q4.text' 1024
def Rd.q6 (r : Rd) : Rd := r.q5.text' 1024
def Rd.q7 (r : Rd) : Rd := r.q6.num'
def Rd.q8 (r : Rd) : Rd := r.q7.num'
def Rd.q9 (r : Rd) : Rd := r.q8.num'
def Rd.q10 (r : Rd) : Rd := r.q9.num'
def Rd.req' (r : Rd) : Rd := r.q10.dg'
def Rd.req0 (r : Rd) : Req := ⟨r.inn 1 64, r.q1.inn 1 1099511627776, r.q2.inn 1 7, r.q3.text 1024, r.q4.text 1024, r.q5.text 1024, ⟨r.q6.num, r.q7.num, r.q8.num, r.q10.dg, r.q9.num⟩⟩
def Rd.req (r : Rd) : Req := if r.req'.bad = true then Req.zero else r.req0
/-- A reader that found a fault has nothing left. -/
def Rd.sane (r : Rd) : Prop := r.bad = true → r.s = []
theorem Rd.skip_sane (r : Rd) (k : Int) : (r.skip k).sane := by
  unfold Rd.skip Rd.sane
  split <;> simp [Rd.fault]
theorem Rd.num_sane (r : Rd) : r.num'.sane := r.skip_sane 8
theorem Rd.inn_sane (r : Rd) (lo hi : Int) : (r.inn' lo hi).sane := by
  unfold Rd.inn'
  split
  · exact r.num_sane
  · simp [Rd.sane, Rd.fault]
theorem Rd.text_sane (r : Rd) (k : Int) : (r.text' k).sane := Rd.skip_sane _ _
theorem Rd.dg_sane (r : Rd) : r.dg'.sane := r.skip_sane 32
theorem Rd.req_sane (r : Rd) : r.req'.sane := Rd.dg_sane _
theorem Rd.skip_bad (r : Rd) (k : Int) (h : r.bad = true) : r.skip k = Rd.fault := by simp [Rd.skip, Rd.ok, h]
theorem Rd.num_bad (r : Rd) (h : r.bad = true) : r.num' = Rd.fault := r.skip_bad 8 h
theorem Rd.inn_bad (r : Rd) (lo hi : Int) (h : r.bad = true) : r.inn' lo hi = Rd.fault := by
  unfold Rd.inn' Rd.inOk
  rw [r.num_bad h]
  rfl
theorem Rd.text_bad (r : Rd) (k : Int) (h : r.bad = true) : r.text' k = Rd.fault := by
  unfold Rd.text'
  rw [r.skip_bad 4 h]
  exact Rd.skip_bad _ _ rfl
theorem Rd.dg_bad (r : Rd) (h : r.bad = true) : r.dg' = Rd.fault := r.skip_bad 32 h
theorem Rd.req_bad (r : Rd) (h : r.bad = true) : r.req' = Rd.fault := by
  have e1 : r.q1 = Rd.fault := r.inn_bad _ _ h
  have e2 : r.q2 = Rd.fault := by unfold Rd.q2; rw [e1]; exact Rd.inn_bad _ _ _ rfl
  have e3 : r.q3 = Rd.fault := by unfold Rd.q3; rw [e2]; exact Rd.inn_bad _ _ _ rfl
  have e4 : r.q4 = Rd.fault := by unfold Rd.q4; rw [e3]; exact Rd.text_bad _ _ rfl
  have e5 : r.q5 = Rd.fault := by unfold Rd.q5; rw [e4]; exact Rd.text_bad _ _ rfl
  have e6 : r.q6 = Rd.fault := by unfold Rd.q6; rw [e5]; exact Rd.text_bad _ _ rfl
  have e7 : r.q7 = Rd.fault := by unfold Rd.q7; rw [e6]; exact Rd.num_bad _ rfl
  have e8 : r.q8 = Rd.fault := by unfold Rd.q8; rw [e7]; exact Rd.num_bad _ rfl
  have e9 : r.q9 = Rd.fault := by unfold Rd.q9; rw [e8]; exact Rd.num_bad _ rfl
  have e10 : r.q10 = Rd.fault := by unfold Rd.q10; rw [e9]; exact Rd.num_bad _ rfl
  unfold Rd.req'
  rw [e10]
  exact Rd.dg_bad _ rfl
theorem Rd.inn_range (r : Rd) (lo hi : Int) (h : lo ≤ 0 ∧ 0 ≤ hi) : lo ≤ r.inn lo hi ∧ r.inn lo hi ≤ hi := by
  unfold Rd.inn Rd.inOk
  split
  · rename_i k
    simp only [Bool.and_eq_true, decide_eq_true_eq] at k
    exact ⟨k.1.2, k.2⟩
  · exact h

structure Rep where
  client : Int
  num : Int
  code : Int
  vals : List Bytes
def Rep.zero : Rep := ⟨0, 0, 0, []⟩
/-- A reply whose texts lie in a slice. -/
def Rep.avS (a : Rep) : AV := .node [.v (.int .i64 a.client), .v (.int .i64 a.num), .v (.int .i64 a.code), .sl 1 (Strs a.vals)]
def Rep.avR (l g : Nat) (a : Rep) : AV := .node [.v (.int .i64 a.client), .v (.int .i64 a.num), .v (.int .i64 a.code), .row l 1 g 0 a.vals.length]
def Rep.bytes (a : Rep) : Bytes := nums [a.client, a.num, a.code, (a.vals.length : Int)] ++ txts a.vals
/-- So many texts. -/
def Rd.tx' (r : Rd) : Nat → Rd
  | 0 => r
  | n + 1 => (r.tx' n).text' 1024
def Rd.tx (r : Rd) : Nat → List Bytes
  | 0 => []
  | n + 1 => r.tx n ++ [(r.tx' n).text 1024]
@[simp] theorem Rd.tx_length (r : Rd) (n : Nat) : (r.tx n).length = n := by
  induction n with
  | zero => rfl
  | succ n ih => simp only [Rd.tx, List.length_append, ih, List.length_cons, List.length_nil]
theorem Rd.tx_sane (r : Rd) (h : r.sane) (n : Nat) : (r.tx' n).sane := by
  cases n with
  | zero => exact h
  | succ n => exact Rd.text_sane _ _
theorem Rd.tx_bad (r : Rd) (k : Nat) (h : (r.tx' k).bad = true) : ∀ n, k ≤ n → (r.tx' n).bad = true := by
  intro n
  induction n with
  | zero => intro hk; rw [show k = 0 by omega] at h; exact h
  | succ n ih =>
    intro hk
    rcases (show k = n + 1 ∨ k ≤ n by omega) with rfl | h1
    · exact h
    · show ((r.tx' n).text' 1024).bad = true
      rw [Rd.text_bad _ _ (ih h1)]
      rfl
def Rd.p1 (r : Rd) : Rd := r.inn' 1 64
def Rd.p2 (r : Rd) : Rd := r.p1.inn' 1 1099511627776
def Rd.p3 (r : Rd) : Rd := r.p2.inn' 0 1024
def Rd.p4 (r : Rd) : Rd := r.p3.inn' 0 256
def Rd.repN (r : Rd) : Nat := (r.p3.inn 0 256).toNat
theorem Rd.repN_eq (r : Rd) : ((r.repN : Nat) : Int) = r.p3.inn 0 256 ∧ r.repN ≤ 256 := by
  have := r.p3.inn_range 0 256 (by omega)
  unfold Rd.repN
  omega
def Rd.rep' (r : Rd) : Rd := r.p4.tx' r.repN
def Rd.rep0 (r : Rd) : Rep := ⟨r.inn 1 64, r.p1.inn 1 1099511627776, r.p2.inn 0 1024, r.p4.tx r.repN⟩
def Rd.rep (r : Rd) : Rep := if r.rep'.bad = true then Rep.zero else r.rep0
theorem Rd.rep_sane (r : Rd) : r.rep'.sane := Rd.tx_sane _ (Rd.inn_sane _ _ _) _
end Go.Proofs.Ytglkfbhjimnboaa.WL

end
section
/-
  CHAPTER 01: what is written is read; readers that have more behind them. Without any program.
-/
namespace Go.Proofs.Ytglkfbhjimnboaa.WL
open Go

/-- A number that can be. -/
abbrev W64 (n : Int) : Prop := -9223372036854775808 ≤ n ∧ n < 9223372036854775808
theorem rd_num (pre y : Bytes) (n : Int) (h : W64 n) : (⟨pre, be8 n ++ y, false⟩ : Rd).num = n ∧ (⟨pre, be8 n ++ y, false⟩ : Rd).num' = ⟨pre ++ be8 n, y, false⟩ := by
  unfold Rd.num Rd.num'
  exact ⟨by have := Rd.got_app pre (be8 n) y 8 rfl; simp only [Int.cast_ofNat_Int] at this; rw [this, num_be8 n h], Rd.skip_app pre (be8 n) y 8 rfl⟩
theorem rd_in (pre y : Bytes) (n lo hi : Int) (h : W64 n) (hr : lo ≤ n ∧ n ≤ hi) : (⟨pre, be8 n ++ y, false⟩ : Rd).inn lo hi = n ∧ (⟨pre, be8 n ++ y, false⟩ : Rd).inn' lo hi = ⟨pre ++ be8 n, y, false⟩ := by
  have hk : (⟨pre, be8 n ++ y, false⟩ : Rd).inOk lo hi = true := by simp [Rd.inOk, rd_num pre y n h, hr]
  simp [Rd.inn, Rd.inn', hk, rd_num pre y n h]
theorem rd_in_no (pre y : Bytes) (n lo hi : Int) (h : W64 n) (hr : ¬ (lo ≤ n ∧ n ≤ hi)) : (⟨pre, be8 n ++ y, false⟩ : Rd).inn' lo hi = Rd.fault := by
  have hk : (⟨pre, be8 n ++ y, false⟩ : Rd).inOk lo hi = false := by
    simp only [Rd.inOk, rd_num pre y n h]
    rw [Bool.and_assoc, Bool.and_eq_false_iff]
    right
    simpa using hr
  simp [Rd.inn', hk]
theorem rd_text (pre y s : Bytes) (mx : Int) (h : s.length < 4294967296) (hm : (s.length : Int) ≤ mx) : (⟨pre, txt s ++ y, false⟩ : Rd).text mx = s ∧ (⟨pre, txt s ++ y, false⟩ : Rd).text' mx = ⟨pre ++ txt s, y, false⟩ := by
  have h4 := Rd.got_app pre (be4 s.length) (s ++ y) 4 rfl
  have k4 := Rd.skip_app pre (be4 s.length) (s ++ y) 4 rfl
  simp only [Int.cast_ofNat_Int] at h4 k4
  have hv : (beVal (be4 (s.length : Int)) : Int) = s.length := by rw [beVal_be4]; omega
  have hl : (⟨pre, txt s ++ y, false⟩ : Rd).len mx = (s.length : Nat) := by
    unfold Rd.len txt
    rw [List.append_assoc, h4, hv, if_neg (by omega)]
  unfold Rd.text Rd.text'
  rw [hl]
  unfold txt
  rw [List.append_assoc, k4]
  exact ⟨Rd.got_app _ s y s.length rfl, by have := Rd.skip_app (pre ++ be4 s.length) s y s.length rfl; rw [this, List.append_assoc]⟩
theorem rd_text_no (pre y s : Bytes) (mx : Int) (h : s.length < 4294967296) (hm : mx < (s.length : Int)) : (⟨pre, txt s ++ y, false⟩ : Rd).text' mx = Rd.fault := by
  have h4 := Rd.got_app pre (be4 s.length) (s ++ y) 4 rfl
  simp only [Int.cast_ofNat_Int] at h4
  have hv : (beVal (be4 (s.length : Int)) : Int) = s.length := by rw [beVal_be4]; omega
  have hl : (⟨pre, txt s ++ y, false⟩ : Rd).len mx = -1 := by
    unfold Rd.len txt
    rw [List.append_assoc, h4, hv, if_pos hm]
  unfold Rd.text'
  rw [hl]
  simp [Rd.skip, Rd.ok]
theorem rd_dg (pre y : Bytes) (d : Dg) : (⟨pre, d.bs ++ y, false⟩ : Rd).dg = d ∧ (⟨pre, d.bs ++ y, false⟩ : Rd).dg' = ⟨pre ++ d.bs, y, false⟩ := by
  have h := Rd.got_app pre d.bs y 32 (by simp)
  have k := Rd.skip_app pre d.bs y 32 (by simp)
  simp only [Int.cast_ofNat_Int] at h k
  refine ⟨Dg.ext' ?_, k⟩
  rw [Rd.dg_bs, h]
  simp [zeros]

/-! A reader with more behind it. -/
def Rd.ext (r : Rd) (t : Bytes) : Rd := ⟨r.pre, r.s ++ t, r.bad⟩
@[simp] theorem Rd.ext_bad (r : Rd) (t : Bytes) : (r.ext t).bad = r.bad := rfl
theorem ext_skip {r : Rd} {k : Int} (t : Bytes) (h : (r.skip k).bad = false) : (r.ext t).skip k = (r.skip k).ext t ∧ (r.ext t).got k = r.got k := by
  have hk : r.ok k = true := by
    unfold Rd.skip at h
    split at h
    · rename_i hk; exact hk
    · cases h
  have hk2 : (r.ext t).ok k = true := by
    simp only [Rd.ok, Rd.ext, Bool.and_eq_true, decide_eq_true_eq, List.length_append] at hk ⊢
    exact ⟨hk.1, by omega⟩
  have hle : k.toNat ≤ r.s.length := by
    simp only [Rd.ok, Bool.and_eq_true, decide_eq_true_eq] at hk
    omega
  simp only [Rd.skip, Rd.got, hk, hk2, if_true]
  simp [Rd.ext, List.take_append_of_le_length hle, List.drop_append_of_le_length hle]
theorem ext_num {r : Rd} (t : Bytes) (h : r.num'.bad = false) : (r.ext t).num' = r.num'.ext t ∧ (r.ext t).num = r.num := by
  have := ext_skip t h
  exact ⟨this.1, by unfold Rd.num; rw [this.2]⟩
theorem ext_in {r : Rd} {lo hi : Int} (t : Bytes) (h : (r.inn' lo hi).bad = false) : (r.ext t).inn' lo hi = (r.inn' lo hi).ext t ∧ (r.ext t).inn lo hi = r.inn lo hi := by
  have hk : r.inOk lo hi = true := by
    unfold Rd.inn' at h
    split at h
    · rename_i hk; exact hk
    · cases h
  have hb : r.num'.bad = false := by
    simp only [Rd.inOk, Bool.and_eq_true, Bool.not_eq_true'] at hk
    exact hk.1.1
  have hn := ext_num t hb
  have hk2 : (r.ext t).inOk lo hi = true := by
    unfold Rd.inOk at hk ⊢
    rw [hn.1, hn.2]
    exact hk
  simp only [Rd.inn', Rd.inn, hk, hk2, if_true]
  exact hn
theorem skip_bad_of {r : Rd} {k : Int} (h : (r.skip k).bad = false) : r.bad = false := by
  cases hb : r.bad
  · rfl
  · rw [r.skip_bad k hb] at h; cases h
theorem ext_text {r : Rd} {mx : Int} (t : Bytes) (h : (r.text' mx).bad = false) : (r.ext t).text' mx = (r.text' mx).ext t ∧ (r.ext t).text mx = r.text mx := by
  unfold Rd.text' at h
  have h4 := ext_skip t (skip_bad_of h)
  have hl : (r.ext t).len mx = r.len mx := by unfold Rd.len; rw [h4.2]
  have h5 := ext_skip t h
  unfold Rd.text' Rd.text
  rw [hl, h4.1]
  exact h5
theorem ext_dg {r : Rd} (t : Bytes) (h : r.dg'.bad = false) : (r.ext t).dg' = r.dg'.ext t ∧ (r.ext t).dg = r.dg := by
  have := ext_skip t h
  exact ⟨this.1, Dg.ext' (by rw [Rd.dg_bs, Rd.dg_bs, this.2])⟩

/-! Bytes tell what they are of. -/
theorem be8_app {n m : Int} {x y : Bytes} (hn : W64 n) (hm : W64 m) (h : be8 n ++ x = be8 m ++ y) : n = m ∧ x = y := by
  obtain ⟨h1, h2⟩ := List.append_inj h (by simp)
  refine ⟨?_, h2⟩
  have := num_be8 n hn
  rw [h1, num_be8 m hm] at this
  exact this.symm
theorem txt_app {a b x y : Bytes} (ha : a.length < 4294967296) (hb : b.length < 4294967296) (h : txt a ++ x = txt b ++ y) : a = b ∧ x = y := by
  unfold txt at h
  rw [List.append_assoc, List.append_assoc] at h
  obtain ⟨h1, h2⟩ := List.append_inj h (by simp)
  have hl : a.length = b.length := by
    have e1 := beVal_be4 (a.length : Int)
    have e2 := beVal_be4 (b.length : Int)
    rw [h1] at e1
    omega
  exact List.append_inj h2 hl
theorem dg_app {a b : Dg} {x y : Bytes} (h : a.bs ++ x = b.bs ++ y) : a = b ∧ x = y := by
  obtain ⟨h1, h2⟩ := List.append_inj h (by simp)
  exact ⟨Dg.ext' h1, h2⟩
theorem txts_app : ∀ {as bs : List Bytes} {x y : Bytes}, (∀ a ∈ as, a.length < 4294967296) → (∀ b ∈ bs, b.length < 4294967296) → as.length = bs.length → txts as ++ x = txts bs ++ y → as = bs ∧ x = y
  | [], [], x, y, _, _, _, h => ⟨rfl, by simpa [txts] using h⟩
  | a :: as, b :: bs, x, y, ha, hb, hl, h => by
    have e : ∀ (c : Bytes) (cs : List Bytes), txts (c :: cs) = txt c ++ txts cs := fun _ _ => by simp [txts]
    rw [e, e, List.append_assoc, List.append_assoc] at h
    obtain ⟨rfl, h2⟩ := txt_app (ha a (by simp)) (hb b (by simp)) h
    obtain ⟨rfl, h3⟩ := txts_app (fun c hc => ha c (by simp [hc])) (fun c hc => hb c (by simp [hc])) (by simpa using hl) h2
    exact ⟨rfl, h3⟩
  | [], _ :: _, _, _, _, _, hl, _ => by simp at hl
  | _ :: _, [], _, _, _, _, hl, _ => by simp at hl
end Go.Proofs.Ytglkfbhjimnboaa.WL

end
section
/-
  FORMATS: how things are written and read, put together out of few parts; what is written is read, what is read was so written, and bytes tell what they are of.
-/
namespace Go.Proofs.Ytglkfbhjimnboaa.WL
open Go

structure Fmt (α : Type) where
  rd : Rd → α
  rd' : Rd → Rd
  wr : α → Bytes
  good : α → Prop
  fits : α → Prop
/-- A reader that is bad has nothing. -/
def Rd.flt (r : Rd) : Prop := r.bad = true → r = Rd.fault
theorem Rd.flt_fault : Rd.fault.flt := fun _ => rfl
theorem Rd.flt_of (b : Bytes) : (Rd.of b).flt := fun h => by cases h
theorem Rd.flt_skip (r : Rd) (k : Int) : (r.skip k).flt := by
  unfold Rd.skip Rd.flt
  split
  · intro h; cases h
  · intro _; rfl

structure Fmt.Law {α : Type} (F : Fmt α) : Prop where
  fault : F.rd' Rd.fault = Rd.fault
  flt : ∀ r, r.flt → (F.rd' r).flt
  back : ∀ pre y a, F.good a → F.rd ⟨pre, F.wr a ++ y, false⟩ = a ∧ F.rd' ⟨pre, F.wr a ++ y, false⟩ = ⟨pre ++ F.wr a, y, false⟩
  one : ∀ r, (F.rd' r).bad = false → r.bad = false ∧ (F.rd' r).pre = r.pre ++ F.wr (F.rd r) ∧ r.s = F.wr (F.rd r) ++ (F.rd' r).s ∧ F.good (F.rd r)
  fit : ∀ a, F.good a → F.fits a
  inj : ∀ a b x y, F.fits a → F.fits b → F.wr a ++ x = F.wr b ++ y → a = b ∧ x = y

theorem skip_one {r : Rd} {k : Int} (h : (r.skip k).bad = false) : r.bad = false ∧ (r.skip k).pre = r.pre ++ r.got k ∧ r.s = r.got k ++ (r.skip k).s ∧ ((r.got k).length : Int) = k := by
  obtain ⟨h1, _, h3, h4, h5⟩ := Rd.skip_good h
  refine ⟨h1, h4, ?_, h3⟩
  rw [h4, List.append_assoc] at h5
  exact (List.append_cancel_left h5).symm

/-! Numbers. -/
def numF : Fmt Int := ⟨Rd.num, Rd.num', be8, W64, W64⟩
theorem num_one {r : Rd} (h : r.num'.bad = false) : r.bad = false ∧ r.num'.pre = r.pre ++ be8 r.num ∧ r.s = be8 r.num ++ r.num'.s := by
  obtain ⟨h1, h2, h3⟩ := Rd.num_put h
  refine ⟨h1, h2, ?_⟩
  rw [h2, List.append_assoc] at h3
  exact (List.append_cancel_left h3).symm
theorem numF_law : numF.Law where
  fault := rfl
  flt r _ := r.flt_skip 8
  back pre y a h := rd_num pre y a h
  one r h := by
    obtain ⟨h1, h2, h3⟩ := num_one h
    exact ⟨h1, h2, h3, r.num_range⟩
  fit a h := h
  inj a b x y ha hb h := be8_app ha hb h
def inF (lo hi : Int) : Fmt Int := ⟨fun r => r.inn lo hi, fun r => r.inn' lo hi, be8, fun n => W64 n ∧ lo ≤ n ∧ n ≤ hi, W64⟩
theorem inF_law (lo hi : Int) : (inF lo hi).Law where
  fault := Rd.inn_bad Rd.fault lo hi rfl
  flt r _ := by
    show (r.inn' lo hi).flt
    unfold Rd.inn'
    split
    · exact r.flt_skip 8
    · exact Rd.flt_fault
  back pre y a h := rd_in pre y a lo hi h.1 h.2
  one r h := by
    change (r.inn' lo hi).bad = false at h
    show r.bad = false ∧ (r.inn' lo hi).pre = r.pre ++ be8 (r.inn lo hi) ∧ r.s = be8 (r.inn lo hi) ++ (r.inn' lo hi).s ∧ (W64 (r.inn lo hi) ∧ _)
    unfold Rd.inn' Rd.inn at *
    split at h
    · rename_i hk
      simp only [Rd.inOk, Bool.and_eq_true, decide_eq_true_eq] at hk
      simp only [Rd.inOk, hk, decide_true, Bool.and_self, if_true]
      obtain ⟨h1, h2, h3⟩ := num_one h
      refine ⟨h1, h2, h3, r.num_range, ?_⟩
      show lo ≤ (if r.inOk lo hi = true then r.num else 0) ∧ (if r.inOk lo hi = true then r.num else 0) ≤ hi
      rw [if_pos (by simp [Rd.inOk, hk])]
      exact ⟨hk.1.2, hk.2⟩
    · cases h
  fit a h := h.1
  inj a b x y ha hb h := be8_app ha hb h
/-! Texts. -/
def textF (mx : Int) : Fmt Bytes := ⟨fun r => r.text mx, fun r => r.text' mx, txt, fun s => s.length < 4294967296 ∧ (s.length : Int) ≤ mx, fun s => s.length < 4294967296⟩
theorem textF_law (mx : Int) : (textF mx).Law where
  fault := Rd.text_bad Rd.fault mx rfl
  flt r _ := Rd.flt_skip _ _
  back pre y a h := rd_text pre y a mx h.1 h.2
  one r h := by
    change ((r.skip 4).skip (r.len mx)).bad = false at h
    show r.bad = false ∧ ((r.skip 4).skip (r.len mx)).pre = r.pre ++ txt (r.text mx) ∧ r.s = txt (r.text mx) ++ ((r.skip 4).skip (r.len mx)).s ∧ ((r.text mx).length < 4294967296 ∧ ((r.text mx).length : Int) ≤ mx)
    obtain ⟨h1, h2, h3, h4⟩ := skip_one h
    obtain ⟨k1, k2, k3, k4⟩ := skip_one h1
    have hg : (r.got 4).length = 4 := by omega
    have hlen : r.len mx = (beVal (r.got 4) : Nat) ∧ ¬ mx < (beVal (r.got 4) : Int) := by
      unfold Rd.len at h4 ⊢
      split at h4
      · omega
      · rename_i hk; rw [if_neg hk]; exact ⟨rfl, hk⟩
    have hlt := beVal_lt (r.got 4)
    rw [hg] at hlt
    have ht : (r.skip 4).got (r.len mx) = r.text mx := rfl
    rw [ht] at h2 h3 h4
    have hl : (r.text mx).length = beVal (r.got 4) := by omega
    have hw : txt (r.text mx) = r.got 4 ++ r.text mx := by
      unfold txt
      rw [hl, be4_beVal _ hg]
    rw [hw]
    refine ⟨k1, ?_, ?_, ?_, ?_⟩
    · rw [h2, k2, List.append_assoc]
    · rw [List.append_assoc, ← h3]; exact k3
    · rw [hl]; exact hlt
    · omega
  fit a h := h.1
  inj a b x y ha hb h := txt_app ha hb h
/-! Digests. -/
def dgF : Fmt Dg := ⟨Rd.dg, Rd.dg', Dg.bs, fun _ => True, fun _ => True⟩
theorem dgF_law : dgF.Law where
  fault := Rd.dg_bad Rd.fault rfl
  flt r _ := r.flt_skip 32
  back pre y a _ := rd_dg pre y a
  one r h := by
    obtain ⟨h1, h2, h3, h4⟩ := skip_one h
    have e : r.dg.bs = r.got 32 := by
      rw [Rd.dg_bs, show 32 - (r.got 32).length = 0 by omega]
      simp [zeros]
    refine ⟨h1, ?_, ?_, trivial⟩
    · show (r.skip 32).pre = r.pre ++ r.dg.bs
      rw [e]; exact h2
    · show r.s = r.dg.bs ++ (r.skip 32).s
      rw [e]; exact h3
  fit _ _ := trivial
  inj a b x y _ _ h := dg_app h
/-! One behind the other, the second as the first one tells. -/
def seqF {α β : Type} (F : Fmt α) (K : α → Fmt β) : Fmt (α × β) :=
  ⟨fun r => (F.rd r, (K (F.rd r)).rd (F.rd' r)), fun r => (K (F.rd r)).rd' (F.rd' r), fun p => F.wr p.1 ++ (K p.1).wr p.2, fun p => F.good p.1 ∧ (K p.1).good p.2, fun p => F.fits p.1 ∧ (K p.1).fits p.2⟩
theorem seqF_law {α β : Type} {F : Fmt α} {K : α → Fmt β} (hF : F.Law) (hK : ∀ a, (K a).Law) : (seqF F K).Law where
  fault := by
    show (K _).rd' (F.rd' Rd.fault) = Rd.fault
    rw [hF.fault]; exact (hK _).fault
  flt r h := (hK _).flt _ (hF.flt r h)
  back pre y p h := by
    obtain ⟨a, b⟩ := p
    obtain ⟨h1, h2⟩ := hF.back pre ((K a).wr b ++ y) a h.1
    obtain ⟨k1, k2⟩ := (hK a).back (pre ++ F.wr a) y b h.2
    simp only [seqF, List.append_assoc] at *
    simp only [h1, h2, k1, k2, and_self]
  one r h := by
    change ((K (F.rd r)).rd' (F.rd' r)).bad = false at h
    obtain ⟨k1, k2, k3, k4⟩ := (hK _).one _ h
    obtain ⟨h1, h2, h3, h4⟩ := hF.one r k1
    refine ⟨h1, ?_, ?_, h4, k4⟩
    · show ((K (F.rd r)).rd' (F.rd' r)).pre = _
      rw [k2, h2]; simp [seqF]
    · show r.s = (F.wr (F.rd r) ++ (K (F.rd r)).wr ((K (F.rd r)).rd (F.rd' r))) ++ ((K (F.rd r)).rd' (F.rd' r)).s
      rw [List.append_assoc, ← k3]; exact h3
  fit p h := ⟨hF.fit _ h.1, (hK _).fit _ h.2⟩
  inj a b x y ha hb h := by
    obtain ⟨a1, a2⟩ := a
    obtain ⟨b1, b2⟩ := b
    simp only [seqF, List.append_assoc] at *
    obtain ⟨rfl, h2⟩ := hF.inj a1 b1 _ _ ha.1 hb.1 h
    obtain ⟨rfl, h3⟩ := (hK a1).inj a2 b2 x y ha.2 hb.2 h2
    exact ⟨rfl, h3⟩
/-! Seen as another type. -/
def mapF {α β : Type} (F : Fmt α) (f : α → β) (g : β → α) : Fmt β := ⟨fun r => f (F.rd r), F.rd', fun b => F.wr (g b), fun b => F.good (g b), fun b => F.fits (g b)⟩
theorem mapF_law {α β : Type} {F : Fmt α} {f : α → β} {g : β → α} (hF : F.Law) (fg : ∀ b, f (g b) = b) (gf : ∀ a, F.good a → g (f a) = a) : (mapF F f g).Law where
  fault := hF.fault
  flt := hF.flt
  back pre y b h := by
    obtain ⟨h1, h2⟩ := hF.back pre y (g b) h
    exact ⟨by show f _ = b; simp only [mapF]; rw [h1, fg], h2⟩
  one r h := by
    obtain ⟨h1, h2, h3, h4⟩ := hF.one r h
    have e := gf _ h4
    simp only [mapF, e]
    exact ⟨h1, h2, h3, h4⟩
  fit b h := hF.fit _ h
  inj a b x y ha hb h := by
    obtain ⟨h1, h2⟩ := hF.inj (g a) (g b) x y ha hb h
    exact ⟨by rw [← fg a, ← fg b, h1], h2⟩
/-! What is read is nothing if there was a fault. -/
def zeroF {α : Type} (F : Fmt α) (z : α) : Fmt α := ⟨fun r => if (F.rd' r).bad = true then z else F.rd r, F.rd', F.wr, F.good, F.fits⟩
theorem zeroF_law {α : Type} {F : Fmt α} (z : α) (hF : F.Law) : (zeroF F z).Law where
  fault := hF.fault
  flt := hF.flt
  back pre y a h := by
    obtain ⟨h1, h2⟩ := hF.back pre y a h
    simp only [zeroF, h1, h2]
    exact ⟨rfl, trivial⟩
  one r h := by
    change (F.rd' r).bad = false at h
    have := hF.one r h
    simp only [zeroF, h]
    exact this
  fit := hF.fit
  inj := hF.inj
/-! So many, each as those ahead of it tell. -/
def repR {α : Type} (K : List α → Fmt α) (r : Rd) : Nat → List α × Rd
  | 0 => ([], r)
  | n + 1 => ((repR K r n).1 ++ [(K (repR K r n).1).rd (repR K r n).2], (K (repR K r n).1).rd' (repR K r n).2)
def repW {α : Type} (K : List α → Fmt α) : List α → List α → Bytes
  | _, [] => []
  | p, a :: l => (K p).wr a ++ repW K (p ++ [a]) l
def repG {α : Type} (K : List α → Fmt α) : List α → List α → Prop
  | _, [] => True
  | p, a :: l => (K p).good a ∧ repG K (p ++ [a]) l
def repT {α : Type} (K : List α → Fmt α) : List α → List α → Prop
  | _, [] => True
  | p, a :: l => (K p).fits a ∧ repT K (p ++ [a]) l
def repF {α : Type} (K : List α → Fmt α) (n : Nat) : Fmt (List α) := ⟨fun r => (repR K r n).1, fun r => (repR K r n).2, repW K [], fun l => l.length = n ∧ repG K [] l, fun l => l.length = n ∧ repT K [] l⟩
@[simp] theorem repR_length {α : Type} (K : List α → Fmt α) (r : Rd) (n : Nat) : (repR K r n).1.length = n := by
  induction n with
  | zero => rfl
  | succ n ih => simp [repR, ih]
theorem repW_snoc {α : Type} (K : List α → Fmt α) (a : α) : ∀ (l p : List α), repW K p (l ++ [a]) = repW K p l ++ (K (p ++ l)).wr a
  | [], p => by simp [repW]
  | b :: l, p => by
    simp only [List.cons_append, repW]
    rw [repW_snoc K a l (p ++ [b])]
    simp
theorem repG_snoc {α : Type} (K : List α → Fmt α) (a : α) : ∀ (l p : List α), repG K p (l ++ [a]) ↔ repG K p l ∧ (K (p ++ l)).good a
  | [], p => by simp [repG]
  | b :: l, p => by
    simp only [List.cons_append, repG]
    rw [repG_snoc K a l (p ++ [b])]
    simp [and_assoc]
theorem repT_of {α : Type} {K : List α → Fmt α} (hK : ∀ p, (K p).Law) : ∀ (l p : List α), repG K p l → repT K p l
  | [], _, _ => trivial
  | _ :: l, _, h => ⟨(hK _).fit _ h.1, repT_of hK l _ h.2⟩
theorem repW_inj {α : Type} {K : List α → Fmt α} (hK : ∀ p, (K p).Law) : ∀ (l m p : List α) (x y : Bytes), l.length = m.length → repT K p l → repT K p m → repW K p l ++ x = repW K p m ++ y → l = m ∧ x = y
  | [], [], _, _, _, _, _, _, h => ⟨rfl, by simpa [repW] using h⟩
  | [], _ :: _, _, _, _, h, _, _, _ => by simp at h
  | _ :: _, [], _, _, _, h, _, _, _ => by simp at h
  | a :: l, b :: m, p, x, y, hl, h1, h2, h => by
    simp only [repW, List.append_assoc] at h
    obtain ⟨rfl, h3⟩ := (hK p).inj a b _ _ h1.1 h2.1 h
    obtain ⟨rfl, h4⟩ := repW_inj hK l m (p ++ [a]) x y (by simpa using hl) h1.2 h2.2 h3
    exact ⟨rfl, h4⟩
theorem repR_fault {α : Type} {K : List α → Fmt α} (hK : ∀ p, (K p).Law) : ∀ n, (repR K Rd.fault n).2 = Rd.fault
  | 0 => rfl
  | n + 1 => by simp only [repR]; rw [repR_fault hK n]; exact (hK _).fault
theorem repR_flt {α : Type} {K : List α → Fmt α} (hK : ∀ p, (K p).Law) (r : Rd) (h : r.flt) : ∀ n, (repR K r n).2.flt
  | 0 => h
  | n + 1 => (hK _).flt _ (repR_flt hK r h n)
/-- Behind a fault nothing is read any more. -/
theorem repR_stop {α : Type} {K : List α → Fmt α} (hK : ∀ p, (K p).Law) (r : Rd) (h : r.flt) (j : Nat) (hb : (repR K r j).2.bad = true) : ∀ n, j ≤ n → (repR K r n).2 = Rd.fault
  | 0, hj => by
    have : j = 0 := by omega
    subst this
    exact repR_flt hK r h 0 hb
  | n + 1, hj => by
    rcases (show j = n + 1 ∨ j ≤ n by omega) with rfl | h1
    · exact repR_flt hK r h _ hb
    · simp only [repR]; rw [repR_stop hK r h j hb n h1]; exact (hK _).fault
theorem repG_get {α : Type} {K : List α → Fmt α} : ∀ (l p : List α), repG K p l → ∀ n (h : n < l.length), (K (p ++ l.take n)).good l[n]
  | [], _, _, n, h => by simp at h
  | a :: l, p, hg, 0, _ => by simpa using hg.1
  | a :: l, p, hg, n + 1, h => by
    have := repG_get l (p ++ [a]) hg.2 n (by simpa using h)
    simpa using this
theorem repR_back {α : Type} {K : List α → Fmt α} (hK : ∀ p, (K p).Law) (pre y : Bytes) (l : List α) (hg : repG K [] l) : ∀ n, n ≤ l.length →
    repR K ⟨pre, repW K [] l ++ y, false⟩ n = (l.take n, ⟨pre ++ repW K [] (l.take n), repW K (l.take n) (l.drop n) ++ y, false⟩)
  | 0, _ => by simp [repR, repW]
  | n + 1, h => by
    have hn : n < l.length := by omega
    have ht : l.take (n + 1) = l.take n ++ [l[n]] := List.take_succ_eq_append_getElem hn
    have hd : l.drop n = l[n] :: l.drop (n + 1) := List.drop_eq_getElem_cons hn
    have h1 := repG_get l [] hg n hn
    have i := repR_back hK pre y l hg n (by omega)
    rw [hd] at i
    simp only [repW, List.nil_append, List.append_assoc] at i h1
    obtain ⟨b1, b2⟩ := (hK (l.take n)).back (pre ++ repW K [] (l.take n)) (repW K (l.take n ++ [l[n]]) (l.drop (n + 1)) ++ y) l[n] h1
    simp only [repR, i, b1, b2, ht, repW_snoc, List.nil_append, List.append_assoc]
theorem repR_one {α : Type} {K : List α → Fmt α} (hK : ∀ p, (K p).Law) (r : Rd) : ∀ n, (repR K r n).2.bad = false →
    r.bad = false ∧ (repR K r n).2.pre = r.pre ++ repW K [] (repR K r n).1 ∧ r.s = repW K [] (repR K r n).1 ++ (repR K r n).2.s ∧ repG K [] (repR K r n).1
  | 0, h => ⟨h, by simp [repR, repW], by simp [repR, repW], trivial⟩
  | n + 1, h => by
    simp only [repR] at h ⊢
    obtain ⟨k1, k2, k3, k4⟩ := (hK _).one _ h
    obtain ⟨h1, h2, h3, h4⟩ := repR_one hK r n k1
    rw [repW_snoc, repG_snoc]
    refine ⟨h1, ?_, ?_, h4, k4⟩
    · rw [k2, h2]; simp
    · rw [List.append_assoc]
      simp only [List.nil_append]
      rw [← k3]; exact h3
theorem repF_law {α : Type} {K : List α → Fmt α} (hK : ∀ p, (K p).Law) (n : Nat) : (repF K n).Law where
  fault := repR_fault hK n
  flt r h := repR_flt hK r h n
  back pre y l h := by
    obtain ⟨rfl, h⟩ := h
    have := repR_back hK pre y l h l.length (Nat.le_refl _)
    rw [List.take_length, List.drop_length] at this
    simp only [repW, List.nil_append] at this
    simp only [repF, this, and_self]
  one r h := by
    obtain ⟨h1, h2, h3, h4⟩ := repR_one hK r n h
    exact ⟨h1, h2, h3, repR_length K r n, h4⟩
  fit l h := ⟨h.1, repT_of hK l [] h.2⟩
  inj a b x y ha hb h := repW_inj hK a b [] x y (by rw [ha.1, hb.1]) ha.2 hb.2 h
/-! How many, and then so many. -/
def cntF {α : Type} (lo hi : Int) (K : List α → Fmt α) : Fmt (List α) := mapF (seqF (inF lo hi) fun n => repF K n.toNat) (·.2) (fun l => ((l.length : Int), l))
theorem cntF_law {α : Type} {lo hi : Int} {K : List α → Fmt α} (h0 : 0 ≤ lo) (hK : ∀ p, (K p).Law) : (cntF lo hi K).Law :=
  mapF_law (seqF_law (inF_law lo hi) fun n => repF_law hK n.toNat) (fun _ => rfl) (by
    rintro ⟨n, l⟩ ⟨⟨_, h1⟩, h2, _⟩
    have h3 : lo ≤ n := h1.1
    have h4 : l.length = n.toNat := h2
    have : (l.length : Int) = n := by omega
    show ((l.length : Int), l) = (n, l)
    rw [this])
/-- The same reader in other words. -/
theorem Fmt.Law.congr {α : Type} {F G : Fmt α} (h : F.Law) (h1 : ∀ r, G.rd r = F.rd r) (h2 : ∀ r, G.rd' r = F.rd' r) (h3 : ∀ a, G.wr a = F.wr a) (h4 : ∀ a, G.good a ↔ F.good a) (h5 : ∀ a, G.fits a ↔ F.fits a) : G.Law where
  fault := by rw [h2]; exact h.fault
  flt r hr := by rw [h2]; exact h.flt r hr
  back pre y a hg := by rw [h3, h1, h2]; exact h.back pre y a ((h4 a).1 hg)
  one r hb := by rw [h2] at hb ⊢; rw [h1, h3, h4]; exact h.one r hb
  fit a hg := (h5 a).2 (h.fit a ((h4 a).1 hg))
  inj a b x y ha hb hx := by rw [h3, h3] at hx; exact h.inj a b x y ((h5 a).1 ha) ((h5 b).1 hb) hx
end Go.Proofs.Ytglkfbhjimnboaa.WL

end
section
/-
  CHAPTER 09: laws of requests and replies, without any program.
-/
namespace Go.Proofs.Ytglkfbhjimnboaa.WL
open Go

/-- A request that can come in. -/
structure Req.Fits (q : Req) : Prop where
  client : W64 q.client
  num : W64 q.num
  kind : W64 q.kind
  ckind : W64 q.ch.kind
  cid : W64 q.ch.id
  cnew : W64 q.ch.new
  cheight : W64 q.ch.height
  key : q.key.length < 4294967296
  val : q.val.length < 4294967296
  old : q.old.length < 4294967296
theorem Req.bytes_eq (q : Req) (y : Bytes) : q.bytes ++ y = be8 q.client ++ (be8 q.num ++ (be8 q.kind ++ (txt q.key ++ (txt q.val ++ (txt q.old ++ (be8 q.ch.kind ++ (be8 q.ch.id ++ (be8 q.ch.new ++ (be8 q.ch.height ++ (q.ch.root.bs ++ y)))))))))) := by
  simp [Req.bytes, nums, txts]
theorem Req.bytes_app {a b : Req} {x y : Bytes} (ha : a.Fits) (hb : b.Fits) (h : a.bytes ++ x = b.bytes ++ y) : a = b ∧ x = y := by
  rw [Req.bytes_eq, Req.bytes_eq] at h
  obtain ⟨c, n, k, ke, v, o, ⟨ck, ci, cn, cr, chh⟩⟩ := a
  obtain ⟨c', n', k', ke', v', o', ⟨ck', ci', cn', cr', chh'⟩⟩ := b
  obtain ⟨e1, h1⟩ := be8_app ha.client hb.client h
  obtain ⟨e2, h2⟩ := be8_app ha.num hb.num h1
  obtain ⟨e3, h3⟩ := be8_app ha.kind hb.kind h2
  obtain ⟨e4, h4⟩ := txt_app ha.key hb.key h3
  obtain ⟨e5, h5⟩ := txt_app ha.val hb.val h4
  obtain ⟨e6, h6⟩ := txt_app ha.old hb.old h5
  obtain ⟨e7, h7⟩ := be8_app ha.ckind hb.ckind h6
  obtain ⟨e8, h8⟩ := be8_app ha.cid hb.cid h7
  obtain ⟨e9, h9⟩ := be8_app ha.cnew hb.cnew h8
  obtain ⟨e10, h10⟩ := be8_app ha.cheight hb.cheight h9
  obtain ⟨e11, h11⟩ := dg_app h10
  simp only at e1 e2 e3 e4 e5 e6 e7 e8 e9 e10 e11
  subst e1 e2 e3 e4 e5 e6 e7 e8 e9 e10 e11
  exact ⟨rfl, h11⟩
theorem Req.bytes_inj {a b : Req} (ha : a.Fits) (hb : b.Fits) : a.bytes = b.bytes ↔ a = b := by
  constructor
  · intro h
    exact (Req.bytes_app (x := []) (y := []) ha hb (by rw [h])).1
  · rintro rfl; rfl
/-- A request is read as it was written, just if it can be. -/
theorem rd_req (pre y : Bytes) (q : Req) (h : q.Fits) (hg : q.good = true) : (⟨pre, q.bytes ++ y, false⟩ : Rd).req = q ∧ (⟨pre, q.bytes ++ y, false⟩ : Rd).req' = ⟨pre ++ q.bytes, y, false⟩ := by
  have hg' := hg
  simp only [Req.good, Bool.and_eq_true, decide_eq_true_eq] at hg'
  obtain ⟨⟨⟨⟨⟨⟨g1, g2⟩, g3⟩, g4⟩, g5⟩, g6⟩, ⟨g7, g8⟩, g9⟩ := hg'
  have e1 := rd_in pre (be8 q.num ++ (be8 q.kind ++ (txt q.key ++ (txt q.val ++ (txt q.old ++ (be8 q.ch.kind ++ (be8 q.ch.id ++ (be8 q.ch.new ++ (be8 q.ch.height ++ (q.ch.root.bs ++ y)))))))))) q.client 1 64 h.client ⟨g1, g2⟩
  have e2 := rd_in (pre ++ be8 q.client) (be8 q.kind ++ (txt q.key ++ (txt q.val ++ (txt q.old ++ (be8 q.ch.kind ++ (be8 q.ch.id ++ (be8 q.ch.new ++ (be8 q.ch.height ++ (q.ch.root.bs ++ y))))))))) q.num 1 1099511627776 h.num ⟨g3, g4⟩
  have e3 := rd_in (pre ++ be8 q.client ++ be8 q.num) (txt q.key ++ (txt q.val ++ (txt q.old ++ (be8 q.ch.kind ++ (be8 q.ch.id ++ (be8 q.ch.new ++ (be8 q.ch.height ++ (q.ch.root.bs ++ y)))))))) q.kind 1 7 h.kind ⟨g5, g6⟩
  have e4 := rd_text (pre ++ be8 q.client ++ be8 q.num ++ be8 q.kind) (txt q.val ++ (txt q.old ++ (be8 q.ch.kind ++ (be8 q.ch.id ++ (be8 q.ch.new ++ (be8 q.ch.height ++ (q.ch.root.bs ++ y))))))) q.key 1024 h.key (by omega)
  have e5 := rd_text (pre ++ be8 q.client ++ be8 q.num ++ be8 q.kind ++ txt q.key) (txt q.old ++ (be8 q.ch.kind ++ (be8 q.ch.id ++ (be8 q.ch.new ++ (be8 q.ch.height ++ (q.ch.root.bs ++ y)))))) q.val 1024 h.val (by omega)
  have e6 := rd_text (pre ++ be8 q.client ++ be8 q.num ++ be8 q.kind ++ txt q.key ++ txt q.val) (be8 q.ch.kind ++ (be8 q.ch.id ++ (be8 q.ch.new ++ (be8 q.ch.height ++ (q.ch.root.bs ++ y))))) q.old 1024 h.old (by omega)
  have e7 := rd_num (pre ++ be8 q.client ++ be8 q.num ++ be8 q.kind ++ txt q.key ++ txt q.val ++ txt q.old) (be8 q.ch.id ++ (be8 q.ch.new ++ (be8 q.ch.height ++ (q.ch.root.bs ++ y)))) q.ch.kind h.ckind
  have e8 := rd_num (pre ++ be8 q.client ++ be8 q.num ++ be8 q.kind ++ txt q.key ++ txt q.val ++ txt q.old ++ be8 q.ch.kind) (be8 q.ch.new ++ (be8 q.ch.height ++ (q.ch.root.bs ++ y))) q.ch.id h.cid
  have e9 := rd_num (pre ++ be8 q.client ++ be8 q.num ++ be8 q.kind ++ txt q.key ++ txt q.val ++ txt q.old ++ be8 q.ch.kind ++ be8 q.ch.id) (be8 q.ch.height ++ (q.ch.root.bs ++ y)) q.ch.new h.cnew
  have e10 := rd_num (pre ++ be8 q.client ++ be8 q.num ++ be8 q.kind ++ txt q.key ++ txt q.val ++ txt q.old ++ be8 q.ch.kind ++ be8 q.ch.id ++ be8 q.ch.new) (q.ch.root.bs ++ y) q.ch.height h.cheight
  have e11 := rd_dg (pre ++ be8 q.client ++ be8 q.num ++ be8 q.kind ++ txt q.key ++ txt q.val ++ txt q.old ++ be8 q.ch.kind ++ be8 q.ch.id ++ be8 q.ch.new ++ be8 q.ch.height) y q.ch.root
  rw [Req.bytes_eq]
  unfold Rd.req Rd.req0 Rd.req' Rd.q10 Rd.q9 Rd.q8 Rd.q7 Rd.q6 Rd.q5 Rd.q4 Rd.q3 Rd.q2 Rd.q1
  simp only [e1, e2, e3, e4, e5, e6, e7, e8, e9, e10, e11]
  refine ⟨rfl, ?_⟩
  have := Req.bytes_eq q []
  simp only [List.append_nil] at this
  rw [this]
  simp
/-- Another one is a fault. -/
theorem rd_req_no (pre y : Bytes) (q : Req) (h : q.Fits) (hg : q.good = false) : (⟨pre, q.bytes ++ y, false⟩ : Rd).req'.bad = true := by
  rw [Req.bytes_eq]
  have fin : ∀ r : Rd, (r.q1 = Rd.fault ∨ r.q2 = Rd.fault ∨ r.q3 = Rd.fault ∨ r.q4 = Rd.fault ∨ r.q5 = Rd.fault ∨ r.q6 = Rd.fault) → r.req'.bad = true := by
    intro r hr
    have k2 : r.q1 = Rd.fault → r.q2 = Rd.fault := fun e => by unfold Rd.q2; rw [e]; exact Rd.inn_bad _ _ _ rfl
    have k3 : r.q2 = Rd.fault → r.q3 = Rd.fault := fun e => by unfold Rd.q3; rw [e]; exact Rd.inn_bad _ _ _ rfl
    have k4 : r.q3 = Rd.fault → r.q4 = Rd.fault := fun e => by unfold Rd.q4; rw [e]; exact Rd.text_bad _ _ rfl
    have k5 : r.q4 = Rd.fault → r.q5 = Rd.fault := fun e => by unfold Rd.q5; rw [e]; exact Rd.text_bad _ _ rfl
    have k6 : r.q5 = Rd.fault → r.q6 = Rd.fault := fun e => by unfold Rd.q6; rw [e]; exact Rd.text_bad _ _ rfl
    have h6 : r.q6 = Rd.fault := by
      rcases hr with e | e | e | e | e | e
      · exact k6 (k5 (k4 (k3 (k2 e))))
      · exact k6 (k5 (k4 (k3 e)))
      · exact k6 (k5 (k4 e))
      · exact k6 (k5 e)
      · exact k6 e
      · exact e
    have e7 : r.q7 = Rd.fault := by unfold Rd.q7; rw [h6]; exact Rd.num_bad _ rfl
    have e8 : r.q8 = Rd.fault := by unfold Rd.q8; rw [e7]; exact Rd.num_bad _ rfl
    have e9 : r.q9 = Rd.fault := by unfold Rd.q9; rw [e8]; exact Rd.num_bad _ rfl
    have e10 : r.q10 = Rd.fault := by unfold Rd.q10; rw [e9]; exact Rd.num_bad _ rfl
    unfold Rd.req'
    rw [e10, Rd.dg_bad _ rfl]
    rfl
  apply fin
  unfold Rd.q6 Rd.q5 Rd.q4 Rd.q3 Rd.q2 Rd.q1
  by_cases c1 : 1 ≤ q.client ∧ q.client ≤ 64
  · rw [(rd_in _ _ q.client 1 64 h.client c1).2]
    by_cases c2 : 1 ≤ q.num ∧ q.num ≤ 1099511627776
    · rw [(rd_in _ _ q.num 1 1099511627776 h.num c2).2]
      by_cases c3 : 1 ≤ q.kind ∧ q.kind ≤ 7
      · rw [(rd_in _ _ q.kind 1 7 h.kind c3).2]
        by_cases c4 : (q.key.length : Int) ≤ 1024
        · rw [(rd_text _ _ q.key 1024 h.key c4).2]
          by_cases c5 : (q.val.length : Int) ≤ 1024
          · rw [(rd_text _ _ q.val 1024 h.val c5).2]
            have c6 : 1024 < (q.old.length : Int) := by
              rcases Int.lt_or_le 1024 (q.old.length : Int) with k | k
              · exact k
              · exfalso
                simp only [Req.good, Bool.and_eq_false_iff, decide_eq_false_iff_not] at hg
                omega
            right; right; right; right; right
            exact rd_text_no _ _ q.old 1024 h.old c6
          · right; right; right; right; left
            exact rd_text_no _ _ q.val 1024 h.val (by omega)
        · right; right; right; left
          exact rd_text_no _ _ q.key 1024 h.key (by omega)
      · right; right; left
        exact rd_in_no _ _ q.kind 1 7 h.kind c3
    · right; left
      exact rd_in_no _ _ q.num 1 1099511627776 h.num c2
  · left
    exact rd_in_no _ _ q.client 1 64 h.client c1
theorem req_back (q : Req) (h : q.Fits) : (Rd.of q.bytes).req'.done = q.good ∧ (q.good = true → (Rd.of q.bytes).req = q) := by
  have e : Rd.of q.bytes = ⟨[], q.bytes ++ [], false⟩ := by simp [Rd.of]
  rw [e]
  cases hg : q.good
  · refine ⟨?_, fun k => by cases k⟩
    unfold Rd.done
    rw [rd_req_no [] [] q h hg]
    rfl
  · have := rd_req [] [] q h hg
    refine ⟨?_, fun _ => this.1⟩
    rw [this.2]
    rfl

/-- A reply that can come in. -/
structure Rep.Fits (a : Rep) : Prop where
  client : W64 a.client
  num : W64 a.num
  code : W64 a.code
  len : a.vals.length < 4611686018427387904
  vals : ∀ v ∈ a.vals, v.length < 4294967296
theorem Rep.bytes_inj {a b : Rep} (ha : a.Fits) (hb : b.Fits) : a.bytes = b.bytes ↔ a = b := by
  constructor
  · intro h
    obtain ⟨c, n, k, vs⟩ := a
    obtain ⟨c', n', k', vs'⟩ := b
    have e : ∀ (c n k : Int) (vs : List Bytes), Rep.bytes ⟨c, n, k, vs⟩ = be8 c ++ (be8 n ++ (be8 k ++ (be8 (vs.length : Int) ++ (txts vs ++ [])))) := fun c n k vs => by simp [Rep.bytes, nums]
    rw [e, e] at h
    obtain ⟨e1, h1⟩ := be8_app ha.client hb.client h
    obtain ⟨e2, h2⟩ := be8_app ha.num hb.num h1
    obtain ⟨e3, h3⟩ := be8_app ha.code hb.code h2
    have l1 := ha.len
    have l2 := hb.len
    simp only at l1 l2
    obtain ⟨hl, h4⟩ := be8_app (by unfold W64; omega) (by unfold W64; omega) h3
    obtain ⟨e5, _⟩ := txts_app ha.vals hb.vals (by dsimp only; omega) h4
    simp only at e1 e2 e3 e5
    subst e1 e2 e3 e5
    rfl
  · rintro rfl; rfl
end Go.Proofs.Ytglkfbhjimnboaa.WL

end
section
/-
  CHAPTER 12: blocks, without any program.
-/
namespace Go.Proofs.Ytglkfbhjimnboaa.WL
open Go

def Reqs (qs : List Req) : List AV := qs.map Req.av
@[simp] theorem Reqs_length (qs : List Req) : (Reqs qs).length = qs.length := by simp [Reqs]
@[simp] theorem Reqs_closed (qs : List Req) : closeds (Reqs qs) = true := by simp [Reqs, closeds_all]
@[simp] theorem Reqs_plain (qs : List Req) : plains (Reqs qs) = true := by simp [Reqs, plains_all]
@[simp] theorem Reqs_get (n : Nat) (qs : List Req) : (Reqs qs)[n]? = (qs[n]?).map Req.av := by simp [Reqs]
@[simp] theorem Reqs_getElem (n : Nat) (qs : List Req) (h : n < (Reqs qs).length) : (Reqs qs)[n] = (qs[n]'(by simpa using h)).av := by simp [Reqs]
@[simp] theorem Reqs_append (a b : List Req) : Reqs a ++ Reqs b = Reqs (a ++ b) := by simp [Reqs]
@[simp] theorem Reqs_nil : Reqs [] = [] := (rfl)
@[simp] theorem Reqs_drop (n : Nat) (a : List Req) : (Reqs a).drop n = Reqs (a.drop n) := by simp [Reqs]
@[simp] theorem Reqs_take (n : Nat) (a : List Req) : (Reqs a).take n = Reqs (a.take n) := by simp [Reqs]
@[simp] theorem Req.av_sub (q : Req) : sub true 42 q.av 0 = some q.av := by simp [Req.av, Chg.av]
theorem Reqs_one (q : Req) : [q.av] = Reqs [q] := (rfl)
theorem Reqs_snoc (qs : List Req) (q : Req) : Reqs qs ++ [q.av] = Reqs (qs ++ [q]) := by simp [Reqs]
structure Blk where
  epoch : Int
  height : Int
  prev : Dg
  state : Dg
  next : Dg
  qs : List Req
def Blk.zero : Blk := ⟨0, 0, Dg.zero, Dg.zero, Dg.zero, []⟩
def Blk.avS (b : Blk) : AV := .node [.v (.int .i64 b.epoch), .v (.int .i64 b.height), dv b.prev, dv b.state, dv b.next, .sl 42 (Reqs b.qs)]
def Blk.avR (l g : Nat) (b : Blk) : AV := .node [.v (.int .i64 b.epoch), .v (.int .i64 b.height), dv b.prev, dv b.state, dv b.next, .row l 42 g 0 b.qs.length]
def reqsB (qs : List Req) : Bytes := qs.flatMap Req.bytes
def Blk.head (b : Blk) : Bytes := nums [b.epoch, b.height] ++ (flatD [b.prev, b.state, b.next] ++ nums [(b.qs.length : Int)])
def Blk.bytes (b : Blk) : Bytes := b.head ++ reqsB b.qs
theorem Blk.head_len (b : Blk) : b.head.length = 120 := by
  simp [Blk.head, nums_length, flatD]
theorem Blk.bytes_len (b : Blk) : b.bytes.length = 120 + (reqsB b.qs).length := by
  rw [Blk.bytes, List.length_append, Blk.head_len]
theorem reqsB_snoc (qs : List Req) (q : Req) : reqsB (qs ++ [q]) = reqsB qs ++ q.bytes := by simp [reqsB]
theorem reqsB_take (qs : List Req) (i : Nat) (h : i < qs.length) : reqsB (qs.take (i + 1)) = reqsB (qs.take i) ++ qs[i].bytes := by
  rw [List.take_succ_eq_append_getElem h, reqsB_snoc]
theorem reqsB_take_le (qs : List Req) (i : Nat) : (reqsB (qs.take i)).length ≤ (reqsB qs).length := by
  conv => rhs; rw [← List.take_append_drop i qs]
  simp only [reqsB, List.flatMap_append, List.length_append]
  omega
def Blk.good (b : Blk) : Bool := decide (0 ≤ b.epoch) && decide (b.epoch ≤ 1073741824) && decide (1 ≤ b.height) && decide (b.height ≤ 1024) && decide (b.qs.length ≤ 8) && b.qs.all Req.good
/-- Reading. -/
def Rd.b1 (r : Rd) : Rd := r.inn' 0 1073741824
def Rd.b2 (r : Rd) : Rd := r.b1.inn' 1 1024
def Rd.b3 (r : Rd) : Rd := r.b2.dg'
def Rd.b4 (r : Rd) : Rd := r.b3.dg'
def Rd.b5 (r : Rd) : Rd := r.b4.dg'
def Rd.b6 (r : Rd) : Rd := r.b5.inn' 0 8
/-- So many requests. -/
def Rd.rq' (r : Rd) : Nat → Rd
  | 0 => r
  | n + 1 => (r.rq' n).req'
def Rd.rq (r : Rd) : Nat → List Req
  | 0 => []
  | n + 1 => r.rq n ++ [(r.rq' n).req]
@[simp] theorem Rd.rq_length (r : Rd) (n : Nat) : (r.rq n).length = n := by
  induction n with
  | zero => rfl
  | succ n ih => simp only [Rd.rq, List.length_append, ih, List.length_cons, List.length_nil]
theorem Rd.rq_sane (r : Rd) (h : r.sane) (n : Nat) : (r.rq' n).sane := by
  cases n with
  | zero => exact h
  | succ n => exact Rd.req_sane _
theorem Rd.rq_bad (r : Rd) (k : Nat) (h : (r.rq' k).bad = true) : ∀ n, k ≤ n → (r.rq' n).bad = true := by
  intro n
  induction n with
  | zero => intro hk; rw [show k = 0 by omega] at h; exact h
  | succ n ih =>
    intro hk
    rcases (show k = n + 1 ∨ k ≤ n by omega) with rfl | h1
    · exact h
    · show ((r.rq' n).req').bad = true
      rw [Rd.req_bad _ (ih h1)]
      rfl
def Rd.blkN (r : Rd) : Nat := (r.b5.inn 0 8).toNat
theorem Rd.blkN_eq (r : Rd) : ((r.blkN : Nat) : Int) = r.b5.inn 0 8 ∧ r.blkN ≤ 8 := by
  have := r.b5.inn_range 0 8 (by omega)
  unfold Rd.blkN
  omega
def Rd.blk' (r : Rd) : Rd := r.b6.rq' r.blkN
def Rd.blk0 (r : Rd) : Blk := ⟨r.inn 0 1073741824, r.b1.inn 1 1024, r.b2.dg, r.b3.dg, r.b4.dg, r.b6.rq r.blkN⟩
def Rd.blk (r : Rd) : Blk := if r.blk'.bad = true then Blk.zero else r.blk0
theorem Rd.blk_sane (r : Rd) : r.blk'.sane := Rd.rq_sane _ (Rd.inn_sane _ _ _) _
end Go.Proofs.Ytglkfbhjimnboaa.WL

end
section
/-
  CHAPTER 12: laws of blocks, without any program.
-/
namespace Go.Proofs.Ytglkfbhjimnboaa.WL
open Go

/-- A block that can come in. -/
structure Blk.Fits (b : Blk) : Prop where
  epoch : W64 b.epoch
  height : W64 b.height
  len : b.qs.length < 4611686018427387904
  qs : ∀ q ∈ b.qs, q.Fits
theorem reqsB_cons (c : Req) (cs : List Req) : reqsB (c :: cs) = c.bytes ++ reqsB cs := by simp [reqsB]
theorem reqsB_app : ∀ {as bs : List Req} {x y : Bytes}, (∀ a ∈ as, a.Fits) → (∀ b ∈ bs, b.Fits) → as.length = bs.length → reqsB as ++ x = reqsB bs ++ y → as = bs ∧ x = y
  | [], [], x, y, _, _, _, h => ⟨rfl, by simpa [reqsB] using h⟩
  | a :: as, b :: bs, x, y, ha, hb, hl, h => by
    have e : ∀ (c : Req) (cs : List Req), reqsB (c :: cs) = c.bytes ++ reqsB cs := fun _ _ => by simp [reqsB]
    rw [e, e, List.append_assoc, List.append_assoc] at h
    obtain ⟨e1, h1⟩ := Req.bytes_app (ha a (by simp)) (hb b (by simp)) h
    obtain ⟨e2, h2⟩ := reqsB_app (fun c hc => ha c (by simp [hc])) (fun c hc => hb c (by simp [hc])) (by simpa using hl) h1
    exact ⟨by rw [e1, e2], h2⟩
theorem Blk.bytes_eq (b : Blk) (y : Bytes) : b.bytes ++ y = be8 b.epoch ++ (be8 b.height ++ (b.prev.bs ++ (b.state.bs ++ (b.next.bs ++ (be8 (b.qs.length : Int) ++ (reqsB b.qs ++ y)))))) := by
  simp [Blk.bytes, Blk.head, nums, flatD]
theorem w64_len {n : Nat} (h : n < 4611686018427387904) : W64 (n : Int) := by
  unfold W64; omega
theorem Blk.bytes_app {a b : Blk} {x y : Bytes} (ha : a.Fits) (hb : b.Fits) (h : a.bytes ++ x = b.bytes ++ y) : a = b ∧ x = y := by
  rw [Blk.bytes_eq, Blk.bytes_eq] at h
  obtain ⟨e1, h1⟩ := be8_app ha.epoch hb.epoch h
  obtain ⟨e2, h2⟩ := be8_app ha.height hb.height h1
  obtain ⟨e3, h3⟩ := dg_app h2
  obtain ⟨e4, h4⟩ := dg_app h3
  obtain ⟨e5, h5⟩ := dg_app h4
  obtain ⟨e6, h6⟩ := be8_app (w64_len ha.len) (w64_len hb.len) h5
  obtain ⟨e7, h7⟩ := reqsB_app ha.qs hb.qs (by omega) h6
  cases a; cases b
  simp only at e1 e2 e3 e4 e5 e7
  subst e1 e2 e3 e4 e5 e7
  exact ⟨rfl, h7⟩
theorem Blk.bytes_inj {a b : Blk} (ha : a.Fits) (hb : b.Fits) : a.bytes = b.bytes ↔ a = b := by
  constructor
  · intro h
    exact (Blk.bytes_app (x := []) (y := []) ha hb (by rw [h])).1
  · rintro rfl; rfl
/-- So many requests are read as they were written. -/
theorem rd_rq (pre y : Bytes) (qs : List Req) (hf : ∀ q ∈ qs, q.Fits) : ∀ k, k ≤ qs.length → (∀ q ∈ qs.take k, q.good = true) →
    (⟨pre, reqsB qs ++ y, false⟩ : Rd).rq k = qs.take k ∧ (⟨pre, reqsB qs ++ y, false⟩ : Rd).rq' k = ⟨pre ++ reqsB (qs.take k), reqsB (qs.drop k) ++ y, false⟩
  | 0, _, _ => by simp [Rd.rq, Rd.rq', reqsB]
  | k + 1, hk, hg => by
    have hk' : k < qs.length := by omega
    have ht : qs.take (k + 1) = qs.take k ++ [qs[k]] := List.take_succ_eq_append_getElem hk'
    obtain ⟨i1, i2⟩ := rd_rq pre y qs hf k (by omega) (fun q hq => hg q (by rw [ht]; exact List.mem_append_left _ hq))
    have hq := hg qs[k] (by rw [ht]; exact List.mem_append_right _ (List.mem_singleton.2 rfl))
    have hd : reqsB (qs.drop k) = qs[k].bytes ++ reqsB (qs.drop (k + 1)) := by
      rw [List.drop_eq_getElem_cons hk', reqsB_cons]
    have := rd_req (pre ++ reqsB (qs.take k)) (reqsB (qs.drop (k + 1)) ++ y) qs[k] (hf _ (List.getElem_mem hk')) hq
    rw [← List.append_assoc, ← hd] at this
    simp only [Rd.rq, Rd.rq', i1, i2, this, ht, reqsB_snoc, List.append_assoc, and_self]
theorem rd_rq_no (pre y : Bytes) (qs : List Req) (hf : ∀ q ∈ qs, q.Fits) (hg : qs.all Req.good = false) : ((⟨pre, reqsB qs ++ y, false⟩ : Rd).rq' qs.length).bad = true := by
  have key : ∀ k, k ≤ qs.length → (∀ q ∈ qs.take k, q.good = true) ∨ ((⟨pre, reqsB qs ++ y, false⟩ : Rd).rq' k).bad = true := by
    intro k
    induction k with
    | zero => intro _; left; simp
    | succ k ih =>
      intro hk
      have hk' : k < qs.length := by omega
      have ht : qs.take (k + 1) = qs.take k ++ [qs[k]] := List.take_succ_eq_append_getElem hk'
      rcases ih (by omega) with h | h
      · cases hq : qs[k].good
        · right
          obtain ⟨i1, i2⟩ := rd_rq pre y qs hf k (by omega) h
          have hd : reqsB (qs.drop k) = qs[k].bytes ++ reqsB (qs.drop (k + 1)) := by
            rw [List.drop_eq_getElem_cons hk', reqsB_cons]
          have := rd_req_no (pre ++ reqsB (qs.take k)) (reqsB (qs.drop (k + 1)) ++ y) qs[k] (hf _ (List.getElem_mem hk')) hq
          rw [← List.append_assoc, ← hd] at this
          simp only [Rd.rq', i2]
          exact this
        · left
          intro q hq'
          rw [ht, List.mem_append, List.mem_singleton] at hq'
          rcases hq' with h1 | rfl
          · exact h q h1
          · exact hq
      · right
        exact Rd.rq_bad _ k h (k + 1) (by omega)
  rcases key qs.length (Nat.le_refl _) with h | h
  · rw [List.take_length] at h
    rw [List.all_eq_true.2 h] at hg
    cases hg
  · exact h
theorem rd_blk (pre y : Bytes) (b : Blk) (h : b.Fits) (hg : b.good = true) : (⟨pre, b.bytes ++ y, false⟩ : Rd).blk = b ∧ (⟨pre, b.bytes ++ y, false⟩ : Rd).blk' = ⟨pre ++ b.bytes, y, false⟩ := by
  have hg' := hg
  simp only [Blk.good, Bool.and_eq_true, decide_eq_true_eq] at hg'
  obtain ⟨⟨⟨⟨⟨g1, g2⟩, g3⟩, g4⟩, g5⟩, g6⟩ := hg'
  rw [List.all_eq_true] at g6
  have hpre : pre ++ b.bytes = pre ++ be8 b.epoch ++ be8 b.height ++ b.prev.bs ++ b.state.bs ++ b.next.bs ++ be8 (b.qs.length : Int) ++ reqsB b.qs := by
    have := b.bytes_eq []
    rw [List.append_nil] at this
    rw [this]; simp
  rw [Blk.bytes_eq, hpre]
  have e1 := rd_in pre (be8 b.height ++ (b.prev.bs ++ (b.state.bs ++ (b.next.bs ++ (be8 (b.qs.length : Int) ++ (reqsB b.qs ++ y)))))) b.epoch 0 1073741824 h.epoch ⟨g1, g2⟩
  have e2 := rd_in (pre ++ be8 b.epoch) (b.prev.bs ++ (b.state.bs ++ (b.next.bs ++ (be8 (b.qs.length : Int) ++ (reqsB b.qs ++ y))))) b.height 1 1024 h.height ⟨g3, g4⟩
  have e3 := rd_dg (pre ++ be8 b.epoch ++ be8 b.height) (b.state.bs ++ (b.next.bs ++ (be8 (b.qs.length : Int) ++ (reqsB b.qs ++ y)))) b.prev
  have e4 := rd_dg (pre ++ be8 b.epoch ++ be8 b.height ++ b.prev.bs) (b.next.bs ++ (be8 (b.qs.length : Int) ++ (reqsB b.qs ++ y))) b.state
  have e5 := rd_dg (pre ++ be8 b.epoch ++ be8 b.height ++ b.prev.bs ++ b.state.bs) (be8 (b.qs.length : Int) ++ (reqsB b.qs ++ y)) b.next
  have e6 := rd_in (pre ++ be8 b.epoch ++ be8 b.height ++ b.prev.bs ++ b.state.bs ++ b.next.bs) (reqsB b.qs ++ y) (b.qs.length : Int) 0 8 (w64_len h.len) (by omega)
  have e7 := rd_rq (pre ++ be8 b.epoch ++ be8 b.height ++ b.prev.bs ++ b.state.bs ++ b.next.bs ++ be8 (b.qs.length : Int)) y b.qs h.qs b.qs.length (Nat.le_refl _) (by rw [List.take_length]; exact g6)
  rw [List.take_length, List.drop_length, show reqsB [] = [] from rfl, List.nil_append] at e7
  have hn : (b.qs.length : Int).toNat = b.qs.length := by omega
  simp only [Rd.blk, Rd.blk', Rd.blk0, Rd.blkN, Rd.b6, Rd.b5, Rd.b4, Rd.b3, Rd.b2, Rd.b1, e1, e2, e3, e4, e5, e6, hn, e7]
  simp
theorem rd_blk_no (pre y : Bytes) (b : Blk) (h : b.Fits) (hg : b.good = false) : (⟨pre, b.bytes ++ y, false⟩ : Rd).blk'.bad = true := by
  rw [Blk.bytes_eq]
  have fin : ∀ r : Rd, (r.b1 = Rd.fault ∨ r.b2 = Rd.fault ∨ r.b6 = Rd.fault) → r.blk'.bad = true := by
    intro r hr
    have k2 : r.b1 = Rd.fault → r.b2 = Rd.fault := fun e => by unfold Rd.b2; rw [e]; exact Rd.inn_bad _ _ _ rfl
    have k3 : r.b2 = Rd.fault → r.b6 = Rd.fault := fun e => by
      unfold Rd.b6 Rd.b5 Rd.b4 Rd.b3
      rw [e]
      simp only [Rd.dg_bad Rd.fault rfl]
      exact Rd.inn_bad _ _ _ rfl
    have h6 : r.b6 = Rd.fault := by
      rcases hr with e | e | e
      · exact k3 (k2 e)
      · exact k3 e
      · exact e
    unfold Rd.blk'
    exact Rd.rq_bad _ 0 (by rw [h6]; rfl) _ (Nat.zero_le _)
  by_cases c1 : 0 ≤ b.epoch ∧ b.epoch ≤ 1073741824
  case neg => exact fin _ (.inl (rd_in_no _ _ b.epoch 0 1073741824 h.epoch c1))
  by_cases c2 : 1 ≤ b.height ∧ b.height ≤ 1024
  case neg =>
    apply fin
    right; left
    unfold Rd.b2 Rd.b1
    rw [(rd_in _ _ b.epoch 0 1073741824 h.epoch c1).2]
    exact rd_in_no _ _ b.height 1 1024 h.height c2
  by_cases c3 : 0 ≤ (b.qs.length : Int) ∧ (b.qs.length : Int) ≤ 8
  case neg =>
    apply fin
    right; right
    unfold Rd.b6 Rd.b5 Rd.b4 Rd.b3 Rd.b2 Rd.b1
    rw [(rd_in _ _ b.epoch 0 1073741824 h.epoch c1).2, (rd_in _ _ b.height 1 1024 h.height c2).2, (rd_dg _ _ b.prev).2, (rd_dg _ _ b.state).2, (rd_dg _ _ b.next).2]
    exact rd_in_no _ _ (b.qs.length : Int) 0 8 (w64_len h.len) c3
  have hall : b.qs.all Req.good = false := by
    cases ha : b.qs.all Req.good
    · rfl
    · have : b.good = true := by simp only [Blk.good, ha, Bool.and_true, Bool.and_eq_true, decide_eq_true_eq]; omega
      rw [this] at hg; cases hg
  unfold Rd.blk' Rd.blkN Rd.b6 Rd.b5 Rd.b4 Rd.b3 Rd.b2 Rd.b1
  have e6 := fun p : Bytes => rd_in p (reqsB b.qs ++ y) (b.qs.length : Int) 0 8 (w64_len h.len) c3
  have hn : (b.qs.length : Int).toNat = b.qs.length := by omega
  rw [(rd_in _ _ b.epoch 0 1073741824 h.epoch c1).2, (rd_in _ _ b.height 1 1024 h.height c2).2, (rd_dg _ _ b.prev).2, (rd_dg _ _ b.state).2, (rd_dg _ _ b.next).2, (e6 _).2, (e6 _).1, hn]
  exact rd_rq_no _ _ b.qs h.qs hall
end Go.Proofs.Ytglkfbhjimnboaa.WL

end
section
/-
  DATA: words of 32 bits.
-/
namespace Go.Proofs.Ytglkfbhjimnboaa.WL
open Go

/-- A word as a number. -/
def w32 (w : UInt32) : Int := w.toNat
theorem w32_range (w : UInt32) : 0 ≤ w32 w ∧ w32 w < 4294967296 := by
  have := w.toNat_lt
  unfold w32
  omega
abbrev wv (w : UInt32) : AV := .v (.int .u32 (w32 w))
def U (ws : List UInt32) : List AV := ws.map wv
@[simp] theorem U_length (ws : List UInt32) : (U ws).length = ws.length := by simp [U]
@[simp] theorem U_closed (ws : List UInt32) : closeds (U ws) = true := by simp [U, closeds_all]
@[simp] theorem U_plain (ws : List UInt32) : plains (U ws) = true := by simp [U, plains_all]
@[simp] theorem U_get (n : Nat) (a : List UInt32) : (U a)[n]? = (a[n]?).map wv := by simp [U]
@[simp] theorem U_getElem (n : Nat) (a : List UInt32) (h : n < (U a).length) : (U a)[n] = wv (a[n]'(by simpa using h)) := by simp [U]
theorem U_set (L : List UInt32) (j : Nat) (x : UInt32) : (U L).set j (wv x) = U (L.set j x) := by simp [U, List.map_set]
@[simp] theorem U_nil : U [] = [] := rfl
theorem U_cons (w : UInt32) (ws : List UInt32) : U (w :: ws) = wv w :: U ws := rfl
def zeros32 (n : Nat) : List UInt32 := List.replicate n 0
@[simp] theorem zeros32_length (n : Nat) : (zeros32 n).length = n := by simp [zeros32]
@[simp] theorem rep_word (n : Nat) : rep n (.v (.int .u32 0)) = U (zeros32 n) := by simp [rep, U, zeros32]; exact .inr rfl
theorem fill_zeros32 (g : List UInt32) (n j : Nat) (hj : j < g.length) (h : g.length ≤ n) : (g.take j ++ zeros32 (n - j)).set j g[j] = g.take (j + 1) ++ zeros32 (n - (j + 1)) := by
  have e : n - j = (n - (j + 1)) + 1 := by omega
  have e2 : j - (g.take j).length = 0 := by rw [List.length_take]; omega
  have e3 : g.take (j + 1) = g.take j ++ [g[j]] := by rw [List.take_add_one, List.getElem?_eq_getElem hj]; rfl
  rw [e, List.set_append_right _ _ (by rw [List.length_take]; omega), e2, e3, List.append_assoc]
  rfl

/-! The operations. -/
theorem u32_lt (a : UInt32) : a.toNat < 4294967296 := a.toNat_lt
theorem u32_add (a b : UInt32) : IntKind.u32.wrap (w32 a + w32 b) = w32 (a + b) := by
  unfold w32
  rw [u32_mod, UInt32.toNat_add]
  omega
theorem u32_id (a : UInt32) : IntKind.u32.wrap (w32 a) = w32 a := by
  unfold w32
  have := u32_lt a
  rw [u32_mod]
  omega
theorem ofInt_u32 (a : UInt32) : BitVec.ofInt 32 (w32 a) = a.toBitVec := by
  unfold w32
  apply BitVec.eq_of_toNat_eq
  have := u32_lt a
  rw [BitVec.toNat_ofInt]
  show ((a.toNat : Int) % ((2 ^ 32 : Nat) : Int)).toNat = a.toNat
  omega
theorem u32_xor (a b : UInt32) : bitsOp .xor .u32 (w32 a) (w32 b) = w32 (a ^^^ b) := by
  simp only [bitsOp, IntKind.bits, ofInt_u32]
  exact u32_id (a ^^^ b)
theorem u32_and (a b : UInt32) : bitsOp .and .u32 (w32 a) (w32 b) = w32 (a &&& b) := by
  simp only [bitsOp, IntKind.bits, ofInt_u32]
  exact u32_id (a &&& b)
theorem u32_or (a b : UInt32) : bitsOp .or .u32 (w32 a) (w32 b) = w32 (a ||| b) := by
  simp only [bitsOp, IntKind.bits, ofInt_u32]
  exact u32_id (a ||| b)
theorem u32_not (a : UInt32) : bitsOp .xor .u32 4294967295 (w32 a) = w32 (~~~a) := by
  have e : (4294967295 : Int) = w32 4294967295 := rfl
  rw [e, u32_xor]
  congr 2
@[simp] theorem un_xor (a : UInt32) : unV .xor (.int .u32 (w32 a)) = some (.int .u32 (w32 (~~~a))) := by
  have e : IntKind.max .u32 = 4294967295 := by decide
  simp only [unV, IntKind.signed, e, Bool.false_eq_true, if_false, u32_not]
theorem u32_shl (a : UInt32) (n : Nat) (h : n < 32) : IntKind.u32.wrap (w32 a * 2 ^ n) = w32 (a <<< UInt32.ofNat n) := by
  unfold w32
  rw [u32_mod, UInt32.toNat_shiftLeft, Nat.shiftLeft_eq]
  have e : (UInt32.ofNat n).toNat % 32 = n := by
    rw [UInt32.toNat_ofNat']
    omega
  rw [e]
  have e2 : ((a.toNat : Int) * 2 ^ n) = ((a.toNat * 2 ^ n : Nat) : Int) := by simp
  rw [e2]
  omega
theorem u32_shr (a : UInt32) (n : Nat) (h : n < 32) : (w32 a).fdiv (2 ^ n) = w32 (a >>> UInt32.ofNat n) := by
  unfold w32
  rw [Int.fdiv_eq_ediv_of_nonneg _ (Int.le_of_lt (Int.pow_pos (by decide))), UInt32.toNat_shiftRight, Nat.shiftRight_eq_div_pow]
  have e : (UInt32.ofNat n).toNat % 32 = n := by
    rw [UInt32.toNat_ofNat']
    omega
  rw [e]
  simp
theorem u32_byte (b : UInt8) : IntKind.u32.wrap (b.toNat : Int) = w32 b.toUInt32 := by
  unfold w32
  have := b.toNat_lt
  rw [u32_mod]
  show _ = ((b.toNat : Nat) : Int)
  omega
theorem u8_word (w : UInt32) : u8 (w32 w) = w.toUInt8 := by
  unfold w32
  apply UInt8.toNat_inj.1
  have := u8_toNat (w.toNat : Int)
  have h2 : w.toUInt8.toNat = w.toNat % 256 := UInt32.toNat_toUInt8 w
  omega
end Go.Proofs.Ytglkfbhjimnboaa.WL

end
section
/-
  CHAPTER 02: what the digest is, without any program.
-/
namespace Go.Proofs.Ytglkfbhjimnboaa.WL
open Go

/-- A word turned to the right. -/
def rotr (x : UInt32) (n : Nat) : UInt32 := (x >>> UInt32.ofNat n) ||| (x <<< UInt32.ofNat (32 - n))
/-- A word of four bytes, the highest first. -/
def word4 (a b c d : UInt8) : UInt32 := (a.toUInt32 <<< 24) ||| (b.toUInt32 <<< 16) ||| (c.toUInt32 <<< 8) ||| d.toUInt32
theorem word4_add (a b c d : UInt8) : (a.toUInt32 <<< 24) + (b.toUInt32 <<< 16) + (c.toUInt32 <<< 8) + d.toUInt32 = word4 a b c d := by
  have ha := a.toNat_lt
  have hb := b.toNat_lt
  have hc := c.toNat_lt
  have hd := d.toNat_lt
  have e24 : (a.toUInt32 <<< 24).toNat = a.toNat * 2 ^ 24 := by
    rw [UInt32.toNat_shiftLeft, Nat.shiftLeft_eq]
    show a.toNat * 2 ^ 24 % 2 ^ 32 = _
    omega
  have e16 : (b.toUInt32 <<< 16).toNat = b.toNat * 2 ^ 16 := by
    rw [UInt32.toNat_shiftLeft, Nat.shiftLeft_eq]
    show b.toNat * 2 ^ 16 % 2 ^ 32 = _
    omega
  have e8 : (c.toUInt32 <<< 8).toNat = c.toNat * 2 ^ 8 := by
    rw [UInt32.toNat_shiftLeft, Nat.shiftLeft_eq]
    show c.toNat * 2 ^ 8 % 2 ^ 32 = _
    omega
  have e0 : d.toUInt32.toNat = d.toNat := rfl
  have o1 : a.toNat * 2 ^ 24 ||| b.toNat * 2 ^ 16 = a.toNat * 2 ^ 24 + b.toNat * 2 ^ 16 := by
    rw [← Nat.shiftLeft_eq a.toNat, ← Nat.shiftLeft_add_eq_or_of_lt (by omega)]
  have o2 : (a.toNat * 2 ^ 24 + b.toNat * 2 ^ 16) ||| c.toNat * 2 ^ 8 = a.toNat * 2 ^ 24 + b.toNat * 2 ^ 16 + c.toNat * 2 ^ 8 := by
    have : a.toNat * 2 ^ 24 + b.toNat * 2 ^ 16 = (a.toNat * 2 ^ 8 + b.toNat) * 2 ^ 16 := by omega
    rw [this, ← Nat.shiftLeft_eq _ 16, ← Nat.shiftLeft_add_eq_or_of_lt (by omega)]
  have o3 : (a.toNat * 2 ^ 24 + b.toNat * 2 ^ 16 + c.toNat * 2 ^ 8) ||| d.toNat = a.toNat * 2 ^ 24 + b.toNat * 2 ^ 16 + c.toNat * 2 ^ 8 + d.toNat := by
    have : a.toNat * 2 ^ 24 + b.toNat * 2 ^ 16 + c.toNat * 2 ^ 8 = (a.toNat * 2 ^ 16 + b.toNat * 2 ^ 8 + c.toNat) * 2 ^ 8 := by omega
    rw [this, ← Nat.shiftLeft_eq _ 8, ← Nat.shiftLeft_add_eq_or_of_lt (by omega)]
  apply UInt32.toNat_inj.1
  unfold word4
  simp only [UInt32.toNat_add, UInt32.toNat_or, e24, e16, e8, e0, o1, o2, o3]
  omega

def s0 (x : UInt32) : UInt32 := rotr x 7 ^^^ rotr x 18 ^^^ (x >>> 3)
def s1 (x : UInt32) : UInt32 := rotr x 17 ^^^ rotr x 19 ^^^ (x >>> 10)
def words (b : Bytes) : List UInt32 := (List.range 16).map fun i => word4 (b.getD (4 * i) 0) (b.getD (4 * i + 1) 0) (b.getD (4 * i + 2) 0) (b.getD (4 * i + 3) 0)
/-- One word more. -/
def next (w : List UInt32) : UInt32 := w.getD (w.length - 16) 0 + s0 (w.getD (w.length - 15) 0) + w.getD (w.length - 7) 0 + s1 (w.getD (w.length - 2) 0)
def grow : Nat → List UInt32 → List UInt32
  | 0, w => w
  | n + 1, w => grow n w ++ [next (grow n w)]
@[simp] theorem words_length (b : Bytes) : (words b).length = 16 := by simp [words]
@[simp] theorem grow_length (n : Nat) (w : List UInt32) : (grow n w).length = w.length + n := by
  induction n with
  | zero => rfl
  | succ n ih => simp [grow, ih, Nat.add_assoc]
def table : List UInt32 := [
  0x428a2f98, 0x71374491, 0xb5c0fbcf, 0xe9b5dba5, 0x3956c25b, 0x59f111f1, 0x923f82a4, 0xab1c5ed5,
  0xd807aa98, 0x12835b01, 0x243185be, 0x550c7dc3, 0x72be5d74, 0x80deb1fe, 0x9bdc06a7, 0xc19bf174,
  0xe49b69c1, 0xefbe4786, 0x0fc19dc6, 0x240ca1cc, 0x2de92c6f, 0x4a7484aa, 0x5cb0a9dc, 0x76f988da,
  0x983e5152, 0xa831c66d, 0xb00327c8, 0xbf597fc7, 0xc6e00bf3, 0xd5a79147, 0x06ca6351, 0x14292967,
  0x27b70a85, 0x2e1b2138, 0x4d2c6dfc, 0x53380d13, 0x650a7354, 0x766a0abb, 0x81c2c92e, 0x92722c85,
  0xa2bfe8a1, 0xa81a664b, 0xc24b8b70, 0xc76c51a3, 0xd192e819, 0xd6990624, 0xf40e3585, 0x106aa070,
  0x19a4c116, 0x1e376c08, 0x2748774c, 0x34b0bcb5, 0x391c0cb3, 0x4ed8aa4a, 0x5b9cca4f, 0x682e6ff3,
  0x748f82ee, 0x78a5636f, 0x84c87814, 0x8cc70208, 0x90befffa, 0xa4506ceb, 0xbef9a3f7, 0xc67178f2]
@[simp] theorem table_length : table.length = 64 := rfl

structure St where
  a : UInt32
  b : UInt32
  c : UInt32
  d : UInt32
  e : UInt32
  f : UInt32
  g : UInt32
  h : UInt32
def St.list (s : St) : List UInt32 := [s.a, s.b, s.c, s.d, s.e, s.f, s.g, s.h]
def St.p (s : St) (k w : UInt32) : UInt32 := s.h + (rotr s.e 6 ^^^ rotr s.e 11 ^^^ rotr s.e 25) + ((s.e &&& s.f) ^^^ (~~~s.e &&& s.g)) + k + w
def St.q (s : St) : UInt32 := (rotr s.a 2 ^^^ rotr s.a 13 ^^^ rotr s.a 22) + ((s.a &&& s.b) ^^^ (s.a &&& s.c) ^^^ (s.b &&& s.c))
def St.round (s : St) (k w : UInt32) : St := ⟨s.p k w + s.q, s.a, s.b, s.c, s.d + s.p k w, s.e, s.f, s.g⟩
/-- The first n rounds. -/
def rounds (w : List UInt32) : Nat → St → St
  | 0, s => s
  | n + 1, s => (rounds w n s).round (table.getD n 0) (w.getD n 0)
theorem rounds_zero (w : List UInt32) (s : St) : rounds w 0 s = s := rfl
theorem rounds_succ (w : List UInt32) (n : Nat) (s : St) : rounds w (n + 1) s = (rounds w n s).round (table.getD n 0) (w.getD n 0) := rfl
theorem grow_zero (w : List UInt32) : grow 0 w = w := rfl
theorem grow_succ (n : Nat) (w : List UInt32) : grow (n + 1) w = grow n w ++ [next (grow n w)] := rfl
def St.plus (s t : St) : St := ⟨s.a + t.a, s.b + t.b, s.c + t.c, s.d + t.d, s.e + t.e, s.f + t.f, s.g + t.g, s.h + t.h⟩
/-- The state behind a block. -/
def comp (s : St) (b : Bytes) : St := s.plus (rounds (grow 48 (words b)) 64 s)
def iv : St := ⟨0x6a09e667, 0xbb67ae85, 0x3c6ef372, 0xa54ff53a, 0x510e527f, 0x9b05688c, 0x1f83d9ab, 0x5be0cd19⟩
/-- The state behind n blocks. -/
def hb : Nat → Bytes → St
  | 0, _ => iv
  | n + 1, b => comp (hb n b) ((b.drop (64 * n)).take 64)
/-- What stands behind the bytes: a mark, zeros, how many bits. -/
def fillN (n : Nat) : Nat := (119 - n % 64) % 64
def pad (b : Bytes) : Bytes := b ++ (128 :: (zeros (fillN b.length) ++ be8 (8 * b.length : Nat)))
theorem pad_length (b : Bytes) : (pad b).length % 64 = 0 := by
  simp only [pad, List.length_append, List.length_cons, zeros_length, be8_length, fillN]
  omega
def wbytes (x : UInt32) : Bytes := [(x >>> 24).toUInt8, (x >>> 16).toUInt8, (x >>> 8).toUInt8, x.toUInt8]
def St.bytes (s : St) : Bytes := s.list.flatMap wbytes
@[simp] theorem St.bytes_length (s : St) : s.bytes.length = 32 := rfl
/-- THE DIGEST. -/
def sha (b : Bytes) : Dg := ⟨(hb ((pad b).length / 64) (pad b)).bytes, rfl⟩

theorem sha_abc : (sha [97, 98, 99]).bs.take 8 = [0xba, 0x78, 0x16, 0xbf, 0x8f, 0x01, 0xcf, 0xea] := by decide +kernel

theorem hb_append (n : Nat) (b c : Bytes) (h : 64 * n ≤ b.length) : hb n (b ++ c) = hb n b := by
  induction n with
  | zero => rfl
  | succ n ih =>
    simp only [hb]
    rw [ih (by omega), List.drop_append_of_le_length (by omega), List.take_append_of_le_length (by rw [List.length_drop]; omega)]
end Go.Proofs.Ytglkfbhjimnboaa.WL

end
section
/-
  CHAPTER 03: hash trees, without any program.
-/
namespace Go.Proofs.Ytglkfbhjimnboaa.WL
open Go
attribute [local irreducible] sha

def leafD (b : Bytes) : Dg := sha (0 :: b)
def pairD (a b : Dg) : Dg := sha (1 :: (a.bs ++ b.bs))
attribute [local irreducible] leafD pairD
/-- The row above. -/
def upD : List Dg → List Dg
  | a :: b :: r => pairD a b :: upD r
  | [a] => [a]
  | [] => []
theorem upD_length : ∀ l : List Dg, (upD l).length = (l.length + 1) / 2
  | [] => by simp [upD]
  | [a] => by simp [upD]
  | a :: b :: r => by
    simp only [upD, List.length_cons, upD_length r]
    omega
theorem upD_get : ∀ (l : List Dg) (i : Nat) (h : 2 * i + 1 < l.length), (upD l)[i]? = some (pairD l[2 * i] l[2 * i + 1])
  | [], i, h => by simp at h
  | [a], i, h => by simp at h
  | a :: b :: r, 0, h => rfl
  | a :: b :: r, i + 1, h => by
    simp only [upD, List.getElem?_cons_succ]
    have h' : 2 * i + 1 < r.length := by simp only [List.length_cons] at h; omega
    rw [upD_get r i h']
    rfl
theorem upD_last : ∀ (l : List Dg) (i : Nat) (h : 2 * i + 1 = l.length), (upD l)[i]? = some l[2 * i]
  | [], i, h => by simp at h
  | [a], i, h => by
    have : i = 0 := by simp at h; omega
    subst this
    rfl
  | a :: b :: r, 0, h => by simp only [List.length_cons] at h; omega
  | a :: b :: r, i + 1, h => by
    simp only [upD, List.getElem?_cons_succ]
    have h' : 2 * i + 1 = r.length := by simp only [List.length_cons] at h; omega
    rw [upD_last r i h']
    rfl
theorem upD_pair (l : List Dg) (i : Nat) (h : 2 * i + 1 < l.length) : (upD l).take (i + 1) = (upD l).take i ++ [pairD l[2 * i] l[2 * i + 1]] := by
  rw [List.take_add_one, upD_get l i h]
  rfl
theorem upD_one (l : List Dg) (i : Nat) (h : 2 * i + 1 = l.length) : (upD l).take (i + 1) = (upD l).take i ++ [l[2 * i]] := by
  rw [List.take_add_one, upD_last l i h]
  rfl
theorem upD_all (l : List Dg) (i : Nat) (h : l.length ≤ 2 * i) : (upD l).take i = upD l := by
  apply List.take_of_length_le
  rw [upD_length]
  omega
/-- The topmost. -/
def rootD (l : List Dg) : Dg :=
  match l with
  | [] => sha []
  | [a] => a
  | a :: b :: r => rootD (upD (a :: b :: r))
termination_by l.length
decreasing_by
  rw [upD_length]
  simp only [List.length_cons]
  omega
theorem rootD_nil : rootD [] = sha [] := by rw [rootD]
theorem rootD_one (a : Dg) : rootD [a] = a := by rw [rootD]
theorem rootD_up (l : List Dg) (h : 1 < l.length) : rootD l = rootD (upD l) := by
  match l, h with
  | a :: b :: r, _ => rw [rootD]
/-- The neighbour's place. -/
def sib (at_ : Nat) : Nat := if at_ % 2 = 1 then at_ - 1 else at_ + 1
/-- What stands beside a leaf's way to the root, from below. -/
def pathD (l : List Dg) (at_ : Nat) : List Dg :=
  if h : 1 < l.length then (l[sib at_]?).toList ++ pathD (upD l) (at_ / 2) else []
termination_by l.length
decreasing_by
  rw [upD_length]
  omega
theorem pathD_up (l : List Dg) (at_ : Nat) (h : 1 < l.length) : pathD l at_ = (l[sib at_]?).toList ++ pathD (upD l) (at_ / 2) := by rw [pathD, dif_pos h]
theorem pathD_end (l : List Dg) (at_ : Nat) (h : l.length ≤ 1) : pathD l at_ = [] := by rw [pathD, dif_neg (by omega)]
theorem pathD_len (l : List Dg) (at_ : Nat) : (pathD l at_).length ≤ l.length := by
  by_cases h : 1 < l.length
  · rw [pathD_up l at_ h, List.length_append]
    have h1 : (l[sib at_]?).toList.length ≤ 1 := by cases l[sib at_]? <;> simp
    have h2 := pathD_len (upD l) (at_ / 2)
    have h3 := upD_length l
    omega
  · rw [pathD_end l at_ (by omega)]
    simp
termination_by l.length
decreasing_by
  rw [upD_length]
  omega
/-- Does a path lead to the root? -/
def checkD (root leaf : Dg) (at_ count : Nat) (path : List Dg) : Bool :=
  if h : 1 < count then
    if count ≤ sib at_ then checkD root leaf (at_ / 2) ((count + 1) / 2) path
    else match path with
      | [] => false
      | p :: ps => checkD root (if at_ % 2 = 1 then pairD p leaf else pairD leaf p) (at_ / 2) ((count + 1) / 2) ps
  else decide (path = []) && decide (leaf = root)
termination_by count
theorem checkD_end (root leaf : Dg) (at_ count : Nat) (path : List Dg) (h : count ≤ 1) : checkD root leaf at_ count path = (decide (path = []) && decide (leaf = root)) := by
  rw [checkD.eq_def, dif_neg (by omega)]
theorem checkD_up (root leaf : Dg) (at_ count : Nat) (path : List Dg) (h : 1 < count) (hs : count ≤ sib at_) : checkD root leaf at_ count path = checkD root leaf (at_ / 2) ((count + 1) / 2) path := by
  rw [checkD.eq_def, dif_pos h, if_pos hs]
theorem checkD_none (root leaf : Dg) (at_ count : Nat) (h : 1 < count) (hs : ¬ count ≤ sib at_) : checkD root leaf at_ count [] = false := by
  rw [checkD.eq_def, dif_pos h, if_neg hs]
theorem checkD_pair (root leaf : Dg) (at_ count : Nat) (p : Dg) (ps : List Dg) (h : 1 < count) (hs : ¬ count ≤ sib at_) :
    checkD root leaf at_ count (p :: ps) = checkD root (if at_ % 2 = 1 then pairD p leaf else pairD leaf p) (at_ / 2) ((count + 1) / 2) ps := by
  rw [checkD.eq_def, dif_pos h, if_neg hs]
/-- The neighbour's place, as the program reckons it. -/
theorem xor_sib (at_ : Nat) (h : at_ < 9223372036854775807) : bitsOp .xor .i64 (at_ : Int) 1 = (sib at_ : Int) := by
  simp only [bitsOp, BitVec.toNat_xor, BitVec.toNat_ofInt]
  have e1 : ((at_ : Int) % ((2 ^ IntKind.i64.bits : Nat) : Int)).toNat = at_ := by
    rw [← Int.natCast_emod, Int.toNat_natCast, Nat.mod_eq_of_lt (by simp only [IntKind.bits]; omega)]
  have e2 : ((1 : Int) % ((2 ^ IntKind.i64.bits : Nat) : Int)).toNat = 1 := by decide
  rw [e1, e2]
  have e3 : at_ ^^^ 1 = sib at_ := by
    unfold sib
    split
    · rename_i ho
      obtain ⟨k, rfl⟩ : ∃ k, at_ = 2 * k + 1 := ⟨at_ / 2, by omega⟩
      apply Nat.eq_of_testBit_eq
      intro i
      cases i with
      | zero => rw [Nat.testBit_xor]; simp [Nat.testBit_zero]; try omega
      | succ i => rw [Nat.testBit_xor, Nat.testBit_succ, Nat.testBit_succ, Nat.testBit_succ]; simp; try (congr 1; omega)
    · rename_i ho
      obtain ⟨k, rfl⟩ : ∃ k, at_ = 2 * k := ⟨at_ / 2, by omega⟩
      apply Nat.eq_of_testBit_eq
      intro i
      cases i with
      | zero => rw [Nat.testBit_xor]; simp [Nat.testBit_zero]; try omega
      | succ i => rw [Nat.testBit_xor, Nat.testBit_succ, Nat.testBit_succ, Nat.testBit_succ]; simp; try (congr 1; omega)
  rw [e3, IntKind.wrap_i64]
  unfold sib
  split <;> omega
end Go.Proofs.Ytglkfbhjimnboaa.WL

end
section
/-
  CHAPTER 04: signatures by keys that are used once, without any program.
-/
namespace Go.Proofs.Ytglkfbhjimnboaa.WL
open Go
attribute [local irreducible] sha leafD pairD

def secB (seed : Dg) (leaf : Int) (n : Nat) : Bytes := 2 :: (seed.bs ++ (be8 leaf ++ be8 (n : Int)))
theorem secB_len (seed : Dg) (leaf : Int) (n : Nat) : (secB seed leaf n).length = 49 := by simp [secB]
/-- A secret: for a bit and what it may be. -/
def secD (seed : Dg) (leaf : Int) (bit is : Nat) : Dg := sha (secB seed leaf (2 * bit + is))
def shutD (s : Dg) : Dg := sha s.bs
/-- A digest's bit. -/
def bitD (d : Dg) (i : Nat) : Nat := (d.bs.getD (i / 8) 0).toNat / 2 ^ (7 - i % 8) % 2
theorem bitD_le (d : Dg) (i : Nat) : bitD d i = 0 ∨ bitD d i = 1 := by
  unfold bitD
  omega
attribute [local irreducible] secD shutD bitD
def pubL (seed : Dg) (leaf : Int) : Nat → List Dg
  | 0 => []
  | n + 1 => pubL seed leaf n ++ [shutD (secD seed leaf n 0), shutD (secD seed leaf n 1)]
theorem pubL_length (seed : Dg) (leaf : Int) (n : Nat) : (pubL seed leaf n).length = 2 * n := by
  induction n with
  | zero => rfl
  | succ n ih => simp only [pubL, List.length_append, ih, List.length_cons, List.length_nil]; omega
def wholeD (l : List Dg) : Dg := sha (flatD l)
/-- A public half. -/
def pubD (seed : Dg) (leaf : Int) (N : Nat) : Dg := wholeD (pubL seed leaf N)
def openL (seed : Dg) (leaf : Int) (d : Dg) : Nat → List Dg
  | 0 => []
  | n + 1 => openL seed leaf d n ++ [secD seed leaf n (bitD d n)]
def shutL (seed : Dg) (leaf : Int) (d : Dg) : Nat → List Dg
  | 0 => []
  | n + 1 => shutL seed leaf d n ++ [shutD (secD seed leaf n (1 - bitD d n))]
@[simp] theorem openL_length (seed : Dg) (leaf : Int) (d : Dg) (n : Nat) : (openL seed leaf d n).length = n := by
  induction n with
  | zero => rfl
  | succ n ih => simp only [openL, List.length_append, ih, List.length_cons, List.length_nil]
@[simp] theorem shutL_length (seed : Dg) (leaf : Int) (d : Dg) (n : Nat) : (shutL seed leaf d n).length = n := by
  induction n with
  | zero => rfl
  | succ n ih => simp only [shutL, List.length_append, ih, List.length_cons, List.length_nil]
/-- Two digests, in a bit's order. -/
def two (b : Nat) (x y : Dg) : List Dg := if b = 0 then [x, y] else [y, x]
def ofL (d : Dg) (o s : List Dg) : Nat → List Dg
  | 0 => []
  | n + 1 => ofL d o s n ++ two (bitD d n) (shutD (o.getD n Dg.zero)) (s.getD n Dg.zero)
theorem two_length (b : Nat) (x y : Dg) : (two b x y).length = 2 := by unfold two; split <;> rfl
theorem ofL_length (d : Dg) (o s : List Dg) (n : Nat) : (ofL d o s n).length = 2 * n := by
  induction n with
  | zero => rfl
  | succ n ih => simp only [ofL, List.length_append, ih, two_length]; omega
/-- Under which public half a signature is right. -/
def ofD (d : Dg) (o s : List Dg) (N : Nat) : Dg := wholeD (ofL d o s N)
/-- A signature's own public half. -/
theorem ofL_fits (seed : Dg) (leaf : Int) (d : Dg) (N : Nat) : ∀ n, n ≤ N → ofL d (openL seed leaf d N) (shutL seed leaf d N) n = pubL seed leaf n := by
  have ho : ∀ M n, n < M → (openL seed leaf d M).getD n Dg.zero = secD seed leaf n (bitD d n) := by
    intro M
    induction M with
    | zero => intro n h; omega
    | succ M ih =>
      intro n h
      simp only [openL, List.getD_eq_getElem?_getD]
      by_cases hm : n < M
      · rw [List.getElem?_append_left (by simpa using hm), ← List.getD_eq_getElem?_getD, ih n hm]
      · have : n = M := by omega
        subst this
        rw [List.getElem?_append_right (by simp)]
        simp
  have hs : ∀ M n, n < M → (shutL seed leaf d M).getD n Dg.zero = shutD (secD seed leaf n (1 - bitD d n)) := by
    intro M
    induction M with
    | zero => intro n h; omega
    | succ M ih =>
      intro n h
      simp only [shutL, List.getD_eq_getElem?_getD]
      by_cases hm : n < M
      · rw [List.getElem?_append_left (by simpa using hm), ← List.getD_eq_getElem?_getD, ih n hm]
      · have : n = M := by omega
        subst this
        rw [List.getElem?_append_right (by simp)]
        simp
  intro n
  induction n with
  | zero => intro _; rfl
  | succ n ih =>
    intro h
    simp only [ofL, pubL]
    rw [ih (by omega), ho N n (by omega), hs N n (by omega)]
    congr 1
    rcases bitD_le d n with hb | hb <;> simp [two, hb]
theorem ofD_fits (seed : Dg) (leaf : Int) (d : Dg) (N : Nat) : ofD d (openL seed leaf d N) (shutL seed leaf d N) N = pubD seed leaf N := by
  unfold ofD pubD
  rw [ofL_fits seed leaf d N N (Nat.le_refl _)]
/-- Only the first bits are signed. -/
theorem openL_first (seed : Dg) (leaf : Int) (d e : Dg) (n : Nat) (h : ∀ i, i < n → bitD d i = bitD e i) : openL seed leaf d n = openL seed leaf e n ∧ shutL seed leaf d n = shutL seed leaf e n := by
  induction n with
  | zero => exact ⟨rfl, rfl⟩
  | succ n ih =>
    obtain ⟨h1, h2⟩ := ih fun i hi => h i (by omega)
    simp only [openL, shutL, h1, h2, h n (by omega), and_self]
end Go.Proofs.Ytglkfbhjimnboaa.WL

end
section
/-
  CHAPTER 05: many one-time keys under one root, without any program.
-/
namespace Go.Proofs.Ytglkfbhjimnboaa.WL
open Go
attribute [local irreducible] sha leafD pairD secD shutD wholeD pubD ofD

structure Sig where
  leaf : Int
  op : List Dg
  sh : List Dg
  path : List Dg
def Sig.zero : Sig := ⟨0, [], [], []⟩
def Sig.avS (s : Sig) : AV := .node [.v (.int .i64 s.leaf), .node [.sl 32 (Dgs s.op), .sl 32 (Dgs s.sh)], .sl 32 (Dgs s.path)]
/-- A signature whose lists lie in rows of its own. -/
def Sig.avR (a b c g : Nat) (s : Sig) : AV := .node [.v (.int .i64 s.leaf), .node [.row a 32 g 0 s.op.length, .row b 32 g 0 s.sh.length], .row c 32 g 0 s.path.length]
def Sig.rows (a b c g : Nat) (s : Sig) : List (Nat × Loc) := [(a, .rows g 32 (Dgs s.op)), (b, .rows g 32 (Dgs s.sh)), (c, .rows g 32 (Dgs s.path))]
def leafK (p : Dg) : Dg := leafD p.bs
def leavesD (seed : Dg) (N : Nat) : Nat → List Dg
  | 0 => []
  | n + 1 => leavesD seed N n ++ [leafK (pubD seed (n : Int) N)]
@[simp] theorem leavesD_length (seed : Dg) (N n : Nat) : (leavesD seed N n).length = n := by
  induction n with
  | zero => rfl
  | succ n ih => simp only [leavesD, List.length_append, ih, List.length_cons, List.length_nil]
theorem leavesD_get (seed : Dg) (N : Nat) : ∀ (n i : Nat), i < n → (leavesD seed N n)[i]? = some (leafK (pubD seed (i : Int) N))
  | 0, i, h => by omega
  | n + 1, i, h => by
    simp only [leavesD]
    by_cases h1 : i < n
    · rw [List.getElem?_append_left (by simpa using h1)]
      exact leavesD_get seed N n i h1
    · have : i = n := by omega
      subst this
      rw [List.getElem?_append_right (by simp)]
      simp
/-- Whether a signature is right under a key. -/
def checkK (root : Dg) (h : Int) (d : Dg) (s : Sig) : Bool :=
  decide (s.op.length = 32 ∧ s.sh.length = 32) && (decide (0 ≤ h ∧ h ≤ 6) && (decide (0 ≤ s.leaf ∧ s.leaf < ((2 ^ h.toNat : Nat) : Int)) && checkD root (leafK (ofD d s.op s.sh 32)) s.leaf.toNat (2 ^ h.toNat) s.path))
def Sig.ok (s : Sig) : Bool := decide (s.op.length = 32 ∧ s.sh.length = 32 ∧ s.path.length ≤ 6)
def Sig.bytes (s : Sig) : Bytes := nums [s.leaf, (s.path.length : Int)] ++ (flatD s.op ++ (flatD s.sh ++ flatD s.path))
theorem Sig.bytes_len (s : Sig) : s.bytes.length = 16 + 32 * (s.op.length + s.sh.length + s.path.length) := by
  simp only [Sig.bytes, List.length_append, nums_length, flatD_length, List.length_cons, List.length_nil]
  omega
/-- So many digests read. -/
def Rd.ds' (r : Rd) : Nat → Rd
  | 0 => r
  | n + 1 => (r.ds' n).dg'
def Rd.ds (r : Rd) : Nat → List Dg
  | 0 => []
  | n + 1 => r.ds n ++ [(r.ds' n).dg]
@[simp] theorem Rd.ds_length (r : Rd) (n : Nat) : (r.ds n).length = n := by
  induction n with
  | zero => rfl
  | succ n ih => simp only [Rd.ds, List.length_append, ih, List.length_cons, List.length_nil]
theorem Rd.ds_sane (r : Rd) (h : r.sane) (n : Nat) : (r.ds' n).sane := by
  cases n with
  | zero => exact h
  | succ n => exact Rd.dg_sane _
theorem Rd.ds_fault (n : Nat) : Rd.fault.ds' n = Rd.fault := by
  induction n with
  | zero => rfl
  | succ n ih => simp only [Rd.ds', ih]; exact Rd.dg_bad _ rfl
theorem Rd.ds_bad (r : Rd) (k : Nat) (h : (r.ds' k).bad = true) : ∀ n, k ≤ n → (r.ds' n).bad = true := by
  intro n
  induction n with
  | zero => intro hk; rw [show k = 0 by omega] at h; exact h
  | succ n ih =>
    intro hk
    rcases (show k = n + 1 ∨ k ≤ n by omega) with rfl | h1
    · exact h
    · show ((r.ds' n).dg').bad = true
      rw [Rd.dg_bad _ (ih h1)]
      rfl
theorem Rd.inn_fault (r : Rd) (lo hi : Int) (h : (r.inn' lo hi).bad = true) : r.inn' lo hi = Rd.fault := by
  unfold Rd.inn' at h ⊢
  split
  · rename_i k
    rw [if_pos k] at h
    simp only [Rd.inOk, Bool.and_eq_true, Bool.not_eq_true'] at k
    rw [k.1.1] at h
    cases h
  · rfl
def Rd.s2 (r : Rd) : Rd := r.num'.inn' 0 6
def Rd.sN (r : Rd) : Nat := (r.num'.inn 0 6).toNat
theorem Rd.sN_eq (r : Rd) : ((r.sN : Nat) : Int) = r.num'.inn 0 6 ∧ r.sN ≤ 6 := by
  have := r.num'.inn_range 0 6 (by omega)
  unfold Rd.sN
  omega
def Rd.sig' (r : Rd) : Rd := ((r.s2.ds' 32).ds' 32).ds' r.sN
def Rd.sig0 (r : Rd) : Sig := ⟨r.num, r.s2.ds 32, (r.s2.ds' 32).ds 32, ((r.s2.ds' 32).ds' 32).ds r.sN⟩
def Rd.sig (r : Rd) : Sig := if r.sig'.bad = true then Sig.zero else r.sig0
theorem Rd.sig_fault (r : Rd) (h : r.s2.bad = true) : r.s2 = Rd.fault ∧ r.sig' = Rd.fault := by
  have e : r.s2 = Rd.fault := Rd.inn_fault _ _ _ h
  refine ⟨e, ?_⟩
  unfold Rd.sig'
  rw [e, Rd.ds_fault, Rd.ds_fault, Rd.ds_fault]
theorem Rd.sig_sane (r : Rd) : r.sig'.sane := Rd.ds_sane _ (Rd.ds_sane _ (Rd.ds_sane _ (Rd.inn_sane _ _ _) _) _) _
/-- All digests as one list. -/
theorem Rd.ds_add' (r : Rd) (n : Nat) : ∀ m, r.ds' (n + m) = (r.ds' n).ds' m
  | 0 => rfl
  | m + 1 => by
    show (r.ds' (n + m)).dg' = ((r.ds' n).ds' m).dg'
    rw [Rd.ds_add' r n m]
theorem Rd.ds_add (r : Rd) (n : Nat) : ∀ m, r.ds (n + m) = r.ds n ++ (r.ds' n).ds m
  | 0 => by simp [Rd.ds]
  | m + 1 => by
    show r.ds (n + m) ++ [(r.ds' (n + m)).dg] = r.ds n ++ ((r.ds' n).ds m ++ [((r.ds' n).ds' m).dg])
    rw [Rd.ds_add r n m, Rd.ds_add' r n m, List.append_assoc]
end Go.Proofs.Ytglkfbhjimnboaa.WL

end
section
/-
  A CONTRACT TOLD ANEW: rows that a call made are given away as slices that stay as they are.
-/
namespace Go.Proofs.Ytglkfbhjimnboaa.WL
open Go

def newE (L : Names) : List (Nat × Loc) → Prop
  | [] => True
  | e :: r => look L e.1 = some (some (e.1, e.2.gen)) ∧ newE L r
theorem newE_mem {L : Names} : ∀ {M : List (Nat × Loc)} {e : Nat × Loc}, newE L M → e ∈ M → look L e.1 = some (some (e.1, e.2.gen))
  | [], _, _, h => by cases h
  | _ :: _, _, h, hm => by
    rcases List.mem_cons.1 hm with rfl | hm
    · exact h.1
    · exact newE_mem h.2 hm
/-- Every name stands for itself. -/
def sameNames : List (Nat × Loc) → Names
  | [] => []
  | (k, c) :: r => (k, some (k, c.gen)) :: sameNames r

theorem Meets.freezeL {P : Program} {G : Nat → Option AV} {f : Nat} {args : List AV} {M : List (Nat × Loc)} {keep : Bool} {res : AV} {M' : List (Nat × Loc)} (h : Meets P G f args M keep res M') {res2 : AV} {M2 : List (Nat × Loc)} (L : Names)
    (hg : goodM false M2 M2 = true ∧ goodA false M2 res2 = true ∧ (M2.map (·.1)).Nodup)
    (he : FitR (look M') L res res2 ∧ Stamped (fun g => g = 0 ∨ g = 1) res2 ∧ FitM (look M') L M2 ∧ StampedM (fun g => g = 0 ∨ g = 1) M2 ∧ (srcs L M2).Nodup ∧ (∀ t ∈ touchR (look M') res res2 ++ touchM (look M') L M2, t ∉ srcs L M2) ∧ newE L M2) :
    Meets P G f args M false res2 M2 := by
  refine ⟨hg, fun C Ws ys hw hm hu hG hv => ?_⟩
  refine Calls.mono (h.2 C Ws ys hw hm hu hG hv) ?_
  rintro e w'' ⟨y, C1, rfl, rfl, hle1, hw1, hm1, hv1⟩
  obtain ⟨h1, h2, h3, h4, h6, h7, h8⟩ := he
  rw [← hm1] at h1 h3 h7
  obtain ⟨T, hT⟩ : ∃ T, T = touchR C1.m res res2 ++ touchM C1.m L M2 := ⟨_, rfl⟩
  let U : Nat → Prop := fun g => C1.used g ∨ g = 0 ∨ g = 1
  have hst' : ∀ (a : AV), Stamped (fun g => g = 0 ∨ g = 1) a → Stamped U a := fun a => stamped_mono (fun g h => .inr h) a
  have hnamed : Named C1.m L M2 T U := ⟨hg.2.2, fun e he => FitM_mem h3 he, fun e he t ht => by rw [hT]; exact List.mem_append_right _ (touchM_mem he ht), h6, by rw [hT]; exact h7, fun e he => by
    have := StampedM_mem h4 he
    cases hq : e.2 with
    | var g w => rw [hq] at this; exact ⟨.inr this.1, hst' w this.2⟩
    | rows g sz ws => rw [hq] at this; exact ⟨.inr this.1, stampedL_mono (fun g h => .inr h) ws this.2⟩⟩
  have hle : C1.Le (reCtx C1 L M2 T U) := by
    refine ⟨fun g hg => .inl hg, fun k hk => .inl hk, fun _ _ => rfl, fun l c' hc' hu' => ?_⟩
    have hmem := look_mem hc'
    have hold := newE_mem h8 hmem
    simp only at hold
    have hfit := hnamed.fit _ hmem
    cases c' with
    | rows g sz ws =>
      simp only [Loc.gen] at hold
      rcases hfit with ⟨l2, g2, xs, k1, k2, _⟩ | ⟨k1, _⟩
      · simp only at k1
        rw [hold] at k1
        obtain ⟨rfl, rfl⟩ := (by simpa using k1 : l = l2 ∧ g = g2)
        exact ⟨_, k2, ⟨rfl, rfl⟩, by simp [reCtx, src, hold], fun b _ cur _ hcur => ⟨cur, hcur, rfl⟩⟩
      · simp only at k1
        rw [hold] at k1
        simp at k1
    | var g w =>
      simp only [Loc.gen] at hold
      obtain ⟨l2, g2, raw, k1, k2, _⟩ := hfit
      simp only at k1
      rw [hold] at k1
      obtain ⟨rfl, rfl⟩ := (by simpa using k1 : l = l2 ∧ g = g2)
      exact ⟨_, k2, rfl, by simp [reCtx, src, hold], fun b _ cur _ hcur => ⟨cur, hcur, rfl⟩⟩
  have hwr : WR C.w Ws C.I (reCtx C1 L M2 T U) := by
    refine hnamed.wr hw1 (fun k hk => .inl (hw1.imm0 k hk)) (fun l c b _ h2 h3 => (hw1.own l c b h2 h3).2.2) (fun k hk => ?_) hw1.os hw1.tape hw1.output hw1.size hw1.block
    rcases hk with hk | ⟨t, _, ct, hct, hbt⟩
    · exact (hw1.imm k hk).2
    · exact .inr ((hw1.own t ct k hct hbt).2.2)
  exact ⟨y, reCtx C1 L M2 T U, rfl, rfl, hle1.trans hle, hwr, rfl, SV_fitR hw1 hnamed.seen h1 (fun t ht => by rw [hT]; exact List.mem_append_left _ ht) (hst' res2 h2) hv1⟩

/-- With the names reckoned. -/
theorem Meets.freeze {P : Program} {G : Nat → Option AV} {f : Nat} {args : List AV} {M : List (Nat × Loc)} {keep : Bool} {res : AV} {M' : List (Nat × Loc)} (h : Meets P G f args M keep res M') {res2 : AV} {M2 : List (Nat × Loc)}
    (hg : goodM false M2 M2 = true ∧ goodA false M2 res2 = true ∧ (M2.map (·.1)).Nodup)
    (he : FitR (look M') (sameNames M2) res res2 ∧ Stamped (fun g => g = 0 ∨ g = 1) res2 ∧ FitM (look M') (sameNames M2) M2 ∧ StampedM (fun g => g = 0 ∨ g = 1) M2 ∧ (srcs (sameNames M2) M2).Nodup ∧ (∀ t ∈ touchR (look M') res res2 ++ touchM (look M') (sameNames M2) M2, t ∉ srcs (sameNames M2) M2) ∧ newE (sameNames M2) M2) :
    Meets P G f args M false res2 M2 := h.freezeL (sameNames M2) hg he
attribute [simp] newE sameNames

/-! Values that hold no reference, seen from outside. -/
mutual
theorem closed_more {M : List (Nat × Loc)} {L : Names} {nb gn : Nat} : ∀ (a : AV), closed a = true → goodA false M a = true ∧ pairsA a a = [] ∧ renA L nb gn a = a
  | .top, _ => by simp [goodA, pairsA, renA]
  | .v x, _ => by
    refine ⟨by simp [goodA], ?_, rfl⟩
    unfold pairsA
    split <;> simp_all
  | .node cs, h => by
    simp only [closed] at h
    obtain ⟨h1, h2, h3⟩ := closeds_more (M := M) (L := L) (nb := nb) (gn := gn) cs h
    simp only [goodA, pairsA, renA, h1, h2, h3, and_self]
  | .arr _ _, h => by simp only [closed] at h; simp [goodA, pairsA, renA, h]
  | .sl _ _, h => by simp only [closed] at h; simp [goodA, pairsA, renA, h]
  | .iptr _, h => by simp only [closed] at h; simp [goodA, pairsA, renA, h]
  | .ptr .., h => by simp [closed] at h
  | .row .., h => by simp [closed] at h
  | .vrow .., h => by simp [closed] at h
  | .rptr .., h => by simp [closed] at h
  | .tup _, h => by simp [closed] at h
theorem closeds_more {M : List (Nat × Loc)} {L : Names} {nb gn : Nat} : ∀ (as : List AV), closeds as = true → goods false M as = true ∧ pairsL as as = [] ∧ rens L nb gn as = as
  | [], _ => by simp [goods, pairsL, rens]
  | a :: as, h => by
    simp only [closeds, Bool.and_eq_true] at h
    obtain ⟨h1, h2, h3⟩ := closed_more (M := M) (L := L) (nb := nb) (gn := gn) a h.1
    obtain ⟨k1, k2, k3⟩ := closeds_more (M := M) (L := L) (nb := nb) (gn := gn) as h.2
    simp only [goods, pairsL, rens, h1, h2, h3, k1, k2, k3, List.append_nil, Bool.and_self, and_self]
end
theorem goodA_closed {M : List (Nat × Loc)} {a : AV} (h : closed a = true) : goodA false M a = true := (closed_more (L := []) (nb := 0) (gn := 0) a h).1
theorem pairsA_closed {a : AV} (h : closed a = true) : pairsA a a = [] := (closed_more (M := []) (L := []) (nb := 0) (gn := 0) a h).2.1
theorem renA_closed {L : Names} {nb gn : Nat} {a : AV} (h : closed a = true) : renA L nb gn a = a := (closed_more (M := []) a h).2.2
theorem Fit_closed {m : Nat → Option Loc} {L : Names} {a : AV} (h : closed a = true) : Fit m L a a = True := eq_true (Fit_refl a h).1
theorem FitR_closed {m : Nat → Option Loc} {L : Names} {a : AV} (h : closed a = true) : FitR m L a a = True := by
  have := (Fit_refl (m := m) (L := L) a h).1
  cases a <;> first | exact eq_true this | (simp [closed] at h)
theorem touch_closed {m : Nat → Option Loc} {a : AV} (h : closed a = true) : touch m a a = [] := (Fit_refl (L := []) a h).2
theorem touchR_closed {m : Nat → Option Loc} {a : AV} (h : closed a = true) : touchR m a a = [] := by
  have := (Fit_refl (m := m) (L := []) a h).2
  cases a <;> first | exact this | (simp [closed] at h)
theorem Stamped_closed {U : Nat → Prop} {a : AV} (h : closed a = true) : Stamped U a = True := eq_true (closed_stamped a h)
theorem isTup_closed {a : AV} (h : closed a = true) : a.isTup = false := by cases a <;> first | rfl | (simp [closed] at h)
theorem refOf_closed {a : AV} (h : closed a = true) : refOf a = none := by cases a <;> first | rfl | (simp [closed] at h)
end Go.Proofs.Ytglkfbhjimnboaa.WL

end
section
/-
  FORMATS of signatures, requests, replies, blocks, votes, plans, configurations, words, links.
-/
namespace Go.Proofs.Ytglkfbhjimnboaa.WL
open Go
attribute [local irreducible] sha

theorem Fmt.Law.same {α : Type} {F G : Fmt α} (h : F.Law) (h1 : ∀ r, G.rd r = F.rd r) (h2 : ∀ r, G.rd' r = F.rd' r) (h3 : ∀ a, G.fits a → G.wr a = F.wr a) (h4 : ∀ a, G.good a ↔ F.good a) (h5 : ∀ a, G.fits a → F.fits a) (h6 : ∀ a, G.good a → G.fits a) : G.Law where
  fault := by rw [h2]; exact h.fault
  flt r hr := by rw [h2]; exact h.flt r hr
  back pre y a hg := by rw [h3 a (h6 a hg), h1, h2]; exact h.back pre y a ((h4 a).1 hg)
  one r hb := by
    rw [h2] at hb ⊢
    have := h.one r hb
    rw [h1, h4, h3 _ (h6 _ ((h4 _).2 this.2.2.2))]
    exact this
  fit a hg := h6 a hg
  inj a b x y ha hb hx := by rw [h3 a ha, h3 b hb] at hx; exact h.inj a b x y (h5 a ha) (h5 b hb) hx

/-! So many alike. -/
theorem repW_const {α : Type} (F : Fmt α) : ∀ (l p : List α), repW (fun _ => F) p l = l.flatMap F.wr
  | [], _ => rfl
  | a :: l, p => by simp [repW, repW_const F l]
theorem repG_const {α : Type} (F : Fmt α) : ∀ (l p : List α), repG (fun _ => F) p l ↔ ∀ a ∈ l, F.good a
  | [], _ => by simp [repG]
  | a :: l, p => by simp [repG, repG_const F l]
theorem repT_const {α : Type} (F : Fmt α) : ∀ (l p : List α), repT (fun _ => F) p l ↔ ∀ a ∈ l, F.fits a
  | [], _ => by simp [repT]
  | a :: l, p => by simp [repT, repT_const F l]
theorem repR_ds (r : Rd) : ∀ n, repR (fun _ => dgF) r n = (r.ds n, r.ds' n)
  | 0 => rfl
  | n + 1 => by simp only [repR, repR_ds r n]; rfl
theorem repR_rq (F : Fmt Req) (h1 : ∀ r, F.rd r = r.req) (h2 : ∀ r, F.rd' r = r.req') (r : Rd) : ∀ n, repR (fun _ => F) r n = (r.rq n, r.rq' n)
  | 0 => rfl
  | n + 1 => by simp only [repR, repR_rq F h1 h2 r n, h1, h2]; rfl
theorem repR_tx (r : Rd) : ∀ n, repR (fun _ => textF 1024) r n = (r.tx n, r.tx' n)
  | 0 => rfl
  | n + 1 => by simp only [repR, repR_tx r n]; rfl

/-! Signatures. -/
def Sig.Fits (s : Sig) : Prop := W64 s.leaf ∧ s.op.length = 32 ∧ s.sh.length = 32 ∧ s.path.length ≤ 6
def sigR : Fmt (Int × (Int × (List Dg × (List Dg × List Dg)))) :=
  seqF numF fun _ => seqF (inF 0 6) fun n => seqF (repF (fun _ => dgF) 32) fun _ => seqF (repF (fun _ => dgF) 32) fun _ => repF (fun _ => dgF) n.toNat
theorem ds_law (n : Nat) : (repF (fun _ => dgF) n).Law := repF_law (fun _ => dgF_law) n
theorem sigR_law : sigR.Law := seqF_law numF_law fun _ => seqF_law (inF_law 0 6) fun n => seqF_law (ds_law 32) fun _ => seqF_law (ds_law 32) fun _ => ds_law n.toNat
def sigM : Fmt Sig := zeroF (mapF sigR (fun x => ⟨x.1, x.2.2.1, x.2.2.2.1, x.2.2.2.2⟩) (fun s => (s.leaf, (s.path.length : Int), s.op, s.sh, s.path))) Sig.zero
theorem sigM_law : sigM.Law := zeroF_law _ (mapF_law sigR_law (fun _ => rfl) (by
  rintro ⟨l, n, o, s, p⟩ ⟨_, ⟨_, h0, _⟩, _, _, h, _⟩
  have h1 : p.length = n.toNat := h
  have h2 : (0 : Int) ≤ n := h0
  have : (p.length : Int) = n := by omega
  show (l, (p.length : Int), o, s, p) = (l, n, o, s, p)
  rw [this]))
def sigF : Fmt Sig := ⟨Rd.sig, Rd.sig', Sig.bytes, Sig.Fits, Sig.Fits⟩
theorem sigF_law : sigF.Law := by
  have hrd' : ∀ r : Rd, r.sig' = sigM.rd' r := fun r => by
    unfold Rd.sig' Rd.s2 Rd.sN
    simp only [sigM, zeroF, mapF, sigR, seqF, repF, numF, inF, repR_ds]
  refine sigM_law.same (fun r => ?_) hrd' (fun s hs => ?_) (fun s => ?_) (fun s hs => ?_) (fun _ h => h)
  · have e : sigM.rd r = if (sigM.rd' r).bad = true then Sig.zero else r.sig0 := by
      unfold Rd.sig0 Rd.s2 Rd.sN
      simp only [sigM, zeroF, mapF, sigR, seqF, repF, numF, inF, repR_ds]
    rw [e, ← hrd']
    rfl
  · show s.bytes = be8 s.leaf ++ (be8 (s.path.length : Int) ++ (repW (fun _ => dgF) [] s.op ++ (repW (fun _ => dgF) [] s.sh ++ repW (fun _ => dgF) [] s.path)))
    simp only [repW_const]
    simp [Sig.bytes, nums, flatD, dgF]
  · show s.Fits ↔ W64 s.leaf ∧ (W64 (s.path.length : Int) ∧ (0 : Int) ≤ s.path.length ∧ (s.path.length : Int) ≤ 6) ∧ (s.op.length = 32 ∧ repG (fun _ => dgF) [] s.op) ∧ (s.sh.length = 32 ∧ repG (fun _ => dgF) [] s.sh) ∧ (s.path.length = (s.path.length : Int).toNat ∧ repG (fun _ => dgF) [] s.path)
    simp only [repG_const, Sig.Fits, W64]
    constructor
    · rintro ⟨h1, h2, h3, h4⟩
      exact ⟨h1, ⟨by omega, by omega, by omega⟩, ⟨h2, fun _ _ => trivial⟩, ⟨h3, fun _ _ => trivial⟩, by omega, fun _ _ => trivial⟩
    · rintro ⟨h1, ⟨_, _, h2⟩, ⟨h3, _⟩, ⟨h4, _⟩, _⟩
      exact ⟨h1, h3, h4, by omega⟩
  · obtain ⟨h1, h2, h3, h4⟩ := hs
    show W64 s.leaf ∧ W64 (s.path.length : Int) ∧ (s.op.length = 32 ∧ repT (fun _ => dgF) [] s.op) ∧ (s.sh.length = 32 ∧ repT (fun _ => dgF) [] s.sh) ∧ (s.path.length = (s.path.length : Int).toNat ∧ repT (fun _ => dgF) [] s.path)
    simp only [repT_const]
    exact ⟨h1, by unfold W64; omega, ⟨h2, fun _ _ => trivial⟩, ⟨h3, fun _ _ => trivial⟩, by omega, fun _ _ => trivial⟩

/-! Requests. -/
def reqR : Fmt (Int × Int × Int × Bytes × Bytes × Bytes × Int × Int × Int × Int × Dg) :=
  seqF (inF 1 64) fun _ => seqF (inF 1 1099511627776) fun _ => seqF (inF 1 7) fun _ => seqF (textF 1024) fun _ => seqF (textF 1024) fun _ => seqF (textF 1024) fun _ => seqF numF fun _ => seqF numF fun _ => seqF numF fun _ => seqF numF fun _ => dgF
theorem reqR_law : reqR.Law := seqF_law (inF_law _ _) fun _ => seqF_law (inF_law _ _) fun _ => seqF_law (inF_law _ _) fun _ => seqF_law (textF_law _) fun _ => seqF_law (textF_law _) fun _ => seqF_law (textF_law _) fun _ => seqF_law numF_law fun _ => seqF_law numF_law fun _ => seqF_law numF_law fun _ => seqF_law numF_law fun _ => dgF_law
def reqM : Fmt Req := zeroF (mapF reqR (fun x => ⟨x.1, x.2.1, x.2.2.1, x.2.2.2.1, x.2.2.2.2.1, x.2.2.2.2.2.1, ⟨x.2.2.2.2.2.2.1, x.2.2.2.2.2.2.2.1, x.2.2.2.2.2.2.2.2.1, x.2.2.2.2.2.2.2.2.2.2, x.2.2.2.2.2.2.2.2.2.1⟩⟩)
  (fun q => (q.client, q.num, q.kind, q.key, q.val, q.old, q.ch.kind, q.ch.id, q.ch.new, q.ch.height, q.ch.root))) Req.zero
theorem reqM_law : reqM.Law := zeroF_law _ (mapF_law reqR_law (fun _ => rfl) (fun _ _ => rfl))
def reqF : Fmt Req := ⟨Rd.req, Rd.req', Req.bytes, fun q => q.Fits ∧ q.good = true, Req.Fits⟩
theorem reqF_law : reqF.Law := by
  refine reqM_law.same (fun _ => rfl) (fun _ => rfl) (fun q hq => ?_) (fun q => ?_) (fun q hq => ?_) (fun _ h => h.1)
  · have := Req.bytes_eq q []
    rw [List.append_nil, List.append_nil] at this
    exact this
  · show (q.Fits ∧ q.good = true) ↔ (W64 q.client ∧ 1 ≤ q.client ∧ q.client ≤ 64) ∧ (W64 q.num ∧ 1 ≤ q.num ∧ q.num ≤ 1099511627776) ∧ (W64 q.kind ∧ 1 ≤ q.kind ∧ q.kind ≤ 7) ∧ (q.key.length < 4294967296 ∧ (q.key.length : Int) ≤ 1024) ∧ (q.val.length < 4294967296 ∧ (q.val.length : Int) ≤ 1024) ∧ (q.old.length < 4294967296 ∧ (q.old.length : Int) ≤ 1024) ∧
      W64 q.ch.kind ∧ W64 q.ch.id ∧ W64 q.ch.new ∧ W64 q.ch.height ∧ True
    simp only [Req.good, Bool.and_eq_true, decide_eq_true_eq]
    constructor
    · rintro ⟨hf, ⟨⟨⟨⟨⟨g1, g2⟩, g3⟩, g4⟩, g5⟩, g6⟩, ⟨g7, g8⟩, g9⟩
      exact ⟨⟨hf.client, g1, g2⟩, ⟨hf.num, g3, g4⟩, ⟨hf.kind, g5, g6⟩, ⟨hf.key, by omega⟩, ⟨hf.val, by omega⟩, ⟨hf.old, by omega⟩, hf.ckind, hf.cid, hf.cnew, hf.cheight, trivial⟩
    · rintro ⟨⟨f1, g1, g2⟩, ⟨f2, g3, g4⟩, ⟨f3, g5, g6⟩, ⟨f4, g7⟩, ⟨f5, g8⟩, ⟨f6, g9⟩, f7, f8, f9, f10, _⟩
      exact ⟨⟨f1, f2, f3, f7, f8, f9, f10, f4, f5, f6⟩, ⟨⟨⟨⟨⟨g1, g2⟩, g3⟩, g4⟩, g5⟩, g6⟩, ⟨by omega, by omega⟩, by omega⟩
  · exact ⟨hq.client, hq.num, hq.kind, hq.key, hq.val, hq.old, hq.ckind, hq.cid, hq.cnew, hq.cheight, trivial⟩

/-! Replies. -/
def replyR : Fmt (Int × Int × Int × List Bytes) := seqF (inF 1 64) fun _ => seqF (inF 1 1099511627776) fun _ => seqF (inF 0 1024) fun _ => cntF 0 256 (fun _ => textF 1024)
theorem replyR_law : replyR.Law := seqF_law (inF_law _ _) fun _ => seqF_law (inF_law _ _) fun _ => seqF_law (inF_law _ _) fun _ => cntF_law (by omega) (fun _ => textF_law _)
def replyM : Fmt Rep := zeroF (mapF replyR (fun x => ⟨x.1, x.2.1, x.2.2.1, x.2.2.2⟩) (fun a => (a.client, a.num, a.code, a.vals))) Rep.zero
theorem replyM_law : replyM.Law := zeroF_law _ (mapF_law replyR_law (fun _ => rfl) (fun _ _ => rfl))
def Rep.Good (a : Rep) : Prop := a.Fits ∧ (1 ≤ a.client ∧ a.client ≤ 64) ∧ (1 ≤ a.num ∧ a.num ≤ 1099511627776) ∧ (0 ≤ a.code ∧ a.code ≤ 1024) ∧ a.vals.length ≤ 256 ∧ ∀ v ∈ a.vals, v.length ≤ 1024
def replyF : Fmt Rep := ⟨Rd.rep, Rd.rep', Rep.bytes, Rep.Good, Rep.Fits⟩
theorem replyF_law : replyF.Law := by
  have hrd' : ∀ r : Rd, r.rep' = replyM.rd' r := fun r => by
    show _ = (repR (fun _ => textF 1024) r.p4 r.repN).2
    rw [repR_tx]; rfl
  refine replyM_law.same (fun r => ?_) hrd' (fun a ha => ?_) (fun a => ?_) (fun a ha => ?_) (fun _ h => h.1)
  · show r.rep = if (replyM.rd' r).bad = true then Rep.zero else _
    rw [← hrd']
    unfold Rd.rep
    congr 1
    show r.rep0 = ⟨r.inn 1 64, r.p1.inn 1 1099511627776, r.p2.inn 0 1024, (repR (fun _ => textF 1024) r.p4 r.repN).1⟩
    rw [repR_tx]; rfl
  · show a.bytes = be8 a.client ++ (be8 a.num ++ (be8 a.code ++ (be8 (a.vals.length : Int) ++ repW (fun _ => textF 1024) [] a.vals)))
    rw [repW_const]
    simp [Rep.bytes, nums, txts, textF]
  · show a.Good ↔ (W64 a.client ∧ 1 ≤ a.client ∧ a.client ≤ 64) ∧ (W64 a.num ∧ 1 ≤ a.num ∧ a.num ≤ 1099511627776) ∧ (W64 a.code ∧ 0 ≤ a.code ∧ a.code ≤ 1024) ∧ (W64 (a.vals.length : Int) ∧ (0 : Int) ≤ a.vals.length ∧ (a.vals.length : Int) ≤ 256) ∧ (a.vals.length = (a.vals.length : Int).toNat ∧ repG (fun _ => textF 1024) [] a.vals)
    rw [repG_const]
    constructor
    · rintro ⟨hf, h1, h2, h3, h4, h5⟩
      refine ⟨⟨hf.client, h1⟩, ⟨hf.num, h2⟩, ⟨hf.code, h3⟩, ⟨by unfold W64; omega, by omega, by omega⟩, by omega, fun v hv => ⟨hf.vals v hv, ?_⟩⟩
      have := h5 v hv
      omega
    · rintro ⟨⟨f1, h1⟩, ⟨f2, h2⟩, ⟨f3, h3⟩, ⟨_, _, h4⟩, _, h5⟩
      refine ⟨⟨f1, f2, f3, by omega, fun v hv => (h5 v hv).1⟩, h1, h2, h3, by omega, fun v hv => ?_⟩
      have := (h5 v hv).2
      omega
  · show W64 a.client ∧ W64 a.num ∧ W64 a.code ∧ W64 (a.vals.length : Int) ∧ (a.vals.length = (a.vals.length : Int).toNat ∧ repT (fun _ => textF 1024) [] a.vals)
    rw [repT_const]
    exact ⟨ha.client, ha.num, ha.code, w64_len ha.len, by omega, ha.vals⟩

/-! Blocks. -/
def blkR : Fmt (Int × Int × Dg × Dg × Dg × List Req) := seqF (inF 0 1073741824) fun _ => seqF (inF 1 1024) fun _ => seqF dgF fun _ => seqF dgF fun _ => seqF dgF fun _ => cntF 0 8 (fun _ => reqF)
theorem blkR_law : blkR.Law := seqF_law (inF_law _ _) fun _ => seqF_law (inF_law _ _) fun _ => seqF_law dgF_law fun _ => seqF_law dgF_law fun _ => seqF_law dgF_law fun _ => cntF_law (by omega) (fun _ => reqF_law)
def blkM : Fmt Blk := zeroF (mapF blkR (fun x => ⟨x.1, x.2.1, x.2.2.1, x.2.2.2.1, x.2.2.2.2.1, x.2.2.2.2.2⟩) (fun b => (b.epoch, b.height, b.prev, b.state, b.next, b.qs))) Blk.zero
theorem blkM_law : blkM.Law := zeroF_law _ (mapF_law blkR_law (fun _ => rfl) (fun _ _ => rfl))
def blkF : Fmt Blk := ⟨Rd.blk, Rd.blk', Blk.bytes, fun b => b.Fits ∧ b.good = true, Blk.Fits⟩
theorem blkF_law : blkF.Law := by
  have hrd' : ∀ r : Rd, r.blk' = blkM.rd' r := fun r => by
    show _ = (repR (fun _ => reqF) r.b6 r.blkN).2
    rw [repR_rq reqF (fun _ => rfl) (fun _ => rfl)]; rfl
  refine blkM_law.same (fun r => ?_) hrd' (fun b hb => ?_) (fun b => ?_) (fun b hb => ?_) (fun _ h => h.1)
  · show r.blk = if (blkM.rd' r).bad = true then Blk.zero else _
    rw [← hrd']
    unfold Rd.blk
    congr 1
    show r.blk0 = ⟨r.inn 0 1073741824, r.b1.inn 1 1024, r.b2.dg, r.b3.dg, r.b4.dg, (repR (fun _ => reqF) r.b6 r.blkN).1⟩
    rw [repR_rq reqF (fun _ => rfl) (fun _ => rfl)]; rfl
  · show b.bytes = be8 b.epoch ++ (be8 b.height ++ (b.prev.bs ++ (b.state.bs ++ (b.next.bs ++ (be8 (b.qs.length : Int) ++ repW (fun _ => reqF) [] b.qs)))))
    rw [repW_const]
    have := Blk.bytes_eq b []
    simp only [List.append_nil] at this
    rw [this]
    rfl
  · show (b.Fits ∧ b.good = true) ↔ (W64 b.epoch ∧ 0 ≤ b.epoch ∧ b.epoch ≤ 1073741824) ∧ (W64 b.height ∧ 1 ≤ b.height ∧ b.height ≤ 1024) ∧ True ∧ True ∧ True ∧ (W64 (b.qs.length : Int) ∧ (0 : Int) ≤ b.qs.length ∧ (b.qs.length : Int) ≤ 8) ∧ (b.qs.length = (b.qs.length : Int).toNat ∧ repG (fun _ => reqF) [] b.qs)
    rw [repG_const]
    simp only [Blk.good, Bool.and_eq_true, decide_eq_true_eq, List.all_eq_true]
    constructor
    · rintro ⟨hf, ⟨⟨⟨⟨g1, g2⟩, g3⟩, g4⟩, g5⟩, g6⟩
      exact ⟨⟨hf.epoch, g1, g2⟩, ⟨hf.height, g3, g4⟩, trivial, trivial, trivial, ⟨w64_len hf.len, by omega, by omega⟩, by omega, fun q hq => ⟨hf.qs q hq, g6 q hq⟩⟩
    · rintro ⟨⟨f1, g1, g2⟩, ⟨f2, g3, g4⟩, _, _, _, ⟨_, _, g5⟩, _, g6⟩
      exact ⟨⟨f1, f2, by omega, fun q hq => (g6 q hq).1⟩, ⟨⟨⟨⟨g1, g2⟩, g3⟩, g4⟩, by omega⟩, fun q hq => (g6 q hq).2⟩
  · show W64 b.epoch ∧ W64 b.height ∧ True ∧ True ∧ True ∧ W64 (b.qs.length : Int) ∧ (b.qs.length = (b.qs.length : Int).toNat ∧ repT (fun _ => reqF) [] b.qs)
    rw [repT_const]
    exact ⟨hb.epoch, hb.height, trivial, trivial, trivial, w64_len hb.len, by omega, hb.qs⟩

/-! Votes. -/
section
attribute [local irreducible] Rd.sig Rd.sig' Rd.blk Rd.blk' Rd.inn Rd.inn' Rd.dg Rd.dg' repR
structure Vote where
  kind : Int
  epoch : Int
  height : Int
  round : Int
  dg : Dg
  src : Int
  sig : Sig
def Vote.zero : Vote := ⟨0, 0, 0, 0, Dg.zero, 0, Sig.zero⟩
def voteR : Fmt (Int × Int × Int × Int × Int × Dg × Sig) := seqF (inF 1 2) fun _ => seqF (inF 0 1073741824) fun _ => seqF (inF 1 1024) fun _ => seqF (inF 0 1024) fun _ => seqF (inF 1 63) fun _ => seqF dgF fun _ => sigF
theorem voteR_law : voteR.Law := seqF_law (inF_law _ _) fun _ => seqF_law (inF_law _ _) fun _ => seqF_law (inF_law _ _) fun _ => seqF_law (inF_law _ _) fun _ => seqF_law (inF_law _ _) fun _ => seqF_law dgF_law fun _ => sigF_law
def voteF : Fmt Vote := zeroF (mapF voteR (fun x => ⟨x.1, x.2.1, x.2.2.1, x.2.2.2.1, x.2.2.2.2.2.1, x.2.2.2.2.1, x.2.2.2.2.2.2⟩) (fun v => (v.kind, v.epoch, v.height, v.round, v.src, v.dg, v.sig))) Vote.zero
theorem voteF_law : voteF.Law := zeroF_law _ (mapF_law voteR_law (fun _ => rfl) (fun _ _ => rfl))
theorem voteF_rd' (r : Rd) : voteF.rd' r = ((((((r.inn' 1 2).inn' 0 1073741824).inn' 1 1024).inn' 0 1024).inn' 1 63).dg').sig' := rfl
theorem voteF_rd (r : Rd) : voteF.rd r = if (voteF.rd' r).bad = true then Vote.zero else
    ⟨r.inn 1 2, (r.inn' 1 2).inn 0 1073741824, ((r.inn' 1 2).inn' 0 1073741824).inn 1 1024, (((r.inn' 1 2).inn' 0 1073741824).inn' 1 1024).inn 0 1024, (((((r.inn' 1 2).inn' 0 1073741824).inn' 1 1024).inn' 0 1024).inn' 1 63).dg,
      ((((r.inn' 1 2).inn' 0 1073741824).inn' 1 1024).inn' 0 1024).inn 1 63, ((((((r.inn' 1 2).inn' 0 1073741824).inn' 1 1024).inn' 0 1024).inn' 1 63).dg').sig⟩ := rfl
def Vote.head (v : Vote) : Bytes := nums [v.kind, v.epoch, v.height, v.round, v.src] ++ v.dg.bs
theorem voteF_wr (v : Vote) : voteF.wr v = v.head ++ v.sig.bytes := by
  show be8 v.kind ++ (be8 v.epoch ++ (be8 v.height ++ (be8 v.round ++ (be8 v.src ++ (v.dg.bs ++ v.sig.bytes))))) = _
  simp [Vote.head, nums]
def Vote.good (v : Vote) : Bool := decide (1 ≤ v.kind) && decide (v.kind ≤ 2) && decide (0 ≤ v.epoch) && decide (v.epoch ≤ 1073741824) && decide (1 ≤ v.height) && decide (v.height ≤ 1024) && decide (0 ≤ v.round) && decide (v.round ≤ 1024) && decide (1 ≤ v.src) && decide (v.src ≤ 63)

/-! Plans. -/
structure Plan where
  epoch : Int
  height : Int
  round : Int
  valid : Int
  blk : Blk
  src : Int
  sig : Sig
def Plan.zero : Plan := ⟨0, 0, 0, 0, Blk.zero, 0, Sig.zero⟩
def planR : Fmt (Int × Int × Int × Int × Int × Blk × Sig) := seqF (inF 0 1073741824) fun _ => seqF (inF 1 1024) fun _ => seqF (inF 0 1024) fun n => seqF (inF (-1) (n - 1)) fun _ => seqF (inF 1 63) fun _ => seqF blkF fun _ => sigF
theorem planR_law : planR.Law := seqF_law (inF_law _ _) fun _ => seqF_law (inF_law _ _) fun _ => seqF_law (inF_law _ _) fun _ => seqF_law (inF_law _ _) fun _ => seqF_law (inF_law _ _) fun _ => seqF_law blkF_law fun _ => sigF_law
def planF : Fmt Plan := zeroF (mapF planR (fun x => ⟨x.1, x.2.1, x.2.2.1, x.2.2.2.1, x.2.2.2.2.2.1, x.2.2.2.2.1, x.2.2.2.2.2.2⟩) (fun p => (p.epoch, p.height, p.round, p.valid, p.src, p.blk, p.sig))) Plan.zero
theorem planF_law : planF.Law := zeroF_law _ (mapF_law planR_law (fun _ => rfl) (fun _ _ => rfl))
theorem planF_rd' (r : Rd) : planF.rd' r = ((((((r.inn' 0 1073741824).inn' 1 1024).inn' 0 1024).inn' (-1) (((r.inn' 0 1073741824).inn' 1 1024).inn 0 1024 - 1)).inn' 1 63).blk').sig' := rfl
theorem planF_rd (r : Rd) : planF.rd r = if (planF.rd' r).bad = true then Plan.zero else
    ⟨r.inn 0 1073741824, (r.inn' 0 1073741824).inn 1 1024, ((r.inn' 0 1073741824).inn' 1 1024).inn 0 1024, (((r.inn' 0 1073741824).inn' 1 1024).inn' 0 1024).inn (-1) (((r.inn' 0 1073741824).inn' 1 1024).inn 0 1024 - 1),
      (((((r.inn' 0 1073741824).inn' 1 1024).inn' 0 1024).inn' (-1) (((r.inn' 0 1073741824).inn' 1 1024).inn 0 1024 - 1)).inn' 1 63).blk,
      ((((r.inn' 0 1073741824).inn' 1 1024).inn' 0 1024).inn' (-1) (((r.inn' 0 1073741824).inn' 1 1024).inn 0 1024 - 1)).inn 1 63,
      ((((((r.inn' 0 1073741824).inn' 1 1024).inn' 0 1024).inn' (-1) (((r.inn' 0 1073741824).inn' 1 1024).inn 0 1024 - 1)).inn' 1 63).blk').sig⟩ := rfl
def Plan.head (p : Plan) : Bytes := nums [p.epoch, p.height, p.round, p.valid, p.src] ++ p.blk.bytes
theorem planF_wr (p : Plan) : planF.wr p = p.head ++ p.sig.bytes := by
  show be8 p.epoch ++ (be8 p.height ++ (be8 p.round ++ (be8 p.valid ++ (be8 p.src ++ (p.blk.bytes ++ p.sig.bytes))))) = _
  simp [Plan.head, nums]

/-! Configurations. -/
structure Mem where
  id : Int
  root : Dg
  height : Int
structure Conf where
  epoch : Int
  ms : List Mem
def Conf.zero : Conf := ⟨0, []⟩
def lastId (l : List Mem) : Int := match l.getLast? with
  | some m => m.id
  | none => 0
@[simp] theorem lastId_nil : lastId [] = 0 := (rfl)
@[simp] theorem lastId_snoc (l : List Mem) (m : Mem) : lastId (l ++ [m]) = m.id := by simp [lastId]
def memF (l : List Mem) : Fmt Mem := mapF (seqF (inF (lastId l + 1) 63) fun _ => seqF (inF 0 6) fun _ => dgF) (fun x => ⟨x.1, x.2.2, x.2.1⟩) (fun m => (m.id, m.height, m.root))
theorem memF_law (l : List Mem) : (memF l).Law := mapF_law (seqF_law (inF_law _ _) fun _ => seqF_law (inF_law _ _) fun _ => dgF_law) (fun _ => rfl) (fun _ _ => rfl)
def confF : Fmt Conf := zeroF (mapF (seqF (inF 0 1073741824) fun _ => cntF 1 10 memF) (fun x => ⟨x.1, x.2⟩) (fun c => (c.epoch, c.ms))) Conf.zero
theorem confF_law : confF.Law := zeroF_law _ (mapF_law (seqF_law (inF_law _ _) fun _ => cntF_law (by omega) memF_law) (fun _ => rfl) (fun _ _ => rfl))
def Rd.confN (r : Rd) : Nat := ((r.inn' 0 1073741824).inn 1 10).toNat
theorem confF_rd' (r : Rd) : confF.rd' r = (repR memF ((r.inn' 0 1073741824).inn' 1 10) r.confN).2 := rfl
theorem confF_rd (r : Rd) : confF.rd r = if (confF.rd' r).bad = true then Conf.zero else ⟨r.inn 0 1073741824, (repR memF ((r.inn' 0 1073741824).inn' 1 10) r.confN).1⟩ := rfl
def memB (m : Mem) : Bytes := nums [m.id, m.height] ++ m.root.bs
def memsB (ms : List Mem) : Bytes := ms.flatMap memB
theorem memsB_eq : ∀ (ms l : List Mem), repW memF l ms = memsB ms
  | [], _ => rfl
  | m :: ms, l => by
    show (be8 m.id ++ (be8 m.height ++ m.root.bs)) ++ repW memF (l ++ [m]) ms = memsB (m :: ms)
    rw [memsB_eq ms]
    simp [memsB, memB, nums]
def Conf.bytes (c : Conf) : Bytes := nums [c.epoch, (c.ms.length : Int)] ++ memsB c.ms
theorem confF_wr (c : Conf) : confF.wr c = c.bytes := by
  show be8 c.epoch ++ (be8 (c.ms.length : Int) ++ repW memF [] c.ms) = _
  rw [memsB_eq]
  simp [Conf.bytes, nums]

/-! Words. -/
structure Cert where
  round : Int
  votes : List Vote
def Cert.zero : Cert := ⟨0, []⟩
def certF : Fmt Cert := zeroF (mapF (seqF (inF 0 1024) fun _ => cntF 1 10 (fun _ => voteF)) (fun x => ⟨x.1, x.2⟩) (fun c => (c.round, c.votes))) Cert.zero
theorem certF_law : certF.Law := zeroF_law _ (mapF_law (seqF_law (inF_law _ _) fun _ => cntF_law (by omega) (fun _ => voteF_law)) (fun _ => rfl) (fun _ _ => rfl))
def Rd.certN (r : Rd) : Nat := ((r.inn' 0 1024).inn 1 10).toNat
theorem certF_rd' (r : Rd) : certF.rd' r = (repR (fun _ => voteF) ((r.inn' 0 1024).inn' 1 10) r.certN).2 := rfl
theorem certF_rd (r : Rd) : certF.rd r = if (certF.rd' r).bad = true then Cert.zero else ⟨r.inn 0 1024, (repR (fun _ => voteF) ((r.inn' 0 1024).inn' 1 10) r.certN).1⟩ := rfl
def votesB (vs : List Vote) : Bytes := vs.flatMap voteF.wr
theorem votesB_snoc (vs : List Vote) (v : Vote) : votesB (vs ++ [v]) = votesB vs ++ voteF.wr v := by simp [votesB]
def Cert.bytes (c : Cert) : Bytes := nums [c.round, (c.votes.length : Int)] ++ votesB c.votes
theorem certF_wr (c : Cert) : certF.wr c = c.bytes := by
  show be8 c.round ++ (be8 (c.votes.length : Int) ++ repW (fun _ => voteF) [] c.votes) = _
  rw [repW_const]
  simp [Cert.bytes, nums, votesB]
/-- Whether it can be written: its signatures can. -/
def Cert.ok (c : Cert) : Bool := c.votes.all fun v => v.sig.ok

/-! Links. -/
structure Lnk where
  blk : Blk
  cert : Cert
  conf : Conf
def Lnk.zero : Lnk := ⟨Blk.zero, Cert.zero, Conf.zero⟩
def linkF : Fmt Lnk := zeroF (mapF (seqF blkF fun _ => seqF certF fun _ => confF) (fun x => ⟨x.1, x.2.1, x.2.2⟩) (fun l => (l.blk, l.cert, l.conf))) Lnk.zero
theorem linkF_law : linkF.Law := zeroF_law _ (mapF_law (seqF_law blkF_law fun _ => seqF_law certF_law fun _ => confF_law) (fun _ => rfl) (fun _ _ => rfl))
theorem linkF_rd' (r : Rd) : linkF.rd' r = confF.rd' (certF.rd' r.blk') := rfl
theorem linkF_rd (r : Rd) : linkF.rd r = if (linkF.rd' r).bad = true then Lnk.zero else ⟨r.blk, certF.rd r.blk', confF.rd (certF.rd' r.blk')⟩ := rfl
theorem linkF_wr (l : Lnk) : linkF.wr l = l.blk.bytes ++ (l.cert.bytes ++ l.conf.bytes) := by
  show l.blk.bytes ++ (certF.wr l.cert ++ confF.wr l.conf) = _
  rw [certF_wr, confF_wr]

end
/-! As values. -/
@[simp] theorem Sig.avS_closed (q : Sig) : closed (Sig.avS q) = true := by simp [Sig.avS]
@[simp] theorem Sig.avS_solid (q : Sig) : (Sig.avS q).solid = true := by simp [Sig.avS]
@[simp] theorem Sig.avS_agg (q : Sig) : (Sig.avS q).isAgg = true := by simp [Sig.avS]
@[simp] theorem Sig.avS_size (q : Sig) : (Sig.avS q).size = 4 := by simp [Sig.avS]
@[simp] theorem Sig.avS_sub (q : Sig) : sub true 4 (Sig.avS q) 0 = some (Sig.avS q) := by simp [Sig.avS]
@[simp] theorem Sig.avS_good {M : List (Nat × Loc)} (q : Sig) : goodA false M (Sig.avS q) = true := goodA_closed (Sig.avS_closed q)
@[simp] theorem Sig.avS_pairs (q : Sig) : pairsA (Sig.avS q) (Sig.avS q) = [] := pairsA_closed (Sig.avS_closed q)
@[simp] theorem Sig.avS_ren {L : Names} {nb gn : Nat} (q : Sig) : renA L nb gn (Sig.avS q) = Sig.avS q := renA_closed (Sig.avS_closed q)
@[simp] theorem Sig.avS_fit {m : Nat → Option Loc} {L : Names} (q : Sig) : Fit m L (Sig.avS q) (Sig.avS q) = True := Fit_closed (Sig.avS_closed q)
@[simp] theorem Sig.avS_fitR {m : Nat → Option Loc} {L : Names} (q : Sig) : FitR m L (Sig.avS q) (Sig.avS q) = True := FitR_closed (Sig.avS_closed q)
@[simp] theorem Sig.avS_touch {m : Nat → Option Loc} (q : Sig) : touch m (Sig.avS q) (Sig.avS q) = [] := touch_closed (Sig.avS_closed q)
@[simp] theorem Sig.avS_touchR {m : Nat → Option Loc} (q : Sig) : touchR m (Sig.avS q) (Sig.avS q) = [] := touchR_closed (Sig.avS_closed q)
@[simp] theorem Sig.avS_stamped {U : Nat → Prop} (q : Sig) : Stamped U (Sig.avS q) = True := Stamped_closed (Sig.avS_closed q)
@[simp] theorem Sig.avS_tup (q : Sig) : (Sig.avS q).isTup = false := isTup_closed (Sig.avS_closed q)
@[simp] theorem Sig.avS_ref (q : Sig) : refOf (Sig.avS q) = none := refOf_closed (Sig.avS_closed q)
@[simp] theorem Sig.avS_put (q : Sig) (x : AV) : putAt true 4 x (Sig.avS q) 0 = some x := by simp [Sig.avS]
@[simp] theorem Blk.avS_closed (q : Blk) : closed (Blk.avS q) = true := by simp [Blk.avS]
@[simp] theorem Blk.avS_solid (q : Blk) : (Blk.avS q).solid = true := by simp [Blk.avS]
@[simp] theorem Blk.avS_agg (q : Blk) : (Blk.avS q).isAgg = true := by simp [Blk.avS]
@[simp] theorem Blk.avS_size (q : Blk) : (Blk.avS q).size = 99 := by simp [Blk.avS]
@[simp] theorem Blk.avS_sub (q : Blk) : sub true 99 (Blk.avS q) 0 = some (Blk.avS q) := by simp [Blk.avS]
@[simp] theorem Blk.avS_good {M : List (Nat × Loc)} (q : Blk) : goodA false M (Blk.avS q) = true := goodA_closed (Blk.avS_closed q)
@[simp] theorem Blk.avS_pairs (q : Blk) : pairsA (Blk.avS q) (Blk.avS q) = [] := pairsA_closed (Blk.avS_closed q)
@[simp] theorem Blk.avS_ren {L : Names} {nb gn : Nat} (q : Blk) : renA L nb gn (Blk.avS q) = Blk.avS q := renA_closed (Blk.avS_closed q)
@[simp] theorem Blk.avS_fit {m : Nat → Option Loc} {L : Names} (q : Blk) : Fit m L (Blk.avS q) (Blk.avS q) = True := Fit_closed (Blk.avS_closed q)
@[simp] theorem Blk.avS_fitR {m : Nat → Option Loc} {L : Names} (q : Blk) : FitR m L (Blk.avS q) (Blk.avS q) = True := FitR_closed (Blk.avS_closed q)
@[simp] theorem Blk.avS_touch {m : Nat → Option Loc} (q : Blk) : touch m (Blk.avS q) (Blk.avS q) = [] := touch_closed (Blk.avS_closed q)
@[simp] theorem Blk.avS_touchR {m : Nat → Option Loc} (q : Blk) : touchR m (Blk.avS q) (Blk.avS q) = [] := touchR_closed (Blk.avS_closed q)
@[simp] theorem Blk.avS_stamped {U : Nat → Prop} (q : Blk) : Stamped U (Blk.avS q) = True := Stamped_closed (Blk.avS_closed q)
@[simp] theorem Blk.avS_tup (q : Blk) : (Blk.avS q).isTup = false := isTup_closed (Blk.avS_closed q)
@[simp] theorem Blk.avS_ref (q : Blk) : refOf (Blk.avS q) = none := refOf_closed (Blk.avS_closed q)
@[simp] theorem Blk.avS_put (q : Blk) (x : AV) : putAt true 99 x (Blk.avS q) 0 = some x := by simp [Blk.avS]
@[simp] theorem Rep.avS_closed (q : Rep) : closed (Rep.avS q) = true := by simp [Rep.avS]
@[simp] theorem Rep.avS_solid (q : Rep) : (Rep.avS q).solid = true := by simp [Rep.avS]
@[simp] theorem Rep.avS_agg (q : Rep) : (Rep.avS q).isAgg = true := by simp [Rep.avS]
@[simp] theorem Rep.avS_size (q : Rep) : (Rep.avS q).size = 4 := by simp [Rep.avS]
@[simp] theorem Rep.avS_sub (q : Rep) : sub true 4 (Rep.avS q) 0 = some (Rep.avS q) := by simp [Rep.avS]
@[simp] theorem Rep.avS_good {M : List (Nat × Loc)} (q : Rep) : goodA false M (Rep.avS q) = true := goodA_closed (Rep.avS_closed q)
@[simp] theorem Rep.avS_pairs (q : Rep) : pairsA (Rep.avS q) (Rep.avS q) = [] := pairsA_closed (Rep.avS_closed q)
@[simp] theorem Rep.avS_ren {L : Names} {nb gn : Nat} (q : Rep) : renA L nb gn (Rep.avS q) = Rep.avS q := renA_closed (Rep.avS_closed q)
@[simp] theorem Rep.avS_fit {m : Nat → Option Loc} {L : Names} (q : Rep) : Fit m L (Rep.avS q) (Rep.avS q) = True := Fit_closed (Rep.avS_closed q)
@[simp] theorem Rep.avS_fitR {m : Nat → Option Loc} {L : Names} (q : Rep) : FitR m L (Rep.avS q) (Rep.avS q) = True := FitR_closed (Rep.avS_closed q)
@[simp] theorem Rep.avS_touch {m : Nat → Option Loc} (q : Rep) : touch m (Rep.avS q) (Rep.avS q) = [] := touch_closed (Rep.avS_closed q)
@[simp] theorem Rep.avS_touchR {m : Nat → Option Loc} (q : Rep) : touchR m (Rep.avS q) (Rep.avS q) = [] := touchR_closed (Rep.avS_closed q)
@[simp] theorem Rep.avS_stamped {U : Nat → Prop} (q : Rep) : Stamped U (Rep.avS q) = True := Stamped_closed (Rep.avS_closed q)
@[simp] theorem Rep.avS_tup (q : Rep) : (Rep.avS q).isTup = false := isTup_closed (Rep.avS_closed q)
@[simp] theorem Rep.avS_ref (q : Rep) : refOf (Rep.avS q) = none := refOf_closed (Rep.avS_closed q)
@[simp] theorem Rep.avS_put (q : Rep) (x : AV) : putAt true 4 x (Rep.avS q) 0 = some x := by simp [Rep.avS]
@[simp] theorem Req.av_good {M : List (Nat × Loc)} (q : Req) : goodA false M (Req.av q) = true := goodA_closed (Req.av_closed q)
@[simp] theorem Req.av_pairs (q : Req) : pairsA (Req.av q) (Req.av q) = [] := pairsA_closed (Req.av_closed q)
@[simp] theorem Req.av_ren {L : Names} {nb gn : Nat} (q : Req) : renA L nb gn (Req.av q) = Req.av q := renA_closed (Req.av_closed q)
@[simp] theorem Req.av_fit {m : Nat → Option Loc} {L : Names} (q : Req) : Fit m L (Req.av q) (Req.av q) = True := Fit_closed (Req.av_closed q)
@[simp] theorem Req.av_fitR {m : Nat → Option Loc} {L : Names} (q : Req) : FitR m L (Req.av q) (Req.av q) = True := FitR_closed (Req.av_closed q)
@[simp] theorem Req.av_touch {m : Nat → Option Loc} (q : Req) : touch m (Req.av q) (Req.av q) = [] := touch_closed (Req.av_closed q)
@[simp] theorem Req.av_touchR {m : Nat → Option Loc} (q : Req) : touchR m (Req.av q) (Req.av q) = [] := touchR_closed (Req.av_closed q)
@[simp] theorem Req.av_stamped {U : Nat → Prop} (q : Req) : Stamped U (Req.av q) = True := Stamped_closed (Req.av_closed q)
@[simp] theorem Req.av_tup (q : Req) : (Req.av q).isTup = false := isTup_closed (Req.av_closed q)
@[simp] theorem Req.av_ref (q : Req) : refOf (Req.av q) = none := refOf_closed (Req.av_closed q)
@[simp] theorem Req.av_put (q : Req) (x : AV) : putAt true 42 x (Req.av q) 0 = some x := by simp [Req.av, Chg.av]
def Vote.av (v : Vote) : AV := .node [.v (.int .i64 v.kind), .v (.int .i64 v.epoch), .v (.int .i64 v.height), .v (.int .i64 v.round), dv v.dg, .v (.int .i64 v.src), v.sig.avS]
@[simp] theorem Vote.av_closed (q : Vote) : closed (Vote.av q) = true := by simp [Vote.av]
@[simp] theorem Vote.av_solid (q : Vote) : (Vote.av q).solid = true := by simp [Vote.av]
@[simp] theorem Vote.av_agg (q : Vote) : (Vote.av q).isAgg = true := by simp [Vote.av]
@[simp] theorem Vote.av_size (q : Vote) : (Vote.av q).size = 41 := by simp [Vote.av]
@[simp] theorem Vote.av_sub (q : Vote) : sub true 41 (Vote.av q) 0 = some (Vote.av q) := by simp [Vote.av]
@[simp] theorem Vote.av_good {M : List (Nat × Loc)} (q : Vote) : goodA false M (Vote.av q) = true := goodA_closed (Vote.av_closed q)
@[simp] theorem Vote.av_pairs (q : Vote) : pairsA (Vote.av q) (Vote.av q) = [] := pairsA_closed (Vote.av_closed q)
@[simp] theorem Vote.av_ren {L : Names} {nb gn : Nat} (q : Vote) : renA L nb gn (Vote.av q) = Vote.av q := renA_closed (Vote.av_closed q)
@[simp] theorem Vote.av_fit {m : Nat → Option Loc} {L : Names} (q : Vote) : Fit m L (Vote.av q) (Vote.av q) = True := Fit_closed (Vote.av_closed q)
@[simp] theorem Vote.av_fitR {m : Nat → Option Loc} {L : Names} (q : Vote) : FitR m L (Vote.av q) (Vote.av q) = True := FitR_closed (Vote.av_closed q)
@[simp] theorem Vote.av_touch {m : Nat → Option Loc} (q : Vote) : touch m (Vote.av q) (Vote.av q) = [] := touch_closed (Vote.av_closed q)
@[simp] theorem Vote.av_touchR {m : Nat → Option Loc} (q : Vote) : touchR m (Vote.av q) (Vote.av q) = [] := touchR_closed (Vote.av_closed q)
@[simp] theorem Vote.av_stamped {U : Nat → Prop} (q : Vote) : Stamped U (Vote.av q) = True := Stamped_closed (Vote.av_closed q)
@[simp] theorem Vote.av_tup (q : Vote) : (Vote.av q).isTup = false := isTup_closed (Vote.av_closed q)
@[simp] theorem Vote.av_ref (q : Vote) : refOf (Vote.av q) = none := refOf_closed (Vote.av_closed q)
@[simp] theorem Vote.av_put (q : Vote) (x : AV) : putAt true 41 x (Vote.av q) 0 = some x := by simp [Vote.av]
def Votes (l : List Vote) : List AV := l.map Vote.av
@[simp] theorem Votes_length (l : List Vote) : (Votes l).length = l.length := by simp [Votes]
@[simp] theorem Votes_closed (l : List Vote) : closeds (Votes l) = true := by simp [Votes, closeds_all]
@[simp] theorem Votes_get (n : Nat) (l : List Vote) : (Votes l)[n]? = (l[n]?).map Vote.av := by simp [Votes]
@[simp] theorem Votes_getElem (n : Nat) (l : List Vote) (h : n < (Votes l).length) : (Votes l)[n] = Vote.av (l[n]'(by simpa [Votes] using h)) := by simp [Votes]
@[simp] theorem Votes_append (a b : List Vote) : Votes a ++ Votes b = Votes (a ++ b) := by simp [Votes]
@[simp] theorem Votes_drop (n : Nat) (a : List Vote) : (Votes a).drop n = Votes (a.drop n) := by simp [Votes]
@[simp] theorem Votes_take (n : Nat) (a : List Vote) : (Votes a).take n = Votes (a.take n) := by simp [Votes]
@[simp] theorem Votes_nil : Votes [] = [] := (rfl)
theorem Votes_one (a : Vote) : [Vote.av a] = Votes [a] := (rfl)
theorem Votes_snoc (l : List Vote) (a : Vote) : Votes l ++ [Vote.av a] = Votes (l ++ [a]) := by simp [Votes]
def Plan.av (p : Plan) : AV := .node [.v (.int .i64 p.epoch), .v (.int .i64 p.height), .v (.int .i64 p.round), .v (.int .i64 p.valid), p.blk.avS, .v (.int .i64 p.src), p.sig.avS]
@[simp] theorem Plan.av_closed (q : Plan) : closed (Plan.av q) = true := by simp [Plan.av]
@[simp] theorem Plan.av_solid (q : Plan) : (Plan.av q).solid = true := by simp [Plan.av]
@[simp] theorem Plan.av_agg (q : Plan) : (Plan.av q).isAgg = true := by simp [Plan.av]
@[simp] theorem Plan.av_size (q : Plan) : (Plan.av q).size = 108 := by simp [Plan.av]
@[simp] theorem Plan.av_sub (q : Plan) : sub true 108 (Plan.av q) 0 = some (Plan.av q) := by simp [Plan.av]
@[simp] theorem Plan.av_good {M : List (Nat × Loc)} (q : Plan) : goodA false M (Plan.av q) = true := goodA_closed (Plan.av_closed q)
@[simp] theorem Plan.av_pairs (q : Plan) : pairsA (Plan.av q) (Plan.av q) = [] := pairsA_closed (Plan.av_closed q)
@[simp] theorem Plan.av_ren {L : Names} {nb gn : Nat} (q : Plan) : renA L nb gn (Plan.av q) = Plan.av q := renA_closed (Plan.av_closed q)
@[simp] theorem Plan.av_fit {m : Nat → Option Loc} {L : Names} (q : Plan) : Fit m L (Plan.av q) (Plan.av q) = True := Fit_closed (Plan.av_closed q)
@[simp] theorem Plan.av_fitR {m : Nat → Option Loc} {L : Names} (q : Plan) : FitR m L (Plan.av q) (Plan.av q) = True := FitR_closed (Plan.av_closed q)
@[simp] theorem Plan.av_touch {m : Nat → Option Loc} (q : Plan) : touch m (Plan.av q) (Plan.av q) = [] := touch_closed (Plan.av_closed q)
@[simp] theorem Plan.av_touchR {m : Nat → Option Loc} (q : Plan) : touchR m (Plan.av q) (Plan.av q) = [] := touchR_closed (Plan.av_closed q)
@[simp] theorem Plan.av_stamped {U : Nat → Prop} (q : Plan) : Stamped U (Plan.av q) = True := Stamped_closed (Plan.av_closed q)
@[simp] theorem Plan.av_tup (q : Plan) : (Plan.av q).isTup = false := isTup_closed (Plan.av_closed q)
@[simp] theorem Plan.av_ref (q : Plan) : refOf (Plan.av q) = none := refOf_closed (Plan.av_closed q)
@[simp] theorem Plan.av_put (q : Plan) (x : AV) : putAt true 108 x (Plan.av q) 0 = some x := by simp [Plan.av]
def Mem.av (m : Mem) : AV := .node [.v (.int .i64 m.id), .node [dv m.root, .v (.int .i64 m.height)]]
@[simp] theorem Mem.av_closed (q : Mem) : closed (Mem.av q) = true := by simp [Mem.av]
@[simp] theorem Mem.av_solid (q : Mem) : (Mem.av q).solid = true := by simp [Mem.av]
@[simp] theorem Mem.av_agg (q : Mem) : (Mem.av q).isAgg = true := by simp [Mem.av]
@[simp] theorem Mem.av_size (q : Mem) : (Mem.av q).size = 34 := by simp [Mem.av]
@[simp] theorem Mem.av_sub (q : Mem) : sub true 34 (Mem.av q) 0 = some (Mem.av q) := by simp [Mem.av]
@[simp] theorem Mem.av_good {M : List (Nat × Loc)} (q : Mem) : goodA false M (Mem.av q) = true := goodA_closed (Mem.av_closed q)
@[simp] theorem Mem.av_pairs (q : Mem) : pairsA (Mem.av q) (Mem.av q) = [] := pairsA_closed (Mem.av_closed q)
@[simp] theorem Mem.av_ren {L : Names} {nb gn : Nat} (q : Mem) : renA L nb gn (Mem.av q) = Mem.av q := renA_closed (Mem.av_closed q)
@[simp] theorem Mem.av_fit {m : Nat → Option Loc} {L : Names} (q : Mem) : Fit m L (Mem.av q) (Mem.av q) = True := Fit_closed (Mem.av_closed q)
@[simp] theorem Mem.av_fitR {m : Nat → Option Loc} {L : Names} (q : Mem) : FitR m L (Mem.av q) (Mem.av q) = True := FitR_closed (Mem.av_closed q)
@[simp] theorem Mem.av_touch {m : Nat → Option Loc} (q : Mem) : touch m (Mem.av q) (Mem.av q) = [] := touch_closed (Mem.av_closed q)
@[simp] theorem Mem.av_touchR {m : Nat → Option Loc} (q : Mem) : touchR m (Mem.av q) (Mem.av q) = [] := touchR_closed (Mem.av_closed q)
@[simp] theorem Mem.av_stamped {U : Nat → Prop} (q : Mem) : Stamped U (Mem.av q) = True := Stamped_closed (Mem.av_closed q)
@[simp] theorem Mem.av_tup (q : Mem) : (Mem.av q).isTup = false := isTup_closed (Mem.av_closed q)
@[simp] theorem Mem.av_ref (q : Mem) : refOf (Mem.av q) = none := refOf_closed (Mem.av_closed q)
@[simp] theorem Mem.av_put (q : Mem) (x : AV) : putAt true 34 x (Mem.av q) 0 = some x := by simp [Mem.av]
def Mems (l : List Mem) : List AV := l.map Mem.av
@[simp] theorem Mems_length (l : List Mem) : (Mems l).length = l.length := by simp [Mems]
@[simp] theorem Mems_closed (l : List Mem) : closeds (Mems l) = true := by simp [Mems, closeds_all]
@[simp] theorem Mems_get (n : Nat) (l : List Mem) : (Mems l)[n]? = (l[n]?).map Mem.av := by simp [Mems]
@[simp] theorem Mems_getElem (n : Nat) (l : List Mem) (h : n < (Mems l).length) : (Mems l)[n] = Mem.av (l[n]'(by simpa [Mems] using h)) := by simp [Mems]
@[simp] theorem Mems_append (a b : List Mem) : Mems a ++ Mems b = Mems (a ++ b) := by simp [Mems]
@[simp] theorem Mems_drop (n : Nat) (a : List Mem) : (Mems a).drop n = Mems (a.drop n) := by simp [Mems]
@[simp] theorem Mems_take (n : Nat) (a : List Mem) : (Mems a).take n = Mems (a.take n) := by simp [Mems]
@[simp] theorem Mems_nil : Mems [] = [] := (rfl)
theorem Mems_one (a : Mem) : [Mem.av a] = Mems [a] := (rfl)
theorem Mems_snoc (l : List Mem) (a : Mem) : Mems l ++ [Mem.av a] = Mems (l ++ [a]) := by simp [Mems]
def Conf.av (c : Conf) : AV := .node [.v (.int .i64 c.epoch), .sl 34 (Mems c.ms)]
@[simp] theorem Conf.av_closed (q : Conf) : closed (Conf.av q) = true := by simp [Conf.av]
@[simp] theorem Conf.av_solid (q : Conf) : (Conf.av q).solid = true := by simp [Conf.av]
@[simp] theorem Conf.av_agg (q : Conf) : (Conf.av q).isAgg = true := by simp [Conf.av]
@[simp] theorem Conf.av_size (q : Conf) : (Conf.av q).size = 2 := by simp [Conf.av]
@[simp] theorem Conf.av_sub (q : Conf) : sub true 2 (Conf.av q) 0 = some (Conf.av q) := by simp [Conf.av]
@[simp] theorem Conf.av_good {M : List (Nat × Loc)} (q : Conf) : goodA false M (Conf.av q) = true := goodA_closed (Conf.av_closed q)
@[simp] theorem Conf.av_pairs (q : Conf) : pairsA (Conf.av q) (Conf.av q) = [] := pairsA_closed (Conf.av_closed q)
@[simp] theorem Conf.av_ren {L : Names} {nb gn : Nat} (q : Conf) : renA L nb gn (Conf.av q) = Conf.av q := renA_closed (Conf.av_closed q)
@[simp] theorem Conf.av_fit {m : Nat → Option Loc} {L : Names} (q : Conf) : Fit m L (Conf.av q) (Conf.av q) = True := Fit_closed (Conf.av_closed q)
@[simp] theorem Conf.av_fitR {m : Nat → Option Loc} {L : Names} (q : Conf) : FitR m L (Conf.av q) (Conf.av q) = True := FitR_closed (Conf.av_closed q)
@[simp] theorem Conf.av_touch {m : Nat → Option Loc} (q : Conf) : touch m (Conf.av q) (Conf.av q) = [] := touch_closed (Conf.av_closed q)
@[simp] theorem Conf.av_touchR {m : Nat → Option Loc} (q : Conf) : touchR m (Conf.av q) (Conf.av q) = [] := touchR_closed (Conf.av_closed q)
@[simp] theorem Conf.av_stamped {U : Nat → Prop} (q : Conf) : Stamped U (Conf.av q) = True := Stamped_closed (Conf.av_closed q)
@[simp] theorem Conf.av_tup (q : Conf) : (Conf.av q).isTup = false := isTup_closed (Conf.av_closed q)
@[simp] theorem Conf.av_ref (q : Conf) : refOf (Conf.av q) = none := refOf_closed (Conf.av_closed q)
@[simp] theorem Conf.av_put (q : Conf) (x : AV) : putAt true 2 x (Conf.av q) 0 = some x := by simp [Conf.av]
def Cert.av (c : Cert) : AV := .node [.v (.int .i64 c.round), .sl 41 (Votes c.votes)]
@[simp] theorem Cert.av_closed (q : Cert) : closed (Cert.av q) = true := by simp [Cert.av]
@[simp] theorem Cert.av_solid (q : Cert) : (Cert.av q).solid = true := by simp [Cert.av]
@[simp] theorem Cert.av_agg (q : Cert) : (Cert.av q).isAgg = true := by simp [Cert.av]
@[simp] theorem Cert.av_size (q : Cert) : (Cert.av q).size = 2 := by simp [Cert.av]
@[simp] theorem Cert.av_sub (q : Cert) : sub true 2 (Cert.av q) 0 = some (Cert.av q) := by simp [Cert.av]
@[simp] theorem Cert.av_good {M : List (Nat × Loc)} (q : Cert) : goodA false M (Cert.av q) = true := goodA_closed (Cert.av_closed q)
@[simp] theorem Cert.av_pairs (q : Cert) : pairsA (Cert.av q) (Cert.av q) = [] := pairsA_closed (Cert.av_closed q)
@[simp] theorem Cert.av_ren {L : Names} {nb gn : Nat} (q : Cert) : renA L nb gn (Cert.av q) = Cert.av q := renA_closed (Cert.av_closed q)
@[simp] theorem Cert.av_fit {m : Nat → Option Loc} {L : Names} (q : Cert) : Fit m L (Cert.av q) (Cert.av q) = True := Fit_closed (Cert.av_closed q)
@[simp] theorem Cert.av_fitR {m : Nat → Option Loc} {L : Names} (q : Cert) : FitR m L (Cert.av q) (Cert.av q) = True := FitR_closed (Cert.av_closed q)
@[simp] theorem Cert.av_touch {m : Nat → Option Loc} (q : Cert) : touch m (Cert.av q) (Cert.av q) = [] := touch_closed (Cert.av_closed q)
@[simp] theorem Cert.av_touchR {m : Nat → Option Loc} (q : Cert) : touchR m (Cert.av q) (Cert.av q) = [] := touchR_closed (Cert.av_closed q)
@[simp] theorem Cert.av_stamped {U : Nat → Prop} (q : Cert) : Stamped U (Cert.av q) = True := Stamped_closed (Cert.av_closed q)
@[simp] theorem Cert.av_tup (q : Cert) : (Cert.av q).isTup = false := isTup_closed (Cert.av_closed q)
@[simp] theorem Cert.av_ref (q : Cert) : refOf (Cert.av q) = none := refOf_closed (Cert.av_closed q)
@[simp] theorem Cert.av_put (q : Cert) (x : AV) : putAt true 2 x (Cert.av q) 0 = some x := by simp [Cert.av]
def Lnk.av (l : Lnk) : AV := .node [l.blk.avS, l.cert.av, l.conf.av]
@[simp] theorem Lnk.av_closed (q : Lnk) : closed (Lnk.av q) = true := by simp [Lnk.av]
@[simp] theorem Lnk.av_solid (q : Lnk) : (Lnk.av q).solid = true := by simp [Lnk.av]
@[simp] theorem Lnk.av_agg (q : Lnk) : (Lnk.av q).isAgg = true := by simp [Lnk.av]
@[simp] theorem Lnk.av_size (q : Lnk) : (Lnk.av q).size = 103 := by simp [Lnk.av]
@[simp] theorem Lnk.av_sub (q : Lnk) : sub true 103 (Lnk.av q) 0 = some (Lnk.av q) := by simp [Lnk.av]
@[simp] theorem Lnk.av_good {M : List (Nat × Loc)} (q : Lnk) : goodA false M (Lnk.av q) = true := goodA_closed (Lnk.av_closed q)
@[simp] theorem Lnk.av_pairs (q : Lnk) : pairsA (Lnk.av q) (Lnk.av q) = [] := pairsA_closed (Lnk.av_closed q)
@[simp] theorem Lnk.av_ren {L : Names} {nb gn : Nat} (q : Lnk) : renA L nb gn (Lnk.av q) = Lnk.av q := renA_closed (Lnk.av_closed q)
@[simp] theorem Lnk.av_fit {m : Nat → Option Loc} {L : Names} (q : Lnk) : Fit m L (Lnk.av q) (Lnk.av q) = True := Fit_closed (Lnk.av_closed q)
@[simp] theorem Lnk.av_fitR {m : Nat → Option Loc} {L : Names} (q : Lnk) : FitR m L (Lnk.av q) (Lnk.av q) = True := FitR_closed (Lnk.av_closed q)
@[simp] theorem Lnk.av_touch {m : Nat → Option Loc} (q : Lnk) : touch m (Lnk.av q) (Lnk.av q) = [] := touch_closed (Lnk.av_closed q)
@[simp] theorem Lnk.av_touchR {m : Nat → Option Loc} (q : Lnk) : touchR m (Lnk.av q) (Lnk.av q) = [] := touchR_closed (Lnk.av_closed q)
@[simp] theorem Lnk.av_stamped {U : Nat → Prop} (q : Lnk) : Stamped U (Lnk.av q) = True := Stamped_closed (Lnk.av_closed q)
@[simp] theorem Lnk.av_tup (q : Lnk) : (Lnk.av q).isTup = false := isTup_closed (Lnk.av_closed q)
@[simp] theorem Lnk.av_ref (q : Lnk) : refOf (Lnk.av q) = none := refOf_closed (Lnk.av_closed q)
@[simp] theorem Lnk.av_put (q : Lnk) (x : AV) : putAt true 103 x (Lnk.av q) 0 = some x := by simp [Lnk.av]
def Lnks (l : List Lnk) : List AV := l.map Lnk.av
@[simp] theorem Lnks_length (l : List Lnk) : (Lnks l).length = l.length := by simp [Lnks]
@[simp] theorem Lnks_closed (l : List Lnk) : closeds (Lnks l) = true := by simp [Lnks, closeds_all]
@[simp] theorem Lnks_get (n : Nat) (l : List Lnk) : (Lnks l)[n]? = (l[n]?).map Lnk.av := by simp [Lnks]
@[simp] theorem Lnks_getElem (n : Nat) (l : List Lnk) (h : n < (Lnks l).length) : (Lnks l)[n] = Lnk.av (l[n]'(by simpa [Lnks] using h)) := by simp [Lnks]
@[simp] theorem Lnks_append (a b : List Lnk) : Lnks a ++ Lnks b = Lnks (a ++ b) := by simp [Lnks]
@[simp] theorem Lnks_drop (n : Nat) (a : List Lnk) : (Lnks a).drop n = Lnks (a.drop n) := by simp [Lnks]
@[simp] theorem Lnks_take (n : Nat) (a : List Lnk) : (Lnks a).take n = Lnks (a.take n) := by simp [Lnks]
@[simp] theorem Lnks_nil : Lnks [] = [] := (rfl)
theorem Lnks_one (a : Lnk) : [Lnk.av a] = Lnks [a] := (rfl)
theorem Lnks_snoc (l : List Lnk) (a : Lnk) : Lnks l ++ [Lnk.av a] = Lnks (l ++ [a]) := by simp [Lnks]
end Go.Proofs.Ytglkfbhjimnboaa.WL

end
section
/-
  CHAPTER 20: mails, without any program.
-/
namespace Go.Proofs.Ytglkfbhjimnboaa.WL
open Go
attribute [local irreducible] sha
attribute [local irreducible] Rd.sig Rd.sig' Rd.blk Rd.blk' Rd.inn Rd.inn' Rd.dg Rd.dg' Rd.rep Rd.rep' Rd.req Rd.req' repR

structure Piece where
  at_ : Int
  count : Int
  tree : Dg
  data : Bytes
  path : List Dg
def Piece.zero : Piece := ⟨0, 0, Dg.zero, [], []⟩
def pieceF : Fmt Piece := mapF (seqF (inF 0 1024) fun _ => seqF (inF 0 1024) fun _ => seqF (inF 0 16) fun n => seqF dgF fun _ => seqF (repF (fun _ => dgF) n.toNat) fun _ => textF 1024)
  (fun x => ⟨x.1, x.2.1, x.2.2.2.1, x.2.2.2.2.2, x.2.2.2.2.1⟩) (fun p => (p.at_, p.count, (p.path.length : Int), p.tree, p.path, p.data))
theorem pieceF_law : pieceF.Law := mapF_law (seqF_law (inF_law _ _) fun _ => seqF_law (inF_law _ _) fun _ => seqF_law (inF_law _ _) fun n => seqF_law dgF_law fun _ => seqF_law (ds_law n.toNat) fun _ => textF_law _) (fun _ => rfl) (by
  rintro ⟨a, c, n, t, p, d⟩ ⟨_, _, ⟨_, h0, _⟩, _, ⟨h, _⟩, _⟩
  have h1 : p.length = n.toNat := h
  have h2 : (0 : Int) ≤ n := h0
  have : (p.length : Int) = n := by omega
  show (a, c, (p.length : Int), t, p, d) = (a, c, n, t, p, d)
  rw [this])
def Rd.pcN (r : Rd) : Nat := (((r.inn' 0 1024).inn' 0 1024).inn 0 16).toNat
theorem pieceF_rd' (r : Rd) : pieceF.rd' r = ((((((r.inn' 0 1024).inn' 0 1024).inn' 0 16).dg').ds' r.pcN).text' 1024) := by
  show ((repR (fun _ => dgF) ((((r.inn' 0 1024).inn' 0 1024).inn' 0 16).dg') r.pcN).2).text' 1024 = _
  rw [repR_ds]
theorem pieceF_rd (r : Rd) : pieceF.rd r = ⟨r.inn 0 1024, (r.inn' 0 1024).inn 0 1024, (((r.inn' 0 1024).inn' 0 1024).inn' 0 16).dg, (((((r.inn' 0 1024).inn' 0 1024).inn' 0 16).dg').ds' r.pcN).text 1024, ((((r.inn' 0 1024).inn' 0 1024).inn' 0 16).dg').ds r.pcN⟩ := by
  show (⟨r.inn 0 1024, (r.inn' 0 1024).inn 0 1024, (((r.inn' 0 1024).inn' 0 1024).inn' 0 16).dg, ((repR (fun _ => dgF) ((((r.inn' 0 1024).inn' 0 1024).inn' 0 16).dg') r.pcN).2).text 1024, (repR (fun _ => dgF) ((((r.inn' 0 1024).inn' 0 1024).inn' 0 16).dg') r.pcN).1⟩ : Piece) = _
  rw [repR_ds]
def Piece.bytes (p : Piece) : Bytes := nums [p.at_, p.count, (p.path.length : Int)] ++ (flatD (p.tree :: p.path) ++ txt p.data)
theorem pieceF_wr (p : Piece) : pieceF.wr p = p.bytes := by
  show be8 p.at_ ++ (be8 p.count ++ (be8 (p.path.length : Int) ++ (p.tree.bs ++ (repW (fun _ => dgF) [] p.path ++ txt p.data)))) = _
  rw [repW_const]
  simp [Piece.bytes, nums, flatD, dgF]
def Piece.av (p : Piece) : AV := .node [.v (.int .i64 p.at_), .v (.int .i64 p.count), dv p.tree, .v (.string (mkS p.data)), .sl 32 (Dgs p.path)]
@[simp] theorem Piece.av_closed (q : Piece) : closed (Piece.av q) = true := by simp [Piece.av]
@[simp] theorem Piece.av_solid (q : Piece) : (Piece.av q).solid = true := by simp [Piece.av]
@[simp] theorem Piece.av_agg (q : Piece) : (Piece.av q).isAgg = true := by simp [Piece.av]
@[simp] theorem Piece.av_size (q : Piece) : (Piece.av q).size = 36 := by simp [Piece.av]
@[simp] theorem Piece.av_sub (q : Piece) : sub true 36 (Piece.av q) 0 = some (Piece.av q) := by simp [Piece.av]
@[simp] theorem Piece.av_good {M : List (Nat × Loc)} (q : Piece) : goodA false M (Piece.av q) = true := goodA_closed (Piece.av_closed q)
@[simp] theorem Piece.av_pairs (q : Piece) : pairsA (Piece.av q) (Piece.av q) = [] := pairsA_closed (Piece.av_closed q)
@[simp] theorem Piece.av_ren {L : Names} {nb gn : Nat} (q : Piece) : renA L nb gn (Piece.av q) = Piece.av q := renA_closed (Piece.av_closed q)
@[simp] theorem Piece.av_fit {m : Nat → Option Loc} {L : Names} (q : Piece) : Fit m L (Piece.av q) (Piece.av q) = True := Fit_closed (Piece.av_closed q)
@[simp] theorem Piece.av_fitR {m : Nat → Option Loc} {L : Names} (q : Piece) : FitR m L (Piece.av q) (Piece.av q) = True := FitR_closed (Piece.av_closed q)
@[simp] theorem Piece.av_touch {m : Nat → Option Loc} (q : Piece) : touch m (Piece.av q) (Piece.av q) = [] := touch_closed (Piece.av_closed q)
@[simp] theorem Piece.av_touchR {m : Nat → Option Loc} (q : Piece) : touchR m (Piece.av q) (Piece.av q) = [] := touchR_closed (Piece.av_closed q)
@[simp] theorem Piece.av_stamped {U : Nat → Prop} (q : Piece) : Stamped U (Piece.av q) = True := Stamped_closed (Piece.av_closed q)
@[simp] theorem Piece.av_tup (q : Piece) : (Piece.av q).isTup = false := isTup_closed (Piece.av_closed q)
@[simp] theorem Piece.av_ref (q : Piece) : refOf (Piece.av q) = none := refOf_closed (Piece.av_closed q)
@[simp] theorem Piece.av_put (q : Piece) (x : AV) : putAt true 36 x (Piece.av q) 0 = some x := by simp [Piece.av]
def Pcs (l : List Piece) : List AV := l.map Piece.av
@[simp] theorem Pcs_length (l : List Piece) : (Pcs l).length = l.length := by simp [Pcs]
@[simp] theorem Pcs_closed (l : List Piece) : closeds (Pcs l) = true := by simp [Pcs, closeds_all]
@[simp] theorem Pcs_get (n : Nat) (l : List Piece) : (Pcs l)[n]? = (l[n]?).map Piece.av := by simp [Pcs]
@[simp] theorem Pcs_getElem (n : Nat) (l : List Piece) (h : n < (Pcs l).length) : (Pcs l)[n] = Piece.av (l[n]'(by simpa [Pcs] using h)) := by simp [Pcs]
@[simp] theorem Pcs_append (a b : List Piece) : Pcs a ++ Pcs b = Pcs (a ++ b) := by simp [Pcs]
@[simp] theorem Pcs_drop (n : Nat) (a : List Piece) : (Pcs a).drop n = Pcs (a.drop n) := by simp [Pcs]
@[simp] theorem Pcs_take (n : Nat) (a : List Piece) : (Pcs a).take n = Pcs (a.take n) := by simp [Pcs]
@[simp] theorem Pcs_nil : Pcs [] = [] := (rfl)
theorem Pcs_one (a : Piece) : [Piece.av a] = Pcs [a] := (rfl)
theorem Pcs_snoc (l : List Piece) (a : Piece) : Pcs l ++ [Piece.av a] = Pcs (l ++ [a]) := by simp [Pcs]

structure Mail where
  kind : Int
  plan : Plan
  vote : Vote
  req : Req
  rep : Rep
  height : Int
  blk : Blk
  cert : Cert
  links : List Lnk
  pieces : List Piece
def Mail.zero : Mail := ⟨0, Plan.zero, Vote.zero, Req.zero, Rep.zero, 0, Blk.zero, Cert.zero, [], []⟩
def Mail.av (m : Mail) : AV := .node [.v (.int .i64 m.kind), m.plan.av, m.vote.av, m.req.av, m.rep.avS, .v (.int .i64 m.height), m.blk.avS, m.cert.av, .sl 103 (Lnks m.links), .sl 36 (Pcs m.pieces)]
@[simp] theorem Mail.av_closed (q : Mail) : closed (Mail.av q) = true := by simp [Mail.av]
@[simp] theorem Mail.av_solid (q : Mail) : (Mail.av q).solid = true := by simp [Mail.av]
@[simp] theorem Mail.av_agg (q : Mail) : (Mail.av q).isAgg = true := by simp [Mail.av]
@[simp] theorem Mail.av_size (q : Mail) : (Mail.av q).size = 300 := by simp [Mail.av]
@[simp] theorem Mail.av_sub (q : Mail) : sub true 300 (Mail.av q) 0 = some (Mail.av q) := by simp [Mail.av]
@[simp] theorem Mail.av_good {M : List (Nat × Loc)} (q : Mail) : goodA false M (Mail.av q) = true := goodA_closed (Mail.av_closed q)
@[simp] theorem Mail.av_pairs (q : Mail) : pairsA (Mail.av q) (Mail.av q) = [] := pairsA_closed (Mail.av_closed q)
@[simp] theorem Mail.av_ren {L : Names} {nb gn : Nat} (q : Mail) : renA L nb gn (Mail.av q) = Mail.av q := renA_closed (Mail.av_closed q)
@[simp] theorem Mail.av_fit {m : Nat → Option Loc} {L : Names} (q : Mail) : Fit m L (Mail.av q) (Mail.av q) = True := Fit_closed (Mail.av_closed q)
@[simp] theorem Mail.av_fitR {m : Nat → Option Loc} {L : Names} (q : Mail) : FitR m L (Mail.av q) (Mail.av q) = True := FitR_closed (Mail.av_closed q)
@[simp] theorem Mail.av_touch {m : Nat → Option Loc} (q : Mail) : touch m (Mail.av q) (Mail.av q) = [] := touch_closed (Mail.av_closed q)
@[simp] theorem Mail.av_touchR {m : Nat → Option Loc} (q : Mail) : touchR m (Mail.av q) (Mail.av q) = [] := touchR_closed (Mail.av_closed q)
@[simp] theorem Mail.av_stamped {U : Nat → Prop} (q : Mail) : Stamped U (Mail.av q) = True := Stamped_closed (Mail.av_closed q)
@[simp] theorem Mail.av_tup (q : Mail) : (Mail.av q).isTup = false := isTup_closed (Mail.av_closed q)
@[simp] theorem Mail.av_ref (q : Mail) : refOf (Mail.av q) = none := refOf_closed (Mail.av_closed q)
@[simp] theorem Mail.av_put (q : Mail) (x : AV) : putAt true 300 x (Mail.av q) 0 = some x := by simp [Mail.av]

def linksF : Fmt (List Lnk) := cntF 0 1024 (fun _ => linkF)
theorem linksF_law : linksF.Law := cntF_law (by omega) (fun _ => linkF_law)
def piecesF : Fmt (List Piece) := cntF 0 1024 (fun _ => pieceF)
theorem piecesF_law : piecesF.Law := cntF_law (by omega) (fun _ => pieceF_law)
theorem linksF_wr (l : List Lnk) : linksF.wr l = be8 (l.length : Int) ++ l.flatMap linkF.wr := by
  show be8 (l.length : Int) ++ repW (fun _ => linkF) [] l = _
  rw [repW_const]
theorem piecesF_wr (l : List Piece) : piecesF.wr l = be8 (l.length : Int) ++ l.flatMap Piece.bytes := by
  show be8 (l.length : Int) ++ repW (fun _ => pieceF) [] l = _
  rw [repW_const]
  have : pieceF.wr = Piece.bytes := funext pieceF_wr
  rw [this]
def bodyRd' (k : Int) (r : Rd) : Rd :=
  if k = 1 then planF.rd' r else if k = 2 then voteF.rd' r else if k = 3 then r.req' else if k = 4 then (r.inn' 0 1024).rep' else if k = 5 then certF.rd' r.blk' else if k = 6 then r.inn' 1 1025 else if k = 8 then linksF.rd' r else if k = 9 then piecesF.rd' (certF.rd' r.blk') else r
def bodyRd (k : Int) (r : Rd) : Mail :=
  if k = 1 then { Mail.zero with kind := k, plan := planF.rd r } else if k = 2 then { Mail.zero with kind := k, vote := voteF.rd r } else if k = 3 then { Mail.zero with kind := k, req := r.req }
  else if k = 4 then { Mail.zero with kind := k, height := r.inn 0 1024, rep := (r.inn' 0 1024).rep } else if k = 5 then { Mail.zero with kind := k, blk := r.blk, cert := certF.rd r.blk' }
  else if k = 6 then { Mail.zero with kind := k, height := r.inn 1 1025 } else if k = 8 then { Mail.zero with kind := k, links := linksF.rd r }
  else if k = 9 then { Mail.zero with kind := k, blk := r.blk, cert := certF.rd r.blk', pieces := piecesF.rd (certF.rd' r.blk') } else { Mail.zero with kind := k }
def Rd.mail' (r : Rd) : Rd := bodyRd' (r.inn 1 9) (r.inn' 1 9)
def Rd.mail (r : Rd) : Mail := bodyRd (r.inn 1 9) (r.inn' 1 9)
/-- The mail of bytes, and a number: 0, 3 (too long), 4 (another form). -/
def decM (b : Bytes) : Mail := if 262144 < b.length then Mail.zero else if (Rd.of b).mail'.done = true then (Rd.of b).mail else Mail.zero
def decE (b : Bytes) : Int := if 262144 < b.length then 3 else if (Rd.of b).mail'.done = true then 0 else 4
def Mail.body (m : Mail) : Bytes :=
  if m.kind = 1 then planF.wr m.plan else if m.kind = 2 then voteF.wr m.vote else if m.kind = 3 then m.req.bytes else if m.kind = 4 then be8 m.height ++ m.rep.bytes else if m.kind = 5 then m.blk.bytes ++ m.cert.bytes
  else if m.kind = 6 then be8 m.height else if m.kind = 8 then linksF.wr m.links else if m.kind = 9 then m.blk.bytes ++ m.cert.bytes ++ piecesF.wr m.pieces else []
/-- Whether it can be written. -/
def Mail.ok (m : Mail) : Bool :=
  if m.kind = 1 then m.plan.sig.ok else if m.kind = 2 then m.vote.sig.ok else if m.kind = 5 then m.cert.ok else if m.kind = 8 then m.links.all (fun l => l.cert.ok) else if m.kind = 9 then m.cert.ok else true
def Mail.bytes (m : Mail) : Bytes := be8 m.kind ++ m.body
/-- A mail's bytes, and a number: 0, 1 (it can't be), 3 (too long). -/
def encE (m : Mail) : Int := if m.ok = false then 1 else if 262144 < m.bytes.length then 3 else if decE m.bytes = 0 then 0 else 1
def encB (m : Mail) : Bytes := if encE m = 0 then m.bytes else []

theorem Sig.ok_of_fits {s : Sig} (h : s.Fits) : s.ok = true := by
  obtain ⟨_, h1, h2, h3⟩ := h
  simp [Sig.ok, h1, h2, h3]
theorem voteF_ok {v : Vote} (h : voteF.good v) : v.sig.ok = true := Sig.ok_of_fits h.2.2.2.2.2.2
theorem planF_ok {p : Plan} (h : planF.good p) : p.sig.ok = true := Sig.ok_of_fits h.2.2.2.2.2.2
theorem certF_ok {c : Cert} (h : certF.good c) : c.ok = true := by
  have h1 : repG (fun _ => voteF) [] c.votes := h.2.2.2
  rw [repG_const] at h1
  rw [Cert.ok, List.all_eq_true]
  exact fun v hv => voteF_ok (h1 v hv)
theorem linkF_ok {l : Lnk} (h : linkF.good l) : l.cert.ok = true := certF_ok h.2.1
theorem linksF_ok {ls : List Lnk} (h : linksF.good ls) : (ls.all fun l => l.cert.ok) = true := by
  have h1 : repG (fun _ => linkF) [] ls := h.2.2
  rw [repG_const] at h1
  rw [List.all_eq_true]
  exact fun l hl => linkF_ok (h1 l hl)
theorem body_one (k : Int) (r : Rd) (h : (bodyRd' k r).bad = false) : r.bad = false ∧ r.s = (bodyRd k r).body ++ (bodyRd' k r).s ∧ (bodyRd k r).ok = true ∧ (bodyRd k r).kind = k := by
  unfold bodyRd' at h ⊢
  unfold bodyRd
  by_cases k1 : k = 1
  · simp only [k1, if_true] at h ⊢
    obtain ⟨h1, _, h3, h4⟩ := planF_law.one r h
    exact ⟨h1, by simpa [Mail.body, Mail.zero] using h3, by simpa [Mail.ok, Mail.zero] using planF_ok h4, trivial⟩
  simp only [k1, if_false] at h ⊢
  by_cases k2 : k = 2
  · simp only [k2, if_true] at h ⊢
    obtain ⟨h1, _, h3, h4⟩ := voteF_law.one r h
    exact ⟨h1, by simpa [Mail.body, Mail.zero] using h3, by simpa [Mail.ok, Mail.zero] using voteF_ok h4, trivial⟩
  simp only [k2, if_false] at h ⊢
  by_cases k3 : k = 3
  · simp only [k3, if_true] at h ⊢
    obtain ⟨h1, _, h3, h4⟩ := reqF_law.one r h
    change r.s = r.req.bytes ++ (r.req').s at h3
    exact ⟨h1, by simpa [Mail.body, Mail.zero] using h3, by simp [Mail.ok, Mail.zero], trivial⟩
  simp only [k3, if_false] at h ⊢
  by_cases k4 : k = 4
  · simp only [k4, if_true] at h ⊢
    obtain ⟨h1, _, h3, h4⟩ := replyF_law.one _ h
    obtain ⟨g1, _, g3, g4⟩ := (inF_law 0 1024).one r h1
    refine ⟨g1, ?_, by simp [Mail.ok, Mail.zero], trivial⟩
    change (r.inn' 0 1024).s = (r.inn' 0 1024).rep.bytes ++ ((r.inn' 0 1024).rep').s at h3
    change r.s = be8 (r.inn 0 1024) ++ (r.inn' 0 1024).s at g3
    rw [g3, h3]
    simp [Mail.body, Mail.zero]
  simp only [k4, if_false] at h ⊢
  by_cases k5 : k = 5
  · simp only [k5, if_true] at h ⊢
    obtain ⟨h1, _, h3, h4⟩ := certF_law.one _ h
    obtain ⟨g1, _, g3, g4⟩ := blkF_law.one r h1
    refine ⟨g1, ?_, by simpa [Mail.ok, Mail.zero] using certF_ok h4, trivial⟩
    change r.s = r.blk.bytes ++ (r.blk').s at g3
    rw [g3, h3, certF_wr]
    simp [Mail.body, Mail.zero]
  simp only [k5, if_false] at h ⊢
  by_cases k6 : k = 6
  · simp only [k6, if_true] at h ⊢
    obtain ⟨g1, _, g3, g4⟩ := (inF_law 1 1025).one r h
    refine ⟨g1, ?_, by simp [Mail.ok, Mail.zero], trivial⟩
    change r.s = be8 (r.inn 1 1025) ++ (r.inn' 1 1025).s at g3
    simpa [Mail.body, Mail.zero] using g3
  simp only [k6, if_false] at h ⊢
  by_cases k8 : k = 8
  · simp only [k8, if_true] at h ⊢
    obtain ⟨h1, _, h3, h4⟩ := linksF_law.one r h
    exact ⟨h1, by simpa [Mail.body, Mail.zero] using h3, by simpa [Mail.ok, Mail.zero] using linksF_ok h4, trivial⟩
  simp only [k8, if_false] at h ⊢
  by_cases k9 : k = 9
  · simp only [k9, if_true] at h ⊢
    obtain ⟨f1, _, f3, f4⟩ := piecesF_law.one _ h
    obtain ⟨h1, _, h3, h4⟩ := certF_law.one _ f1
    obtain ⟨g1, _, g3, g4⟩ := blkF_law.one r h1
    refine ⟨g1, ?_, by simpa [Mail.ok, Mail.zero] using certF_ok h4, trivial⟩
    change r.s = r.blk.bytes ++ (r.blk').s at g3
    rw [g3, h3, f3, certF_wr]
    simp [Mail.body, Mail.zero]
  simp only [k9, if_false] at h ⊢
  exact ⟨h, by simp [Mail.body, k1, k2, k3, k4, k5, k6, k8, k9], by simp [Mail.ok, k1, k2, k5, k8, k9], trivial⟩
/-- What is decoded has these bytes. -/
theorem mail_one (b : Bytes) (h : decE b = 0) : (decM b).bytes = b ∧ (decM b).ok = true ∧ W64 (decM b).kind := by
  unfold decE at h
  split at h
  · cases h
  rename_i hl
  split at h
  case isFalse => cases h
  rename_i hd
  have e : decM b = (Rd.of b).mail := by unfold decM; rw [if_neg hl, if_pos hd]
  rw [e]
  simp only [Rd.done, Bool.and_eq_true, Bool.not_eq_true', decide_eq_true_eq] at hd
  obtain ⟨h1, h2, h3, h4⟩ := body_one _ _ hd.1
  obtain ⟨g1, _, g3, g4⟩ := (inF_law 1 9).one (Rd.of b) h1
  have hk : (Rd.of b).mail.kind = (Rd.of b).inn 1 9 := h4
  refine ⟨?_, h3, by rw [hk]; exact g4.1⟩
  have hs : (bodyRd' ((Rd.of b).inn 1 9) ((Rd.of b).inn' 1 9)).s = [] := hd.2
  rw [hs, List.append_nil] at h2
  change b = be8 ((Rd.of b).inn 1 9) ++ ((Rd.of b).inn' 1 9).s at g3
  unfold Mail.bytes
  rw [hk]
  rw [h2] at g3
  exact g3.symm
theorem encE_zero {m : Mail} (h : encE m = 0) : m.ok = true ∧ m.bytes.length ≤ 262144 ∧ decE m.bytes = 0 := by
  unfold encE at h
  split at h
  · cases h
  rename_i h1
  split at h
  · cases h
  rename_i h2
  split at h
  · rename_i h3
    exact ⟨by simpa using h1, by omega, h3⟩
  · cases h
theorem encE_of {m : Mail} (h1 : m.ok = true) (h3 : decE m.bytes = 0) : encE m = 0 := by
  have h2 : ¬ 262144 < m.bytes.length := by
    intro h
    unfold decE at h3
    rw [if_pos h] at h3
    cases h3
  unfold encE
  rw [if_neg (by simp [h1]), if_neg h2, if_pos h3]
/-- What is encoded is decoded to what has the same bytes. -/
theorem mail_back (m : Mail) (hk : W64 m.kind) (h : encE m = 0) : decE (encB m) = 0 ∧ encE (decM (encB m)) = 0 ∧ encB (decM (encB m)) = encB m ∧ (decM (encB m)).kind = m.kind := by
  obtain ⟨h1, h2, h3⟩ := encE_zero h
  have e : encB m = m.bytes := by unfold encB; rw [if_pos h]
  rw [e]
  obtain ⟨g1, g2, g3⟩ := mail_one m.bytes h3
  have g4 : encE (decM m.bytes) = 0 := encE_of g2 (by rw [g1]; exact h3)
  refine ⟨h3, g4, ?_, ?_⟩
  · unfold encB; rw [if_pos g4]; exact g1
  · have : be8 (decM m.bytes).kind ++ (decM m.bytes).body = be8 m.kind ++ m.body := g1
    exact (be8_app g3 hk this).1
theorem mail_again (b : Bytes) (h : decE b = 0) : encE (decM b) = 0 ∧ encB (decM b) = b := by
  obtain ⟨g1, g2, _⟩ := mail_one b h
  have g4 : encE (decM b) = 0 := encE_of g2 (by rw [g1]; exact h)
  refine ⟨g4, ?_⟩
  unfold encB; rw [if_pos g4]; exact g1
theorem decM_bad (b : Bytes) (h : decE b ≠ 0) : decM b = Mail.zero := by
  unfold decE at h
  unfold decM
  split
  · rfl
  · rename_i h1
    rw [if_neg h1] at h
    split
    · rename_i h2; rw [if_pos h2] at h; exact absurd rfl h
    · rfl
/-- Only the parts of its kind count. -/
theorem enc_parts (m x : Mail) (h0 : x.kind = m.kind) (h1 : x.plan = m.plan) (h2 : x.vote = m.vote) (h3 : m.kind = 3 → x.req = m.req) (h4 : x.rep = m.rep) (h5 : m.kind = 4 ∨ m.kind = 6 → x.height = m.height) (h6 : x.blk = m.blk) (h7 : x.cert = m.cert)
    (h8 : m.kind = 8 → x.links = m.links) (h9 : m.kind = 9 → x.pieces = m.pieces) : encE x = encE m ∧ encB x = encB m := by
  have hb : x.body = m.body := by
    unfold Mail.body
    rw [h0, h1, h2, h4, h6, h7]
    by_cases k3 : m.kind = 3
    · rw [k3, h3 k3]; rfl
    by_cases k4 : m.kind = 4
    · rw [k4, h5 (.inl k4)]; rfl
    by_cases k6 : m.kind = 6
    · rw [k6, h5 (.inr k6)]; rfl
    by_cases k8 : m.kind = 8
    · rw [k8, h8 k8]; rfl
    by_cases k9 : m.kind = 9
    · rw [k9, h9 k9]; rfl
    simp only [k3, k4, k6, k8, k9, if_false]
  have ho : x.ok = m.ok := by
    unfold Mail.ok
    rw [h0, h1, h2, h7]
    by_cases k8 : m.kind = 8
    · rw [k8, h8 k8]
    simp only [k8, if_false]
  have hy : x.bytes = m.bytes := by unfold Mail.bytes; rw [h0, hb]
  have he : encE x = encE m := by unfold encE; rw [ho, hy]
  exact ⟨he, by unfold encB; rw [he, hy]⟩
/-- Bytes that are all alike are no mail's. -/
theorem same_bytes (c : UInt8) (n : Nat) (h : 8 ≤ n) : decE (List.replicate n c) ≠ 0 := by
  intro hd
  obtain ⟨g1, _, _⟩ := mail_one _ hd
  unfold decE at hd
  split at hd
  · cases hd
  split at hd
  case isFalse => cases hd
  rename_i hd2
  simp only [Rd.done, Bool.and_eq_true, Bool.not_eq_true', decide_eq_true_eq] at hd2
  obtain ⟨h1, _, _, _⟩ := body_one _ _ hd2.1
  obtain ⟨_, _, g3, g4⟩ := (inF_law 1 9).one (Rd.of (List.replicate n c)) h1
  change List.replicate n c = be8 ((Rd.of (List.replicate n c)).inn 1 9) ++ _ at g3
  obtain ⟨_, g5, g6⟩ := g4
  change 1 ≤ (Rd.of (List.replicate n c)).inn 1 9 at g5
  change (Rd.of (List.replicate n c)).inn 1 9 ≤ 9 at g6
  generalize (Rd.of (List.replicate n c)).inn 1 9 = k at *
  have t := congrArg (List.take 8) g3
  rw [List.take_replicate, Nat.min_eq_left h, List.take_append_of_le_length (by simp), List.take_of_length_le (by simp)] at t
  have a0 := congrArg (fun l => l[0]?) t
  have a7 := congrArg (fun l => l[7]?) t
  simp only [be8, List.getElem?_replicate] at a0 a7
  simp at a0 a7
  rw [a0] at a7
  have e0 : ((u8 (k / 72057594037927936)).toNat : Int) = ((u8 k).toNat : Int) := by rw [a7]
  rw [u8_toNat, u8_toNat] at e0
  have hk0 : k / 72057594037927936 = 0 := by omega
  rw [hk0] at e0
  omega
end Go.Proofs.Ytglkfbhjimnboaa.WL

end
section
/-
  CHAPTER 02: how the digest is reckoned piece by piece.
-/
namespace Go.Proofs.Ytglkfbhjimnboaa.WL
open Go
attribute [local irreducible] comp

/-- The bytes that wait for their block's end. -/
def rem (d : Bytes) : Bytes := d.drop (64 * (d.length / 64))
theorem rem_length (d : Bytes) : (rem d).length = d.length % 64 := by
  simp only [rem, List.length_drop]
  omega
theorem hb_succ (n : Nat) (b : Bytes) : hb (n + 1) b = comp (hb n b) ((b.drop (64 * n)).take 64) := rfl
/-- More bytes, not up to a block's end. -/
theorem hb_more (d x : Bytes) (h : (rem d).length + x.length < 64) : (d ++ x).length / 64 = d.length / 64 ∧ rem (d ++ x) = rem d ++ x ∧ hb ((d ++ x).length / 64) (d ++ x) = hb (d.length / 64) d := by
  rw [rem_length] at h
  have h1 : (d ++ x).length / 64 = d.length / 64 := by rw [List.length_append]; omega
  refine ⟨h1, ?_, ?_⟩
  · rw [rem, h1, List.drop_append_of_le_length (by omega)]
    rfl
  · rw [h1]
    exact hb_append _ _ _ (by omega)
/-- Just to a block's end. -/
theorem hb_full (d x : Bytes) (h : (rem d).length + x.length = 64) : (d ++ x).length / 64 = d.length / 64 + 1 ∧ rem (d ++ x) = [] ∧ hb ((d ++ x).length / 64) (d ++ x) = comp (hb (d.length / 64) d) (rem d ++ x) := by
  have h0 := h
  rw [rem_length] at h
  have hx : 0 < x.length := by omega
  have h1 : (d ++ x).length / 64 = d.length / 64 + 1 := by rw [List.length_append]; omega
  refine ⟨h1, ?_, ?_⟩
  · rw [rem, h1, List.drop_of_length_le (by rw [List.length_append]; omega)]
  · rw [h1, hb_succ, hb_append _ _ _ (by omega), List.drop_append_of_le_length (by omega)]
    congr 1
    show (rem d ++ x).take 64 = _
    exact List.take_of_length_le (by rw [List.length_append]; omega)
theorem fill_small (n : Nat) (h : n % 64 < 56) : fillN n = 55 - n % 64 := by unfold fillN; omega
theorem fill_great (n : Nat) (h : 56 ≤ n % 64) : fillN n = 119 - n % 64 := by unfold fillN; omega
/-- The end, in one block. -/
theorem sha_small (d : Bytes) (h : d.length % 64 < 56) : (sha d).bs = (comp (hb (d.length / 64) d) (rem d ++ 128 :: (zeros (55 - d.length % 64) ++ be8 (8 * d.length : Nat)))).bytes := by
  show (hb ((pad d).length / 64) (pad d)).bytes = _
  have hl := rem_length d
  have e : pad d = d ++ (128 :: (zeros (55 - d.length % 64) ++ be8 (8 * d.length : Nat))) := by rw [pad, fill_small _ h]
  obtain ⟨_, _, h3⟩ := hb_full d (128 :: (zeros (55 - d.length % 64) ++ be8 (8 * d.length : Nat))) (by simp only [List.length_cons, List.length_append, zeros_length, be8_length]; omega)
  rw [e, h3]
/-- The end, in two blocks. -/
theorem sha_great (d : Bytes) (h : 56 ≤ d.length % 64) : (sha d).bs = (comp (comp (hb (d.length / 64) d) (rem d ++ 128 :: zeros (63 - d.length % 64))) (zeros 56 ++ be8 (8 * d.length : Nat))).bytes := by
  show (hb ((pad d).length / 64) (pad d)).bytes = _
  have hl := rem_length d
  have hlt : d.length % 64 < 64 := Nat.mod_lt _ (by decide)
  have e : pad d = (d ++ 128 :: zeros (63 - d.length % 64)) ++ (zeros 56 ++ be8 (8 * d.length : Nat)) := by
    rw [pad, fill_great _ h, show 119 - d.length % 64 = (63 - d.length % 64) + 56 by omega]
    simp only [zeros, ← List.replicate_append_replicate, List.append_assoc, List.cons_append]
  obtain ⟨h1, h2, h3⟩ := hb_full d (128 :: zeros (63 - d.length % 64)) (by simp only [List.length_cons, zeros_length]; omega)
  obtain ⟨_, _, k3⟩ := hb_full (d ++ 128 :: zeros (63 - d.length % 64)) (zeros 56 ++ be8 (8 * d.length : Nat)) (by rw [h2]; simp)
  rw [e, k3, h2, h3, List.nil_append]
end Go.Proofs.Ytglkfbhjimnboaa.WL

end
section
/-
  CHAPTER 03: laws of trees, without any program.
-/
namespace Go.Proofs.Ytglkfbhjimnboaa.WL
open Go
attribute [local irreducible] sha leafD pairD

/-- How many digests a path is of. -/
def plen (at_ count : Nat) : Nat :=
  if h : 1 < count then (if count ≤ sib at_ then 0 else 1) + plen (at_ / 2) ((count + 1) / 2) else 0
termination_by count
theorem plen_up (at_ count : Nat) (h : 1 < count) : plen at_ count = (if count ≤ sib at_ then 0 else 1) + plen (at_ / 2) ((count + 1) / 2) := by rw [plen.eq_def, dif_pos h]
theorem plen_end (at_ count : Nat) (h : count ≤ 1) : plen at_ count = 0 := by rw [plen.eq_def, dif_neg (by omega)]
theorem pathD_plen (l : List Dg) (at_ : Nat) : (pathD l at_).length = plen at_ l.length := by
  by_cases h : 1 < l.length
  · rw [pathD_up l at_ h, plen_up at_ l.length h, List.length_append, pathD_plen (upD l) (at_ / 2), upD_length]
    congr 1
    split
    · rw [List.getElem?_eq_none (by omega)]; rfl
    · rw [List.getElem?_eq_getElem (by omega)]; rfl
  · rw [pathD_end l at_ (by omega), plen_end at_ l.length (by omega)]
    rfl
termination_by l.length
decreasing_by
  rw [upD_length]
  omega
theorem checkD_len : ∀ (n : Nat) (root leaf : Dg) (at_ count : Nat) (p : List Dg), count ≤ n → checkD root leaf at_ count p = true → p.length = plen at_ count
  | n, root, leaf, at_, count, p, hn, h => by
    by_cases h1 : 1 < count
    · cases n with
      | zero => omega
      | succ n =>
        rw [plen_up at_ count h1]
        by_cases hs : count ≤ sib at_
        · rw [checkD_up _ _ _ _ _ h1 hs] at h
          rw [if_pos hs, checkD_len n _ _ _ _ _ (by omega) h, Nat.zero_add]
        · rw [if_neg hs]
          cases p with
          | nil => rw [checkD_none _ _ _ _ h1 hs] at h; cases h
          | cons q ps =>
            rw [checkD_pair _ _ _ _ _ _ h1 hs] at h
            rw [List.length_cons, checkD_len n _ _ _ _ _ (by omega) h, Nat.add_comm]
    · rw [checkD_end _ _ _ _ _ (by omega), Bool.and_eq_true, decide_eq_true_eq] at h
      rw [plen_end at_ count (by omega), h.1]
      rfl
theorem checkD_root : ∀ (n : Nat) (r1 r2 leaf : Dg) (at_ count : Nat) (p : List Dg), count ≤ n → checkD r1 leaf at_ count p = true → checkD r2 leaf at_ count p = true → r1 = r2
  | n, r1, r2, leaf, at_, count, p, hn, h, k => by
    by_cases h1 : 1 < count
    · cases n with
      | zero => omega
      | succ n =>
        by_cases hs : count ≤ sib at_
        · rw [checkD_up _ _ _ _ _ h1 hs] at h k
          exact checkD_root n _ _ _ _ _ _ (by omega) h k
        · cases p with
          | nil => rw [checkD_none _ _ _ _ h1 hs] at h; cases h
          | cons q ps =>
            rw [checkD_pair _ _ _ _ _ _ h1 hs] at h k
            exact checkD_root n _ _ _ _ _ _ (by omega) h k
    · rw [checkD_end _ _ _ _ _ (by omega), Bool.and_eq_true, decide_eq_true_eq, decide_eq_true_eq] at h k
      rw [← h.2, k.2]
theorem upD_at (l : List Dg) (at_ : Nat) (h : at_ < l.length) (h2 : at_ / 2 < (upD l).length) :
    (upD l)[at_ / 2] = if l.length ≤ sib at_ then l[at_] else if at_ % 2 = 1 then pairD (l[sib at_]?.getD l[at_]) l[at_] else pairD l[at_] (l[sib at_]?.getD l[at_]) := by
  rcases Nat.mod_two_eq_zero_or_one at_ with hp | hp
  · have hs : sib at_ = at_ + 1 := by unfold sib; rw [if_neg (by omega)]
    rw [hs]
    by_cases hl : l.length ≤ at_ + 1
    · rw [if_pos hl]
      have h3 := upD_last l (at_ / 2) (by omega)
      rw [List.getElem?_eq_getElem h2] at h3
      have h4 : l[2 * (at_ / 2)]'(by omega) = l[at_] := by congr 1; omega
      rw [Option.some.inj h3, h4]
    · rw [if_neg hl, if_neg (by omega)]
      have h3 := upD_get l (at_ / 2) (by omega)
      rw [List.getElem?_eq_getElem h2] at h3
      have h4 : l[2 * (at_ / 2)]'(by omega) = l[at_] := by congr 1; omega
      have h5 : l[2 * (at_ / 2) + 1]'(by omega) = l[at_ + 1]'(by omega) := by congr 1; omega
      rw [Option.some.inj h3, h4, h5, List.getElem?_eq_getElem (by omega)]
      rfl
  · have hs : sib at_ = at_ - 1 := by unfold sib; rw [if_pos hp]
    rw [hs, if_neg (by omega), if_pos hp]
    have h3 := upD_get l (at_ / 2) (by omega)
    rw [List.getElem?_eq_getElem h2] at h3
    have h4 : l[2 * (at_ / 2)]'(by omega) = l[at_ - 1]'(by omega) := by congr 1; omega
    have h5 : l[2 * (at_ / 2) + 1]'(by omega) = l[at_] := by congr 1; omega
    rw [Option.some.inj h3, h4, h5, List.getElem?_eq_getElem (by omega)]
    rfl
/-- Each leaf's path leads to the root. -/
theorem checkD_path : ∀ (n : Nat) (l : List Dg) (at_ : Nat) (h : at_ < l.length), l.length ≤ n → checkD (rootD l) l[at_] at_ l.length (pathD l at_) = true
  | n, l, at_, h, hn => by
    by_cases h1 : 1 < l.length
    · cases n with
      | zero => omega
      | succ n =>
        have hul := upD_length l
        have h2 : at_ / 2 < (upD l).length := by omega
        have ih := checkD_path n (upD l) (at_ / 2) h2 (by omega)
        rw [← rootD_up l h1, upD_at l at_ h h2, hul] at ih
        rw [pathD_up l at_ h1]
        by_cases hs : l.length ≤ sib at_
        · rw [if_pos hs] at ih
          rw [checkD_up _ _ _ _ _ h1 hs, List.getElem?_eq_none (by omega)]
          exact ih
        · rw [if_neg hs] at ih
          have hg : l[sib at_]? = some (l[sib at_]'(by omega)) := List.getElem?_eq_getElem (by omega)
          rw [hg] at ih ⊢
          show checkD _ _ _ _ (_ :: _) = true
          rw [checkD_pair _ _ _ _ _ _ h1 hs]
          exact ih
    · have : at_ = 0 := by omega
      subst this
      obtain ⟨a, rfl⟩ : ∃ a, l = [a] := List.length_eq_one_iff.1 (by omega)
      rw [checkD_end _ _ _ _ _ (by simp), pathD_end _ _ (by simp), rootD_one]
      simp
theorem upD_append : ∀ (n : Nat) (a b : List Dg), a.length = 2 * n → upD (a ++ b) = upD a ++ upD b
  | 0, a, b, h => by
    have : a = [] := List.eq_nil_of_length_eq_zero (by omega)
    subst this
    rfl
  | n + 1, a, b, h => by
    match a, h with
    | x :: y :: r, h =>
      have ih := upD_append n r b (by simp only [List.length_cons] at h; omega)
      simp only [List.cons_append, upD, ih]
    | [x], h => simp at h; omega
    | [], h => simp at h
/-- Halves. -/
theorem rootD_halves : ∀ (k : Nat) (a b : List Dg), a.length = 2 ^ k → b.length = 2 ^ k → rootD (a ++ b) = pairD (rootD a) (rootD b)
  | 0, a, b, ha, hb => by
    obtain ⟨x, rfl⟩ : ∃ x, a = [x] := List.length_eq_one_iff.1 (by simpa using ha)
    obtain ⟨y, rfl⟩ : ∃ y, b = [y] := List.length_eq_one_iff.1 (by simpa using hb)
    rw [rootD_up _ (by simp)]
    simp only [List.cons_append, List.nil_append, upD, rootD_one]
  | k + 1, a, b, ha, hb => by
    have hp : 0 < 2 ^ k := Nat.two_pow_pos k
    rw [Nat.pow_succ] at ha hb
    have ih := rootD_halves k (upD a) (upD b) (by rw [upD_length]; omega) (by rw [upD_length]; omega)
    rw [rootD_up (a ++ b) (by rw [List.length_append]; omega), upD_append (2 ^ k) a b (by omega), ih, rootD_up a (by omega), rootD_up b (by omega)]
theorem pow_even (k : Nat) (h : 0 < k) : 2 ^ k % 2 = 0 := by
  obtain ⟨j, rfl⟩ : ∃ j, k = j + 1 := ⟨k - 1, by omega⟩
  rw [Nat.pow_succ]
  omega
/-- A path's length. -/
theorem pathD_pow (l : List Dg) (at_ : Nat) (h : 0 < l.length) : 2 ^ (pathD l at_).length < 2 * l.length := by
  by_cases h1 : 1 < l.length
  · have hul := upD_length l
    have ih := pathD_pow (upD l) (at_ / 2) (by omega)
    rw [pathD_up l at_ h1, List.length_append]
    have h2 : (l[sib at_]?).toList.length ≤ 1 := by cases l[sib at_]? <;> simp
    have h3 : 2 ^ ((l[sib at_]?).toList.length + (pathD (upD l) (at_ / 2)).length) ≤ 2 ^ (1 + (pathD (upD l) (at_ / 2)).length) := Nat.pow_le_pow_right (by omega) (by omega)
    rw [Nat.pow_add 2 1] at h3
    rw [hul] at ih
    have h4 : 0 < (pathD (upD l) (at_ / 2)).length → 2 ^ (pathD (upD l) (at_ / 2)).length % 2 = 0 := pow_even _
    have h5 : (pathD (upD l) (at_ / 2)).length = 0 → 2 ^ (pathD (upD l) (at_ / 2)).length = 1 := fun e => by rw [e]
    omega
  · rw [pathD_end l at_ (by omega)]
    simp
    omega
termination_by l.length
decreasing_by
  rw [upD_length]
  omega
end Go.Proofs.Ytglkfbhjimnboaa.WL

end
section
/-
  CHAPTER 05: laws of keys, without any program.
-/
namespace Go.Proofs.Ytglkfbhjimnboaa.WL
open Go
attribute [local irreducible] sha leafD pairD secD shutD wholeD pubD ofD

def signK (seed : Dg) (ls : List Dg) (n : Nat) (d : Dg) (N : Nat) : Sig := ⟨(n : Int), openL seed (n : Int) d N, shutL seed (n : Int) d N, pathD ls n⟩
/-- A tree's signature is right under its key. -/
theorem sign_checks (seed : Dg) (h n : Nat) (d : Dg) (hh : h ≤ 6) (hn : n < 2 ^ h) : checkK (rootD (leavesD seed 32 (2 ^ h))) (h : Int) d (signK seed (leavesD seed 32 (2 ^ h)) n d 32) = true := by
  have hl := leavesD_length seed 32 (2 ^ h)
  have hg := leavesD_get seed 32 (2 ^ h) n hn
  unfold checkK signK
  rw [ofD_fits, Int.toNat_natCast, Int.toNat_natCast]
  generalize 2 ^ h = q at *
  generalize leavesD seed 32 q = l at *
  have hnl : n < l.length := by omega
  have hp := checkD_path l.length l n hnl (Nat.le_refl _)
  rw [List.getElem?_eq_getElem hnl] at hg
  rw [Option.some.inj hg, hl] at hp
  have h6 : (h : Int) ≤ 6 := by omega
  have hnq : (n : Int) < (q : Int) := by omega
  simp [hp, h6, hnq, hh, hn]
theorem rd_ds (pre y : Bytes) (l : List Dg) : ∀ n, n ≤ l.length → (⟨pre, flatD l ++ y, false⟩ : Rd).ds n = l.take n ∧ (⟨pre, flatD l ++ y, false⟩ : Rd).ds' n = ⟨pre ++ flatD (l.take n), flatD (l.drop n) ++ y, false⟩
  | 0, _ => by simp [Rd.ds, Rd.ds', flatD]
  | n + 1, h => by
    obtain ⟨h1, h2⟩ := rd_ds pre y l n (by omega)
    simp only [Rd.ds, Rd.ds', h1, h2]
    have e : flatD (l.drop n) = l[n].bs ++ flatD (l.drop (n + 1)) := by
      rw [List.drop_eq_getElem_cons (show n < l.length by omega)]
      rfl
    rw [e, List.append_assoc]
    have := rd_dg (pre ++ flatD (l.take n)) (flatD (l.drop (n + 1)) ++ y) l[n]
    rw [this.1, this.2, flatD_snoc l n (show n < l.length by omega), take_snoc _ _ (show n < l.length by omega), List.append_assoc]
    exact ⟨rfl, rfl⟩
theorem rd_sig (pre y : Bytes) (s : Sig) (hl : W64 s.leaf) (h : s.ok = true) : (⟨pre, s.bytes ++ y, false⟩ : Rd).sig = s ∧ (⟨pre, s.bytes ++ y, false⟩ : Rd).sig' = ⟨pre ++ s.bytes, y, false⟩ := by
  simp only [Sig.ok, decide_eq_true_eq] at h
  obtain ⟨h1, h2, h3⟩ := h
  have eb : s.bytes ++ y = be8 s.leaf ++ (be8 (s.path.length : Int) ++ (flatD s.op ++ (flatD s.sh ++ (flatD s.path ++ y)))) := by simp [Sig.bytes, nums]
  have e1 := rd_num pre (be8 (s.path.length : Int) ++ (flatD s.op ++ (flatD s.sh ++ (flatD s.path ++ y)))) s.leaf hl
  have e2 := rd_in (pre ++ be8 s.leaf) (flatD s.op ++ (flatD s.sh ++ (flatD s.path ++ y))) (s.path.length : Int) 0 6 (by unfold W64; omega) (by omega)
  have e3 := rd_ds (pre ++ be8 s.leaf ++ be8 (s.path.length : Int)) (flatD s.sh ++ (flatD s.path ++ y)) s.op 32 (by omega)
  rw [List.take_of_length_le (by omega), List.drop_of_length_le (by omega)] at e3
  have e4 := rd_ds (pre ++ be8 s.leaf ++ be8 (s.path.length : Int) ++ flatD s.op) (flatD s.path ++ y) s.sh 32 (by omega)
  rw [List.take_of_length_le (by omega), List.drop_of_length_le (by omega)] at e4
  have e5 := rd_ds (pre ++ be8 s.leaf ++ be8 (s.path.length : Int) ++ flatD s.op ++ flatD s.sh) y s.path s.path.length (Nat.le_refl _)
  rw [List.take_length, List.drop_length] at e5
  have f0 : flatD [] = [] := rfl
  rw [f0, List.nil_append] at e3 e4 e5
  have es2 : (⟨pre, s.bytes ++ y, false⟩ : Rd).s2 = ⟨pre ++ be8 s.leaf ++ be8 (s.path.length : Int), flatD s.op ++ (flatD s.sh ++ (flatD s.path ++ y)), false⟩ := by
    unfold Rd.s2
    rw [eb, e1.2, e2.2]
  have esN : (⟨pre, s.bytes ++ y, false⟩ : Rd).sN = s.path.length := by
    unfold Rd.sN
    rw [eb, e1.2, e2.1]
    rfl
  have es' : (⟨pre, s.bytes ++ y, false⟩ : Rd).sig' = ⟨pre ++ s.bytes, y, false⟩ := by
    unfold Rd.sig'
    rw [es2, esN, e3.2, e4.2, e5.2]
    simp [Sig.bytes, nums]
  refine ⟨?_, es'⟩
  unfold Rd.sig
  rw [es']
  show (⟨pre, s.bytes ++ y, false⟩ : Rd).sig0 = s
  unfold Rd.sig0
  rw [es2, esN, e3.1, e3.2, e4.1, e4.2, e5.1, eb, e1.1]
theorem sig_back (s : Sig) (hl : W64 s.leaf) (h : s.ok = true) : (Rd.of s.bytes).sig = s ∧ (Rd.of s.bytes).sig'.done = true := by
  have := rd_sig [] [] s hl h
  rw [List.append_nil] at this
  exact ⟨this.1, by unfold Rd.of; rw [this.2]; rfl⟩
end Go.Proofs.Ytglkfbhjimnboaa.WL

end
section
/-
  CHAPTER 05: arguments that come in.
-/
namespace Go.Proofs.Ytglkfbhjimnboaa.WL
open Go

abbrev Ty.dgs : Ty := .sl 32 32 Ty.dg
abbrev Ty.sig : Ty := .st [.int .i64, .st [Ty.dgs, Ty.dgs], Ty.dgs]
theorem ty_sig {a : AV} (h : TyOk Ty.sig a) : ∃ s : Sig, a = s.avS ∧ W64 s.leaf := by
  obtain ⟨a1, a2, a3, rfl, h1, h2, h3⟩ := ty_st3 h
  obtain ⟨n1, rfl, w1⟩ := ty_int h1
  obtain ⟨b1, b2, rfl, g1, g2⟩ := ty_st2 h2
  obtain ⟨o, rfl, _⟩ := ty_dgs g1
  obtain ⟨s, rfl, _⟩ := ty_dgs g2
  obtain ⟨p, rfl, _⟩ := ty_dgs h3
  exact ⟨⟨n1, o, s, p⟩, rfl, w1⟩
structure KeyD where
  root : Dg
  height : Int
def KeyD.av (k : KeyD) : AV := .node [dv k.root, .v (.int .i64 k.height)]
abbrev Ty.key : Ty := .st [Ty.dg, .int .i64]
theorem ty_key {a : AV} (h : TyOk Ty.key a) : ∃ k : KeyD, a = k.av ∧ W64 k.height := by
  obtain ⟨a1, a2, rfl, h1, h2⟩ := ty_st2 h
  obtain ⟨d, rfl⟩ := ty_dg h1
  obtain ⟨n, rfl, w⟩ := ty_int h2
  exact ⟨⟨d, n⟩, rfl, w⟩
end Go.Proofs.Ytglkfbhjimnboaa.WL

end
section
/-
  CHAPTER 09: arguments that come in.
-/
namespace Go.Proofs.Ytglkfbhjimnboaa.WL
open Go

abbrev Ty.chg : Ty := .st [.int .i64, .int .i64, .int .i64, .st [Ty.dg, .int .i64]]
abbrev Ty.req : Ty := .st [.int .i64, .int .i64, .st [.int .i64, .str, .str, .str, Ty.chg]]
theorem ty_chg {a : AV} (h : TyOk Ty.chg a) : ∃ c : Chg, a = c.av ∧ W64 c.kind ∧ W64 c.id ∧ W64 c.new ∧ W64 c.height := by
  obtain ⟨a1, a2, a3, a4, rfl, h1, h2, h3, h4⟩ := ty_st4 h
  obtain ⟨n1, rfl, w1⟩ := ty_int h1
  obtain ⟨n2, rfl, w2⟩ := ty_int h2
  obtain ⟨n3, rfl, w3⟩ := ty_int h3
  obtain ⟨b1, b2, rfl, g1, g2⟩ := ty_st2 h4
  obtain ⟨d, rfl⟩ := ty_dg g1
  obtain ⟨n4, rfl, w4⟩ := ty_int g2
  exact ⟨⟨n1, n2, n3, d, n4⟩, rfl, w1, w2, w3, w4⟩
/-- What is known of a request that comes in. -/
structure Req.In (q : Req) : Prop where
  client : W64 q.client
  num : W64 q.num
  kind : W64 q.kind
  ckind : W64 q.ch.kind
  cid : W64 q.ch.id
  cnew : W64 q.ch.new
  cheight : W64 q.ch.height
  key : q.key.length ≤ reachBytes
  val : q.val.length ≤ reachBytes
  old : q.old.length ≤ reachBytes
theorem ty_req {a : AV} (h : TyOk Ty.req a) : ∃ q : Req, a = q.av ∧ q.In := by
  obtain ⟨a1, a2, a3, rfl, h1, h2, h3⟩ := ty_st3 h
  obtain ⟨n1, rfl, w1⟩ := ty_int h1
  obtain ⟨n2, rfl, w2⟩ := ty_int h2
  obtain ⟨b1, b2, b3, b4, b5, rfl, g1, g2, g3, g4, g5⟩ := ty_st5 h3
  obtain ⟨n3, rfl, w3⟩ := ty_int g1
  obtain ⟨s1, rfl, l1⟩ := ty_str g2
  obtain ⟨s2, rfl, l2⟩ := ty_str g3
  obtain ⟨s3, rfl, l3⟩ := ty_str g4
  obtain ⟨c, rfl, x1, x2, x3, x4⟩ := ty_chg g5
  exact ⟨⟨n1, n2, n3, s1, s2, s3, c⟩, rfl, w1, w2, w3, x1, x2, x3, x4, l1, l2, l3⟩
abbrev Ty.rep : Ty := .st [.int .i64, .int .i64, .int .i64, .sl 1 16 .str]
theorem ty_rep {a : AV} (h : TyOk Ty.rep a) : ∃ q : Rep, a = q.avS ∧ (W64 q.client ∧ W64 q.num ∧ W64 q.code) ∧ ∀ v ∈ q.vals, v.length ≤ reachBytes := by
  obtain ⟨a1, a2, a3, a4, rfl, h1, h2, h3, h4⟩ := ty_st4 h
  obtain ⟨n1, rfl, w1⟩ := ty_int h1
  obtain ⟨n2, rfl, w2⟩ := ty_int h2
  obtain ⟨n3, rfl, w3⟩ := ty_int h3
  obtain ⟨ss, rfl, hs⟩ := ty_strs h4
  exact ⟨⟨n1, n2, n3, ss⟩, rfl, ⟨w1, w2, w3⟩, hs.2⟩
end Go.Proofs.Ytglkfbhjimnboaa.WL

end
section
/-
  CHAPTER 12: arguments that come in.
-/
namespace Go.Proofs.Ytglkfbhjimnboaa.WL
open Go

abbrev Ty.blk : Ty := .st [.int .i64, .int .i64, Ty.dg, Ty.dg, Ty.dg, .sl 42 136 Ty.req]
theorem ty_reqs {a : AV} (h : TyOk (.sl 42 136 Ty.req) a) : ∃ qs : List Req, a = .sl 42 (Reqs qs) ∧ qs.length * 136 ≤ reachBytes ∧ ∀ q ∈ qs, q.In := by
  obtain ⟨xs, rfl, ⟨_, h1⟩, h2⟩ := h
  obtain ⟨ns, rfl, h3⟩ := map_of_all (f := Req.av) (p := fun q => q.In) fun x hx => ty_req (h2 x hx)
  exact ⟨ns, rfl, by simpa using h1, h3⟩
/-- What is known of a block that comes in. -/
structure Blk.In (b : Blk) : Prop where
  epoch : W64 b.epoch
  height : W64 b.height
  len : b.qs.length * 136 ≤ reachBytes
  qs : ∀ q ∈ b.qs, q.In
theorem ty_blk {a : AV} (h : TyOk Ty.blk a) : ∃ b : Blk, a = b.avS ∧ b.In := by
  obtain ⟨a1, a2, a3, a4, a5, a6, rfl, h1, h2, h3, h4, h5, h6⟩ := ty_st6 h
  obtain ⟨n1, rfl, w1⟩ := ty_int h1
  obtain ⟨n2, rfl, w2⟩ := ty_int h2
  obtain ⟨d1, rfl⟩ := ty_dg h3
  obtain ⟨d2, rfl⟩ := ty_dg h4
  obtain ⟨d3, rfl⟩ := ty_dg h5
  obtain ⟨qs, rfl, l, hq⟩ := ty_reqs h6
  exact ⟨⟨n1, n2, d1, d2, d3, qs⟩, rfl, w1, w2, l, hq⟩
theorem Blk.In.texts {b : Blk} (h : b.In) : ∀ q ∈ b.qs, q.key.length ≤ reachBytes ∧ q.val.length ≤ reachBytes ∧ q.old.length ≤ reachBytes :=
  fun q hq => ⟨(h.qs q hq).key, (h.qs q hq).val, (h.qs q hq).old⟩
end Go.Proofs.Ytglkfbhjimnboaa.WL

end
section
/-
  CHAPTERS 13, 08, 14, 15, 20: arguments that come in.
-/
namespace Go.Proofs.Ytglkfbhjimnboaa.WL
open Go

theorem ty_st10 {a b c d e f g h' i j : Ty} {x : AV} (h : TyOk (.st [a, b, c, d, e, f, g, h', i, j]) x) : ∃ x1 x2 x3 x4 x5 x6 x7 x8 x9 x10, x = .node [x1, x2, x3, x4, x5, x6, x7, x8, x9, x10] ∧ TyOk a x1 ∧ TyOk b x2 ∧ TyOk c x3 ∧ TyOk d x4 ∧ TyOk e x5 ∧ TyOk f x6 ∧ TyOk g x7 ∧ TyOk h' x8 ∧ TyOk i x9 ∧ TyOk j x10 := by
  obtain ⟨as, rfl, k⟩ := ty_st h
  obtain ⟨x1, _, rfl, k1, k⟩ := tys_cons k
  obtain ⟨x2, _, rfl, k2, k⟩ := tys_cons k
  obtain ⟨x3, _, rfl, k3, k⟩ := tys_cons k
  obtain ⟨x4, _, rfl, k4, k⟩ := tys_cons k
  obtain ⟨x5, _, rfl, k5, k⟩ := tys_cons k
  obtain ⟨x6, _, rfl, k6, k⟩ := tys_cons k
  obtain ⟨x7, _, rfl, k7, k⟩ := tys_cons k
  obtain ⟨x8, _, rfl, k8, k⟩ := tys_cons k
  obtain ⟨x9, _, rfl, k9, k⟩ := tys_cons k
  obtain ⟨x10, _, rfl, k10, k⟩ := tys_cons k
  obtain rfl := tys_nil k
  exact ⟨x1, x2, x3, x4, x5, x6, x7, x8, x9, x10, rfl, k1, k2, k3, k4, k5, k6, k7, k8, k9, k10⟩
theorem ty_list {α : Type} {e : Ty} {sz bytes : Nat} {f : α → AV} {p : α → Prop} (he : ∀ a, TyOk e a → ∃ x, a = f x ∧ p x) {a : AV} (h : TyOk (.sl sz bytes e) a) : ∃ xs : List α, a = .sl sz (xs.map f) ∧ xs.length * bytes ≤ reachBytes ∧ ∀ x ∈ xs, p x := by
  obtain ⟨xs, rfl, ⟨_, h1⟩, h2⟩ := ty_sl h
  obtain ⟨ns, rfl, h3⟩ := map_of_all (f := f) (p := p) fun x hx => he x (h2 x hx)
  exact ⟨ns, rfl, by simpa using h1, h3⟩

abbrev Ty.vote : Ty := .st [.int .i64, .int .i64, .int .i64, .int .i64, Ty.dg, .int .i64, Ty.sig]
structure Vote.In (v : Vote) : Prop where
  kind : W64 v.kind
  epoch : W64 v.epoch
  height : W64 v.height
  round : W64 v.round
  src : W64 v.src
  leaf : W64 v.sig.leaf
theorem ty_vote {a : AV} (h : TyOk Ty.vote a) : ∃ v : Vote, a = v.av ∧ v.In := by
  obtain ⟨a1, a2, a3, a4, a5, a6, a7, rfl, h1, h2, h3, h4, h5, h6, h7⟩ := ty_st7 h
  obtain ⟨n1, rfl, w1⟩ := ty_int h1
  obtain ⟨n2, rfl, w2⟩ := ty_int h2
  obtain ⟨n3, rfl, w3⟩ := ty_int h3
  obtain ⟨n4, rfl, w4⟩ := ty_int h4
  obtain ⟨d, rfl⟩ := ty_dg h5
  obtain ⟨n6, rfl, w6⟩ := ty_int h6
  obtain ⟨s, rfl, w7⟩ := ty_sig h7
  exact ⟨⟨n1, n2, n3, n4, d, n6, s⟩, rfl, w1, w2, w3, w4, w6, w7⟩
abbrev Ty.plan : Ty := .st [.int .i64, .int .i64, .int .i64, .int .i64, Ty.blk, .int .i64, Ty.sig]
structure Plan.In (p : Plan) : Prop where
  epoch : W64 p.epoch
  height : W64 p.height
  round : W64 p.round
  valid : W64 p.valid
  blk : p.blk.In
  src : W64 p.src
  leaf : W64 p.sig.leaf
theorem ty_plan {a : AV} (h : TyOk Ty.plan a) : ∃ p : Plan, a = p.av ∧ p.In := by
  obtain ⟨a1, a2, a3, a4, a5, a6, a7, rfl, h1, h2, h3, h4, h5, h6, h7⟩ := ty_st7 h
  obtain ⟨n1, rfl, w1⟩ := ty_int h1
  obtain ⟨n2, rfl, w2⟩ := ty_int h2
  obtain ⟨n3, rfl, w3⟩ := ty_int h3
  obtain ⟨n4, rfl, w4⟩ := ty_int h4
  obtain ⟨b, rfl, w5⟩ := ty_blk h5
  obtain ⟨n6, rfl, w6⟩ := ty_int h6
  obtain ⟨s, rfl, w7⟩ := ty_sig h7
  exact ⟨⟨n1, n2, n3, n4, b, n6, s⟩, rfl, w1, w2, w3, w4, w5, w6, w7⟩
abbrev Ty.mem : Ty := .st [.int .i64, .st [Ty.dg, .int .i64]]
def Mem.In (m : Mem) : Prop := W64 m.id ∧ W64 m.height
theorem ty_mem {a : AV} (h : TyOk Ty.mem a) : ∃ m : Mem, a = m.av ∧ m.In := by
  obtain ⟨a1, a2, rfl, h1, h2⟩ := ty_st2 h
  obtain ⟨n, rfl, w1⟩ := ty_int h1
  obtain ⟨b1, b2, rfl, g1, g2⟩ := ty_st2 h2
  obtain ⟨d, rfl⟩ := ty_dg g1
  obtain ⟨k, rfl, w2⟩ := ty_int g2
  exact ⟨⟨n, d, k⟩, rfl, w1, w2⟩
abbrev Ty.conf : Ty := .st [.int .i64, .sl 34 48 Ty.mem]
structure Conf.In (c : Conf) : Prop where
  epoch : W64 c.epoch
  len : c.ms.length * 48 ≤ reachBytes
  ms : ∀ m ∈ c.ms, m.In
theorem ty_conf {a : AV} (h : TyOk Ty.conf a) : ∃ c : Conf, a = c.av ∧ c.In := by
  obtain ⟨a1, a2, rfl, h1, h2⟩ := ty_st2 h
  obtain ⟨n, rfl, w1⟩ := ty_int h1
  obtain ⟨ms, rfl, l, hm⟩ := ty_list (fun _ => ty_mem) h2
  exact ⟨⟨n, ms⟩, rfl, w1, l, hm⟩
abbrev Ty.cert : Ty := .st [.int .i64, .sl 41 152 Ty.vote]
structure Cert.In (c : Cert) : Prop where
  round : W64 c.round
  len : c.votes.length * 152 ≤ reachBytes
  votes : ∀ v ∈ c.votes, v.In
theorem ty_cert {a : AV} (h : TyOk Ty.cert a) : ∃ c : Cert, a = c.av ∧ c.In := by
  obtain ⟨a1, a2, rfl, h1, h2⟩ := ty_st2 h
  obtain ⟨n, rfl, w1⟩ := ty_int h1
  obtain ⟨vs, rfl, l, hm⟩ := ty_list (fun _ => ty_vote) h2
  exact ⟨⟨n, vs⟩, rfl, w1, l, hm⟩
abbrev Ty.link : Ty := .st [Ty.blk, Ty.cert, Ty.conf]
structure Lnk.In (l : Lnk) : Prop where
  blk : l.blk.In
  cert : l.cert.In
  conf : l.conf.In
theorem ty_link {a : AV} (h : TyOk Ty.link a) : ∃ l : Lnk, a = l.av ∧ l.In := by
  obtain ⟨a1, a2, a3, rfl, h1, h2, h3⟩ := ty_st3 h
  obtain ⟨b, rfl, w1⟩ := ty_blk h1
  obtain ⟨c, rfl, w2⟩ := ty_cert h2
  obtain ⟨d, rfl, w3⟩ := ty_conf h3
  exact ⟨⟨b, c, d⟩, rfl, w1, w2, w3⟩
theorem ty_links {a : AV} (h : TyOk (.sl 103 200 Ty.link) a) : ∃ ls : List Lnk, a = .sl 103 (Lnks ls) ∧ ls.length * 200 ≤ reachBytes ∧ ∀ l ∈ ls, l.In := ty_list (fun _ => ty_link) h
abbrev Ty.piece : Ty := .st [.int .i64, .int .i64, Ty.dg, .str, Ty.dgs]
structure Piece.In (p : Piece) : Prop where
  at_ : W64 p.at_
  count : W64 p.count
  data : p.data.length ≤ reachBytes
  path : p.path.length ≤ reachBytes
theorem ty_piece {a : AV} (h : TyOk Ty.piece a) : ∃ p : Piece, a = p.av ∧ p.In := by
  obtain ⟨a1, a2, a3, a4, a5, rfl, h1, h2, h3, h4, h5⟩ := ty_st5 h
  obtain ⟨n1, rfl, w1⟩ := ty_int h1
  obtain ⟨n2, rfl, w2⟩ := ty_int h2
  obtain ⟨d, rfl⟩ := ty_dg h3
  obtain ⟨s, rfl, w4⟩ := ty_str h4
  obtain ⟨p, rfl, w5⟩ := ty_dgs h5
  exact ⟨⟨n1, n2, d, s, p⟩, rfl, w1, w2, w4, by simp only; omega⟩
theorem ty_pieces {a : AV} (h : TyOk (.sl 36 88 Ty.piece) a) : ∃ ps : List Piece, a = .sl 36 (Pcs ps) ∧ ps.length * 88 ≤ reachBytes ∧ ∀ p ∈ ps, p.In := ty_list (fun _ => ty_piece) h
abbrev Ty.mail : Ty := .st [.int .i64, Ty.plan, Ty.vote, Ty.req, Ty.rep, .int .i64, Ty.blk, Ty.cert, .sl 103 200 Ty.link, .sl 36 88 Ty.piece]
structure Mail.In (m : Mail) : Prop where
  kind : W64 m.kind
  plan : m.plan.In
  vote : m.vote.In
  req : m.req.In
  rep : (W64 m.rep.client ∧ W64 m.rep.num ∧ W64 m.rep.code) ∧ ∀ v ∈ m.rep.vals, v.length ≤ reachBytes
  height : W64 m.height
  blk : m.blk.In
  cert : m.cert.In
  linksn : m.links.length * 200 ≤ reachBytes
  links : ∀ l ∈ m.links, l.In
  piecesn : m.pieces.length * 88 ≤ reachBytes
  pieces : ∀ p ∈ m.pieces, p.In
theorem ty_mail {a : AV} (h : TyOk Ty.mail a) : ∃ m : Mail, a = m.av ∧ m.In := by
  obtain ⟨a1, a2, a3, a4, a5, a6, a7, a8, a9, a10, rfl, h1, h2, h3, h4, h5, h6, h7, h8, h9, h10⟩ := ty_st10 h
  obtain ⟨n1, rfl, w1⟩ := ty_int h1
  obtain ⟨p, rfl, w2⟩ := ty_plan h2
  obtain ⟨v, rfl, w3⟩ := ty_vote h3
  obtain ⟨q, rfl, w4⟩ := ty_req h4
  obtain ⟨r, rfl, w5⟩ := ty_rep h5
  obtain ⟨n6, rfl, w6⟩ := ty_int h6
  obtain ⟨b, rfl, w7⟩ := ty_blk h7
  obtain ⟨c, rfl, w8⟩ := ty_cert h8
  obtain ⟨ls, rfl, l9, w9⟩ := ty_links h9
  obtain ⟨ps, rfl, l10, w10⟩ := ty_pieces h10
  exact ⟨⟨n1, p, v, q, r, n6, b, c, ls, ps⟩, rfl, w1, w2, w3, w4, w5, w6, w7, w8, l9, w9, l10, w10⟩
end Go.Proofs.Ytglkfbhjimnboaa.WL

end
