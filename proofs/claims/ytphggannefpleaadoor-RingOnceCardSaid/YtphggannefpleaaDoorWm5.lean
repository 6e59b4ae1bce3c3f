/- Texts put together: Ba, Bf, S06j, Bb, M01, M02, M03, M04, M09, M05, P02, P03, P01, P01b, P05, P06, S08g, P00. -/
import Derived.Test.YtphggannefpleaaDoorWm4
import Derived.Laws.BitsLemmas
import Derived.Laws.Strings
import Derived.Maps.RangeWalk
import Derived.Laws.IdiomRangeMap
import Derived.Sort.MapsRangeIn
import Derived.RangeFuncSeq
import Derived.RangeFuncGives
section
/-
  DATA: bytes, texts, numbers, digests as abstract values, and what the machine's operations do to them.
-/
namespace Go.Proofs.YtphggannefpleaaDoor.WL
open Go

theorem meets_of_go {P : Program} {G : Nat → Option AV} {f : Nat} {x : CCode} {rs : List CRes} {args : List AV} {M : List (Nat × Loc)} {keep : Bool} {res : AV} {M' : List (Nat × Loc)} (hmix : P.follows .mixedOrders = true) (hc : chkFn P f x rs args.length = true)
    (hg : goodM keep M' M' = true ∧ goodA keep M' res = true ∧ (M'.map (·.1)).Nodup) (h : go P G (postA rs res M') x [] ⟨argsL 0 args, M, 2⟩) : Meets P G f args M keep res M' := meets_of_awp hmix hc hg h

/-! Numbers. -/
attribute [simp] IntKind.bits Nat.mod_one
theorem w64_id {n : Int} (h : -9223372036854775808 ≤ n ∧ n < 9223372036854775808) : IntKind.i64.wrap n = n := by rw [IntKind.wrap_i64]; omega
theorem w64_succ {j : Nat} (h : j < 4611686018427387904) : IntKind.i64.wrap ((j : Int) + 1) = ((j + 1 : Nat) : Int) := by rw [IntKind.wrap_i64]; omega
theorem u64_id {n : Int} (h : 0 ≤ n ∧ n < 18446744073709551616) : IntKind.u64.wrap n = n := by simp [IntKind.wrap, IntKind.bits, IntKind.signed]; omega
theorem u64_mod (n : Int) : IntKind.u64.wrap n = n % 18446744073709551616 := by simp [IntKind.wrap, IntKind.bits, IntKind.signed]
theorem u32_mod (n : Int) : IntKind.u32.wrap n = n % 4294967296 := by simp [IntKind.wrap, IntKind.bits, IntKind.signed]
theorem u8_mod (n : Int) : IntKind.u8.wrap n = n % 256 := by simp [IntKind.wrap, IntKind.bits, IntKind.signed]
theorem i64_wf {n : Int} (h : (Lit.int .i64 n).wf = true) : -9223372036854775808 ≤ n ∧ n < 9223372036854775808 := by
  simp only [Lit.wf, Bool.and_eq_true, decide_eq_true_eq] at h
  have h1 : IntKind.min .i64 = -9223372036854775808 := by decide
  have h2 : IntKind.max .i64 = 9223372036854775807 := by decide
  omega
theorem u8_wf {n : Int} (h : (Lit.int .u8 n).wf = true) : 0 ≤ n ∧ n < 256 := by
  simp only [Lit.wf, Bool.and_eq_true, decide_eq_true_eq] at h
  have h1 : IntKind.min .u8 = 0 := by decide
  have h2 : IntKind.max .u8 = 255 := by decide
  omega

@[simp] theorem fdiv_lit (a : Int) (n : Nat) : a.fdiv (no_index (OfNat.ofNat n)) = a / (OfNat.ofNat n) := Int.fdiv_eq_ediv_of_nonneg _ (Int.natCast_nonneg n)

@[simp] theorem le_max8 : 8 ≤ maxLen := by decide
@[simp] theorem le_max32 : 32 ≤ maxLen := by decide
@[simp] theorem le_max64 : 64 ≤ maxLen := by decide

@[simp] theorem step_convM (m : Nat → Option Loc) (g d l g' n : Nat) : step .convM [.row l 1 g' 0 n] m g d = (match m l with
    | some (.rows g'' 1 xs) => if g'' = g' ∧ n = xs.length ∧ 0 < n then some (.sl 1 xs, [(l, none)]) else none
    | _ => none) := (rfl)
/-! Bytes. -/
abbrev Bytes := List UInt8
abbrev bv (b : UInt8) : AV := .v (.int .u8 (b.toNat : Int))
/-- The byte that a number ends in. -/
def u8 (n : Int) : UInt8 := UInt8.ofNat (n % 256).toNat
theorem bv_u8 (n : Int) : AV.v (.int .u8 (IntKind.u8.wrap n)) = bv (u8 n) := by
  unfold bv u8
  rw [u8_mod]
  have h : ((UInt8.ofNat (n % 256).toNat).toNat : Int) = n % 256 := by
    rw [UInt8.toNat_ofNat']
    omega
  rw [h]
theorem bv_lit (n : Int) (h : 0 ≤ n ∧ n < 256) : AV.v (.int .u8 n) = bv (u8 n) := by
  rw [← bv_u8, u8_mod, Int.emod_eq_of_lt h.1 h.2]
theorem u8_toNat (n : Int) : ((u8 n).toNat : Int) = n % 256 := by
  unfold u8
  rw [UInt8.toNat_ofNat']
  omega
@[simp] theorem bv_closed (b : UInt8) : closed (bv b) = true := rfl
@[simp] theorem bv_plain (b : UInt8) : plain (bv b) = true := rfl
@[simp] theorem bv_solid (b : UInt8) : (bv b).solid = true := rfl
@[simp] theorem bv_size (b : UInt8) : (bv b).size = 1 := rfl
@[simp] theorem bv_agg (b : UInt8) : (bv b).isAgg = false := rfl

def B (bs : Bytes) : List AV := bs.map bv
@[simp] theorem B_length (bs : Bytes) : (B bs).length = bs.length := by simp [B]
@[simp] theorem B_closed (bs : Bytes) : closeds (B bs) = true := by simp [B, closeds_all]
@[simp] theorem B_plain (bs : Bytes) : plains (B bs) = true := by simp [B, plains_all]
@[simp] theorem B_append (a b : Bytes) : B a ++ B b = B (a ++ b) := by simp [B]
@[simp] theorem B_cons (b : UInt8) (s : Bytes) : bv b :: B s = B (b :: s) := (rfl)
@[simp] theorem B_drop (n : Nat) (a : Bytes) : (B a).drop n = B (a.drop n) := by simp [B]
@[simp] theorem B_take (n : Nat) (a : Bytes) : (B a).take n = B (a.take n) := by simp [B]
@[simp] theorem B_get (n : Nat) (a : Bytes) : (B a)[n]? = (a[n]?).map bv := by simp [B]
@[simp] theorem B_getElem (n : Nat) (a : Bytes) (h : n < (B a).length) : (B a)[n] = bv (a[n]'(by simpa using h)) := by simp [B]
@[simp] theorem B_nil : B [] = [] := rfl
theorem B_set (L : Bytes) (j : Nat) (x : UInt8) : (B L).set j (bv x) = B (L.set j x) := by simp [B, List.map_set]
theorem intsOf_bv : ∀ bs : Bytes, intsOf .u8 (B bs) = some (bs.map fun b => (b.toNat : Int))
  | [] => rfl
  | b :: bs => by
    have := intsOf_bv bs
    simp only [B, List.map_cons, bv, intsOf] at *
    rw [if_pos trivial, this]
    rfl
/-- Bytes as numbers. -/
def natsOf (bs : Bytes) : List Int := bs.map fun b => (b.toNat : Int)
@[simp] theorem B_ints (bs : Bytes) : intsOf .u8 (B bs) = some (natsOf bs) := intsOf_bv bs
def zeros (n : Nat) : Bytes := List.replicate n 0
@[simp] theorem zeros_length (n : Nat) : (zeros n).length = n := by simp [zeros]
@[simp] theorem rep_byte (n : Nat) : rep n (.v (.int .u8 0)) = B (zeros n) := by simp [rep, B, zeros]
@[simp] theorem zeros_drop (n k : Nat) : (zeros n).drop k = zeros (n - k) := by simp [zeros]
@[simp] theorem zeros_take (n k : Nat) : (zeros n).take k = zeros (min k n) := by simp [zeros]
/-- A byte laid over zeros. -/
theorem fill_zeros (g : Bytes) (n j : Nat) (hj : j < g.length) (h : g.length ≤ n) : (g.take j ++ zeros (n - j)).set j g[j] = g.take (j + 1) ++ zeros (n - (j + 1)) := by
  have e : n - j = (n - (j + 1)) + 1 := by omega
  have e2 : j - (g.take j).length = 0 := by rw [List.length_take]; omega
  have e3 : g.take (j + 1) = g.take j ++ [g[j]] := by rw [List.take_add_one, List.getElem?_eq_getElem hj]; rfl
  rw [e, List.set_append_right _ _ (by rw [List.length_take]; omega), e2, e3, List.append_assoc]
  rfl
theorem toNats_inj {a b : Bytes} : (a.map fun b => (b.toNat : Int)) = b.map (fun b => (b.toNat : Int)) ↔ a = b := by
  constructor
  · revert b
    induction a with
    | nil => intro b h; cases b with
      | nil => rfl
      | cons y b => simp at h
    | cons x a ih => intro b h; cases b with
      | nil => simp at h
      | cons y b =>
        simp only [List.map_cons, List.cons.injEq] at h
        rw [UInt8.toNat_inj.1 (show x.toNat = y.toNat by omega), ih h.2]
  · rintro rfl; rfl
@[simp] theorem step_eqaB {m : Nat → Option Loc} {g d : Nat} (neg : Bool) (n : Nat) (a b : Bytes) (ha : a.length = n) (hb : b.length = n) : step (.eqa neg .u8 n) [.arr 1 (B a), .arr 1 (B b)] m g d = some (.v (.bool (if neg = true then !(a == b) else a == b)), []) := by
  have e : (natsOf a == natsOf b) = (a == b) := by
    rw [Bool.eq_iff_iff, beq_iff_eq, beq_iff_eq]
    exact toNats_inj
  have la : (natsOf a).length = n := by simp [natsOf, ha]
  have lb : (natsOf b).length = n := by simp [natsOf, hb]
  simp only [step, B_ints, la, lb, and_self, if_true, e]

/-! Texts. -/
def mkS (bs : Bytes) : ByteArray := ⟨bs.toArray⟩
@[simp] theorem mkS_size (bs : Bytes) : (mkS bs).size = bs.length := by simp [mkS, ByteArray.size]
@[simp] theorem mkS_data (bs : Bytes) : (mkS bs).data.toList = bs := by simp [mkS]
@[simp] theorem mkS_append (a b : Bytes) : mkS a ++ mkS b = mkS (a ++ b) := by
  apply ByteArray.ext
  simp [mkS, ByteArray.data_append]
@[simp] theorem mkS_toList (a : Bytes) : (mkS a).toList = a := by rw [ByteArray.toList_eq, mkS_data]
@[simp] theorem mkS_bytes (bs : Bytes) : bytesAV (mkS bs) = B bs := by
  simp only [bytesAV, B, mkS_data]

@[simp] theorem mkS_nums (bs : Bytes) : strOfNums (natsOf bs) = mkS bs := by
  have h : ∀ b : UInt8, UInt8.ofNat (b.toNat : Int).toNat = b := fun b => by simp
  unfold strOfNums mkS natsOf
  rw [List.map_map]
  congr 2
  conv => rhs; rw [← List.map_id bs]
  exact List.map_congr_left fun b _ => h b
@[simp] theorem intsOf_nil (k : IntKind) : intsOf k [] = some [] := (rfl)
@[simp] theorem strOfNums_nil : strOfNums [] = mkS [] := (rfl)
@[simp] theorem mkS_extract (bs : Bytes) (i j : Nat) : (mkS bs).extract i j = mkS ((bs.take j).drop i) := by
  apply ByteArray.ext
  simp [mkS, ByteArray.data_extract, List.drop_take]
@[simp] theorem mkS_get (bs : Bytes) (i : Nat) : (mkS bs).data.toList[i]? = bs[i]? := by rw [mkS_data]
/-- So long a text may be. -/
def fitsS (n : Nat) : Prop := n ≤ 9223372036854775807
instance (n : Nat) : Decidable (fitsS n) := inferInstanceAs (Decidable (_ ≤ _))
section
variable {m : Nat → Option Loc} {g d : Nat}
@[simp] theorem step_saddB (a b : Bytes) : step (.bin .add) [.v (.string (mkS a)), .v (.string (mkS b))] m g d = if fitsS (a.length + b.length) then some (.v (.string (mkS (a ++ b))), []) else none := by
  by_cases h : fitsS (a.length + b.length)
  · rw [if_pos h, step_sadd _ _ (by rw [mkS_size, mkS_size]; exact h), mkS_append]
  · rw [if_neg h]
    have h2 : ¬ ((mkS a).size + (mkS b).size ≤ 9223372036854775807) := by rw [mkS_size, mkS_size]; exact h
    simp only [step, binV, h2, if_false]
    rfl
@[simp] theorem step_idxSB (s : Bytes) (k : IntKind) (i : Int) (h : 0 ≤ i) : step .idxS [.v (.string (mkS s)), .v (.int k i)] m g d = (s[i.toNat]?).map fun b => (bv b, []) := by
  rw [step_idxS _ _ _ h, mkS_data]
end

/-! Lists of numbers, texts, digests. -/
def Strs (ss : List Bytes) : List AV := ss.map fun s => .v (.string (mkS s))
@[simp] theorem Strs_length (ss : List Bytes) : (Strs ss).length = ss.length := by simp [Strs]
@[simp] theorem Strs_closed (ss : List Bytes) : closeds (Strs ss) = true := by simp [Strs, closeds_all]
@[simp] theorem Strs_plain (ss : List Bytes) : plains (Strs ss) = true := by simp [Strs, plains_all]
@[simp] theorem Strs_get (n : Nat) (a : List Bytes) : (Strs a)[n]? = (a[n]?).map fun s => .v (.string (mkS s)) := by simp [Strs]
@[simp] theorem Strs_getElem (n : Nat) (a : List Bytes) (h : n < (Strs a).length) : (Strs a)[n] = .v (.string (mkS (a[n]'(by simpa using h)))) := by simp [Strs]
@[simp] theorem Strs_append (a b : List Bytes) : Strs a ++ Strs b = Strs (a ++ b) := by simp [Strs]
@[simp] theorem Strs_drop (n : Nat) (a : List Bytes) : (Strs a).drop n = Strs (a.drop n) := by simp [Strs]
@[simp] theorem Strs_take (n : Nat) (a : List Bytes) : (Strs a).take n = Strs (a.take n) := by simp [Strs]
@[simp] theorem Strs_nil : Strs [] = [] := (rfl)
/-- A digest: 32 bytes. -/
structure Dg where
  bs : Bytes
  len : bs.length = 32
@[simp] theorem Dg.length (d : Dg) : d.bs.length = 32 := d.len
theorem Dg.ext' {a b : Dg} (h : a.bs = b.bs) : a = b := by
  cases a
  cases b
  simp only at h
  subst h
  rfl
instance : DecidableEq Dg := fun a b => if h : a.bs = b.bs then isTrue (Dg.ext' h) else isFalse fun e => h (congrArg Dg.bs e)
@[simp] theorem Dg.beq (a b : Dg) : (a.bs == b.bs) = decide (a = b) := by
  rw [Bool.eq_iff_iff, beq_iff_eq, decide_eq_true_eq]
  exact ⟨Dg.ext', fun h => by rw [h]⟩
@[simp] theorem Dg.take32 (d : Dg) : List.take 32 d.bs = d.bs := List.take_of_length_le (by simp)
def Dg.zero : Dg := ⟨zeros 32, by simp⟩
@[simp] theorem Dg.zero_bs : Dg.zero.bs = zeros 32 := rfl
abbrev dv (d : Dg) : AV := .arr 1 (B d.bs)
def Dgs (ds : List Dg) : List AV := ds.map dv
@[simp] theorem Dgs_length (ss : List Dg) : (Dgs ss).length = ss.length := by simp [Dgs]
@[simp] theorem Dgs_closed (ss : List Dg) : closeds (Dgs ss) = true := by simp [Dgs, closeds_all]
@[simp] theorem Dgs_plain (ss : List Dg) : plains (Dgs ss) = true := by simp [Dgs, plains_all]
@[simp] theorem Dgs_get (n : Nat) (a : List Dg) : (Dgs a)[n]? = (a[n]?).map dv := by simp [Dgs]
@[simp] theorem Dgs_getElem (n : Nat) (a : List Dg) (h : n < (Dgs a).length) : (Dgs a)[n] = dv (a[n]'(by simpa using h)) := by simp [Dgs]
@[simp] theorem Dgs_append (a b : List Dg) : Dgs a ++ Dgs b = Dgs (a ++ b) := by simp [Dgs]
@[simp] theorem Dgs_nil : Dgs [] = [] := rfl
theorem Dgs_one (d : Dg) : Dgs [d] = [dv d] := rfl
theorem Dgs_snoc (a : List Dg) (d : Dg) : Dgs a ++ [dv d] = Dgs (a ++ [d]) := by simp [Dgs]
@[simp] theorem Dgs_drop (n : Nat) (a : List Dg) : (Dgs a).drop n = Dgs (a.drop n) := by simp [Dgs]
@[simp] theorem Dgs_take (n : Nat) (a : List Dg) : (Dgs a).take n = Dgs (a.take n) := by simp [Dgs]
/-! Shapes that often come. -/
theorem tys_cons {t : Ty} {ts : List Ty} {as : List AV} (h : TysOk (t :: ts) as) : ∃ a r, as = a :: r ∧ TyOk t a ∧ TysOk ts r := by
  cases as with
  | nil => simp [TysOk] at h
  | cons a r => simp only [TysOk] at h; exact ⟨a, r, rfl, h.1, h.2⟩
theorem tys_nil {as : List AV} (h : TysOk [] as) : as = [] := by
  cases as with
  | nil => rfl
  | cons a r => simp [TysOk] at h
theorem ty_st {fs : List Ty} {a : AV} (h : TyOk (.st fs) a) : ∃ as, a = .node as ∧ TysOk fs as := by simpa only [TyOk] using h
theorem ty_sl {sz bytes : Nat} {e : Ty} {a : AV} (h : TyOk (.sl sz bytes e) a) : ∃ xs, a = .sl sz xs ∧ (xs.length ≤ maxLen ∧ xs.length * bytes ≤ reachBytes) ∧ ∀ x ∈ xs, TyOk e x := by simpa only [TyOk] using h
abbrev Ty.bytes : Ty := .sl 1 1 (.int .u8)
abbrev Ty.dg : Ty := .arr 32 1 (.int .u8)
theorem ty_int {a : AV} (h : TyOk (.int .i64) a) : ∃ n : Int, a = .v (.int .i64 n) ∧ -9223372036854775808 ≤ n ∧ n < 9223372036854775808 := by
  obtain ⟨n, rfl, h⟩ := h
  exact ⟨n, rfl, i64_wf h⟩
theorem ty_u8 {a : AV} (h : TyOk (.int .u8) a) : ∃ b : UInt8, a = bv b := by
  obtain ⟨n, rfl, h⟩ := h
  exact ⟨u8 n, bv_lit n (u8_wf h)⟩
theorem ty_dg {a : AV} (h : TyOk Ty.dg a) : ∃ d : Dg, a = dv d := by
  obtain ⟨xs, rfl, h1, h2⟩ := h
  obtain ⟨bs, rfl, _⟩ := map_of_all (f := bv) (p := fun _ => True) fun x hx => by
    obtain ⟨b, e⟩ := ty_u8 (h2 x hx)
    exact ⟨b, e, trivial⟩
  exact ⟨⟨bs, by simpa using h1⟩, rfl⟩
end Go.Proofs.YtphggannefpleaaDoor.WL

end
section
/-
  A CONTRACT TOLD ANEW: rows that a call made are given away as slices that stay as they are.
-/
namespace Go.Proofs.YtphggannefpleaaDoor.WL
open Go

def newE (L : Names) : List (Nat × Loc) → Prop
  | [] => True
  | e :: r => look L e.1 = some (some (e.1, e.2.gen)) ∧ newE L r
theorem newE_mem {L : Names} : ∀ {M : List (Nat × Loc)} {e : Nat × Loc}, newE L M → e ∈ M → look L e.1 = some (some (e.1, e.2.gen))
  | [], _, _, h => by cases h
  | _ :: _, _, h, hm => by
    rcases List.mem_cons.1 hm with rfl | hm
    · exact h.1
    · exact newE_mem h.2 hm
/-- Every name stands for itself. -/
def sameNames : List (Nat × Loc) → Names
  | [] => []
  | (k, c) :: r => (k, some (k, c.gen)) :: sameNames r

theorem Meets.freezeL {P : Program} {G : Nat → Option AV} {f : Nat} {args : List AV} {M : List (Nat × Loc)} {keep : Bool} {res : AV} {M' : List (Nat × Loc)} (h : Meets P G f args M keep res M') {res2 : AV} {M2 : List (Nat × Loc)} (L : Names)
    (hg : goodM false M2 M2 = true ∧ goodA false M2 res2 = true ∧ (M2.map (·.1)).Nodup)
    (he : FitR (look M') L res res2 ∧ Stamped (fun g => g = 0 ∨ g = 1) res2 ∧ FitM (look M') L M2 ∧ StampedM (fun g => g = 0 ∨ g = 1) M2 ∧ (srcs L M2).Nodup ∧ (∀ t ∈ touchR (look M') res res2 ++ touchM (look M') L M2, t ∉ srcs L M2) ∧ newE L M2) :
    Meets P G f args M false res2 M2 := by
  refine ⟨hg, fun C Ws ys hw hm hu hG hv => ?_⟩
  refine Calls.mono (h.2 C Ws ys hw hm hu hG hv) ?_
  rintro e w'' ⟨y, C1, rfl, rfl, hle1, hw1, hm1, hv1⟩
  obtain ⟨h1, h2, h3, h4, h6, h7, h8⟩ := he
  rw [← hm1] at h1 h3 h7
  obtain ⟨T, hT⟩ : ∃ T, T = touchR C1.m res res2 ++ touchM C1.m L M2 := ⟨_, rfl⟩
  let U : Nat → Prop := fun g => C1.used g ∨ g = 0 ∨ g = 1
  have hst' : ∀ (a : AV), Stamped (fun g => g = 0 ∨ g = 1) a → Stamped U a := fun a => stamped_mono (fun g h => .inr h) a
  have hnamed : Named C1.m L M2 T U := ⟨hg.2.2, fun e he => FitM_mem h3 he, fun e he t ht => by rw [hT]; exact List.mem_append_right _ (touchM_mem he ht), h6, by rw [hT]; exact h7, fun e he => by
    have := StampedM_mem h4 he
    cases hq : e.2 with
    | var g w => rw [hq] at this; exact ⟨.inr this.1, hst' w this.2⟩
    | rows g sz ws => rw [hq] at this; exact ⟨.inr this.1, stampedL_mono (fun g h => .inr h) ws this.2⟩
    | ob g q w => rw [hq] at this; exact ⟨.inr this.1, hst' w this.2⟩⟩
  have hle : C1.Le (reCtx C1 L M2 T U) := by
    refine ⟨fun g hg => .inl hg, fun k hk => .inl hk, fun _ _ => rfl, fun l c' hc' hu' => ?_⟩
    have hmem := look_mem hc'
    have hold := newE_mem h8 hmem
    simp only at hold
    have hfit := hnamed.fit _ hmem
    cases c' with
    | ob g q w =>
      simp only [Loc.gen] at hold
      obtain ⟨l2, g2, raw, k1, k2, _⟩ := hfit
      simp only at k1
      rw [hold] at k1
      obtain ⟨rfl, rfl⟩ := (by simpa using k1 : l = l2 ∧ g = g2)
      exact ⟨_, k2, ⟨rfl, rfl⟩, by simp [reCtx, src, hold], fun b _ cur _ hcur => ⟨cur, hcur, rfl⟩⟩
    | rows g sz ws =>
      simp only [Loc.gen] at hold
      rcases hfit with ⟨l2, g2, xs, k1, k2, _⟩ | ⟨k1, _⟩
      · simp only at k1
        rw [hold] at k1
        obtain ⟨rfl, rfl⟩ := (by simpa using k1 : l = l2 ∧ g = g2)
        exact ⟨_, k2, ⟨rfl, rfl⟩, by simp [reCtx, src, hold], fun b _ cur _ hcur => ⟨cur, hcur, rfl⟩⟩
      · simp only at k1
        rw [hold] at k1
        simp at k1
    | var g w =>
      simp only [Loc.gen] at hold
      obtain ⟨l2, g2, raw, k1, k2, _⟩ := hfit
      simp only at k1
      rw [hold] at k1
      obtain ⟨rfl, rfl⟩ := (by simpa using k1 : l = l2 ∧ g = g2)
      exact ⟨_, k2, rfl, by simp [reCtx, src, hold], fun b _ cur _ hcur => ⟨cur, hcur, rfl⟩⟩
  have hwr : WR C.w Ws C.I (reCtx C1 L M2 T U) := by
    refine hnamed.wr hw1 (fun k hk => .inl (hw1.imm0 k hk)) (fun l c b _ h2 h3 => (hw1.own l c b h2 h3).2.2) (fun k hk => ?_) hw1.os hw1.tape hw1.output hw1.size hw1.block
    rcases hk with hk | ⟨t, _, ct, hct, hbt⟩
    · exact (hw1.imm k hk).2
    · exact .inr ((hw1.own t ct k hct hbt).2.2)
  exact ⟨y, reCtx C1 L M2 T U, rfl, rfl, hle1.trans hle, hwr, rfl, SV_fitR hw1 hnamed.seen h1 (fun t ht => by rw [hT]; exact List.mem_append_left _ ht) (hst' res2 h2) hv1⟩

/-- With the names reckoned. -/
theorem Meets.freeze {P : Program} {G : Nat → Option AV} {f : Nat} {args : List AV} {M : List (Nat × Loc)} {keep : Bool} {res : AV} {M' : List (Nat × Loc)} (h : Meets P G f args M keep res M') {res2 : AV} {M2 : List (Nat × Loc)}
    (hg : goodM false M2 M2 = true ∧ goodA false M2 res2 = true ∧ (M2.map (·.1)).Nodup)
    (he : FitR (look M') (sameNames M2) res res2 ∧ Stamped (fun g => g = 0 ∨ g = 1) res2 ∧ FitM (look M') (sameNames M2) M2 ∧ StampedM (fun g => g = 0 ∨ g = 1) M2 ∧ (srcs (sameNames M2) M2).Nodup ∧ (∀ t ∈ touchR (look M') res res2 ++ touchM (look M') (sameNames M2) M2, t ∉ srcs (sameNames M2) M2) ∧ newE (sameNames M2) M2) :
    Meets P G f args M false res2 M2 := h.freezeL (sameNames M2) hg he
attribute [simp] newE sameNames

/-! Values that hold no reference, seen from outside. -/
mutual
theorem closed_more {M : List (Nat × Loc)} {L : Names} {nb gn : Nat} : ∀ (a : AV), closed a = true → goodA false M a = true ∧ pairsA a a = [] ∧ renA L nb gn a = a
  | .top, _ => by simp [goodA, pairsA, renA]
  | .v x, _ => by
    refine ⟨by simp [goodA], ?_, rfl⟩
    unfold pairsA
    split <;> simp_all
  | .node cs, h => by
    simp only [closed] at h
    obtain ⟨h1, h2, h3⟩ := closeds_more (M := M) (L := L) (nb := nb) (gn := gn) cs h
    simp only [goodA, pairsA, renA, h1, h2, h3, and_self]
  | .arr _ _, h => by simp only [closed] at h; simp [goodA, pairsA, renA, h]
  | .sl _ _, h => by simp only [closed] at h; simp [goodA, pairsA, renA, h]
  | .iptr _, h => by simp only [closed] at h; simp [goodA, pairsA, renA, h]
  | .ptr .., h => by simp [closed] at h
  | .row .., h => by simp [closed] at h
  | .vrow .., h => by simp [closed] at h
  | .rptr .., h => by simp [closed] at h
  | .tup _, h => by simp [closed] at h
theorem closeds_more {M : List (Nat × Loc)} {L : Names} {nb gn : Nat} : ∀ (as : List AV), closeds as = true → goods false M as = true ∧ pairsL as as = [] ∧ rens L nb gn as = as
  | [], _ => by simp [goods, pairsL, rens]
  | a :: as, h => by
    simp only [closeds, Bool.and_eq_true] at h
    obtain ⟨h1, h2, h3⟩ := closed_more (M := M) (L := L) (nb := nb) (gn := gn) a h.1
    obtain ⟨k1, k2, k3⟩ := closeds_more (M := M) (L := L) (nb := nb) (gn := gn) as h.2
    simp only [goods, pairsL, rens, h1, h2, h3, k1, k2, k3, List.append_nil, Bool.and_self, and_self]
end
theorem goodA_closed {M : List (Nat × Loc)} {a : AV} (h : closed a = true) : goodA false M a = true := (closed_more (L := []) (nb := 0) (gn := 0) a h).1
@[simp] theorem goods_closeds {M : List (Nat × Loc)} {as : List AV} (h : closeds as = true) : goods false M as = true := (closeds_more (L := []) (nb := 0) (gn := 0) as h).1
@[simp] theorem pairsL_closeds {as : List AV} (h : closeds as = true) : pairsL as as = [] := (closeds_more (M := []) (L := []) (nb := 0) (gn := 0) as h).2.1
@[simp] theorem rens_closeds {L : Names} {nb gn : Nat} {as : List AV} (h : closeds as = true) : rens L nb gn as = as := (closeds_more (M := []) as h).2.2
end Go.Proofs.YtphggannefpleaaDoor.WL

end
section
/-
  MEMORY AS A LIST WHOSE END IS NOT SPELLED OUT: what is seen through look alone; calls and ends where names stay.
-/
namespace Go.Proofs.YtphggannefpleaaDoor.WL
open Go
set_option maxHeartbeats 1000000

/-- A claim on states that sees memory through look alone. -/
class Resp (Q : Exit → SA → Prop) : Prop where
  out : ∀ e fr m m' c, look m = look m' → Q e ⟨fr, m, c⟩ → Q e ⟨fr, m', c⟩
theorem Weak.look {fr : List (Nat × AV)} {m m' : List (Nat × Loc)} {c : Nat} (h : WL.look m = WL.look m') : Weak ⟨fr, m', c⟩ ⟨fr, m, c⟩ :=
  Less.weak ⟨fun _ _ h => h, fun l c' hl => by rw [← h]; exact hl, Nat.le_refl _⟩

section
variable {P : Program} {G : Nat → Option AV}
theorem opW_look {g : Nat} {c : COper} {fr : List (Nat × AV)} {m m' : List (Nat × Loc)} {K : AV → List (Nat × Option Loc) → List Nat → Prop} (hm : look m = look m') (h : opW P G g c fr m K) : opW P G g c fr m' K := by
  unfold opW at *
  split at h
  · exact h
  · split at h
    · unfold opEW at *
      rw [← hm]
      exact h
    · cases h
  · cases h
theorem regW_look {clk : Nat} : ∀ {cs : List COper} {i : Nat} {fr : List (Nat × AV)} {m m' : List (Nat × Loc)} {lg : Log} {K : List (Nat × AV) → List (Nat × Loc) → Log → Prop}, (∀ fr m m' lg, look m = look m' → K fr m lg → K fr m' lg) → look m = look m' → regW P G clk cs i fr m lg K → regW P G clk cs i fr m' lg K
  | [], _, _, _, _, _, _, hK, hm, h => hK _ _ _ _ hm h
  | _ :: _, _, _, _, _, _, _, hK, hm, h => opW_look hm (opW_mono (fun _ us _ h => regW_look hK (by rw [look_upsL, look_upsL, hm]) h) h)
theorem awp_look : ∀ {x : CCode} {Q : Exit → SA → Prop} {fr : List (Nat × AV)} {m m' : List (Nat × Loc)} {c : Nat}, Resp Q → look m = look m' → awp P G x Q ⟨fr, m, c⟩ → awp P G x Q ⟨fr, m', c⟩ := by
  intro x
  induction x with
  | skip => intro Q fr m m' c hq hm h; exact hq.out _ _ _ _ _ hm h
  | exit id => intro Q fr m m' c hq hm h; exact hq.out _ _ _ _ _ hm h
  | ret => intro Q fr m m' c hq hm h; exact hq.out _ _ _ _ _ hm h
  | label l => intro Q fr m m' c hq hm h; exact hq.out _ _ _ _ _ hm h
  | goto l => intro Q fr m m' c hq hm h; exact hq.out _ _ _ _ _ hm h
  | region cs dr keep => intro Q fr m m' c hq hm h; exact regW_look (fun fr m m' lg hm h => ⟨h.1, hq.out _ _ _ _ _ hm h.2⟩) hm h
  | head hd d x cs keep =>
    intro Q fr m m' c hq hm h
    obtain ⟨it, gi, h1, h2⟩ := h
    refine ⟨it, gi, h1, ?_⟩
    simp only at h2 ⊢
    rw [← hm]
    exact headW_mono (fun _ us h => regW_look (fun fr m m' lg hm h => hq.out _ _ _ _ _ hm h) (by rw [look_upsL, look_upsL, hm]) h) h2
  | seq a b iha ihb =>
    intro Q fr m m' c hq hm h
    refine iha ⟨fun e fr m m' c hm h => ?_⟩ hm h
    cases e <;> first | exact ihb hq hm h | exact hq.out _ _ _ _ _ hm h
  | cond t x y ihx ihy =>
    intro Q fr m m' c hq hm h
    obtain ⟨b, h1, h2⟩ := h
    refine ⟨b, h1, ?_⟩
    cases b
    · exact ihy hq hm h2
    · exact ihx hq hm h2
  | block id x ih =>
    intro Q fr m m' c hq hm h
    refine ih ⟨fun e fr m m' c hm h => ?_⟩ hm h
    cases e <;> first
      | exact hq.out _ _ _ _ _ hm h
      | (simp only [inBlockA] at *
         split at h
         · rename_i e; rw [if_pos e]; exact hq.out _ _ _ _ _ hm h
         · rename_i e; rw [if_neg e]; exact hq.out _ _ _ _ _ hm h)
  | loop x ih =>
    intro Q fr m m' c hq hm h
    obtain ⟨I, ⟨n, S0, hw, h0⟩, hI⟩ := h
    exact ⟨I, ⟨n, S0, (Weak.look hm).trans hw, h0⟩, hI⟩
  | ghost x ih =>
    intro Q fr m m' c hq hm h
    obtain ⟨S0, hw, h1⟩ := h
    exact ⟨S0, (Weak.look hm).trans hw, h1⟩
  | scope l x y ihx ihy =>
    intro Q fr m m' c hq hm h
    refine ihx ⟨fun e fr m m' c hm h => ?_⟩ hm h
    cases e <;> first
      | exact hq.out _ _ _ _ _ hm h
      | (refine ⟨h.1, ihy ⟨fun e fr m m' c hm h => ?_⟩ hm h.2⟩
         cases e <;> first | exact hq.out _ _ _ _ _ hm h | exact h)
instance resp_post (rs : List CRes) (res : AV) (M' : List (Nat × Loc)) : Resp (postA rs res M') := ⟨fun e fr m m' c hm h => by
  unfold postA at *
  simp only at *
  rw [← hm]
  exact h⟩
theorem resp_unK {Q : Exit → SA → Prop} (hq : Resp Q) : ∀ (k : List Kont), Resp (unK P G Q k)
  | [] => hq
  | .seq b :: k => ⟨fun e fr m m' c hm h => by
    have ih := resp_unK hq k
    cases e <;> first | exact awp_look ih hm h | exact ih.out _ _ _ _ _ hm h⟩
  | .blk id :: k => ⟨fun e fr m m' c hm h => by
    have ih := resp_unK hq k
    simp only [unK] at *
    cases e <;> first
      | exact ih.out _ _ _ _ _ hm h
      | (simp only [inBlockA] at *
         split at h
         · rename_i e; rw [if_pos e]; exact ih.out _ _ _ _ _ hm h
         · rename_i e; rw [if_neg e]; exact ih.out _ _ _ _ _ hm h)⟩
  | .scp l r :: k => ⟨fun e fr m m' c hm h => by
    have ih := resp_unK hq k
    simp only [unK] at *
    cases e <;> first
      | exact ih.out _ _ _ _ _ hm h
      | (refine ⟨h.1, awp_look ⟨fun e fr m m' c hm h => ?_⟩ hm h.2⟩
         cases e <;> first | exact ih.out _ _ _ _ _ hm h | exact h)⟩
  | .nog :: k => ⟨fun e fr m m' c hm h => by
    have ih := resp_unK hq k
    simp only [unK] at *
    cases e <;> first | exact ih.out _ _ _ _ _ hm h | exact h⟩
instance resp_nxt {α : Type} (inv : Nat → α → Prop) (st : Nat → α → Nat → SA) (j : Nat) (Q : Exit → SA → Prop) [hq : Resp Q] (k : List Kont) : Resp (thenA (Nxt inv st j) (unK P G Q k)) := ⟨fun e fr m m' c hm h => by
  have ih := resp_unK (P := P) (G := G) hq k
  cases e <;> first
    | exact ih.out _ _ _ _ _ hm h
    | (obtain ⟨a, c', hw, hi⟩ := h; exact ⟨a, c', (Weak.look hm).trans hw, hi⟩)⟩
instance resp_nxtW {α : Type} (μ : α → Nat) (inv : α → Prop) (st : α → Nat → SA) (j : Nat) (Q : Exit → SA → Prop) [hq : Resp Q] (k : List Kont) : Resp (thenA (NxtW μ inv st j) (unK P G Q k)) := ⟨fun e fr m m' c hm h => by
  have ih := resp_unK (P := P) (G := G) hq k
  cases e <;> first
    | exact ih.out _ _ _ _ _ hm h
    | (obtain ⟨a, c', hw, hi⟩ := h; exact ⟨a, c', (Weak.look hm).trans hw, hi⟩)⟩
instance resp_end (Q : Exit → SA → Prop) [hq : Resp Q] (k : List Kont) : Resp (thenA (fun _ => False) (unK P G Q k)) := ⟨fun e fr m m' c hm h => by
  have ih := resp_unK (P := P) (G := G) hq k
  cases e <;> first
    | exact ih.out _ _ _ _ _ hm h
    | exact h⟩
theorem goR_look {Q : Exit → SA → Prop} [hq : Resp Q] {clk i n : Nat} {cs : List COper} {fr : List (Nat × AV)} {m m' : List (Nat × Loc)} {lg : Log} {dr : Option (List Nat × List (Nat × Nat))} {keep : List Nat} {k : List Kont} (hm : look m = look m')
    (h : goR P G Q clk cs i fr m lg dr keep n k) : goR P G Q clk cs i fr m' lg dr keep n k :=
  regW_look (fun fr m m' lg hm h => ⟨h.1, (resp_unK (P := P) (G := G) hq k).out _ _ _ _ _ hm h.2⟩) hm h
end

/-! Other stamps, the same names. -/
mutual
def reA (c : Nat) : AV → AV
  | .ptr l _ off => .ptr l c off
  | .row l sz _ off n => .row l sz c off n
  | .oref l _ mp => .oref l c mp
  | .node cs => .node (reL c cs)
  | .tup cs => .tup (reL c cs)
  | a => a
def reL (c : Nat) : List AV → List AV
  | [] => []
  | a :: as => reA c a :: reL c as
end
def reLoc (c : Nat) : Loc → Loc
  | .var _ x => .var c (reA c x)
  | .rows _ sz xs => .rows c sz xs
  | .ob _ q x => .ob c q (reA c x)
def reM (c : Nat) (M : List (Nat × Loc)) : List (Nat × Loc) := M.map fun e => (e.1, reLoc c e.2)
def idN (c : Nat) (M : List (Nat × Loc)) : Names := M.map fun e => (e.1, some (e.1, c))
def gens0 (M : List (Nat × Loc)) : Prop := ∀ e ∈ M, e.2.gen = 0
def names (M : List (Nat × Loc)) : List Nat := M.map (·.1)
theorem look_idN (c : Nat) : ∀ (M : List (Nat × Loc)) (k : Nat), k ∈ names M → look (idN c M) k = some (some (k, c))
  | [], _, h => by cases h
  | (j, x) :: M, k, h => by
    simp only [idN, List.map_cons, look]
    by_cases e : j = k
    · rw [if_pos e, e]
    · rw [if_neg e]
      simp only [names, List.map_cons, List.mem_cons] at h
      exact look_idN c M k (h.resolve_left fun e' => e e'.symm)
theorem look_names {M : List (Nat × Loc)} {k : Nat} {c : Loc} (h : look M k = some c) : k ∈ names M := List.mem_map.2 ⟨(k, c), look_mem h, rfl⟩
theorem look_no {M : List (Nat × Loc)} {k : Nat} (h : k ∉ names M) : look M k = none := look_none h
theorem look_app (A B : List (Nat × Loc)) (k : Nat) : look (A ++ B) k = if k ∈ names A then look A k else look B k := by
  induction A with
  | nil => simp [names]
  | cons p A ih =>
    obtain ⟨j, x⟩ := p
    have hn : k ∈ names ((j, x) :: A) ↔ k = j ∨ k ∈ names A := by simp [names]
    simp only [List.cons_append, look, ih]
    by_cases e : j = k
    · rw [if_pos e, if_pos (hn.2 (.inl e.symm)), if_pos e]
    · rw [if_neg e]
      by_cases h : k ∈ names A
      · rw [if_pos h, if_pos (hn.2 (.inr h)), if_neg e]
      · rw [if_neg h, if_neg (fun h' => (hn.1 h').elim (fun h => e h.symm) h)]
theorem look_reM (c : Nat) : ∀ (M : List (Nat × Loc)) (k : Nat), look (reM c M) k = (look M k).map (reLoc c)
  | [], _ => rfl
  | (j, x) :: M, k => by
    have := look_reM c M k
    simp only [reM, List.map_cons, look] at this ⊢
    split
    · rfl
    · exact this
theorem names_reM (c : Nat) (M : List (Nat × Loc)) : names (reM c M) = names M := by simp [names, reM, Function.comp_def]
theorem goodA_ptr {keep : Bool} {M : List (Nat × Loc)} (h0 : gens0 M) {l g off : Nat} (h : goodA keep M (.ptr l g off) = true) : g = 0 ∧ l ∈ names M := by
  simp only [goodA] at h
  split at h <;> first | (cases h; done) | skip
  rename_i g' c hl
  simp only [beq_iff_eq] at h
  have := h0 _ (look_mem hl)
  exact ⟨h.trans this, look_names hl⟩
theorem goodA_row {keep : Bool} {M : List (Nat × Loc)} (h0 : gens0 M) {l sz g off n : Nat} (h : goodA keep M (.row l sz g off n) = true) : g = 0 ∧ l ∈ names M := by
  simp only [goodA] at h
  split at h <;> first | (cases h; done) | skip
  rename_i g' s c hl
  simp only [Bool.and_eq_true, beq_iff_eq] at h
  have := h0 _ (look_mem hl)
  exact ⟨h.1.trans this, look_names hl⟩
theorem goodA_oref {keep : Bool} {M : List (Nat × Loc)} (h0 : gens0 M) {l g : Nat} {mp : Bool} (h : goodA keep M (.oref l g mp) = true) : g = 0 ∧ l ∈ names M := by
  simp only [goodA] at h
  split at h <;> first | (cases h; done) | skip
  rename_i g' q c hl
  simp only [beq_iff_eq] at h
  have := h0 _ (look_mem hl)
  exact ⟨h.trans this, look_names hl⟩
mutual
/-- A value of a memory: no tuple in it. -/
def okA (M : List (Nat × Loc)) : AV → Bool
  | .node cs => okL M cs
  | .tup _ => false
  | a => goodA false M a
def okL (M : List (Nat × Loc)) : List AV → Bool
  | [] => true
  | a :: as => okA M a && okL M as
end
def okE (M : List (Nat × Loc)) : Loc → Bool
  | .var _ x => okA M x
  | .rows .. => false
  | .ob _ _ x => okA M x
mutual
theorem ok_good {M : List (Nat × Loc)} : ∀ (a : AV), okA M a = true → goodA false M a = true
  | .node cs, h => by simp only [okA] at h; simp only [goodA]; exact oks_good cs h
  | .tup _, h => by simp [okA] at h
  | .ptr .., h => by simpa only [okA] using h
  | .row .., h => by simpa only [okA] using h
  | .oref .., h => by simpa only [okA] using h
  | .top, h => by simpa only [okA] using h
  | .v _, h => by simpa only [okA] using h
  | .arr .., h => by simpa only [okA] using h
  | .sl .., h => by simpa only [okA] using h
  | .iptr _, h => by simpa only [okA] using h
  | .vrow .., h => by simpa only [okA] using h
  | .rptr .., h => by simpa only [okA] using h
theorem oks_good {M : List (Nat × Loc)} : ∀ (as : List AV), okL M as = true → goods false M as = true
  | [], _ => rfl
  | a :: as, h => by
    simp only [okL, Bool.and_eq_true] at h
    simp only [goods, Bool.and_eq_true]
    exact ⟨ok_good a h.1, oks_good as h.2⟩
end
mutual
theorem fit_re {m : Nat → Option Loc} {M : List (Nat × Loc)} (h0 : gens0 M) (c c' : Nat) : ∀ (a : AV), okA M a = true → Fit m (idN c M) (reA c a) (reA c' a) ∧ touch m (reA c a) (reA c' a) = []
  | .ptr l g off, h => by
    obtain ⟨rfl, hl⟩ := goodA_ptr h0 (by simpa only [okA] using h)
    simp [reA, Fit, touch, look_idN c M l hl]
  | .row l sz g off n, h => by
    obtain ⟨rfl, hl⟩ := goodA_row h0 (by simpa only [okA] using h)
    simp [reA, Fit, touch, look_idN c M l hl]
  | .oref l g mp, h => by
    obtain ⟨rfl, hl⟩ := goodA_oref h0 (by simpa only [okA] using h)
    simp [reA, Fit, touch, look_idN c M l hl]
  | .node cs, h => by
    simp only [okA] at h
    simp only [reA, Fit, touch]
    exact fits_re h0 c c' cs h
  | .tup _, h => by simp [okA] at h
  | .top, _ => Fit_refl .top rfl
  | .v x, _ => Fit_refl (.v x) rfl
  | .arr sz xs, h => Fit_refl (.arr sz xs) (by simpa [okA, goodA] using h)
  | .sl sz xs, h => Fit_refl (.sl sz xs) (by simpa [okA, goodA] using h)
  | .iptr x, h => Fit_refl (.iptr x) (by simpa [okA, goodA] using h)
  | .vrow .., h => by simp [okA, goodA] at h
  | .rptr .., h => by simp [okA, goodA] at h
theorem fits_re {m : Nat → Option Loc} {M : List (Nat × Loc)} (h0 : gens0 M) (c c' : Nat) : ∀ (as : List AV), okL M as = true → FitL m (idN c M) (reL c as) (reL c' as) ∧ touchL m (reL c as) (reL c' as) = []
  | [], _ => by simp [reL, touchL]
  | a :: as, h => by
    simp only [okL, Bool.and_eq_true] at h
    have h1 := fit_re (m := m) h0 c c' a h.1
    have h2 := fits_re (m := m) h0 c c' as h.2
    simp only [reL, touchL]
    exact ⟨by simp only [FitL]; exact ⟨_, _, rfl, h1.1, h2.1⟩, by rw [h1.2, h2.2]; rfl⟩
end
mutual
theorem re0 {M : List (Nat × Loc)} (h0 : gens0 M) : ∀ (a : AV), okA M a = true → reA 0 a = a
  | .ptr l g off, h => by obtain ⟨rfl, _⟩ := goodA_ptr h0 (by simpa only [okA] using h); rfl
  | .row l sz g off n, h => by obtain ⟨rfl, _⟩ := goodA_row h0 (by simpa only [okA] using h); rfl
  | .oref l g mp, h => by obtain ⟨rfl, _⟩ := goodA_oref h0 (by simpa only [okA] using h); rfl
  | .node cs, h => by simp only [okA] at h; simp only [reA, re0s h0 cs h]
  | .tup _, h => by simp [okA] at h
  | .top, _ => rfl
  | .v _, _ => rfl
  | .arr .., _ => rfl
  | .sl .., _ => rfl
  | .iptr _, _ => rfl
  | .vrow .., _ => rfl
  | .rptr .., _ => rfl
theorem re0s {M : List (Nat × Loc)} (h0 : gens0 M) : ∀ (as : List AV), okL M as = true → reL 0 as = as
  | [], _ => rfl
  | a :: as, h => by
    simp only [okL, Bool.and_eq_true] at h
    simp only [reL, re0 h0 a h.1, re0s h0 as h.2]
end
mutual
theorem stamped_re {M : List (Nat × Loc)} (h0 : gens0 M) (c : Nat) (U : Nat → Prop) (hc : U c) : ∀ (a : AV), okA M a = true → Stamped U (reA c a)
  | .ptr .., _ => hc
  | .row .., _ => hc
  | .oref .., _ => hc
  | .node cs, h => by simp only [okA] at h; simp only [reA, Stamped]; exact stampeds_re h0 c U hc cs h
  | .tup _, h => by simp [okA] at h
  | .top, _ => trivial
  | .v _, _ => trivial
  | .arr sz xs, h => closed_stamped (.arr sz xs) (by simpa [okA, goodA] using h)
  | .sl sz xs, h => closed_stamped (.sl sz xs) (by simpa [okA, goodA] using h)
  | .iptr _, _ => trivial
  | .vrow .., _ => trivial
  | .rptr .., _ => trivial
theorem stampeds_re {M : List (Nat × Loc)} (h0 : gens0 M) (c : Nat) (U : Nat → Prop) (hc : U c) : ∀ (as : List AV), okL M as = true → StampedL U (reL c as)
  | [], _ => trivial
  | a :: as, h => by
    simp only [okL, Bool.and_eq_true] at h
    simp only [reL, StampedL]
    exact ⟨stamped_re h0 c U hc a h.1, stampeds_re h0 c U hc as h.2⟩
end
mutual
theorem ren_re {M : List (Nat × Loc)} (h0 : gens0 M) (L : Names) (c nb gn : Nat) (hL : ∀ k ∈ names M, look L k = some (some (k, c))) : ∀ (a : AV), okA M a = true → renA L nb gn a = reA c a
  | .ptr l g off, h => by obtain ⟨rfl, hl⟩ := goodA_ptr h0 (by simpa only [okA] using h); simp [renA, kap, reA, hL l hl]
  | .row l sz g off n, h => by obtain ⟨rfl, hl⟩ := goodA_row h0 (by simpa only [okA] using h); simp [renA, kap, reA, hL l hl]
  | .oref l g mp, h => by obtain ⟨rfl, hl⟩ := goodA_oref h0 (by simpa only [okA] using h); simp [renA, kap, reA, hL l hl]
  | .node cs, h => by simp only [okA] at h; simp only [renA, reA, rens_re h0 L c nb gn hL cs h]
  | .tup _, h => by simp [okA] at h
  | .top, _ => rfl
  | .v _, _ => rfl
  | .arr .., _ => rfl
  | .sl .., _ => rfl
  | .iptr _, _ => rfl
  | .vrow .., _ => rfl
  | .rptr .., _ => rfl
theorem rens_re {M : List (Nat × Loc)} (h0 : gens0 M) (L : Names) (c nb gn : Nat) (hL : ∀ k ∈ names M, look L k = some (some (k, c))) : ∀ (as : List AV), okL M as = true → rens L nb gn as = reL c as
  | [], _ => rfl
  | a :: as, h => by
    simp only [okL, Bool.and_eq_true] at h
    simp only [rens, reL, ren_re h0 L c nb gn hL a h.1, rens_re h0 L c nb gn hL as h.2]
end
/-- A memory of variables and objects alone, that leads nowhere else. -/
structure Sane (M : List (Nat × Loc)) : Prop where
  gens : gens0 M
  ok : ∀ e ∈ M, okE M e.2 = true
  nd : (names M).Nodup
theorem goodM_of {keep : Bool} {M : List (Nat × Loc)} : ∀ {r : List (Nat × Loc)}, (∀ e ∈ r, goodE keep M e.2 = true) → goodM keep M r = true
  | [], _ => rfl
  | e :: r, h => by
    simp only [goodM, Bool.and_eq_true]
    exact ⟨h e List.mem_cons_self, goodM_of fun x hx => h x (List.mem_cons_of_mem _ hx)⟩
theorem Sane.goodM {M : List (Nat × Loc)} (h : Sane M) : goodM false M M = true := goodM_of fun e he => by
  have h1 := h.ok e he
  have h2 := h.gens e he
  cases hq : e.2 with
  | var g x =>
    rw [hq] at h1 h2
    simp only [Loc.gen] at h2
    subst h2
    simp only [goodE, Bool.and_eq_true]
    exact ⟨rfl, ok_good x h1⟩
  | rows g sz xs => rw [hq] at h1; simp [okE] at h1
  | ob g q x =>
    rw [hq] at h1 h2
    simp only [Loc.gen] at h2
    subst h2
    simp only [goodE, Bool.and_eq_true]
    exact ⟨rfl, ok_good x h1⟩
theorem src_idN {c : Nat} {M : List (Nat × Loc)} {k : Nat} (h : k ∈ names M) : src (idN c M) k = some k := by simp [src, look_idN c M k h]
theorem srcs_idN (c : Nat) (M : List (Nat × Loc)) : srcs (idN c M) M = names M := by
  have : ∀ r : List (Nat × Loc), (∀ e ∈ r, e.1 ∈ names M) → r.filterMap (fun e => src (idN c M) e.1) = names r := by
    intro r
    induction r with
    | nil => intro _; rfl
    | cons e r ih =>
      intro h
      rw [List.filterMap_cons_some (f := fun e : Nat × Loc => src (idN c M) e.1) (b := e.1) (src_idN (h e List.mem_cons_self)), ih fun x hx => h x (List.mem_cons_of_mem _ hx)]
      rfl
  exact this M fun e he => List.mem_map.2 ⟨e, he, rfl⟩
theorem named_re {m : Nat → Option Loc} {M : List (Nat × Loc)} (h : Sane M) (c : Nat) (U : Nat → Prop) (hU : U 0) (hm : ∀ e ∈ M, m e.1 = some (reLoc c e.2)) : Named m (idN c M) M [] U := by
  have hin : ∀ e ∈ M, e.1 ∈ names M := fun e he => List.mem_map.2 ⟨e, he, rfl⟩
  refine ⟨h.nd, fun e he => ?_, fun e he t ht => ?_, ?_, fun t ht => (by cases ht), fun e he => ?_⟩
  · have h1 := h.ok e he
    have h2 := h.gens e he
    have h3 := hm e he
    have h4 := look_idN c M e.1 (hin e he)
    cases hq : e.2 with
    | var g x =>
      rw [hq] at h1 h2 h3
      have := (fit_re (m := m) h.gens c 0 x h1).1
      rw [re0 h.gens x h1] at this
      exact ⟨_, _, _, h4, h3, this⟩
    | rows g sz xs => rw [hq] at h1; simp [okE] at h1
    | ob g q x =>
      rw [hq] at h1 h2 h3
      have := (fit_re (m := m) h.gens c 0 x h1).1
      rw [re0 h.gens x h1] at this
      exact ⟨_, _, _, h4, h3, this⟩
  · have h1 := h.ok e he
    have h3 := hm e he
    have h4 := look_idN c M e.1 (hin e he)
    cases hq : e.2 with
    | var g x =>
      rw [hq] at h1 h3 ht
      have := (fit_re (m := m) h.gens c 0 x h1).2
      rw [re0 h.gens x h1] at this
      simp only [touchE, h4, h3, reLoc, this] at ht
      exact ht
    | rows g sz xs => rw [hq] at h1; simp [okE] at h1
    | ob g q x =>
      rw [hq] at h1 h3 ht
      have := (fit_re (m := m) h.gens c 0 x h1).2
      rw [re0 h.gens x h1] at this
      simp only [touchE, h4, h3, reLoc, this] at ht
      exact ht
  · rw [srcs_idN]; exact h.nd
  · have h1 := h.ok e he
    have h2 := h.gens e he
    cases hq : e.2 with
    | var g x =>
      rw [hq] at h1 h2
      have := stamped_re h.gens 0 U hU x h1
      rw [re0 h.gens x h1] at this
      simp only [Loc.gen] at h2
      subst h2
      exact ⟨hU, this⟩
    | rows g sz xs => rw [hq] at h1; simp [okE] at h1
    | ob g q x =>
      rw [hq] at h1 h2
      have := stamped_re h.gens 0 U hU x h1
      rw [re0 h.gens x h1] at this
      simp only [Loc.gen] at h2
      subst h2
      exact ⟨hU, this⟩
/-! An end where names stay. -/
theorem post_id {rs : List CRes} {res : AV} {M' : List (Nat × Loc)} {e : Exit} {S : SA} (he : e = .normal ∨ e = .ret) (h : Sane M') {xs : List AV} (hr : rawRes (look S.fr) (look S.m) rs = some xs) (hx : raw1 xs = res)
    (hres : okA M' res = true ∨ ∃ as, res = .tup as ∧ okL M' as = true) (hm : ∀ e ∈ M', look S.m e.1 = some e.2) : postA rs res M' e S := by
  have hm' : ∀ e ∈ M', look S.m e.1 = some (reLoc 0 e.2) := fun e he => by
    rw [hm e he]
    have h1 := h.ok e he
    have h2 := h.gens e he
    cases hq : e.2 with
    | var g x => rw [hq] at h1 h2; simp only [Loc.gen] at h2; subst h2; simp only [reLoc, re0 h.gens x h1]
    | rows g sz xs => rw [hq] at h1; simp [okE] at h1
    | ob g q x => rw [hq] at h1 h2; simp only [Loc.gen] at h2; subst h2; simp only [reLoc, re0 h.gens x h1]
  refine ⟨he, xs, idN 0 M', [], hr, ?_, ?_, ?_, named_re h 0 _ (.inl rfl) hm', fun e he _ => look_idN 0 M' e.1 (List.mem_map.2 ⟨e, he, rfl⟩)⟩
  · rw [hx]
    rcases hres with h1 | ⟨as, rfl, h1⟩
    · have := (fit_re (m := look S.m) h.gens 0 0 res h1).1
      rw [re0 h.gens res h1] at this
      cases res <;> first | exact this | (simp [okA] at h1)
    · have := (fits_re (m := look S.m) h.gens 0 0 as h1).1
      rw [re0s h.gens as h1] at this
      exact this
  · intro t ht
    rw [hx] at ht
    rcases hres with h1 | ⟨as, rfl, h1⟩
    · have := (fit_re (m := look S.m) h.gens 0 0 res h1).2
      rw [re0 h.gens res h1] at this
      have e : touchR (look S.m) res res = touch (look S.m) res res := by cases res <;> first | rfl | (simp [okA] at h1)
      rw [e, this] at ht
      exact ht
    · have := (fits_re (m := look S.m) h.gens 0 0 as h1).2
      rw [re0s h.gens as h1] at this
      have e : touchR (look S.m) (.tup as) (.tup as) = touchL (look S.m) as as := rfl
      rw [e, this] at ht
      exact ht
  · rcases hres with h1 | ⟨as, rfl, h1⟩
    · have := stamped_re h.gens 0 (fun g => g = 0 ∨ g = 1) (.inl rfl) res h1
      rw [re0 h.gens res h1] at this
      exact this
    · have := stampeds_re h.gens 0 (fun g => g = 0 ∨ g = 1) (.inl rfl) as h1
      rw [re0s h.gens as h1] at this
      exact this
theorem good_id {M' : List (Nat × Loc)} {res : AV} (h : Sane M') (hres : okA M' res = true ∨ ∃ as, res = .tup as ∧ okL M' as = true) : goodM false M' M' = true ∧ goodA false M' res = true ∧ (M'.map (·.1)).Nodup :=
  ⟨h.goodM, by
    rcases hres with h1 | ⟨as, rfl, h1⟩
    · exact ok_good res h1
    · simp only [goodA]; exact oks_good as h1, h.nd⟩

/-! A call where names stay. -/
def resRe (c : Nat) : AV → AV
  | .tup as => .tup (reL c as)
  | a => reA c a
theorem call_id {P : Program} {G : Nat → Option AV} {Q : Exit → SA → Prop} [hq : Resp Q] {f clk i n : Nat} {d : Option Nat} {vals args : List AV} {r : List COper} {fr : List (Nat × AV)} {m m'' M M' : List (Nat × Loc)} {lg : Log} {dr : Option (List Nat × List (Nat × Nat))} {keepS : List Nat} {k : List Kont}
    {res : AV} (c : Nat) (hm : Meets P G f args M false res M') (h : Sane M) (h' : Sane M') (hsub : ∀ k ∈ names M', k ∈ names M) (ha : okL M args = true) (hv : vals = reL c args) (hres : okA M' res = true ∨ ∃ as, res = .tup as ∧ okL M' as = true)
    (hlook : ∀ e ∈ M, look m e.1 = some (reLoc c e.2)) (hlook' : ∀ k, look m'' k = if k ∈ names M then look (reM c M') k else look m k)
    (hk : ∀ x, goR P G Q clk r (i + 1) (setL fr d (resRe c res)) m'' (lg ++ [(i, x)]) dr keepS n k) : goV P G Q (some vals) (.call f) d clk r i fr m lg dr keepS n k := by
  have hL : ∀ k ∈ names M', look (idN c M) k = some (some (k, c)) := fun k hk => look_idN c M k (hsub k hk)
  have hren : renM (idN c M) (nbOf (d.getD 0)) (clk + i) M' = reM c M' := by
    unfold renM reM
    refine List.map_congr_left fun e he => ?_
    have h1 := h'.ok e he
    have h2 := h'.gens e he
    have hin : e.1 ∈ names M' := List.mem_map.2 ⟨e, he, rfl⟩
    cases hq : e.2 with
    | var g x =>
      rw [hq] at h1 h2
      simp only [Loc.gen] at h2
      subst h2
      simp only [renLoc, reLoc, Loc.gen, kap, if_true, hL _ hin, ren_re h'.gens (idN c M) c _ _ hL x h1]
    | rows g sz xs => rw [hq] at h1; simp [okE] at h1
    | ob g q x =>
      rw [hq] at h1 h2
      simp only [Loc.gen] at h2
      subst h2
      simp only [renLoc, reLoc, Loc.gen, kap, if_true, hL _ hin, ren_re h'.gens (idN c M) c _ _ hL x h1]
  have hresR : renA (idN c M) (nbOf (d.getD 0)) (clk + i) res = resRe c res := by
    rcases hres with h1 | ⟨as, rfl, h1⟩
    · rw [ren_re h'.gens (idN c M) c _ _ hL res h1]
      cases res <;> first | rfl | (simp [okA] at h1)
    · simp only [renA, resRe, rens_re h'.gens (idN c M) c _ _ hL as h1]
  have hnamed := named_re h c (· = 0) rfl hlook
  refine ⟨idN c M, args, M, false, res, M', [], ⟨hm, ?_, fun t ht => ?_, ?_, hnamed, ?_, fun e he _ => ⟨_, hL _ (List.mem_map.2 ⟨e, he, rfl⟩)⟩⟩, ?_⟩
  · have := (fits_re (m := look m) h.gens c 0 args ha).1
    rw [re0s h.gens args ha] at this
    rw [hv]
    exact this
  · have := (fits_re (m := look m) h.gens c 0 args ha).2
    rw [re0s h.gens args ha] at this
    rw [hv, this] at ht
    exact ht
  · have := stampeds_re h.gens 0 (· = 0) rfl args ha
    rw [re0s h.gens args ha] at this
    exact this
  · rw [hren]
    have := h'.nd
    rw [← names_reM c M'] at this
    exact this
  · rw [hresR]
    refine goR_look (m := m'') ?_ (hk _)
    funext k
    rw [look_upsL, hlook']
    unfold callUs
    rw [hren, ups_append, ups_append, srcs_idN]
    simp only [Bool.false_eq_true, if_false, List.map_nil, ups]
    by_cases hin : k ∈ names (reM c M')
    · have hkM : k ∈ names M := hsub k (by rwa [names_reM] at hin)
      rw [if_pos hkM]
      obtain ⟨e, he, rfl⟩ := List.mem_map.1 hin
      have hnd : ((reM c M').map (·.1)).Nodup := by
        have := h'.nd
        rw [← names_reM c M'] at this
        exact this
      rw [look_of_mem hnd he, ups_some hnd he]
    · rw [ups_other _ _ (by
        simp only [List.map_map]
        exact hin), ups_none]
      by_cases hkM : k ∈ names M
      · rw [if_pos hkM, if_pos hkM, look_no hin]
      · rw [if_neg hkM, if_neg hkM]
end Go.Proofs.YtphggannefpleaaDoor.WL

end
section
/-
  DATA: words of 32 bits.
-/
namespace Go.Proofs.YtphggannefpleaaDoor.WL
open Go

/-- A word as a number. -/
def w32 (w : UInt32) : Int := w.toNat
abbrev wv (w : UInt32) : AV := .v (.int .u32 (w32 w))
def U (ws : List UInt32) : List AV := ws.map wv
@[simp] theorem U_length (ws : List UInt32) : (U ws).length = ws.length := by simp [U]
@[simp] theorem U_closed (ws : List UInt32) : closeds (U ws) = true := by simp [U, closeds_all]
@[simp] theorem U_plain (ws : List UInt32) : plains (U ws) = true := by simp [U, plains_all]
@[simp] theorem U_get (n : Nat) (a : List UInt32) : (U a)[n]? = (a[n]?).map wv := by simp [U]
@[simp] theorem U_getElem (n : Nat) (a : List UInt32) (h : n < (U a).length) : (U a)[n] = wv (a[n]'(by simpa using h)) := by simp [U]
theorem U_set (L : List UInt32) (j : Nat) (x : UInt32) : (U L).set j (wv x) = U (L.set j x) := by simp [U, List.map_set]
@[simp] theorem U_nil : U [] = [] := rfl
def zeros32 (n : Nat) : List UInt32 := List.replicate n 0
@[simp] theorem zeros32_length (n : Nat) : (zeros32 n).length = n := by simp [zeros32]
@[simp] theorem rep_word (n : Nat) : rep n (.v (.int .u32 0)) = U (zeros32 n) := by simp [rep, U, zeros32]; exact .inr rfl
theorem fill_zeros32 (g : List UInt32) (n j : Nat) (hj : j < g.length) (h : g.length ≤ n) : (g.take j ++ zeros32 (n - j)).set j g[j] = g.take (j + 1) ++ zeros32 (n - (j + 1)) := by
  have e : n - j = (n - (j + 1)) + 1 := by omega
  have e2 : j - (g.take j).length = 0 := by rw [List.length_take]; omega
  have e3 : g.take (j + 1) = g.take j ++ [g[j]] := by rw [List.take_add_one, List.getElem?_eq_getElem hj]; rfl
  rw [e, List.set_append_right _ _ (by rw [List.length_take]; omega), e2, e3, List.append_assoc]
  rfl

/-! The operations. -/
theorem u32_lt (a : UInt32) : a.toNat < 4294967296 := a.toNat_lt
theorem u32_add (a b : UInt32) : IntKind.u32.wrap (w32 a + w32 b) = w32 (a + b) := by
  unfold w32
  rw [u32_mod, UInt32.toNat_add]
  omega
theorem u32_id (a : UInt32) : IntKind.u32.wrap (w32 a) = w32 a := by
  unfold w32
  have := u32_lt a
  rw [u32_mod]
  omega
theorem ofInt_u32 (a : UInt32) : BitVec.ofInt 32 (w32 a) = a.toBitVec := by
  unfold w32
  apply BitVec.eq_of_toNat_eq
  have := u32_lt a
  rw [BitVec.toNat_ofInt]
  show ((a.toNat : Int) % ((2 ^ 32 : Nat) : Int)).toNat = a.toNat
  omega
theorem u32_xor (a b : UInt32) : bitsOp .xor .u32 (w32 a) (w32 b) = w32 (a ^^^ b) := by
  simp only [bitsOp, IntKind.bits, ofInt_u32]
  exact u32_id (a ^^^ b)
theorem u32_and (a b : UInt32) : bitsOp .and .u32 (w32 a) (w32 b) = w32 (a &&& b) := by
  simp only [bitsOp, IntKind.bits, ofInt_u32]
  exact u32_id (a &&& b)
theorem u32_or (a b : UInt32) : bitsOp .or .u32 (w32 a) (w32 b) = w32 (a ||| b) := by
  simp only [bitsOp, IntKind.bits, ofInt_u32]
  exact u32_id (a ||| b)
theorem u32_not (a : UInt32) : bitsOp .xor .u32 4294967295 (w32 a) = w32 (~~~a) := by
  have e : (4294967295 : Int) = w32 4294967295 := rfl
  rw [e, u32_xor]
  congr 2
@[simp] theorem un_xor (a : UInt32) : unV .xor (.int .u32 (w32 a)) = some (.int .u32 (w32 (~~~a))) := by
  have e : IntKind.max .u32 = 4294967295 := by decide
  simp only [unV, IntKind.signed, e, Bool.false_eq_true, if_false, u32_not]
theorem u32_shl (a : UInt32) (n : Nat) (h : n < 32) : IntKind.u32.wrap (w32 a * 2 ^ n) = w32 (a <<< UInt32.ofNat n) := by
  unfold w32
  rw [u32_mod, UInt32.toNat_shiftLeft, Nat.shiftLeft_eq]
  have e : (UInt32.ofNat n).toNat % 32 = n := by
    rw [UInt32.toNat_ofNat']
    omega
  rw [e]
  have e2 : ((a.toNat : Int) * 2 ^ n) = ((a.toNat * 2 ^ n : Nat) : Int) := by simp
  rw [e2]
  omega
theorem u32_shr (a : UInt32) (n : Nat) (h : n < 32) : (w32 a).fdiv (2 ^ n) = w32 (a >>> UInt32.ofNat n) := by
  unfold w32
  rw [Int.fdiv_eq_ediv_of_nonneg _ (Int.le_of_lt (Int.pow_pos (by decide))), UInt32.toNat_shiftRight, Nat.shiftRight_eq_div_pow]
  have e : (UInt32.ofNat n).toNat % 32 = n := by
    rw [UInt32.toNat_ofNat']
    omega
  rw [e]
  simp
theorem u32_byte (b : UInt8) : IntKind.u32.wrap (b.toNat : Int) = w32 b.toUInt32 := by
  unfold w32
  have := b.toNat_lt
  rw [u32_mod]
  show _ = ((b.toNat : Nat) : Int)
  omega
theorem u8_word (w : UInt32) : u8 (w32 w) = w.toUInt8 := by
  unfold w32
  apply UInt8.toNat_inj.1
  have := u8_toNat (w.toNat : Int)
  have h2 : w.toUInt8.toNat = w.toNat % 256 := UInt32.toNat_toUInt8 w
  omega
end Go.Proofs.YtphggannefpleaaDoor.WL

end
section
/-
  CHAPTER 01: what reading and writing is, without any program.
-/
namespace Go.Proofs.YtphggannefpleaaDoor.WL
open Go

/-- The number that bytes are, the highest first. -/
def beVal (bs : Bytes) : Nat := bs.foldl (fun v b => v * 256 + b.toNat) 0
/-- A reader: what was read, what is left, whether something was wrong. -/
structure Rd where
  pre : Bytes
  s : Bytes
  bad : Bool
def Rd.fault : Rd := ⟨[], [], true⟩
def Rd.of (bs : Bytes) : Rd := ⟨[], bs, false⟩
def Rd.ok (r : Rd) (k : Int) : Bool := !r.bad && decide (0 ≤ k) && decide (k ≤ r.s.length)
/-- The next bytes, and the reader behind them. -/
def Rd.got (r : Rd) (k : Int) : Bytes := if r.ok k = true then r.s.take k.toNat else []
def Rd.skip (r : Rd) (k : Int) : Rd := if r.ok k = true then ⟨r.pre ++ r.s.take k.toNat, r.s.drop k.toNat, false⟩ else Rd.fault
def Rd.num (r : Rd) : Int := IntKind.i64.wrap (beVal (r.got 8) : Nat)
def Rd.num' (r : Rd) : Rd := r.skip 8
def Rd.inOk (r : Rd) (lo hi : Int) : Bool := !r.num'.bad && decide (lo ≤ r.num) && decide (r.num ≤ hi)
def Rd.inn (r : Rd) (lo hi : Int) : Int := if r.inOk lo hi = true then r.num else 0
def Rd.inn' (r : Rd) (lo hi : Int) : Rd := if r.inOk lo hi = true then r.num' else Rd.fault
/-- How many bytes a text has. -/
def Rd.len (r : Rd) (most : Int) : Int := if most < (beVal (r.got 4) : Int) then -1 else (beVal (r.got 4) : Int)
def Rd.text (r : Rd) (most : Int) : Bytes := (r.skip 4).got (r.len most)
def Rd.text' (r : Rd) (most : Int) : Rd := (r.skip 4).skip (r.len most)
def Rd.dg' (r : Rd) : Rd := r.skip 32
def Rd.done (r : Rd) : Bool := !r.bad && decide (r.s = [])

theorem Rd.got_len (r : Rd) (k : Nat) : (r.got k).length = 0 ∨ (r.got k).length = k := by
  unfold Rd.got Rd.ok
  split
  · rename_i h
    simp only [Bool.and_eq_true, decide_eq_true_eq] at h
    right
    rw [List.length_take]
    omega
  · left; rfl
theorem Rd.got_le (r : Rd) (k : Nat) : (r.got k).length ≤ k := by
  rcases r.got_len k with h | h <;> omega
def Rd.dg (r : Rd) : Dg := ⟨r.got 32 ++ zeros (32 - (r.got 32).length), by
  have h := r.got_le 32
  have e : ((32 : Nat) : Int) = 32 := rfl
  rw [e] at h
  simp only [List.length_append, zeros_length]
  omega⟩
/-! Writing. -/
def be8 (n : Int) : Bytes := [u8 (n / 72057594037927936), u8 (n / 281474976710656), u8 (n / 1099511627776), u8 (n / 4294967296), u8 (n / 16777216), u8 (n / 65536), u8 (n / 256), u8 n]
def be4 (n : Int) : Bytes := [u8 (n / 16777216), u8 (n / 65536), u8 (n / 256), u8 n]
def txt (s : Bytes) : Bytes := be4 s.length ++ s
@[simp] theorem be8_length (n : Int) : (be8 n).length = 8 := rfl
@[simp] theorem be4_length (n : Int) : (be4 n).length = 4 := rfl
@[simp] theorem txt_length (s : Bytes) : (txt s).length = 4 + s.length := by simp [txt]
theorem u8_congr {a b : Int} (h : a % 256 = b % 256) : u8 a = u8 b := by unfold u8; rw [h]
theorem be8_get (n : Int) (t : Nat) (h : t < 8) : (be8 n)[t]? = some (u8 (n / 2 ^ (56 - 8 * t))) := by
  match t, h with
  | 0, _ => simp [be8]
  | 1, _ => simp [be8]
  | 2, _ => simp [be8]
  | 3, _ => simp [be8]
  | 4, _ => simp [be8]
  | 5, _ => simp [be8]
  | 6, _ => simp [be8]
  | 7, _ => simp [be8]
theorem take_snoc {α : Type} (l : List α) (j : Nat) (h : j < l.length) : l.take (j + 1) = l.take j ++ [l[j]] := by
  rw [List.take_add_one, List.getElem?_eq_getElem h]; rfl
/-- As the program reckons it: without a sign. -/
theorem be8_u64 (n : Int) (t : Nat) (h : t < 8) : u8 ((IntKind.u64.wrap n).fdiv (2 ^ (56 - 8 * t))) = u8 (n / 2 ^ (56 - 8 * t)) := by
  rw [u64_mod, Int.fdiv_eq_ediv_of_nonneg _ (Int.le_of_lt (Int.pow_pos (by decide)))]
  apply u8_congr
  match t, h with
  | 0, _ => simp; omega
  | 1, _ => simp; omega
  | 2, _ => simp; omega
  | 3, _ => simp; omega
  | 4, _ => simp; omega
  | 5, _ => simp; omega
  | 6, _ => simp; omega
  | 7, _ => simp
def nums (ns : List Int) : Bytes := ns.flatMap be8
def txts (ss : List Bytes) : Bytes := ss.flatMap txt
def flatD (ds : List Dg) : Bytes := ds.flatMap Dg.bs
theorem flatD_snoc (ns : List Dg) (j : Nat) (h : j < ns.length) : flatD (ns.take (j + 1)) = flatD (ns.take j) ++ ns[j].bs := by
  simp only [flatD, take_snoc _ _ h, List.flatMap_append, List.flatMap_cons, List.flatMap_nil, List.append_nil]
theorem flatD_length (ds : List Dg) : (flatD ds).length = 32 * ds.length := by
  induction ds with
  | nil => rfl
  | cons n ns ih => simp only [flatD, List.flatMap_cons, List.length_append, Dg.length, List.length_cons] at *; omega
theorem flat_snoc (ns : List Bytes) (j : Nat) (h : j < ns.length) : (ns.take (j + 1)).flatten = (ns.take j).flatten ++ ns[j] := by
  simp only [take_snoc _ _ h, List.flatten_append, List.flatten_cons, List.flatten_nil, List.append_nil]
theorem flat_take_le (ss : List Bytes) (j : Nat) : ((ss.take j).flatten).length ≤ (ss.flatten).length := by
  conv => rhs; rw [← List.take_append_drop j ss]
  simp only [List.flatten_append, List.length_append]
  omega
end Go.Proofs.YtphggannefpleaaDoor.WL

end
section
/-
  CHAPTER 02: what the digest is, without any program.
-/
namespace Go.Proofs.YtphggannefpleaaDoor.WL
open Go

/-- A word turned to the right. -/
def rotr (x : UInt32) (n : Nat) : UInt32 := (x >>> UInt32.ofNat n) ||| (x <<< UInt32.ofNat (32 - n))
/-- A word of four bytes, the highest first. -/
def word4 (a b c d : UInt8) : UInt32 := (a.toUInt32 <<< 24) ||| (b.toUInt32 <<< 16) ||| (c.toUInt32 <<< 8) ||| d.toUInt32
def s0 (x : UInt32) : UInt32 := rotr x 7 ^^^ rotr x 18 ^^^ (x >>> 3)
def s1 (x : UInt32) : UInt32 := rotr x 17 ^^^ rotr x 19 ^^^ (x >>> 10)
def words (b : Bytes) : List UInt32 := (List.range 16).map fun i => word4 (b.getD (4 * i) 0) (b.getD (4 * i + 1) 0) (b.getD (4 * i + 2) 0) (b.getD (4 * i + 3) 0)
/-- One word more. -/
def next (w : List UInt32) : UInt32 := w.getD (w.length - 16) 0 + s0 (w.getD (w.length - 15) 0) + w.getD (w.length - 7) 0 + s1 (w.getD (w.length - 2) 0)
def grow : Nat → List UInt32 → List UInt32
  | 0, w => w
  | n + 1, w => grow n w ++ [next (grow n w)]
@[simp] theorem words_length (b : Bytes) : (words b).length = 16 := by simp [words]
@[simp] theorem grow_length (n : Nat) (w : List UInt32) : (grow n w).length = w.length + n := by
  induction n with
  | zero => rfl
  | succ n ih => simp [grow, ih, Nat.add_assoc]
def table : List UInt32 := [
  0x428a2f98, 0x71374491, 0xb5c0fbcf, 0xe9b5dba5, 0x3956c25b, 0x59f111f1, 0x923f82a4, 0xab1c5ed5,
  0xd807aa98, 0x12835b01, 0x243185be, 0x550c7dc3, 0x72be5d74, 0x80deb1fe, 0x9bdc06a7, 0xc19bf174,
  0xe49b69c1, 0xefbe4786, 0x0fc19dc6, 0x240ca1cc, 0x2de92c6f, 0x4a7484aa, 0x5cb0a9dc, 0x76f988da,
  0x983e5152, 0xa831c66d, 0xb00327c8, 0xbf597fc7, 0xc6e00bf3, 0xd5a79147, 0x06ca6351, 0x14292967,
  0x27b70a85, 0x2e1b2138, 0x4d2c6dfc, 0x53380d13, 0x650a7354, 0x766a0abb, 0x81c2c92e, 0x92722c85,
  0xa2bfe8a1, 0xa81a664b, 0xc24b8b70, 0xc76c51a3, 0xd192e819, 0xd6990624, 0xf40e3585, 0x106aa070,
  0x19a4c116, 0x1e376c08, 0x2748774c, 0x34b0bcb5, 0x391c0cb3, 0x4ed8aa4a, 0x5b9cca4f, 0x682e6ff3,
  0x748f82ee, 0x78a5636f, 0x84c87814, 0x8cc70208, 0x90befffa, 0xa4506ceb, 0xbef9a3f7, 0xc67178f2]
@[simp] theorem table_length : table.length = 64 := rfl

structure St where
  a : UInt32
  b : UInt32
  c : UInt32
  d : UInt32
  e : UInt32
  f : UInt32
  g : UInt32
  h : UInt32
def St.list (s : St) : List UInt32 := [s.a, s.b, s.c, s.d, s.e, s.f, s.g, s.h]
def St.p (s : St) (k w : UInt32) : UInt32 := s.h + (rotr s.e 6 ^^^ rotr s.e 11 ^^^ rotr s.e 25) + ((s.e &&& s.f) ^^^ (~~~s.e &&& s.g)) + k + w
def St.q (s : St) : UInt32 := (rotr s.a 2 ^^^ rotr s.a 13 ^^^ rotr s.a 22) + ((s.a &&& s.b) ^^^ (s.a &&& s.c) ^^^ (s.b &&& s.c))
def St.round (s : St) (k w : UInt32) : St := ⟨s.p k w + s.q, s.a, s.b, s.c, s.d + s.p k w, s.e, s.f, s.g⟩
/-- The first n rounds. -/
def rounds (w : List UInt32) : Nat → St → St
  | 0, s => s
  | n + 1, s => (rounds w n s).round (table.getD n 0) (w.getD n 0)
theorem rounds_zero (w : List UInt32) (s : St) : rounds w 0 s = s := rfl
theorem rounds_succ (w : List UInt32) (n : Nat) (s : St) : rounds w (n + 1) s = (rounds w n s).round (table.getD n 0) (w.getD n 0) := rfl
theorem grow_zero (w : List UInt32) : grow 0 w = w := rfl
theorem grow_succ (n : Nat) (w : List UInt32) : grow (n + 1) w = grow n w ++ [next (grow n w)] := rfl
def St.plus (s t : St) : St := ⟨s.a + t.a, s.b + t.b, s.c + t.c, s.d + t.d, s.e + t.e, s.f + t.f, s.g + t.g, s.h + t.h⟩
/-- The state behind a block. -/
def comp (s : St) (b : Bytes) : St := s.plus (rounds (grow 48 (words b)) 64 s)
def iv : St := ⟨0x6a09e667, 0xbb67ae85, 0x3c6ef372, 0xa54ff53a, 0x510e527f, 0x9b05688c, 0x1f83d9ab, 0x5be0cd19⟩
/-- The state behind n blocks. -/
def hb : Nat → Bytes → St
  | 0, _ => iv
  | n + 1, b => comp (hb n b) ((b.drop (64 * n)).take 64)
/-- What stands behind the bytes: a mark, zeros, how many bits. -/
def fillN (n : Nat) : Nat := (119 - n % 64) % 64
def pad (b : Bytes) : Bytes := b ++ (128 :: (zeros (fillN b.length) ++ be8 (8 * b.length : Nat)))
def wbytes (x : UInt32) : Bytes := [(x >>> 24).toUInt8, (x >>> 16).toUInt8, (x >>> 8).toUInt8, x.toUInt8]
def St.bytes (s : St) : Bytes := s.list.flatMap wbytes
@[simp] theorem St.bytes_length (s : St) : s.bytes.length = 32 := rfl
/-- THE DIGEST. -/
def sha (b : Bytes) : Dg := ⟨(hb ((pad b).length / 64) (pad b)).bytes, rfl⟩

theorem hb_append (n : Nat) (b c : Bytes) (h : 64 * n ≤ b.length) : hb n (b ++ c) = hb n b := by
  induction n with
  | zero => rfl
  | succ n ih =>
    simp only [hb]
    rw [ih (by omega), List.drop_append_of_le_length (by omega), List.take_append_of_le_length (by rw [List.length_drop]; omega)]
end Go.Proofs.YtphggannefpleaaDoor.WL

end
section
/-
  CHAPTER 03: hash trees, without any program.
-/
namespace Go.Proofs.YtphggannefpleaaDoor.WL
open Go
attribute [local irreducible] sha

def leafD (b : Bytes) : Dg := sha (0 :: b)
def pairD (a b : Dg) : Dg := sha (1 :: (a.bs ++ b.bs))
attribute [local irreducible] leafD pairD
/-- The row above. -/
def upD : List Dg → List Dg
  | a :: b :: r => pairD a b :: upD r
  | [a] => [a]
  | [] => []
theorem upD_length : ∀ l : List Dg, (upD l).length = (l.length + 1) / 2
  | [] => by simp [upD]
  | [a] => by simp [upD]
  | a :: b :: r => by
    simp only [upD, List.length_cons, upD_length r]
    omega
theorem upD_get : ∀ (l : List Dg) (i : Nat) (h : 2 * i + 1 < l.length), (upD l)[i]? = some (pairD l[2 * i] l[2 * i + 1])
  | [], i, h => by simp at h
  | [a], i, h => by simp at h
  | a :: b :: r, 0, h => rfl
  | a :: b :: r, i + 1, h => by
    simp only [upD, List.getElem?_cons_succ]
    have h' : 2 * i + 1 < r.length := by simp only [List.length_cons] at h; omega
    rw [upD_get r i h']
    rfl
theorem upD_last : ∀ (l : List Dg) (i : Nat) (h : 2 * i + 1 = l.length), (upD l)[i]? = some l[2 * i]
  | [], i, h => by simp at h
  | [a], i, h => by
    have : i = 0 := by simp at h; omega
    subst this
    rfl
  | a :: b :: r, 0, h => by simp only [List.length_cons] at h; omega
  | a :: b :: r, i + 1, h => by
    simp only [upD, List.getElem?_cons_succ]
    have h' : 2 * i + 1 = r.length := by simp only [List.length_cons] at h; omega
    rw [upD_last r i h']
    rfl
theorem upD_pair (l : List Dg) (i : Nat) (h : 2 * i + 1 < l.length) : (upD l).take (i + 1) = (upD l).take i ++ [pairD l[2 * i] l[2 * i + 1]] := by
  rw [List.take_add_one, upD_get l i h]
  rfl
theorem upD_one (l : List Dg) (i : Nat) (h : 2 * i + 1 = l.length) : (upD l).take (i + 1) = (upD l).take i ++ [l[2 * i]] := by
  rw [List.take_add_one, upD_last l i h]
  rfl
theorem upD_all (l : List Dg) (i : Nat) (h : l.length ≤ 2 * i) : (upD l).take i = upD l := by
  apply List.take_of_length_le
  rw [upD_length]
  omega
/-- The topmost. -/
def rootD (l : List Dg) : Dg :=
  match l with
  | [] => sha []
  | [a] => a
  | a :: b :: r => rootD (upD (a :: b :: r))
termination_by l.length
decreasing_by
  rw [upD_length]
  simp only [List.length_cons]
  omega
theorem rootD_nil : rootD [] = sha [] := by rw [rootD]
theorem rootD_one (a : Dg) : rootD [a] = a := by rw [rootD]
theorem rootD_up (l : List Dg) (h : 1 < l.length) : rootD l = rootD (upD l) := by
  match l, h with
  | a :: b :: r, _ => rw [rootD]
/-- The neighbour's place. -/
def sib (at_ : Nat) : Nat := if at_ % 2 = 1 then at_ - 1 else at_ + 1
/-- What stands beside a leaf's way to the root, from below. -/
def pathD (l : List Dg) (at_ : Nat) : List Dg :=
  if h : 1 < l.length then (l[sib at_]?).toList ++ pathD (upD l) (at_ / 2) else []
termination_by l.length
decreasing_by
  rw [upD_length]
  omega
theorem pathD_up (l : List Dg) (at_ : Nat) (h : 1 < l.length) : pathD l at_ = (l[sib at_]?).toList ++ pathD (upD l) (at_ / 2) := by rw [pathD, dif_pos h]
theorem pathD_end (l : List Dg) (at_ : Nat) (h : l.length ≤ 1) : pathD l at_ = [] := by rw [pathD, dif_neg (by omega)]
/-- Does a path lead to the root? -/
def checkD (root leaf : Dg) (at_ count : Nat) (path : List Dg) : Bool :=
  if h : 1 < count then
    if count ≤ sib at_ then checkD root leaf (at_ / 2) ((count + 1) / 2) path
    else match path with
      | [] => false
      | p :: ps => checkD root (if at_ % 2 = 1 then pairD p leaf else pairD leaf p) (at_ / 2) ((count + 1) / 2) ps
  else decide (path = []) && decide (leaf = root)
termination_by count
theorem checkD_end (root leaf : Dg) (at_ count : Nat) (path : List Dg) (h : count ≤ 1) : checkD root leaf at_ count path = (decide (path = []) && decide (leaf = root)) := by
  rw [checkD.eq_def, dif_neg (by omega)]
theorem checkD_up (root leaf : Dg) (at_ count : Nat) (path : List Dg) (h : 1 < count) (hs : count ≤ sib at_) : checkD root leaf at_ count path = checkD root leaf (at_ / 2) ((count + 1) / 2) path := by
  rw [checkD.eq_def, dif_pos h, if_pos hs]
theorem checkD_none (root leaf : Dg) (at_ count : Nat) (h : 1 < count) (hs : ¬ count ≤ sib at_) : checkD root leaf at_ count [] = false := by
  rw [checkD.eq_def, dif_pos h, if_neg hs]
theorem checkD_pair (root leaf : Dg) (at_ count : Nat) (p : Dg) (ps : List Dg) (h : 1 < count) (hs : ¬ count ≤ sib at_) :
    checkD root leaf at_ count (p :: ps) = checkD root (if at_ % 2 = 1 then pairD p leaf else pairD leaf p) (at_ / 2) ((count + 1) / 2) ps := by
  rw [checkD.eq_def, dif_pos h, if_neg hs]
/-- The neighbour's place, as the program reckons it. -/
theorem xor_sib (at_ : Nat) (h : at_ < 9223372036854775807) : bitsOp .xor .i64 (at_ : Int) 1 = (sib at_ : Int) := by
  simp only [bitsOp, BitVec.toNat_xor, BitVec.toNat_ofInt]
  have e1 : ((at_ : Int) % ((2 ^ IntKind.i64.bits : Nat) : Int)).toNat = at_ := by
    rw [← Int.natCast_emod, Int.toNat_natCast, Nat.mod_eq_of_lt (by simp only [IntKind.bits]; omega)]
  have e2 : ((1 : Int) % ((2 ^ IntKind.i64.bits : Nat) : Int)).toNat = 1 := by decide
  rw [e1, e2]
  have e3 : at_ ^^^ 1 = sib at_ := by
    unfold sib
    split
    · rename_i ho
      obtain ⟨k, rfl⟩ : ∃ k, at_ = 2 * k + 1 := ⟨at_ / 2, by omega⟩
      apply Nat.eq_of_testBit_eq
      intro i
      cases i with
      | zero => rw [Nat.testBit_xor]; simp [Nat.testBit_zero]; try omega
      | succ i => rw [Nat.testBit_xor, Nat.testBit_succ, Nat.testBit_succ, Nat.testBit_succ]; simp; try (congr 1; omega)
    · rename_i ho
      obtain ⟨k, rfl⟩ : ∃ k, at_ = 2 * k := ⟨at_ / 2, by omega⟩
      apply Nat.eq_of_testBit_eq
      intro i
      cases i with
      | zero => rw [Nat.testBit_xor]; simp [Nat.testBit_zero]; try omega
      | succ i => rw [Nat.testBit_xor, Nat.testBit_succ, Nat.testBit_succ, Nat.testBit_succ]; simp; try (congr 1; omega)
  rw [e3, IntKind.wrap_i64]
  unfold sib
  split <;> omega
end Go.Proofs.YtphggannefpleaaDoor.WL

end
section
/-
  CHAPTER 04: signatures by keys that are used once, without any program.
-/
namespace Go.Proofs.YtphggannefpleaaDoor.WL
open Go
attribute [local irreducible] sha leafD pairD

def secB (seed : Dg) (leaf : Int) (n : Nat) : Bytes := 2 :: (seed.bs ++ (be8 leaf ++ be8 (n : Int)))
theorem secB_len (seed : Dg) (leaf : Int) (n : Nat) : (secB seed leaf n).length = 49 := by simp [secB]
/-- A secret: for a bit and what it may be. -/
def secD (seed : Dg) (leaf : Int) (bit is : Nat) : Dg := sha (secB seed leaf (2 * bit + is))
def shutD (s : Dg) : Dg := sha s.bs
/-- A digest's bit. -/
def bitD (d : Dg) (i : Nat) : Nat := (d.bs.getD (i / 8) 0).toNat / 2 ^ (7 - i % 8) % 2
theorem bitD_le (d : Dg) (i : Nat) : bitD d i = 0 ∨ bitD d i = 1 := by
  unfold bitD
  omega
attribute [local irreducible] secD shutD bitD
def pubL (seed : Dg) (leaf : Int) : Nat → List Dg
  | 0 => []
  | n + 1 => pubL seed leaf n ++ [shutD (secD seed leaf n 0), shutD (secD seed leaf n 1)]
theorem pubL_length (seed : Dg) (leaf : Int) (n : Nat) : (pubL seed leaf n).length = 2 * n := by
  induction n with
  | zero => rfl
  | succ n ih => simp only [pubL, List.length_append, ih, List.length_cons, List.length_nil]; omega
def wholeD (l : List Dg) : Dg := sha (flatD l)
/-- A public half. -/
def pubD (seed : Dg) (leaf : Int) (N : Nat) : Dg := wholeD (pubL seed leaf N)
def openL (seed : Dg) (leaf : Int) (d : Dg) : Nat → List Dg
  | 0 => []
  | n + 1 => openL seed leaf d n ++ [secD seed leaf n (bitD d n)]
def shutL (seed : Dg) (leaf : Int) (d : Dg) : Nat → List Dg
  | 0 => []
  | n + 1 => shutL seed leaf d n ++ [shutD (secD seed leaf n (1 - bitD d n))]
@[simp] theorem openL_length (seed : Dg) (leaf : Int) (d : Dg) (n : Nat) : (openL seed leaf d n).length = n := by
  induction n with
  | zero => rfl
  | succ n ih => simp only [openL, List.length_append, ih, List.length_cons, List.length_nil]
@[simp] theorem shutL_length (seed : Dg) (leaf : Int) (d : Dg) (n : Nat) : (shutL seed leaf d n).length = n := by
  induction n with
  | zero => rfl
  | succ n ih => simp only [shutL, List.length_append, ih, List.length_cons, List.length_nil]
/-- Two digests, in a bit's order. -/
def two (b : Nat) (x y : Dg) : List Dg := if b = 0 then [x, y] else [y, x]
def ofL (d : Dg) (o s : List Dg) : Nat → List Dg
  | 0 => []
  | n + 1 => ofL d o s n ++ two (bitD d n) (shutD (o.getD n Dg.zero)) (s.getD n Dg.zero)
theorem two_length (b : Nat) (x y : Dg) : (two b x y).length = 2 := by unfold two; split <;> rfl
theorem ofL_length (d : Dg) (o s : List Dg) (n : Nat) : (ofL d o s n).length = 2 * n := by
  induction n with
  | zero => rfl
  | succ n ih => simp only [ofL, List.length_append, ih, two_length]; omega
/-- Under which public half a signature is right. -/
def ofD (d : Dg) (o s : List Dg) (N : Nat) : Dg := wholeD (ofL d o s N)
/-- A signature's own public half. -/
theorem ofL_fits (seed : Dg) (leaf : Int) (d : Dg) (N : Nat) : ∀ n, n ≤ N → ofL d (openL seed leaf d N) (shutL seed leaf d N) n = pubL seed leaf n := by
  have ho : ∀ M n, n < M → (openL seed leaf d M).getD n Dg.zero = secD seed leaf n (bitD d n) := by
    intro M
    induction M with
    | zero => intro n h; omega
    | succ M ih =>
      intro n h
      simp only [openL, List.getD_eq_getElem?_getD]
      by_cases hm : n < M
      · rw [List.getElem?_append_left (by simpa using hm), ← List.getD_eq_getElem?_getD, ih n hm]
      · have : n = M := by omega
        subst this
        rw [List.getElem?_append_right (by simp)]
        simp
  have hs : ∀ M n, n < M → (shutL seed leaf d M).getD n Dg.zero = shutD (secD seed leaf n (1 - bitD d n)) := by
    intro M
    induction M with
    | zero => intro n h; omega
    | succ M ih =>
      intro n h
      simp only [shutL, List.getD_eq_getElem?_getD]
      by_cases hm : n < M
      · rw [List.getElem?_append_left (by simpa using hm), ← List.getD_eq_getElem?_getD, ih n hm]
      · have : n = M := by omega
        subst this
        rw [List.getElem?_append_right (by simp)]
        simp
  intro n
  induction n with
  | zero => intro _; rfl
  | succ n ih =>
    intro h
    simp only [ofL, pubL]
    rw [ih (by omega), ho N n (by omega), hs N n (by omega)]
    congr 1
    rcases bitD_le d n with hb | hb <;> simp [two, hb]
theorem ofD_fits (seed : Dg) (leaf : Int) (d : Dg) (N : Nat) : ofD d (openL seed leaf d N) (shutL seed leaf d N) N = pubD seed leaf N := by
  unfold ofD pubD
  rw [ofL_fits seed leaf d N N (Nat.le_refl _)]
end Go.Proofs.YtphggannefpleaaDoor.WL

end
section
/-
  CHAPTER 09: requests and replies, without any program.
-/
namespace Go.Proofs.YtphggannefpleaaDoor.WL
open Go

structure Chg where
  kind : Int
  id : Int
  new : Int
  root : Dg
  height : Int
structure Req where
  client : Int
  num : Int
  kind : Int
  key : Bytes
  val : Bytes
  old : Bytes
  ch : Chg
def Chg.av (c : Chg) : AV := .node [.v (.int .i64 c.kind), .v (.int .i64 c.id), .v (.int .i64 c.new), .node [dv c.root, .v (.int .i64 c.height)]]
def Req.av (q : Req) : AV := .node [.v (.int .i64 q.client), .v (.int .i64 q.num), .node [.v (.int .i64 q.kind), .v (.string (mkS q.key)), .v (.string (mkS q.val)), .v (.string (mkS q.old)), q.ch.av]]
def Chg.zero : Chg := ⟨0, 0, 0, Dg.zero, 0⟩
def Req.zero : Req := ⟨0, 0, 0, [], [], [], Chg.zero⟩
@[simp] theorem Req.av_closed (q : Req) : closed q.av = true := by simp [Req.av, Chg.av]
@[simp] theorem Req.av_plain (q : Req) : plain q.av = true := by simp [Req.av, Chg.av]
@[simp] theorem Req.av_solid (q : Req) : q.av.solid = true := (rfl)
@[simp] theorem Req.av_agg (q : Req) : q.av.isAgg = true := (rfl)
@[simp] theorem Req.av_size (q : Req) : q.av.size = 42 := by simp [Req.av, Chg.av]

def Req.bytes (q : Req) : Bytes := nums [q.client, q.num, q.kind] ++ (txts [q.key, q.val, q.old] ++ (nums [q.ch.kind, q.ch.id, q.ch.new, q.ch.height] ++ q.ch.root.bs))
def Req.good (q : Req) : Bool := decide (1 ≤ q.client) && decide (q.client ≤ 64) && decide (1 ≤ q.num) && decide (q.num ≤ 1099511627776) && decide (1 ≤ q.kind) && decide (q.kind ≤ 7) &&
  (decide (q.key.length ≤ 1024) && decide (q.val.length ≤ 1024) && decide (q.old.length ≤ 1024))
/-- Reading: the reader behind so many parts. -/
def Rd.q1 (r : Rd) : Rd := r.inn' 1 64
def Rd.q2 (r : Rd) : Rd := r.q1.inn' 1 1099511627776
def Rd.q3 (r : Rd) : Rd := r.q2.inn' 1 7
def Rd.q4 (r : Rd) : Rd := r.q3.text' 1024
def Rd.q5 (r : Rd) : Rd := r.q4.text' 1024
/-- A reader that found a fault has nothing left. -/
def Rd.sane (r : Rd) : Prop := r.bad = true → r.s = []
structure Rep where
  client : Int
  num : Int
  code : Int
  vals : List Bytes
def Rep.zero : Rep := ⟨0, 0, 0, []⟩
/-- A reply whose texts lie in a slice. -/
def Rep.avS (a : Rep) : AV := .node [.v (.int .i64 a.client), .v (.int .i64 a.num), .v (.int .i64 a.code), .sl 1 (Strs a.vals)]
def Rep.avR (l g : Nat) (a : Rep) : AV := .node [.v (.int .i64 a.client), .v (.int .i64 a.num), .v (.int .i64 a.code), .row l 1 g 0 a.vals.length]
def Rep.bytes (a : Rep) : Bytes := nums [a.client, a.num, a.code, (a.vals.length : Int)] ++ txts a.vals
/-- So many texts. -/
def Rd.tx' (r : Rd) : Nat → Rd
  | 0 => r
  | n + 1 => (r.tx' n).text' 1024
def Rd.tx (r : Rd) : Nat → List Bytes
  | 0 => []
  | n + 1 => r.tx n ++ [(r.tx' n).text 1024]
@[simp] theorem Rd.tx_length (r : Rd) (n : Nat) : (r.tx n).length = n := by
  induction n with
  | zero => rfl
  | succ n ih => simp only [Rd.tx, List.length_append, ih, List.length_cons, List.length_nil]
def Rd.p1 (r : Rd) : Rd := r.inn' 1 64
def Rd.p2 (r : Rd) : Rd := r.p1.inn' 1 1099511627776
def Rd.p3 (r : Rd) : Rd := r.p2.inn' 0 1024
def Rd.p4 (r : Rd) : Rd := r.p3.inn' 0 256
def Rd.repN (r : Rd) : Nat := (r.p3.inn 0 256).toNat
def Rd.rep' (r : Rd) : Rd := r.p4.tx' r.repN
def Rd.rep0 (r : Rd) : Rep := ⟨r.inn 1 64, r.p1.inn 1 1099511627776, r.p2.inn 0 1024, r.p4.tx r.repN⟩
def Rd.rep (r : Rd) : Rep := if r.rep'.bad = true then Rep.zero else r.rep0
end Go.Proofs.YtphggannefpleaaDoor.WL

end
section
/-
  CHAPTER 05: many one-time keys under one root, without any program.
-/
namespace Go.Proofs.YtphggannefpleaaDoor.WL
open Go
attribute [local irreducible] sha leafD pairD secD shutD wholeD pubD ofD

structure Sig where
  leaf : Int
  op : List Dg
  sh : List Dg
  path : List Dg
def Sig.zero : Sig := ⟨0, [], [], []⟩
def Sig.avS (s : Sig) : AV := .node [.v (.int .i64 s.leaf), .node [.sl 32 (Dgs s.op), .sl 32 (Dgs s.sh)], .sl 32 (Dgs s.path)]
/-- A signature whose lists lie in rows of its own. -/
def Sig.avR (a b c g : Nat) (s : Sig) : AV := .node [.v (.int .i64 s.leaf), .node [.row a 32 g 0 s.op.length, .row b 32 g 0 s.sh.length], .row c 32 g 0 s.path.length]
def Sig.rows (a b c g : Nat) (s : Sig) : List (Nat × Loc) := [(a, .rows g 32 (Dgs s.op)), (b, .rows g 32 (Dgs s.sh)), (c, .rows g 32 (Dgs s.path))]
def leafK (p : Dg) : Dg := leafD p.bs
def leavesD (seed : Dg) (N : Nat) : Nat → List Dg
  | 0 => []
  | n + 1 => leavesD seed N n ++ [leafK (pubD seed (n : Int) N)]
@[simp] theorem leavesD_length (seed : Dg) (N n : Nat) : (leavesD seed N n).length = n := by
  induction n with
  | zero => rfl
  | succ n ih => simp only [leavesD, List.length_append, ih, List.length_cons, List.length_nil]
theorem leavesD_get (seed : Dg) (N : Nat) : ∀ (n i : Nat), i < n → (leavesD seed N n)[i]? = some (leafK (pubD seed (i : Int) N))
  | 0, i, h => by omega
  | n + 1, i, h => by
    simp only [leavesD]
    by_cases h1 : i < n
    · rw [List.getElem?_append_left (by simpa using h1)]
      exact leavesD_get seed N n i h1
    · have : i = n := by omega
      subst this
      rw [List.getElem?_append_right (by simp)]
      simp
/-- Whether a signature is right under a key. -/
def checkK (root : Dg) (h : Int) (d : Dg) (s : Sig) : Bool :=
  decide (s.op.length = 32 ∧ s.sh.length = 32) && (decide (0 ≤ h ∧ h ≤ 6) && (decide (0 ≤ s.leaf ∧ s.leaf < ((2 ^ h.toNat : Nat) : Int)) && checkD root (leafK (ofD d s.op s.sh 32)) s.leaf.toNat (2 ^ h.toNat) s.path))
def Sig.ok (s : Sig) : Bool := decide (s.op.length = 32 ∧ s.sh.length = 32 ∧ s.path.length ≤ 6)
def Sig.bytes (s : Sig) : Bytes := nums [s.leaf, (s.path.length : Int)] ++ (flatD s.op ++ (flatD s.sh ++ flatD s.path))
/-- So many digests read. -/
def Rd.ds' (r : Rd) : Nat → Rd
  | 0 => r
  | n + 1 => (r.ds' n).dg'
def Rd.ds (r : Rd) : Nat → List Dg
  | 0 => []
  | n + 1 => r.ds n ++ [(r.ds' n).dg]
@[simp] theorem Rd.ds_length (r : Rd) (n : Nat) : (r.ds n).length = n := by
  induction n with
  | zero => rfl
  | succ n ih => simp only [Rd.ds, List.length_append, ih, List.length_cons, List.length_nil]
def Rd.s2 (r : Rd) : Rd := r.num'.inn' 0 6
def Rd.sN (r : Rd) : Nat := (r.num'.inn 0 6).toNat
def Rd.sig0 (r : Rd) : Sig := ⟨r.num, r.s2.ds 32, (r.s2.ds' 32).ds 32, ((r.s2.ds' 32).ds' 32).ds r.sN⟩
end Go.Proofs.YtphggannefpleaaDoor.WL

end
section
/-
  CHAPTER 02: how the digest is reckoned piece by piece.
-/
namespace Go.Proofs.YtphggannefpleaaDoor.WL
open Go
attribute [local irreducible] comp

/-- The bytes that wait for their block's end. -/
def rem (d : Bytes) : Bytes := d.drop (64 * (d.length / 64))
theorem rem_length (d : Bytes) : (rem d).length = d.length % 64 := by
  simp only [rem, List.length_drop]
  omega
theorem hb_succ (n : Nat) (b : Bytes) : hb (n + 1) b = comp (hb n b) ((b.drop (64 * n)).take 64) := rfl
/-- More bytes, not up to a block's end. -/
theorem hb_more (d x : Bytes) (h : (rem d).length + x.length < 64) : (d ++ x).length / 64 = d.length / 64 ∧ rem (d ++ x) = rem d ++ x ∧ hb ((d ++ x).length / 64) (d ++ x) = hb (d.length / 64) d := by
  rw [rem_length] at h
  have h1 : (d ++ x).length / 64 = d.length / 64 := by rw [List.length_append]; omega
  refine ⟨h1, ?_, ?_⟩
  · rw [rem, h1, List.drop_append_of_le_length (by omega)]
    rfl
  · rw [h1]
    exact hb_append _ _ _ (by omega)
/-- Just to a block's end. -/
theorem hb_full (d x : Bytes) (h : (rem d).length + x.length = 64) : (d ++ x).length / 64 = d.length / 64 + 1 ∧ rem (d ++ x) = [] ∧ hb ((d ++ x).length / 64) (d ++ x) = comp (hb (d.length / 64) d) (rem d ++ x) := by
  have h0 := h
  rw [rem_length] at h
  have hx : 0 < x.length := by omega
  have h1 : (d ++ x).length / 64 = d.length / 64 + 1 := by rw [List.length_append]; omega
  refine ⟨h1, ?_, ?_⟩
  · rw [rem, h1, List.drop_of_length_le (by rw [List.length_append]; omega)]
  · rw [h1, hb_succ, hb_append _ _ _ (by omega), List.drop_append_of_le_length (by omega)]
    congr 1
    show (rem d ++ x).take 64 = _
    exact List.take_of_length_le (by rw [List.length_append]; omega)
theorem fill_small (n : Nat) (h : n % 64 < 56) : fillN n = 55 - n % 64 := by unfold fillN; omega
theorem fill_great (n : Nat) (h : 56 ≤ n % 64) : fillN n = 119 - n % 64 := by unfold fillN; omega
/-- The end, in one block. -/
theorem sha_small (d : Bytes) (h : d.length % 64 < 56) : (sha d).bs = (comp (hb (d.length / 64) d) (rem d ++ 128 :: (zeros (55 - d.length % 64) ++ be8 (8 * d.length : Nat)))).bytes := by
  show (hb ((pad d).length / 64) (pad d)).bytes = _
  have hl := rem_length d
  have e : pad d = d ++ (128 :: (zeros (55 - d.length % 64) ++ be8 (8 * d.length : Nat))) := by rw [pad, fill_small _ h]
  obtain ⟨_, _, h3⟩ := hb_full d (128 :: (zeros (55 - d.length % 64) ++ be8 (8 * d.length : Nat))) (by simp only [List.length_cons, List.length_append, zeros_length, be8_length]; omega)
  rw [e, h3]
/-- The end, in two blocks. -/
theorem sha_great (d : Bytes) (h : 56 ≤ d.length % 64) : (sha d).bs = (comp (comp (hb (d.length / 64) d) (rem d ++ 128 :: zeros (63 - d.length % 64))) (zeros 56 ++ be8 (8 * d.length : Nat))).bytes := by
  show (hb ((pad d).length / 64) (pad d)).bytes = _
  have hl := rem_length d
  have hlt : d.length % 64 < 64 := Nat.mod_lt _ (by decide)
  have e : pad d = (d ++ 128 :: zeros (63 - d.length % 64)) ++ (zeros 56 ++ be8 (8 * d.length : Nat)) := by
    rw [pad, fill_great _ h, show 119 - d.length % 64 = (63 - d.length % 64) + 56 by omega]
    simp only [zeros, ← List.replicate_append_replicate, List.append_assoc, List.cons_append]
  obtain ⟨h1, h2, h3⟩ := hb_full d (128 :: zeros (63 - d.length % 64)) (by simp only [List.length_cons, zeros_length]; omega)
  obtain ⟨_, _, k3⟩ := hb_full (d ++ 128 :: zeros (63 - d.length % 64)) (zeros 56 ++ be8 (8 * d.length : Nat)) (by rw [h2]; simp)
  rw [e, k3, h2, h3, List.nil_append]
end Go.Proofs.YtphggannefpleaaDoor.WL

end
section
/-
  CHAPTER 03: laws of trees, without any program.
-/
namespace Go.Proofs.YtphggannefpleaaDoor.WL
open Go
attribute [local irreducible] sha leafD pairD

theorem upD_at (l : List Dg) (at_ : Nat) (h : at_ < l.length) (h2 : at_ / 2 < (upD l).length) :
    (upD l)[at_ / 2] = if l.length ≤ sib at_ then l[at_] else if at_ % 2 = 1 then pairD (l[sib at_]?.getD l[at_]) l[at_] else pairD l[at_] (l[sib at_]?.getD l[at_]) := by
  rcases Nat.mod_two_eq_zero_or_one at_ with hp | hp
  · have hs : sib at_ = at_ + 1 := by unfold sib; rw [if_neg (by omega)]
    rw [hs]
    by_cases hl : l.length ≤ at_ + 1
    · rw [if_pos hl]
      have h3 := upD_last l (at_ / 2) (by omega)
      rw [List.getElem?_eq_getElem h2] at h3
      have h4 : l[2 * (at_ / 2)]'(by omega) = l[at_] := by congr 1; omega
      rw [Option.some.inj h3, h4]
    · rw [if_neg hl, if_neg (by omega)]
      have h3 := upD_get l (at_ / 2) (by omega)
      rw [List.getElem?_eq_getElem h2] at h3
      have h4 : l[2 * (at_ / 2)]'(by omega) = l[at_] := by congr 1; omega
      have h5 : l[2 * (at_ / 2) + 1]'(by omega) = l[at_ + 1]'(by omega) := by congr 1; omega
      rw [Option.some.inj h3, h4, h5, List.getElem?_eq_getElem (by omega)]
      rfl
  · have hs : sib at_ = at_ - 1 := by unfold sib; rw [if_pos hp]
    rw [hs, if_neg (by omega), if_pos hp]
    have h3 := upD_get l (at_ / 2) (by omega)
    rw [List.getElem?_eq_getElem h2] at h3
    have h4 : l[2 * (at_ / 2)]'(by omega) = l[at_ - 1]'(by omega) := by congr 1; omega
    have h5 : l[2 * (at_ / 2) + 1]'(by omega) = l[at_] := by congr 1; omega
    rw [Option.some.inj h3, h4, h5, List.getElem?_eq_getElem (by omega)]
    rfl
/-- Each leaf's path leads to the root. -/
theorem checkD_path : ∀ (n : Nat) (l : List Dg) (at_ : Nat) (h : at_ < l.length), l.length ≤ n → checkD (rootD l) l[at_] at_ l.length (pathD l at_) = true
  | n, l, at_, h, hn => by
    by_cases h1 : 1 < l.length
    · cases n with
      | zero => omega
      | succ n =>
        have hul := upD_length l
        have h2 : at_ / 2 < (upD l).length := by omega
        have ih := checkD_path n (upD l) (at_ / 2) h2 (by omega)
        rw [← rootD_up l h1, upD_at l at_ h h2, hul] at ih
        rw [pathD_up l at_ h1]
        by_cases hs : l.length ≤ sib at_
        · rw [if_pos hs] at ih
          rw [checkD_up _ _ _ _ _ h1 hs, List.getElem?_eq_none (by omega)]
          exact ih
        · rw [if_neg hs] at ih
          have hg : l[sib at_]? = some (l[sib at_]'(by omega)) := List.getElem?_eq_getElem (by omega)
          rw [hg] at ih ⊢
          show checkD _ _ _ _ (_ :: _) = true
          rw [checkD_pair _ _ _ _ _ _ h1 hs]
          exact ih
    · have : at_ = 0 := by omega
      subst this
      obtain ⟨a, rfl⟩ : ∃ a, l = [a] := List.length_eq_one_iff.1 (by omega)
      rw [checkD_end _ _ _ _ _ (by simp), pathD_end _ _ (by simp), rootD_one]
      simp
end Go.Proofs.YtphggannefpleaaDoor.WL

end
section
/-
  CHAPTER 01: what the laws say, without any program.
-/
namespace Go.Proofs.YtphggannefpleaaDoor.WL
open Go

structure Part where
  kind : Int
  num : Int
  text : Bytes
  dg : Dg
  lo : Int
  hi : Int
def Part.av (p : Part) : AV := .node [.v (.int .i64 p.kind), .v (.int .i64 p.num), .v (.string (mkS p.text)), dv p.dg, .v (.int .i64 p.lo), .v (.int .i64 p.hi)]
abbrev Ty.parts : Ty := .sl 37 80 (.st [.int .i64, .int .i64, .str, Ty.dg, .int .i64, .int .i64])
def Part.out (p : Part) : Bytes := if p.kind = 1 then txt p.text else if p.kind = 2 then p.dg.bs else be8 p.num
def Part.same (p : Part) (r : Rd) : Bool := if p.kind = 1 then r.text p.text.length == p.text else if p.kind = 2 then decide (r.dg = p.dg) else decide (r.inn p.num p.num = p.num)

/-! What is read is what was written. -/
/-- What a call reads, is written down. -/
def Part.put (p : Part) (r : Rd) : Bytes := if p.kind = 1 then txt (r.text p.num) else if p.kind = 2 then r.dg.bs else if p.kind = 3 then be8 (r.inn p.lo p.hi) else be8 r.num
def Part.next (p : Part) (r : Rd) : Rd := if p.kind = 1 then r.text' p.num else if p.kind = 2 then r.dg' else if p.kind = 3 then r.inn' p.lo p.hi else r.num'

end Go.Proofs.YtphggannefpleaaDoor.WL

end
section
/-
  CHAPTER 01: what is written is read; readers that have more behind them. Without any program.
-/
namespace Go.Proofs.YtphggannefpleaaDoor.WL
open Go

/-! A reader with more behind it. -/
def Rd.ext (r : Rd) (t : Bytes) : Rd := ⟨r.pre, r.s ++ t, r.bad⟩
@[simp] theorem Rd.ext_bad (r : Rd) (t : Bytes) : (r.ext t).bad = r.bad := rfl
/-! Bytes tell what they are of. -/
end Go.Proofs.YtphggannefpleaaDoor.WL

end
section
/-
  CHAPTER 05: laws of keys, without any program.
-/
namespace Go.Proofs.YtphggannefpleaaDoor.WL
open Go
attribute [local irreducible] sha leafD pairD secD shutD wholeD pubD ofD

def signK (seed : Dg) (ls : List Dg) (n : Nat) (d : Dg) (N : Nat) : Sig := ⟨(n : Int), openL seed (n : Int) d N, shutL seed (n : Int) d N, pathD ls n⟩
/-- A tree's signature is right under its key. -/
theorem sign_checks (seed : Dg) (h n : Nat) (d : Dg) (hh : h ≤ 6) (hn : n < 2 ^ h) : checkK (rootD (leavesD seed 32 (2 ^ h))) (h : Int) d (signK seed (leavesD seed 32 (2 ^ h)) n d 32) = true := by
  have hl := leavesD_length seed 32 (2 ^ h)
  have hg := leavesD_get seed 32 (2 ^ h) n hn
  unfold checkK signK
  rw [ofD_fits, Int.toNat_natCast, Int.toNat_natCast]
  generalize 2 ^ h = q at *
  generalize leavesD seed 32 q = l at *
  have hnl : n < l.length := by omega
  have hp := checkD_path l.length l n hnl (Nat.le_refl _)
  rw [List.getElem?_eq_getElem hnl] at hg
  rw [Option.some.inj hg, hl] at hp
  have h6 : (h : Int) ≤ 6 := by omega
  have hnq : (n : Int) < (q : Int) := by omega
  simp [hp, h6, hnq, hh, hn]
end Go.Proofs.YtphggannefpleaaDoor.WL

end
section
/-
  A WALK OVER A MAP FROM NUMBERS THAT STRIKES ENTRIES, raw; no program in sight.
-/
namespace Go.Proofs.YtphggannefpleaaDoor.WL
open Go
open Go.ChangeMaps (setBlock)

/-- Entries: numbers, each with its stamp; all are true. -/
def opP (K : List (Int × Nat)) : List (List Value × List Value × Nat) := K.map fun p => ([.int .i64 p.1], [.bool true], p.2)
def opR (K : List (Int × Nat)) : Array MapEntry := ((opP K).map (entOf false false)).toArray
def entN (p : Int × Nat) : MapEntry := entOf false false ([.int .i64 p.1], [.bool true], p.2)
theorem entN_key (p : Int × Nat) : (entN p).key = .int .i64 p.1 := rfl
theorem entN_val (p : Int × Nat) : (entN p).val = .bool true := rfl
theorem entN_born (p : Int × Nat) : (entN p).born = p.2 := rfl
theorem opR_list (K : List (Int × Nat)) : (opR K).toList = K.map entN := by simp [opR, opP, entN]

structure OpOk (K : List (Int × Nat)) (clock : Nat) : Prop where
  old : ∀ p ∈ K, p.2 < clock
  nd : (K.map (·.2)).Nodup
  keys : (K.map (·.1)).Nodup
theorem OpOk.filter {K : List (Int × Nat)} {clock : Nat} (h : OpOk K clock) (f : Int × Nat → Bool) : OpOk (K.filter f) clock :=
  ⟨fun p hp => h.old p (List.mem_filter.1 hp).1, h.nd.sublist (List.filter_sublist.map _), h.keys.sublist (List.filter_sublist.map _)⟩
theorem eq_of_nodup {α : Type} {f : Int × Nat → α} : ∀ {K : List (Int × Nat)} {p q : Int × Nat}, (K.map f).Nodup → p ∈ K → q ∈ K → f p = f q → p = q
  | [], _, _, _, h, _, _ => by cases h
  | x :: K, p, q, hn, hp, hq, e => by
    simp only [List.map_cons, List.nodup_cons] at hn
    rcases List.mem_cons.1 hp with h1 | h1 <;> rcases List.mem_cons.1 hq with h2 | h2
    · rw [h1, h2]
    · exact absurd (List.mem_map.2 ⟨q, h2, by rw [← h1]; exact e.symm⟩) hn.1
    · exact absurd (List.mem_map.2 ⟨p, h1, by rw [← h2]; exact e⟩) hn.1
    · exact eq_of_nodup hn.2 h1 h2 e
theorem erase_filter : ∀ {K : List (Int × Nat)} {j : Nat} {p : Int × Nat}, (K.map (·.1)).Nodup → K[j]? = some p → K.eraseIdx j = K.filter fun q => !decide (q.1 = p.1)
  | [], _, _, _, h => by simp at h
  | x :: K, 0, p, hn, h => by
    simp only [List.map_cons, List.nodup_cons] at hn
    obtain rfl : x = p := by simpa using h
    rw [List.eraseIdx_cons_zero, List.filter_cons_of_neg (by simp)]
    refine (List.filter_eq_self.2 fun q hq => ?_).symm
    have : q.1 ≠ x.1 := fun e => hn.1 (e ▸ List.mem_map.2 ⟨q, hq, rfl⟩)
    simpa using this
  | x :: K, j + 1, p, hn, h => by
    simp only [List.map_cons, List.nodup_cons] at hn
    have h1 : K[j]? = some p := by simpa using h
    have hpm := List.mem_of_getElem? h1
    have : x.1 ≠ p.1 := fun e => hn.1 (e ▸ List.mem_map.2 ⟨p, hpm, rfl⟩)
    rw [List.eraseIdx_cons_succ, List.filter_cons_of_pos (by simpa using this), erase_filter hn.2 h1]

/-- Block r goes over the map in block b; these stamps have come. -/
structure WalkD (w : World) (b r clock : Nat) (K : List (Int × Nat)) (seen : List Nat) : Prop where
  map : w.heap[b]? = some (.map (opR K) clock)
  it : w.heap[r]? = some (.mapIter (some b) clock seen.toArray clock)
theorem WalkD.ne {w : World} {b r clock : Nat} {K : List (Int × Nat)} {seen : List Nat} (h : WalkD w b r clock K seen) : b ≠ r := by
  rintro rfl
  have := h.map.symm.trans h.it
  cases this
theorem lt_of_heap {w : World} {b : Nat} {o : Obj} (h : w.heap[b]? = some o) : b < w.heap.size := by
  rcases Nat.lt_or_ge b w.heap.size with k | k
  · exact k
  · rw [Array.getElem?_eq_none k] at h; cases h
theorem WalkD.grown {w w' : World} {b r clock : Nat} {K : List (Int × Nat)} {seen : List Nat} (h : WalkD w b r clock K seen) (hg : w.grownBy w' none) : WalkD w' b r clock K seen :=
  ⟨(hg.block b (lt_of_heap h.map) (by simp)).trans h.map, (hg.block r (lt_of_heap h.it) (by simp)).trans h.it⟩

/-- How many are still to come, read off the world. -/
def leftD (K0 : List (Int × Nat)) (w : World) (r : Nat) : Nat := match w.heap[r]? with
  | some (.mapIter _ _ seen _) => (K0.filter fun q => !decide (q.2 ∈ seen.toList)).length
  | _ => 0
theorem WalkD.leftD {w : World} {b r clock : Nat} {K K0 : List (Int × Nat)} {seen : List Nat} (h : WalkD w b r clock K seen) : leftD K0 w r = (K0.filter fun q => !decide (q.2 ∈ seen)).length := by
  simp [WL.leftD, h.it]
theorem left_lt {K0 : List (Int × Nat)} {seen : List Nat} {p : Int × Nat} (hp : p ∈ K0) (hn : p.2 ∉ seen) : (K0.filter fun q => !decide (q.2 ∈ seen ++ [p.2])).length < (K0.filter fun q => !decide (q.2 ∈ seen)).length := by
  induction K0 with
  | nil => cases hp
  | cons x K ih =>
    have hle : (K.filter fun q => !decide (q.2 ∈ seen ++ [p.2])).length ≤ (K.filter fun q => !decide (q.2 ∈ seen)).length := by
      rw [← List.countP_eq_length_filter, ← List.countP_eq_length_filter]
      refine List.countP_mono_left fun q _ hq => ?_
      simp only [List.mem_append, Bool.not_eq_true', decide_eq_false_iff_not, not_or] at hq ⊢
      exact hq.1
    rcases List.mem_cons.1 hp with rfl | hp
    · rw [List.filter_cons_of_neg (by simp), List.filter_cons_of_pos (by simpa using hn)]
      simp only [List.length_cons]
      omega
    · have := ih hp
      by_cases hx : x.2 ∈ seen
      · rw [List.filter_cons_of_neg (by simp [hx]), List.filter_cons_of_neg (by simp [hx])]
        exact this
      · by_cases hx2 : x.2 = p.2
        · rw [List.filter_cons_of_neg (by simp [hx2]), List.filter_cons_of_pos (by simp [hx])]
          simp only [List.length_cons]
          omega
        · rw [List.filter_cons_of_pos (by simp [hx, hx2]), List.filter_cons_of_pos (by simp [hx])]
          simp only [List.length_cons]
          omega
/-- What is left of the entries when these have been looked at. -/
def struckK (pd : Int → Bool) (K0 : List (Int × Nat)) (seen : List Nat) : List (Int × Nat) := K0.filter fun q => !(decide (q.2 ∈ seen) && pd q.1)
theorem struck_nil (pd : Int → Bool) (K0 : List (Int × Nat)) : struckK pd K0 [] = K0 := by simp [struckK]
theorem struck_mem {pd : Int → Bool} {K0 : List (Int × Nat)} {seen : List Nat} {p : Int × Nat} (h : p ∈ struckK pd K0 seen) : p ∈ K0 := (List.mem_filter.1 h).1
theorem struck_stays {pd : Int → Bool} {K0 : List (Int × Nat)} {clock : Nat} (ok : OpOk K0 clock) {seen : List Nat} {p : Int × Nat} (hp : p ∈ K0) (h : pd p.1 = false) : struckK pd K0 (seen ++ [p.2]) = struckK pd K0 seen := by
  unfold struckK
  refine List.filter_congr fun q hq => ?_
  by_cases e : q.2 = p.2
  · have := eq_of_nodup ok.nd hq hp e
    subst this
    simp [h]
  · simp [e]
theorem struck_goes {pd : Int → Bool} {K0 : List (Int × Nat)} {clock : Nat} (ok : OpOk K0 clock) {seen : List Nat} {p : Int × Nat} (hp : p ∈ K0) (h : pd p.1 = true) :
    ((struckK pd K0 seen).filter fun q => !decide (q.1 = p.1)) = struckK pd K0 (seen ++ [p.2]) := by
  unfold struckK
  rw [List.filter_filter]
  refine List.filter_congr fun q hq => ?_
  by_cases e : q.2 = p.2
  · have := eq_of_nodup ok.nd hq hp e
    subst this
    simp [h]
  · have e1 : q.1 ≠ p.1 := fun e1 => e (congrArg Prod.snd (eq_of_nodup ok.keys hq hp e1))
    simp [e, e1]
theorem struck_end {pd : Int → Bool} {K0 : List (Int × Nat)} {seen : List Nat} (h : ∀ p ∈ struckK pd K0 seen, p.2 ∈ seen) : struckK pd K0 seen = K0.filter fun q => !pd q.1 := by
  unfold struckK at *
  refine List.filter_congr fun q hq => ?_
  cases hp : pd q.1 with
  | false => simp
  | true =>
    by_cases hs : q.2 ∈ seen
    · simp [hs]
    · exact absurd (h q (List.mem_filter.2 ⟨hq, by simp [hs]⟩)) hs

section
variable {P : Program} (w : World) {ops : Array Oper} {rest : List Oper} {o : Oper} {a : Act} {Q : Exit → Act → World → Prop}
theorem wpList_range_rawD (hg : o.guard = none) (m : Operand) (t : TypeId) (hop : o.op = Op.range t m) (k e : TypeId) (ht : P.underlying t = some (.map k e)) (b : Nat) (K : List (Int × Nat)) (clock : Nat)
    (hm : a.eval m = .map (some b)) (hb : w.heap[b]? = some (.map (opR K) clock))
    (hK : ∀ w', WalkD w' b w.heap.size clock K [] → w.grownBy w' none → w'.heap.size = w.heap.size + 1 → wpList P ops Q rest (a.put o.dst (.pointer (some ⟨w.heap.size, 0, none⟩))) w') :
    wpList P ops Q (o :: rest) a w := by
  refine wpList_plain hg fun K' hK' => ?_
  have hlt := lt_of_heap hb
  have hrun := run_range_map w t k e b (opR K) clock ht hb
  unfold Oper.wp
  simp [execOp, hop, hm, hrun, Result.andThen]
  exact hK' _ _ (hK _ ⟨((MapKept.heap_alloc w _).2 b hlt).trans hb, (MapKept.heap_alloc w _).1⟩ (World.grownBy_alloc w _ none) (by simp))
theorem wpList_next_rawD (hg : o.guard = none) (it : Operand) (hop : o.op = Op.next it false) (b r clock : Nat) (K : List (Int × Nat)) (seen : List Nat) (ok : OpOk K clock)
    (hit : a.eval it = .pointer (some ⟨r, 0, none⟩)) (h : WalkD w b r clock K seen)
    (hDone : (∀ p ∈ K, p.2 ∈ seen) → wpList P ops Q rest (a.put o.dst (.tuple #[.bool false])) w)
    (hMore : ∀ (p : Int × Nat) (w' : World), p ∈ K → p.2 ∉ seen → WalkD w' b r clock K (seen ++ [p.2]) → w.grownBy w' (some r) → w'.heap.size = w.heap.size →
      (Instr.entry (.pointer (some ⟨r, 0, none⟩))).run P w' = .ok (.tuple #[.int .i64 p.1, .bool true]) w' → wpList P ops Q rest (a.put o.dst (.tuple #[.bool true, .int .i64 p.1, .bool true])) w') :
    wpList P ops Q (o :: rest) a w := by
  refine wpList_plain hg fun K' hK' => ?_
  unfold Oper.wp
  have hold : ∀ x ∈ (opR K).toList, x.born < clock := fun x hx => by
    rw [opR_list] at hx
    obtain ⟨p, hp, rfl⟩ := List.mem_map.1 hx
    exact ok.old p hp
  have hnd : ((opR K).toList.map (·.born)).Nodup := by
    rw [opR_list, List.map_map]
    exact ok.nd
  rcases run_next_at (P := P) w o.type r b clock clock seen.toArray (opR K) clock h.it h.map hold (Nat.le_refl _) with ⟨h0, hrun⟩ | ⟨e, he, w1, hal, hrun⟩
  · simp [execOp, hop, hit, hrun, Result.andThen]
    refine hK' _ _ (hDone fun p hp => ?_)
    have hs := all_seen (opR K) _ h0 (entN p) (by rw [opR_list]; exact List.mem_map.2 ⟨p, hp, rfl⟩)
    simpa [entN_born] using hs
  · have hee : e ∈ (opR K).toList ∧ e.born ∉ seen := by
      have := he
      simp [leftOf] at this ⊢
      exact this
    obtain ⟨p, hp, rfl⟩ : ∃ p ∈ K, entN p = e := by
      have := hee.1
      rw [opR_list] at this
      obtain ⟨p, hp, rfl⟩ := List.mem_map.1 this
      exact ⟨p, hp, rfl⟩
    rw [entN_born, entN_key, entN_val] at hrun
    have hpush : seen.toArray.push p.2 = (seen ++ [p.2]).toArray := by simp
    rw [hpush] at hrun
    have hgr : w.grownBy (setBlock w1 r (.mapIter (some b) clock (seen ++ [p.2]).toArray clock)) (some r) := by
      rcases hal with rfl | rfl
      · exact grownBy_setBlock w1 r _
      · have h' := grownBy_setBlock w.drew r (.mapIter (some b) clock (seen ++ [p.2]).toArray clock)
        exact ⟨h'.os, h'.tape, h'.output, h'.size, h'.block⟩
    have hw1 : w1.heap = w.heap := by rcases hal with rfl | rfl <;> rfl
    have hr1 : w1.heap[r]? = some (.mapIter (some b) clock seen.toArray clock) := by rw [hw1]; exact h.it
    have hwalk : WalkD (setBlock w1 r (.mapIter (some b) clock (seen ++ [p.2]).toArray clock)) b r clock K (seen ++ [p.2]) :=
      ⟨(hgr.block b (lt_of_heap h.map) (by simpa using h.ne)).trans h.map, setBlock_heap hr1⟩
    simp [execOp, hop, hit, hrun, Result.andThen]
    refine hK' _ _ (hMore p _ hp hee.2 hwalk hgr ?_ ?_)
    · show (setBlock w1 r _).heap.size = _
      simp [setBlock, hw1]
    · exact run_entry_at _ r b clock seen.toArray (opR K) clock (entN p) (by rw [setBlock_heap hr1, entN_born, hpush]) hwalk.map hee.1 hnd
theorem run_delD {t k e ty : TypeId} (ht : P.underlying t = some (.map k e)) (hk : chkSh P (.int .i64) k = true) {b clock : Nat} {K : List (Int × Nat)} (ok : OpOk K clock) (hb : w.heap[b]? = some (.map (opR K) clock)) {p : Int × Nat} (hp : p ∈ K) :
    (Builtin.delete_ #[t, k] ty #[.map (some b), .int .i64 p.1]).run P w = .ok (.tuple #[]) (setBlock w b (.map (opR (K.filter fun q => !decide (q.1 = p.1))) clock)) := by
  obtain ⟨j, hj, rfl⟩ := List.getElem_of_mem hp
  let C : Ctx := ⟨w, fun _ => False, fun _ => none, fun _ => none, fun _ => False⟩
  have hkk : cmpA (.int .i64) (.v (.int .i64 K[j].1)) (.v (.int .i64 K[j].1)) = some true := by simp [cmpA]
  have hkv : V C (.v (.int .i64 K[j].1)) [.int .i64 K[j].1] := ⟨rfl, rfl⟩
  have hcheck : (Instr.checkKey (opR K).isEmpty 10000 k (.int .i64 K[j].1)).run P w = .ok () w := checkSh (w := w) (opR K).isEmpty (.int .i64) k (.v (.int .i64 K[j].1)) (.v (.int .i64 K[j].1)) [.int .i64 K[j].1] true 10000 hk hkk hkv (by decide)
  have hobj : (getObj b).run P w = .ok (.map (opR K) clock) w := MapKept.run_getObj_map hb
  have hfind := findKey_some (P := P) (w := w) (va := false) (C := C) hk (by decide) hkv (ps := opP K) (j := j) (p := ([.int .i64 K[j].1], [.bool true], K[j].2)) (by simp [opP, hj]) ⟨_, hkk, rfl, rfl⟩ (fun q hq => by
    obtain ⟨i, hi, rfl⟩ := List.getElem_of_mem hq
    simp only [List.length_take, opP, List.length_map] at hi
    refine ⟨.v (.int .i64 K[i].1), ?_, ?_⟩
    · have hne : K[j].1 ≠ K[i].1 := fun e => by
        have hkn := ok.keys
        unfold List.Nodup at hkn
        rw [List.pairwise_map, List.pairwise_iff_getElem] at hkn
        exact hkn i j (by omega) hj (by omega) e.symm
      simp [cmpA, hne]
    · simp only [opP, List.getElem_take, List.getElem_map]
      exact ⟨rfl, rfl⟩)
  have hfl : (opP K).map (entOf false false) = (opR K).toList := by simp [opR]
  have hfind2 : (Instr.findKey k (.int .i64 K[j].1) (opR K).toList).run P w = .ok (some (j, .bool true)) w := by
    rw [← hfl]; exact hfind
  have hset := MapKept.run_setObj_map (P := P) (w := w) (.map ((opR K).eraseIdxIfInBounds j) clock) hb
  have hes : (opR K).eraseIdxIfInBounds j = opR (K.filter fun q => !decide (q.1 = K[j].1)) := by
    rw [← erase_filter ok.keys (List.getElem?_eq_getElem hj)]
    apply Array.ext'
    have hsz : (opR K).size = K.length := by
      have := congrArg List.length (opR_list K)
      simpa using this
    rw [Array.eraseIdxIfInBounds, dif_pos (by omega), Array.toList_eraseIdx, opR_list, opR_list, ChangeMaps.map_eraseIdx]
  rw [← hes]
  simp only [Builtin.delete_, List.getElem?_toArray, List.getElem?_cons_zero, List.getElem?_cons_succ, Sem.run_bind, run_underlying ht, hobj, Result.andThen_ok, hcheck, hfind2, hset]
  rfl
theorem wpList_delete_rawD (hg : o.guard = none) (m x : Operand) (t k : TypeId) (hop : o.op = Op.call { callee := Callee.builtin Builtin.delete, args := #[m, x], argTypes := #[t, k] })
    (e : TypeId) (ht : P.underlying t = some (.map k e)) (hk : chkSh P (.int .i64) k = true) (b r clock : Nat) (K : List (Int × Nat)) (seen : List Nat) (ok : OpOk K clock)
    (hm : a.eval m = .map (some b)) (h : WalkD w b r clock K seen) (p : Int × Nat) (hp : p ∈ K) (hx : a.eval x = .int .i64 p.1)
    (hK : ∀ w', WalkD w' b r clock (K.filter fun q => !decide (q.1 = p.1)) seen → w.grownBy w' (some b) → w'.heap.size = w.heap.size → wpList P ops Q rest (a.put o.dst (.tuple #[])) w') :
    wpList P ops Q (o :: rest) a w := by
  refine wpList_plain hg fun K' hK' => ?_
  have hrun := run_delD (P := P) (ty := o.type) w ht hk ok h.map hp
  have hgr := grownBy_setBlock w b (.map (opR (K.filter fun q => !decide (q.1 = p.1))) clock)
  unfold Oper.wp
  simp [execOp, hop, resolve, invoke, builtin, hm, hx, hrun, Result.andThen]
  refine hK' _ _ (hK _ ⟨setBlock_heap h.map, ?_⟩ hgr ?_)
  · exact (hgr.block r (lt_of_heap h.it) (by simpa using Ne.symm h.ne)).trans h.it
  · simp [setBlock]
end
end Go.Proofs.YtphggannefpleaaDoor.WL

end
section
/-
  CHAPTER 08: the contract of Find.
-/
namespace Go.Proofs.YtphggannefpleaaDoor.WL
open Go
theorem meets_of_wp {P : Program} {G : Nat → Option AV} {f : Nat} {fn : Func} {code : Code} {rs : List CRes} {args : List AV} {M : List (Nat × Loc)} {keep : Bool} {res : AV} {M' : List (Nat × Loc)} (hf : P.funcs[f]? = some fn) (hb : fn.body = some code) (hres : chkRes P fn.results.toList rs = true) (hn : args.length ≤ fn.ntmps)
    (hg : goodM keep M' M' = true ∧ goodA keep M' res = true ∧ (M'.map (·.1)).Nodup) (h : ∀ (w0 : World) (Ws I0 : Nat → Prop) (C0 : Ctx) (a : Act) (w : World), Rel w0 Ws I0 G C0 fn.ntmps ⟨argsL 0 args, M, 2⟩ a w → code.wp P (fun e a w => ∃ S', postA rs res M' e S' ∧ Rel w0 Ws I0 G C0 fn.ntmps S' a w) a w) : Meets P G f args M keep res M' := by
  refine ⟨hg, fun C Ws ys hw hm hu hG hv => ?_⟩
  have hlen := SVl_length hv
  refine calls_of_wp hf hb ?_
  have hrel : Rel C.w Ws C.I G C fn.ntmps ⟨argsL 0 args, M, 2⟩ { tmps := ys.toArray ++ Array.replicate (fn.ntmps - ys.toArray.size) undef, defers := [] } C.w := by
    refine ⟨Nat.le_refl _, C, rfl, hw, hm, fun t z hz => ?_, hG, Ctx.Le.refl C, by simp; omega, rfl, (fun i hi => by cases hi), fun k hk => by have := (hu k).1 hk; simp only; omega, fun h1 => by have := (hu 1).1 h1; omega⟩
    obtain ⟨_, h1⟩ := look_argsL hz
    rw [Nat.sub_zero] at h1
    obtain ⟨y, h2, h3⟩ := SVl_get hv h1
    refine ⟨y, ?_, h3⟩
    have hlt := (List.getElem?_eq_some_iff.1 h2).1
    rw [Array.getElem?_append_left (by simpa using hlt)]
    simpa using h2
  refine wp_mono (h _ _ _ _ _ _ hrel) ?_
  rintro e a w ⟨S, ⟨he, xs, L, T, hraw, hend⟩, hk, C1, rfl, hmid⟩
  have hm1 : C1.m = look S.m := hmid.m
  rw [← hm1] at hraw hend
  obtain ⟨y, hrun, hval⟩ := run_results hmid.wr hmid.fr hres hraw
  have hdef := hmid.defers
  suffices hR : ∃ y' C', y = y' ∧ C'.w = C1.w ∧ C.Le C' ∧ WR C.w Ws C.I C' ∧ C'.m = look M' ∧ SV C' res y' by
    obtain ⟨y', C', rfl, h1, h2, h3, h4, h5⟩ := hR
    rcases he with rfl | rfl <;> exact ⟨hdef, y, hrun, y, C', rfl, h1, h2, h3, h4, h5⟩
  let U : Nat → Prop := fun g => C1.used g ∨ g = 0 ∨ g = 1
  have hst' : ∀ (a : AV), Stamped (fun g => g = 0 ∨ g = 1) a → Stamped U a := by
    have key : (∀ (a : AV), Stamped (fun g => g = 0 ∨ g = 1) a → Stamped U a) := fun a => stamped_mono (fun g h => .inr h) a
    exact key
  have hnamed : Named C1.m L M' T U := ⟨hend.named.nd, hend.named.fit, hend.named.lent, hend.named.ns, hend.named.apart, fun e he => by
    have := hend.named.st e he
    cases hq : e.2 with
    | var g w => rw [hq] at this; exact ⟨.inr this.1, hst' w this.2⟩
    | rows g sz ws => rw [hq] at this; exact ⟨.inr this.1, stampedL_mono (fun g h => .inr h) ws this.2⟩
    | ob g q w => rw [hq] at this; exact ⟨.inr this.1, hst' w this.2⟩⟩
  have hle : C1.Le (reCtx C1 L M' T U) := by
    refine ⟨fun g hg => .inl hg, fun k hk => .inl hk, fun _ _ => rfl, fun l c' hc' hu' => ?_⟩
    have hmem := look_mem hc'
    have hgE := goodM_mem hg.1 hmem
    have hgen : c'.gen = 0 := by
      cases c' with
      | var g w =>
        simp only [goodE, Bool.and_eq_true, Bool.or_eq_true, beq_iff_eq] at hgE
        rcases hgE.1 with h | h
        · exact h
        · subst h; exact absurd hu' hmid.one
      | rows g sz ws =>
        simp only [goodE, Bool.and_eq_true, beq_iff_eq] at hgE
        obtain ⟨rfl, _⟩ := hgE
        exact absurd hu' hmid.one
      | ob g q w =>
        simp only [goodE, Bool.and_eq_true, Bool.or_eq_true, beq_iff_eq] at hgE
        rcases hgE.1 with h | h
        · exact h
        · subst h; exact absurd hu' hmid.one
    have hold := hend.old _ hmem hgen
    simp only at hold
    have hfit := hnamed.fit _ hmem
    cases c' with
    | rows g sz ws =>
      simp only [Loc.gen] at hgen
      subst hgen
      simp [goodE] at hgE
    | var g w =>
      simp only [Loc.gen] at hgen
      subst hgen
      obtain ⟨l2, g2, raw, h1, h2, _⟩ := hfit
      simp only at h1
      rw [hold] at h1
      obtain ⟨rfl, rfl⟩ := (by simpa using h1 : l = l2 ∧ 0 = g2)
      refine ⟨_, h2, rfl, by simp [reCtx, src, hold], fun b _ cur _ hcur => ⟨cur, hcur, rfl⟩⟩
    | ob g q w =>
      simp only [Loc.gen] at hgen
      subst hgen
      obtain ⟨l2, g2, raw, h1, h2, _⟩ := hfit
      simp only at h1
      rw [hold] at h1
      obtain ⟨rfl, rfl⟩ := (by simpa using h1 : l = l2 ∧ 0 = g2)
      refine ⟨_, h2, ⟨rfl, rfl⟩, by simp [reCtx, src, hold], fun b _ cur _ hcur => ⟨cur, hcur, rfl⟩⟩
  have hwr : WR C.w Ws C.I (reCtx C1 L M' T U) := by
    refine hnamed.wr hmid.wr (fun k hk => .inl (hmid.wr.imm0 k hk)) (fun l c b _ h2 h3 => (hmid.wr.own l c b h2 h3).2.2) (fun k hk => ?_) hmid.wr.os hmid.wr.tape hmid.wr.output hmid.wr.size hmid.wr.block
    rcases hk with hk | ⟨t, _, ct, hct, hbt⟩
    · exact (hmid.wr.imm k hk).2
    · exact .inr ((hmid.wr.own t ct k hct hbt).2.2)
  exact ⟨y, reCtx C1 L M' T U, rfl, rfl, hmid.le.trans hle, hwr, rfl, SV_fitR hmid.wr hnamed.seen hend.fit hend.lent (hst' res hend.st) hval⟩

end Go.Proofs.YtphggannefpleaaDoor.WL

end
section
/-
  THE WALK OVER A MAP IN A FENCE, raw: which entries have come; no datum.
-/
namespace Go.Proofs.YtphggannefpleaaDoor.WL
open Go
open Go.Maps (Keyed)
open Go.ChangeMaps (setBlock)

/-- Block r goes over the map in block b; these entries have come. -/
structure WalkAt (w : World) (b r : Nat) (es : Array MapEntry) (clock : Nat) (vis : List MapEntry) : Prop where
  map : w.heap[b]? = some (.map es clock)
  it : w.heap[r]? = some (.mapIter (some b) clock (vis.map (·.born)).toArray clock)
  nd : (vis.map (·.born)).Nodup
  mem : ∀ x ∈ vis, x ∈ es.toList
/-- What a map's entries are: their stamps lie below its clock, and differ. -/
structure Borns (es : Array MapEntry) (clock : Nat) : Prop where
  old : ∀ x ∈ es.toList, x.born < clock
  nd : (es.toList.map (·.born)).Nodup

theorem Borns.inj {es : Array MapEntry} {clock : Nat} (h : Borns es clock) {x y : MapEntry} (hx : x ∈ es.toList) (hy : y ∈ es.toList) (e : x.born = y.born) : x = y := by
  obtain ⟨i, hi, rfl⟩ := List.getElem_of_mem hx
  obtain ⟨j, hj, rfl⟩ := List.getElem_of_mem hy
  have hp := h.nd
  unfold List.Nodup at hp
  rw [List.pairwise_map, List.pairwise_iff_getElem] at hp
  rcases Nat.lt_trichotomy i j with hij | rfl | hij
  · exact absurd e (hp i j hi hj hij)
  · rfl
  · exact absurd e.symm (hp j i hj hi hij)
theorem len_of_subN : ∀ {l m : List Nat}, l.Nodup → (∀ x ∈ l, x ∈ m) → l.length ≤ m.length
  | [], _, _, _ => by simp
  | x :: l, m, hn, hs => by
    have hx := hs x List.mem_cons_self
    have hn' := List.nodup_cons.1 hn
    have h1 := len_of_subN (l := l) (m := m.erase x) hn'.2 (fun y hy => by
      have hne : y ≠ x := fun e => hn'.1 (e ▸ hy)
      exact (List.mem_erase_of_ne hne).2 (hs y (List.mem_cons_of_mem _ hy)))
    have h2 := List.length_erase_of_mem hx
    have h3 : 0 < m.length := List.length_pos_of_mem hx
    simp only [List.length_cons]
    omega
theorem WalkAt.nodup {w : World} {b r : Nat} {es : Array MapEntry} {clock : Nat} {vis : List MapEntry} (h : WalkAt w b r es clock vis) : vis.Nodup := by
  have := h.nd
  unfold List.Nodup at this ⊢
  rw [List.pairwise_map] at this
  exact this.imp fun hab e => hab (congrArg MapEntry.born e)
theorem WalkAt.len {w : World} {b r : Nat} {es : Array MapEntry} {clock : Nat} {vis : List MapEntry} (h : WalkAt w b r es clock vis) : vis.length ≤ es.size := by
  have := len_of_subN (m := es.toList.map (·.born)) h.nd (fun x hx => by
    obtain ⟨y, hy, rfl⟩ := List.mem_map.1 hx
    exact List.mem_map.2 ⟨y, h.mem y hy, rfl⟩)
  simpa using this
/-- How many have come, read off the world. -/
def seenLen (w : World) (r : Nat) : Nat := match w.heap[r]? with
  | some (.mapIter _ _ seen _) => seen.size
  | _ => 0
theorem WalkAt.seenLen {w : World} {b r : Nat} {es : Array MapEntry} {clock : Nat} {vis : List MapEntry} (h : WalkAt w b r es clock vis) : seenLen w r = vis.length := by
  simp [WL.seenLen, h.it]
theorem WalkAt.of_walks {w w' : World} {b r : Nat} {es : Array MapEntry} {clock : Nat} {vis : List MapEntry} (h : WalkAt w b r es clock vis) (hk : KeepsWalks w w') : WalkAt w' b r es clock vis :=
  ⟨hk.same b _ h.map rfl, hk.same r _ h.it rfl, h.nd, h.mem⟩
theorem WalkAt.lt {w : World} {b r : Nat} {es : Array MapEntry} {clock : Nat} {vis : List MapEntry} (h : WalkAt w b r es clock vis) : r < w.heap.size := by
  have := h.it
  rcases Nat.lt_or_ge r w.heap.size with k | k
  · exact k
  · rw [Array.getElem?_eq_none k] at this; cases this

section
variable {F : Fence} {n : Nat} {P : Program} (w : World) {ops : Array Oper} {rest : List Oper} {o : Oper} {a : Act} {Q : Exit → Act → World → Prop}
theorem wpListIn_range_raw (hg : o.guard = none) (m : Operand) (t : TypeId) (hop : o.op = Op.range t m) (k e : TypeId) (ht : P.underlying t = some (.map k e)) (b : Nat) (es : Array MapEntry) (clock : Nat)
    (hm : a.eval m = .map (some b)) (hb : w.heap[b]? = some (.map es clock))
    (hK : ∀ w', WalkAt w' b w.heap.size es clock [] → w.grownBy w' none → w'.heap.size = w.heap.size + 1 → wpListIn F n P ops Q rest (a.put o.dst (.pointer (some ⟨w.heap.size, 0, none⟩))) w') :
    wpListIn F n P ops Q (o :: rest) a w := by
  refine wpListIn_plain hg fun K' hK' => ?_
  have hlt : b < w.heap.size := by
    rcases Nat.lt_or_ge b w.heap.size with h | h
    · exact h
    · rw [Array.getElem?_eq_none h] at hb; cases hb
  have hrun := run_range_map w t k e b es clock ht hb
  unfold Oper.wpIn
  refine ⟨?_, ?_⟩
  · simp [Oper.about, hop]
  · rw [Oper.semAt_plain F _ _ (by rw [hop]; intro c hc'; cases hc')]
    simp [execOp, hop, hm, hrun, Result.andThen]
    refine hK' _ _ (hK _ ⟨((MapKept.heap_alloc w _).2 b hlt).trans hb, (MapKept.heap_alloc w _).1, List.nodup_nil, fun x hx => by cases hx⟩ (World.grownBy_alloc w _ none) (by simp))
theorem wpListIn_next_raw (hg : o.guard = none) (it : Operand) (hop : o.op = Op.next it false) (b r : Nat) (es : Array MapEntry) (clock : Nat) (vis : List MapEntry) (hB : Borns es clock)
    (hit : a.eval it = .pointer (some ⟨r, 0, none⟩)) (h : WalkAt w b r es clock vis)
    (hDone : vis.Perm es.toList → wpListIn F n P ops Q rest (a.put o.dst (.tuple #[.bool false])) w)
    (hMore : ∀ (x : MapEntry) (w' : World), x ∈ es.toList → WalkAt w' b r es clock (vis ++ [x]) → w.grownBy w' (some r) → w'.heap.size = w.heap.size →
      (Instr.entry (.pointer (some ⟨r, 0, none⟩))).run P w' = .ok (.tuple #[x.key, x.val]) w' → wpListIn F n P ops Q rest (a.put o.dst (.tuple #[.bool true, x.key, x.val])) w') :
    wpListIn F n P ops Q (o :: rest) a w := by
  refine wpListIn_plain hg fun K' hK' => ?_
  unfold Oper.wpIn
  refine ⟨by simp [Oper.about, hop], ?_⟩
  rw [Oper.semAt_plain F _ _ (by rw [hop]; intro c hc'; cases hc')]
  rcases run_next_at (P := P) w o.type r b clock clock (vis.map (·.born)).toArray es clock h.it h.map hB.old (Nat.le_refl _) with ⟨h0, hrun⟩ | ⟨e, he, w1, hal, hrun⟩
  · simp [execOp, hop, hit, hrun, Result.andThen]
    refine hK' _ _ (hDone ?_)
    refine (List.perm_ext_iff_of_nodup h.nodup ?_).2 fun x => ⟨h.mem x, fun hx => ?_⟩
    · have := hB.nd
      unfold List.Nodup at this ⊢
      rw [List.pairwise_map] at this
      exact this.imp fun hab e => hab (congrArg MapEntry.born e)
    · have hs := all_seen es _ h0 x hx
      have hs' : x.born ∈ vis.map (·.born) := by simpa using hs
      obtain ⟨y, hy, e⟩ := List.mem_map.1 hs'
      have := hB.inj (h.mem y hy) hx e
      rwa [← this]
  · have hee : e ∈ es.toList ∧ e.born ∉ vis.map (·.born) := by
      have := he
      simp [leftOf] at this ⊢
      exact this
    have hpush : (vis.map (·.born)).toArray.push e.born = (vis.map (·.born) ++ [e.born]).toArray := by simp
    rw [hpush] at hrun
    have hgr : w.grownBy (setBlock w1 r (.mapIter (some b) clock (vis.map (·.born) ++ [e.born]).toArray clock)) (some r) := by
      rcases hal with rfl | rfl
      · exact grownBy_setBlock w1 r _
      · have h' := grownBy_setBlock w.drew r (.mapIter (some b) clock (vis.map (·.born) ++ [e.born]).toArray clock)
        exact ⟨h'.os, h'.tape, h'.output, h'.size, h'.block⟩
    have hw1 : w1.heap = w.heap := by rcases hal with rfl | rfl <;> rfl
    have hr1 : w1.heap[r]? = some (.mapIter (some b) clock (vis.map (·.born)).toArray clock) := by rw [hw1]; exact h.it
    have hbr : b ≠ r := by
      rintro rfl
      have := h.map.symm.trans h.it
      cases this
    have hwalk : WalkAt (setBlock w1 r (.mapIter (some b) clock (vis.map (·.born) ++ [e.born]).toArray clock)) b r es clock (vis ++ [e]) := by
      refine ⟨?_, ?_, ?_, ?_⟩
      · exact (hgr.block b (by
          rcases Nat.lt_or_ge b w.heap.size with k | k
          · exact k
          · have := h.map; rw [Array.getElem?_eq_none k] at this; cases this) (by simpa using hbr)).trans h.map
      · rw [setBlock_heap hr1]
        simp
      · rw [List.map_append, List.nodup_append]
        exact ⟨h.nd, by simp, fun x hx y hy => by simp at hy; subst hy; rintro rfl; exact hee.2 hx⟩
      · intro x hx
        rcases List.mem_append.1 hx with hx | hx
        · exact h.mem x hx
        · rw [List.mem_singleton] at hx; subst hx; exact hee.1
    simp [execOp, hop, hit, hrun, Result.andThen]
    refine hK' _ _ (hMore e _ hee.1 hwalk hgr ?_ ?_)
    · show (setBlock w1 r _).heap.size = _
      simp [setBlock, hw1]
    · exact run_entry_at _ r b clock (vis.map (·.born)).toArray es clock e (by rw [setBlock_heap hr1, hpush]) hwalk.map hee.1 hB.nd
end
end Go.Proofs.YtphggannefpleaaDoor.WL

end
