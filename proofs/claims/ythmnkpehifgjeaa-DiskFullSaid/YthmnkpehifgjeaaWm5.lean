/- Texts put together: Ba, M01, P16, P16b. -/
import Derived.Test.YthmnkpehifgjeaaWm4
import Derived.Laws.BitsLemmas
import Derived.Laws.Strings
section
/-
  DATA: bytes, texts, numbers, digests as abstract values, and what the machine's operations do to them.
-/
namespace Go.Proofs.Ythmnkpehifgjeaa.WL
open Go

theorem meets_of_go {P : Program} {G : Nat → Option AV} {f : Nat} {x : CCode} {rs : List CRes} {args : List AV} {M : List (Nat × Loc)} {keep : Bool} {res : AV} {M' : List (Nat × Loc)} (hmix : P.follows .mixedOrders = true) (hc : chkFn P f x rs args.length = true)
    (hg : goodM keep M' M' = true ∧ goodA keep M' res = true ∧ (M'.map (·.1)).Nodup) (h : go P G (postA rs res M') x [] ⟨argsL 0 args, M, 2⟩) : Meets P G f args M keep res M' := meets_of_awp hmix hc hg h

/-! Numbers. -/
attribute [simp] IntKind.bits Nat.mod_one
theorem w64_id {n : Int} (h : -9223372036854775808 ≤ n ∧ n < 9223372036854775808) : IntKind.i64.wrap n = n := by rw [IntKind.wrap_i64]; omega
theorem w64_succ {j : Nat} (h : j < 4611686018427387904) : IntKind.i64.wrap ((j : Int) + 1) = ((j + 1 : Nat) : Int) := by rw [IntKind.wrap_i64]; omega
theorem w64_add {a b : Nat} (h : a + b < 4611686018427387904) : IntKind.i64.wrap ((a : Int) + (b : Int)) = ((a + b : Nat) : Int) := by rw [IntKind.wrap_i64]; omega
theorem u8_mod (n : Int) : IntKind.u8.wrap n = n % 256 := by simp [IntKind.wrap, IntKind.bits, IntKind.signed]
theorem i64_wf {n : Int} (h : (Lit.int .i64 n).wf = true) : -9223372036854775808 ≤ n ∧ n < 9223372036854775808 := by
  simp only [Lit.wf, Bool.and_eq_true, decide_eq_true_eq] at h
  have h1 : IntKind.min .i64 = -9223372036854775808 := by decide
  have h2 : IntKind.max .i64 = 9223372036854775807 := by decide
  omega
theorem u8_wf {n : Int} (h : (Lit.int .u8 n).wf = true) : 0 ≤ n ∧ n < 256 := by
  simp only [Lit.wf, Bool.and_eq_true, decide_eq_true_eq] at h
  have h1 : IntKind.min .u8 = 0 := by decide
  have h2 : IntKind.max .u8 = 255 := by decide
  omega

@[simp] theorem fdiv_lit (a : Int) (n : Nat) : a.fdiv (no_index (OfNat.ofNat n)) = a / (OfNat.ofNat n) := Int.fdiv_eq_ediv_of_nonneg _ (Int.natCast_nonneg n)

theorem le_max {n : Nat} (h : n ≤ 100000000000) : n ≤ maxLen := by unfold maxLen; omega
@[simp] theorem le_max8 : 8 ≤ maxLen := by decide
@[simp] theorem le_max32 : 32 ≤ maxLen := by decide
@[simp] theorem le_max64 : 64 ≤ maxLen := by decide

@[simp] theorem step_convM (m : Nat → Option Loc) (g d l g' n : Nat) : step .convM [.row l 1 g' 0 n] m g d = (match m l with
    | some (.rows g'' 1 xs) => if g'' = g' ∧ n = xs.length ∧ 0 < n then some (.sl 1 xs, [(l, none)]) else none
    | _ => none) := (rfl)
/-! Bytes. -/
abbrev Bytes := List UInt8
abbrev bv (b : UInt8) : AV := .v (.int .u8 (b.toNat : Int))
/-- The byte that a number ends in. -/
def u8 (n : Int) : UInt8 := UInt8.ofNat (n % 256).toNat
theorem bv_u8 (n : Int) : AV.v (.int .u8 (IntKind.u8.wrap n)) = bv (u8 n) := by
  unfold bv u8
  rw [u8_mod]
  have h : ((UInt8.ofNat (n % 256).toNat).toNat : Int) = n % 256 := by
    rw [UInt8.toNat_ofNat']
    omega
  rw [h]
theorem bv_lit (n : Int) (h : 0 ≤ n ∧ n < 256) : AV.v (.int .u8 n) = bv (u8 n) := by
  rw [← bv_u8, u8_mod, Int.emod_eq_of_lt h.1 h.2]
@[simp] theorem bv_closed (b : UInt8) : closed (bv b) = true := rfl
@[simp] theorem bv_plain (b : UInt8) : plain (bv b) = true := rfl
@[simp] theorem bv_solid (b : UInt8) : (bv b).solid = true := rfl
@[simp] theorem bv_size (b : UInt8) : (bv b).size = 1 := rfl
@[simp] theorem bv_agg (b : UInt8) : (bv b).isAgg = false := rfl

def B (bs : Bytes) : List AV := bs.map bv
@[simp] theorem B_length (bs : Bytes) : (B bs).length = bs.length := by simp [B]
@[simp] theorem B_closed (bs : Bytes) : closeds (B bs) = true := by simp [B, closeds_all]
@[simp] theorem B_plain (bs : Bytes) : plains (B bs) = true := by simp [B, plains_all]
@[simp] theorem B_append (a b : Bytes) : B a ++ B b = B (a ++ b) := by simp [B]
@[simp] theorem B_cons (b : UInt8) (s : Bytes) : bv b :: B s = B (b :: s) := (rfl)
@[simp] theorem B_drop (n : Nat) (a : Bytes) : (B a).drop n = B (a.drop n) := by simp [B]
@[simp] theorem B_take (n : Nat) (a : Bytes) : (B a).take n = B (a.take n) := by simp [B]
@[simp] theorem B_get (n : Nat) (a : Bytes) : (B a)[n]? = (a[n]?).map bv := by simp [B]
@[simp] theorem B_getElem (n : Nat) (a : Bytes) (h : n < (B a).length) : (B a)[n] = bv (a[n]'(by simpa using h)) := by simp [B]
@[simp] theorem B_nil : B [] = [] := rfl
theorem B_set (L : Bytes) (j : Nat) (x : UInt8) : (B L).set j (bv x) = B (L.set j x) := by simp [B, List.map_set]
theorem intsOf_bv : ∀ bs : Bytes, intsOf .u8 (B bs) = some (bs.map fun b => (b.toNat : Int))
  | [] => rfl
  | b :: bs => by
    have := intsOf_bv bs
    simp only [B, List.map_cons, bv, intsOf] at *
    rw [if_pos trivial, this]
    rfl
/-- Bytes as numbers. -/
def natsOf (bs : Bytes) : List Int := bs.map fun b => (b.toNat : Int)
@[simp] theorem B_ints (bs : Bytes) : intsOf .u8 (B bs) = some (natsOf bs) := intsOf_bv bs
def zeros (n : Nat) : Bytes := List.replicate n 0
@[simp] theorem zeros_length (n : Nat) : (zeros n).length = n := by simp [zeros]
@[simp] theorem rep_byte (n : Nat) : rep n (.v (.int .u8 0)) = B (zeros n) := by simp [rep, B, zeros]
@[simp] theorem zeros_drop (n k : Nat) : (zeros n).drop k = zeros (n - k) := by simp [zeros]
@[simp] theorem zeros_take (n k : Nat) : (zeros n).take k = zeros (min k n) := by simp [zeros]
theorem toNats_inj {a b : Bytes} : (a.map fun b => (b.toNat : Int)) = b.map (fun b => (b.toNat : Int)) ↔ a = b := by
  constructor
  · revert b
    induction a with
    | nil => intro b h; cases b with
      | nil => rfl
      | cons y b => simp at h
    | cons x a ih => intro b h; cases b with
      | nil => simp at h
      | cons y b =>
        simp only [List.map_cons, List.cons.injEq] at h
        rw [UInt8.toNat_inj.1 (show x.toNat = y.toNat by omega), ih h.2]
  · rintro rfl; rfl
@[simp] theorem step_eqaB {m : Nat → Option Loc} {g d : Nat} (neg : Bool) (n : Nat) (a b : Bytes) (ha : a.length = n) (hb : b.length = n) : step (.eqa neg .u8 n) [.arr 1 (B a), .arr 1 (B b)] m g d = some (.v (.bool (if neg = true then !(a == b) else a == b)), []) := by
  have e : (natsOf a == natsOf b) = (a == b) := by
    rw [Bool.eq_iff_iff, beq_iff_eq, beq_iff_eq]
    exact toNats_inj
  have la : (natsOf a).length = n := by simp [natsOf, ha]
  have lb : (natsOf b).length = n := by simp [natsOf, hb]
  simp only [step, B_ints, la, lb, and_self, if_true, e]

/-! Texts. -/
def mkS (bs : Bytes) : ByteArray := ⟨bs.toArray⟩
@[simp] theorem mkS_size (bs : Bytes) : (mkS bs).size = bs.length := by simp [mkS, ByteArray.size]
theorem mkS_of (s : ByteArray) : s = mkS s.data.toList := by simp [mkS]
@[simp] theorem mkS_data (bs : Bytes) : (mkS bs).data.toList = bs := by simp [mkS]
@[simp] theorem mkS_append (a b : Bytes) : mkS a ++ mkS b = mkS (a ++ b) := by
  apply ByteArray.ext
  simp [mkS, ByteArray.data_append]
@[simp] theorem mkS_toList (a : Bytes) : (mkS a).toList = a := by rw [ByteArray.toList_eq, mkS_data]
@[simp] theorem mkS_bytes (bs : Bytes) : bytesAV (mkS bs) = B bs := by
  simp only [bytesAV, B, mkS_data]

@[simp] theorem mkS_nums (bs : Bytes) : strOfNums (natsOf bs) = mkS bs := by
  have h : ∀ b : UInt8, UInt8.ofNat (b.toNat : Int).toNat = b := fun b => by simp
  unfold strOfNums mkS natsOf
  rw [List.map_map]
  congr 2
  conv => rhs; rw [← List.map_id bs]
  exact List.map_congr_left fun b _ => h b
@[simp] theorem intsOf_nil (k : IntKind) : intsOf k [] = some [] := (rfl)
@[simp] theorem strOfNums_nil : strOfNums [] = mkS [] := (rfl)
@[simp] theorem mkS_extract (bs : Bytes) (i j : Nat) : (mkS bs).extract i j = mkS ((bs.take j).drop i) := by
  apply ByteArray.ext
  simp [mkS, ByteArray.data_extract, List.drop_take]
@[simp] theorem mkS_get (bs : Bytes) (i : Nat) : (mkS bs).data.toList[i]? = bs[i]? := by rw [mkS_data]
/-- So long a text may be. -/
def fitsS (n : Nat) : Prop := n ≤ 9223372036854775807
instance (n : Nat) : Decidable (fitsS n) := inferInstanceAs (Decidable (_ ≤ _))
theorem fitS {n : Nat} (h : n ≤ 100000000000) : fitsS n := by unfold fitsS; omega

section
variable {m : Nat → Option Loc} {g d : Nat}
@[simp] theorem step_saddB (a b : Bytes) : step (.bin .add) [.v (.string (mkS a)), .v (.string (mkS b))] m g d = if fitsS (a.length + b.length) then some (.v (.string (mkS (a ++ b))), []) else none := by
  by_cases h : fitsS (a.length + b.length)
  · rw [if_pos h, step_sadd _ _ (by rw [mkS_size, mkS_size]; exact h), mkS_append]
  · rw [if_neg h]
    have h2 : ¬ ((mkS a).size + (mkS b).size ≤ 9223372036854775807) := by rw [mkS_size, mkS_size]; exact h
    simp only [step, binV, h2, if_false]
    rfl
@[simp] theorem step_idxSB (s : Bytes) (k : IntKind) (i : Int) (h : 0 ≤ i) : step .idxS [.v (.string (mkS s)), .v (.int k i)] m g d = (s[i.toNat]?).map fun b => (bv b, []) := by
  rw [step_idxS _ _ _ h, mkS_data]
end

/-! Lists of numbers, texts, digests. -/
/-- A digest: 32 bytes. -/
structure Dg where
  bs : Bytes
  len : bs.length = 32
@[simp] theorem Dg.length (d : Dg) : d.bs.length = 32 := d.len
theorem Dg.ext' {a b : Dg} (h : a.bs = b.bs) : a = b := by
  cases a
  cases b
  simp only at h
  subst h
  rfl
instance : DecidableEq Dg := fun a b => if h : a.bs = b.bs then isTrue (Dg.ext' h) else isFalse fun e => h (congrArg Dg.bs e)
@[simp] theorem Dg.beq (a b : Dg) : (a.bs == b.bs) = decide (a = b) := by
  rw [Bool.eq_iff_iff, beq_iff_eq, decide_eq_true_eq]
  exact ⟨Dg.ext', fun h => by rw [h]⟩
@[simp] theorem Dg.take32 (d : Dg) : List.take 32 d.bs = d.bs := List.take_of_length_le (by simp)
/-! Shapes that often come. -/
theorem tys_cons {t : Ty} {ts : List Ty} {as : List AV} (h : TysOk (t :: ts) as) : ∃ a r, as = a :: r ∧ TyOk t a ∧ TysOk ts r := by
  cases as with
  | nil => simp [TysOk] at h
  | cons a r => simp only [TysOk] at h; exact ⟨a, r, rfl, h.1, h.2⟩
theorem tys_nil {as : List AV} (h : TysOk [] as) : as = [] := by
  cases as with
  | nil => rfl
  | cons a r => simp [TysOk] at h
theorem ty_bool {a : AV} (h : TyOk .bool a) : ∃ b, a = .v (.bool b) := by simpa only [TyOk] using h
abbrev Ty.bytes : Ty := .sl 1 1 (.int .u8)
theorem ty_int {a : AV} (h : TyOk (.int .i64) a) : ∃ n : Int, a = .v (.int .i64 n) ∧ -9223372036854775808 ≤ n ∧ n < 9223372036854775808 := by
  obtain ⟨n, rfl, h⟩ := h
  exact ⟨n, rfl, i64_wf h⟩
theorem ty_u8 {a : AV} (h : TyOk (.int .u8) a) : ∃ b : UInt8, a = bv b := by
  obtain ⟨n, rfl, h⟩ := h
  exact ⟨u8 n, bv_lit n (u8_wf h)⟩
theorem ty_str {a : AV} (h : TyOk .str a) : ∃ s : Bytes, a = .v (.string (mkS s)) ∧ s.length ≤ reachBytes := by
  obtain ⟨s, rfl, h⟩ := h
  exact ⟨s.data.toList, by rw [← mkS_of], by rw [Array.length_toList]; exact h⟩
theorem ty_bytes {a : AV} (h : TyOk Ty.bytes a) : ∃ bs : Bytes, a = .sl 1 (B bs) ∧ bs.length ≤ reachBytes := by
  obtain ⟨xs, rfl, ⟨_, h1⟩, h2⟩ := h
  obtain ⟨bs, rfl, _⟩ := map_of_all (f := bv) (p := fun _ => True) fun x hx => by
    obtain ⟨b, e⟩ := ty_u8 (h2 x hx)
    exact ⟨b, e, trivial⟩
  exact ⟨bs, rfl, by simpa using h1⟩
end Go.Proofs.Ythmnkpehifgjeaa.WL

end
section
/-
  CHAPTER 01: what reading and writing is, without any program.
-/
namespace Go.Proofs.Ythmnkpehifgjeaa.WL
open Go

/-- The number that bytes are, the highest first. -/
def beVal (bs : Bytes) : Nat := bs.foldl (fun v b => v * 256 + b.toNat) 0
/-- A reader: what was read, what is left, whether something was wrong. -/
structure Rd where
  pre : Bytes
  s : Bytes
  bad : Bool
def Rd.fault : Rd := ⟨[], [], true⟩
def Rd.of (bs : Bytes) : Rd := ⟨[], bs, false⟩
def Rd.ok (r : Rd) (k : Int) : Bool := !r.bad && decide (0 ≤ k) && decide (k ≤ r.s.length)
/-- The next bytes, and the reader behind them. -/
def Rd.got (r : Rd) (k : Int) : Bytes := if r.ok k = true then r.s.take k.toNat else []
def Rd.skip (r : Rd) (k : Int) : Rd := if r.ok k = true then ⟨r.pre ++ r.s.take k.toNat, r.s.drop k.toNat, false⟩ else Rd.fault
/-- How many bytes a text has. -/
def Rd.len (r : Rd) (most : Int) : Int := if most < (beVal (r.got 4) : Int) then -1 else (beVal (r.got 4) : Int)
def Rd.text (r : Rd) (most : Int) : Bytes := (r.skip 4).got (r.len most)
/-! Writing. -/
end Go.Proofs.Ythmnkpehifgjeaa.WL

end
section
/-
  CHAPTER 16: what was visited, without any program.
-/
namespace Go.Proofs.Ythmnkpehifgjeaa.WL
open Go

/-- What the things at these places sum up to. -/
def sumAt (s : Int → Nat) (vis : List Int) : Nat := (vis.map s).sum
theorem sumAt_snoc (s : Int → Nat) (vis : List Int) (i : Int) : sumAt s (vis ++ [i]) = sumAt s vis + s i := by simp [sumAt]
theorem sumAt_perm (s : Int → Nat) {a b : List Int} (h : a.Perm b) : sumAt s a = sumAt s b := by
  unfold sumAt
  exact (h.map s).sum_nat
/-- Some of these places, each once. -/
structure Vis (dom vis : List Int) : Prop where
  nd : vis.Nodup
  sub : ∀ i ∈ vis, i ∈ dom
theorem Vis.nil (dom : List Int) : Vis dom [] := ⟨List.nodup_nil, fun _ h => by cases h⟩
theorem Vis.snoc {dom vis : List Int} {i : Int} (h : Vis dom vis) (hi : i ∈ dom) (hn : i ∉ vis) : Vis dom (vis ++ [i]) := by
  refine ⟨List.nodup_append.2 ⟨h.nd, by simp, fun a ha b hb => ?_⟩, fun j hj => ?_⟩
  · rw [List.mem_singleton.1 hb]
    rintro rfl
    exact hn ha
  · rcases List.mem_append.1 hj with hj | hj
    · exact h.sub j hj
    · rw [List.mem_singleton.1 hj]; exact hi
theorem Vis.erase : ∀ {vis dom : List Int}, Vis dom vis → ∃ rest, dom.Perm (vis ++ rest)
  | [], dom, _ => ⟨dom, List.Perm.refl _⟩
  | a :: vis, dom, h => by
    have hnd := List.nodup_cons.1 h.nd
    have ha := h.sub a List.mem_cons_self
    have hv : Vis (dom.erase a) vis := ⟨hnd.2, fun i hi => by
      have hne : i ≠ a := fun e => hnd.1 (e ▸ hi)
      exact (List.mem_erase_of_ne hne).2 (h.sub i (List.mem_cons_of_mem _ hi))⟩
    obtain ⟨rest, hr⟩ := hv.erase
    exact ⟨rest, (List.perm_cons_erase ha).trans (List.Perm.cons a hr)⟩
theorem Vis.len {dom vis : List Int} (h : Vis dom vis) : vis.length ≤ dom.length := by
  obtain ⟨rest, hr⟩ := h.erase
  have := hr.length_eq
  rw [List.length_append] at this
  omega
theorem Vis.lt {dom vis : List Int} {i : Int} (h : Vis dom vis) (hi : i ∈ dom) (hn : i ∉ vis) : vis.length < dom.length := by
  have := (h.snoc hi hn).len
  rw [List.length_append] at this
  simp at this
  omega
theorem Vis.sum {dom vis : List Int} (h : Vis dom vis) (s : Int → Nat) : sumAt s vis ≤ sumAt s dom := by
  obtain ⟨rest, hr⟩ := h.erase
  rw [sumAt_perm s hr]
  unfold sumAt
  rw [List.map_append, List.sum_append]
  omega
theorem Vis.all {dom vis : List Int} (h : Vis dom vis) (hd : dom.Nodup) (ha : ∀ i ∈ dom, i ∈ vis) : vis.Perm dom := (List.perm_ext_iff_of_nodup h.nd hd).2 fun i => ⟨h.sub i, ha i⟩
end Go.Proofs.Ythmnkpehifgjeaa.WL

end
section
/-
  CHAPTER 16: lists of texts and bools, without any program.
-/
namespace Go.Proofs.Ythmnkpehifgjeaa.WL
open Go
def Bws (ps : List Bytes) : List AV := ps.map fun p => .sl 1 (B p)
@[simp] theorem Bws_length (ps : List Bytes) : (Bws ps).length = ps.length := by simp [Bws]
@[simp] theorem Bws_closed (ps : List Bytes) : closeds (Bws ps) = true := by simp [Bws, closeds_all]
@[simp] theorem Bws_get (n : Nat) (a : List Bytes) : (Bws a)[n]? = (a[n]?).map fun p => .sl 1 (B p) := by simp [Bws]
@[simp] theorem Bws_getElem (n : Nat) (a : List Bytes) (h : n < (Bws a).length) : (Bws a)[n] = .sl 1 (B (a[n]'(by simpa using h))) := by simp [Bws]
def Bools (ps : List Bool) : List AV := ps.map fun p => .v (.bool p)
@[simp] theorem Bools_length (ps : List Bool) : (Bools ps).length = ps.length := by simp [Bools]
@[simp] theorem Bools_closed (ps : List Bool) : closeds (Bools ps) = true := closeds_all.2 fun a h => by
  obtain ⟨b, _, rfl⟩ := List.mem_map.1 h
  rfl
@[simp] theorem Bools_get (n : Nat) (a : List Bool) : (Bools a)[n]? = (a[n]?).map fun p => .v (.bool p) := by simp [Bools]
@[simp] theorem Bools_getElem (n : Nat) (a : List Bool) (h : n < (Bools a).length) : (Bools a)[n] = .v (.bool (a[n]'(by simpa using h))) := by simp [Bools]
theorem ty_byts {a : AV} (h : TyOk (.sl 1 24 Ty.bytes) a) : ∃ ps : List Bytes, a = .sl 1 (Bws ps) ∧ ps.length ≤ reachBytes ∧ ∀ p ∈ ps, p.length ≤ reachBytes := by
  obtain ⟨xs, rfl, ⟨_, h1⟩, h2⟩ := h
  obtain ⟨ns, rfl, h3⟩ := map_of_all (f := fun p : Bytes => AV.sl 1 (B p)) (p := fun p => p.length ≤ reachBytes) fun x hx => ty_bytes (h2 x hx)
  exact ⟨ns, rfl, by simp at h1; omega, h3⟩
theorem ty_bools {a : AV} (h : TyOk (.sl 1 1 .bool) a) : ∃ ps : List Bool, a = .sl 1 (Bools ps) ∧ ps.length ≤ reachBytes := by
  obtain ⟨xs, rfl, ⟨_, h1⟩, h2⟩ := h
  obtain ⟨ns, rfl, _⟩ := map_of_all (f := fun p : Bool => AV.v (.bool p)) (p := fun _ => True) fun x hx => by
    obtain ⟨b, e⟩ := ty_bool (h2 x hx)
    exact ⟨b, e, trivial⟩
  exact ⟨ns, rfl, by simp at h1; omega⟩
/-- All their bytes. -/
def tot (ts : List Bytes) : Nat := (ts.map List.length).sum
theorem tot_take (ts : List Bytes) (j : Nat) (h : j < ts.length) : tot (ts.take (j + 1)) = tot (ts.take j) + ts[j].length := by
  unfold tot
  rw [List.take_add_one, List.getElem?_eq_getElem h, List.map_append, List.sum_append]
  rfl
theorem tot_le (ts : List Bytes) (j : Nat) : tot (ts.take j) ≤ tot ts := by
  have h : tot ts = tot (ts.take j) + tot (ts.drop j) := by
    unfold tot
    rw [← List.sum_append, ← List.map_append, List.take_append_drop]
  omega
end Go.Proofs.Ythmnkpehifgjeaa.WL

end
