/- Texts put together: Ba, M01, P16, P00, S08g. -/
import Derived.Test.YthmnkpehifgjeaaWm4
import Derived.Laws.BitsLemmas
import Derived.Laws.Strings
import Derived.Sort.MapsRangeIn
import Derived.RangeFuncSeq
import Derived.RangeFuncGives
section
/-
  DATA: bytes, texts, numbers, digests as abstract values, and what the machine's operations do to them.
-/
namespace Go.Proofs.Ythmnkpehifgjeaa.WL
open Go

theorem meets_of_go {P : Program} {G : Nat → Option AV} {f : Nat} {x : CCode} {rs : List CRes} {args : List AV} {M : List (Nat × Loc)} {keep : Bool} {res : AV} {M' : List (Nat × Loc)} (hmix : P.follows .mixedOrders = true) (hc : chkFn P f x rs args.length = true)
    (hg : goodM keep M' M' = true ∧ goodA keep M' res = true ∧ (M'.map (·.1)).Nodup) (h : go P G (postA rs res M') x [] ⟨argsL 0 args, M, 2⟩) : Meets P G f args M keep res M' := meets_of_awp hmix hc hg h

/-! Numbers. -/
attribute [simp] IntKind.bits Nat.mod_one
theorem w64_id {n : Int} (h : -9223372036854775808 ≤ n ∧ n < 9223372036854775808) : IntKind.i64.wrap n = n := by rw [IntKind.wrap_i64]; omega
theorem w64_add {a b : Nat} (h : a + b < 4611686018427387904) : IntKind.i64.wrap ((a : Int) + (b : Int)) = ((a + b : Nat) : Int) := by rw [IntKind.wrap_i64]; omega
theorem u8_mod (n : Int) : IntKind.u8.wrap n = n % 256 := by simp [IntKind.wrap, IntKind.bits, IntKind.signed]
theorem u8_wf {n : Int} (h : (Lit.int .u8 n).wf = true) : 0 ≤ n ∧ n < 256 := by
  simp only [Lit.wf, Bool.and_eq_true, decide_eq_true_eq] at h
  have h1 : IntKind.min .u8 = 0 := by decide
  have h2 : IntKind.max .u8 = 255 := by decide
  omega

@[simp] theorem fdiv_lit (a : Int) (n : Nat) : a.fdiv (no_index (OfNat.ofNat n)) = a / (OfNat.ofNat n) := Int.fdiv_eq_ediv_of_nonneg _ (Int.natCast_nonneg n)

@[simp] theorem le_max8 : 8 ≤ maxLen := by decide
@[simp] theorem le_max32 : 32 ≤ maxLen := by decide
@[simp] theorem le_max64 : 64 ≤ maxLen := by decide

@[simp] theorem step_convM (m : Nat → Option Loc) (g d l g' n : Nat) : step .convM [.row l 1 g' 0 n] m g d = (match m l with
    | some (.rows g'' 1 xs) => if g'' = g' ∧ n = xs.length ∧ 0 < n then some (.sl 1 xs, [(l, none)]) else none
    | _ => none) := (rfl)
/-! Bytes. -/
abbrev Bytes := List UInt8
abbrev bv (b : UInt8) : AV := .v (.int .u8 (b.toNat : Int))
/-- The byte that a number ends in. -/
def u8 (n : Int) : UInt8 := UInt8.ofNat (n % 256).toNat
theorem bv_u8 (n : Int) : AV.v (.int .u8 (IntKind.u8.wrap n)) = bv (u8 n) := by
  unfold bv u8
  rw [u8_mod]
  have h : ((UInt8.ofNat (n % 256).toNat).toNat : Int) = n % 256 := by
    rw [UInt8.toNat_ofNat']
    omega
  rw [h]
theorem bv_lit (n : Int) (h : 0 ≤ n ∧ n < 256) : AV.v (.int .u8 n) = bv (u8 n) := by
  rw [← bv_u8, u8_mod, Int.emod_eq_of_lt h.1 h.2]
@[simp] theorem bv_closed (b : UInt8) : closed (bv b) = true := rfl
@[simp] theorem bv_plain (b : UInt8) : plain (bv b) = true := rfl
@[simp] theorem bv_solid (b : UInt8) : (bv b).solid = true := rfl
@[simp] theorem bv_size (b : UInt8) : (bv b).size = 1 := rfl
@[simp] theorem bv_agg (b : UInt8) : (bv b).isAgg = false := rfl

def B (bs : Bytes) : List AV := bs.map bv
@[simp] theorem B_length (bs : Bytes) : (B bs).length = bs.length := by simp [B]
@[simp] theorem B_closed (bs : Bytes) : closeds (B bs) = true := by simp [B, closeds_all]
@[simp] theorem B_plain (bs : Bytes) : plains (B bs) = true := by simp [B, plains_all]
@[simp] theorem B_append (a b : Bytes) : B a ++ B b = B (a ++ b) := by simp [B]
@[simp] theorem B_cons (b : UInt8) (s : Bytes) : bv b :: B s = B (b :: s) := (rfl)
@[simp] theorem B_drop (n : Nat) (a : Bytes) : (B a).drop n = B (a.drop n) := by simp [B]
@[simp] theorem B_take (n : Nat) (a : Bytes) : (B a).take n = B (a.take n) := by simp [B]
@[simp] theorem B_get (n : Nat) (a : Bytes) : (B a)[n]? = (a[n]?).map bv := by simp [B]
@[simp] theorem B_getElem (n : Nat) (a : Bytes) (h : n < (B a).length) : (B a)[n] = bv (a[n]'(by simpa using h)) := by simp [B]
@[simp] theorem B_nil : B [] = [] := rfl
theorem intsOf_bv : ∀ bs : Bytes, intsOf .u8 (B bs) = some (bs.map fun b => (b.toNat : Int))
  | [] => rfl
  | b :: bs => by
    have := intsOf_bv bs
    simp only [B, List.map_cons, bv, intsOf] at *
    rw [if_pos trivial, this]
    rfl
/-- Bytes as numbers. -/
def natsOf (bs : Bytes) : List Int := bs.map fun b => (b.toNat : Int)
@[simp] theorem B_ints (bs : Bytes) : intsOf .u8 (B bs) = some (natsOf bs) := intsOf_bv bs
theorem toNats_inj {a b : Bytes} : (a.map fun b => (b.toNat : Int)) = b.map (fun b => (b.toNat : Int)) ↔ a = b := by
  constructor
  · revert b
    induction a with
    | nil => intro b h; cases b with
      | nil => rfl
      | cons y b => simp at h
    | cons x a ih => intro b h; cases b with
      | nil => simp at h
      | cons y b =>
        simp only [List.map_cons, List.cons.injEq] at h
        rw [UInt8.toNat_inj.1 (show x.toNat = y.toNat by omega), ih h.2]
  · rintro rfl; rfl
@[simp] theorem step_eqaB {m : Nat → Option Loc} {g d : Nat} (neg : Bool) (n : Nat) (a b : Bytes) (ha : a.length = n) (hb : b.length = n) : step (.eqa neg .u8 n) [.arr 1 (B a), .arr 1 (B b)] m g d = some (.v (.bool (if neg = true then !(a == b) else a == b)), []) := by
  have e : (natsOf a == natsOf b) = (a == b) := by
    rw [Bool.eq_iff_iff, beq_iff_eq, beq_iff_eq]
    exact toNats_inj
  have la : (natsOf a).length = n := by simp [natsOf, ha]
  have lb : (natsOf b).length = n := by simp [natsOf, hb]
  simp only [step, B_ints, la, lb, and_self, if_true, e]

/-! Texts. -/
def mkS (bs : Bytes) : ByteArray := ⟨bs.toArray⟩
@[simp] theorem mkS_size (bs : Bytes) : (mkS bs).size = bs.length := by simp [mkS, ByteArray.size]
@[simp] theorem mkS_data (bs : Bytes) : (mkS bs).data.toList = bs := by simp [mkS]
@[simp] theorem mkS_append (a b : Bytes) : mkS a ++ mkS b = mkS (a ++ b) := by
  apply ByteArray.ext
  simp [mkS, ByteArray.data_append]
@[simp] theorem mkS_toList (a : Bytes) : (mkS a).toList = a := by rw [ByteArray.toList_eq, mkS_data]
@[simp] theorem mkS_bytes (bs : Bytes) : bytesAV (mkS bs) = B bs := by
  simp only [bytesAV, B, mkS_data]

@[simp] theorem mkS_nums (bs : Bytes) : strOfNums (natsOf bs) = mkS bs := by
  have h : ∀ b : UInt8, UInt8.ofNat (b.toNat : Int).toNat = b := fun b => by simp
  unfold strOfNums mkS natsOf
  rw [List.map_map]
  congr 2
  conv => rhs; rw [← List.map_id bs]
  exact List.map_congr_left fun b _ => h b
@[simp] theorem intsOf_nil (k : IntKind) : intsOf k [] = some [] := (rfl)
@[simp] theorem strOfNums_nil : strOfNums [] = mkS [] := (rfl)
@[simp] theorem mkS_extract (bs : Bytes) (i j : Nat) : (mkS bs).extract i j = mkS ((bs.take j).drop i) := by
  apply ByteArray.ext
  simp [mkS, ByteArray.data_extract, List.drop_take]
@[simp] theorem mkS_get (bs : Bytes) (i : Nat) : (mkS bs).data.toList[i]? = bs[i]? := by rw [mkS_data]
/-- So long a text may be. -/
def fitsS (n : Nat) : Prop := n ≤ 9223372036854775807
instance (n : Nat) : Decidable (fitsS n) := inferInstanceAs (Decidable (_ ≤ _))
section
variable {m : Nat → Option Loc} {g d : Nat}
@[simp] theorem step_saddB (a b : Bytes) : step (.bin .add) [.v (.string (mkS a)), .v (.string (mkS b))] m g d = if fitsS (a.length + b.length) then some (.v (.string (mkS (a ++ b))), []) else none := by
  by_cases h : fitsS (a.length + b.length)
  · rw [if_pos h, step_sadd _ _ (by rw [mkS_size, mkS_size]; exact h), mkS_append]
  · rw [if_neg h]
    have h2 : ¬ ((mkS a).size + (mkS b).size ≤ 9223372036854775807) := by rw [mkS_size, mkS_size]; exact h
    simp only [step, binV, h2, if_false]
    rfl
@[simp] theorem step_idxSB (s : Bytes) (k : IntKind) (i : Int) (h : 0 ≤ i) : step .idxS [.v (.string (mkS s)), .v (.int k i)] m g d = (s[i.toNat]?).map fun b => (bv b, []) := by
  rw [step_idxS _ _ _ h, mkS_data]
end

/-! Lists of numbers, texts, digests. -/
/-- A digest: 32 bytes. -/
structure Dg where
  bs : Bytes
  len : bs.length = 32
@[simp] theorem Dg.length (d : Dg) : d.bs.length = 32 := d.len
theorem Dg.ext' {a b : Dg} (h : a.bs = b.bs) : a = b := by
  cases a
  cases b
  simp only at h
  subst h
  rfl
instance : DecidableEq Dg := fun a b => if h : a.bs = b.bs then isTrue (Dg.ext' h) else isFalse fun e => h (congrArg Dg.bs e)
@[simp] theorem Dg.beq (a b : Dg) : (a.bs == b.bs) = decide (a = b) := by
  rw [Bool.eq_iff_iff, beq_iff_eq, decide_eq_true_eq]
  exact ⟨Dg.ext', fun h => by rw [h]⟩
@[simp] theorem Dg.take32 (d : Dg) : List.take 32 d.bs = d.bs := List.take_of_length_le (by simp)
/-! Shapes that often come. -/
theorem tys_cons {t : Ty} {ts : List Ty} {as : List AV} (h : TysOk (t :: ts) as) : ∃ a r, as = a :: r ∧ TyOk t a ∧ TysOk ts r := by
  cases as with
  | nil => simp [TysOk] at h
  | cons a r => simp only [TysOk] at h; exact ⟨a, r, rfl, h.1, h.2⟩
theorem tys_nil {as : List AV} (h : TysOk [] as) : as = [] := by
  cases as with
  | nil => rfl
  | cons a r => simp [TysOk] at h
abbrev Ty.bytes : Ty := .sl 1 1 (.int .u8)
theorem ty_u8 {a : AV} (h : TyOk (.int .u8) a) : ∃ b : UInt8, a = bv b := by
  obtain ⟨n, rfl, h⟩ := h
  exact ⟨u8 n, bv_lit n (u8_wf h)⟩
theorem ty_bytes {a : AV} (h : TyOk Ty.bytes a) : ∃ bs : Bytes, a = .sl 1 (B bs) ∧ bs.length ≤ reachBytes := by
  obtain ⟨xs, rfl, ⟨_, h1⟩, h2⟩ := h
  obtain ⟨bs, rfl, _⟩ := map_of_all (f := bv) (p := fun _ => True) fun x hx => by
    obtain ⟨b, e⟩ := ty_u8 (h2 x hx)
    exact ⟨b, e, trivial⟩
  exact ⟨bs, rfl, by simpa using h1⟩
end Go.Proofs.Ythmnkpehifgjeaa.WL

end
section
/-
  CHAPTER 01: what reading and writing is, without any program.
-/
namespace Go.Proofs.Ythmnkpehifgjeaa.WL
open Go

/-- The number that bytes are, the highest first. -/
def beVal (bs : Bytes) : Nat := bs.foldl (fun v b => v * 256 + b.toNat) 0
/-- A reader: what was read, what is left, whether something was wrong. -/
structure Rd where
  pre : Bytes
  s : Bytes
  bad : Bool
def Rd.fault : Rd := ⟨[], [], true⟩
def Rd.of (bs : Bytes) : Rd := ⟨[], bs, false⟩
def Rd.ok (r : Rd) (k : Int) : Bool := !r.bad && decide (0 ≤ k) && decide (k ≤ r.s.length)
/-- The next bytes, and the reader behind them. -/
def Rd.got (r : Rd) (k : Int) : Bytes := if r.ok k = true then r.s.take k.toNat else []
def Rd.skip (r : Rd) (k : Int) : Rd := if r.ok k = true then ⟨r.pre ++ r.s.take k.toNat, r.s.drop k.toNat, false⟩ else Rd.fault
/-- How many bytes a text has. -/
def Rd.len (r : Rd) (most : Int) : Int := if most < (beVal (r.got 4) : Int) then -1 else (beVal (r.got 4) : Int)
def Rd.text (r : Rd) (most : Int) : Bytes := (r.skip 4).got (r.len most)
/-! Writing. -/
end Go.Proofs.Ythmnkpehifgjeaa.WL

end
section
/-
  CHAPTER 16: what was visited, without any program.
-/
namespace Go.Proofs.Ythmnkpehifgjeaa.WL
open Go

/-- What the things at these places sum up to. -/
def sumAt (s : Int → Nat) (vis : List Int) : Nat := (vis.map s).sum
theorem sumAt_snoc (s : Int → Nat) (vis : List Int) (i : Int) : sumAt s (vis ++ [i]) = sumAt s vis + s i := by simp [sumAt]
theorem sumAt_perm (s : Int → Nat) {a b : List Int} (h : a.Perm b) : sumAt s a = sumAt s b := by
  unfold sumAt
  exact (h.map s).sum_nat
/-- Some of these places, each once. -/
structure Vis (dom vis : List Int) : Prop where
  nd : vis.Nodup
  sub : ∀ i ∈ vis, i ∈ dom
theorem Vis.nil (dom : List Int) : Vis dom [] := ⟨List.nodup_nil, fun _ h => by cases h⟩
theorem Vis.snoc {dom vis : List Int} {i : Int} (h : Vis dom vis) (hi : i ∈ dom) (hn : i ∉ vis) : Vis dom (vis ++ [i]) := by
  refine ⟨List.nodup_append.2 ⟨h.nd, by simp, fun a ha b hb => ?_⟩, fun j hj => ?_⟩
  · rw [List.mem_singleton.1 hb]
    rintro rfl
    exact hn ha
  · rcases List.mem_append.1 hj with hj | hj
    · exact h.sub j hj
    · rw [List.mem_singleton.1 hj]; exact hi
theorem Vis.erase : ∀ {vis dom : List Int}, Vis dom vis → ∃ rest, dom.Perm (vis ++ rest)
  | [], dom, _ => ⟨dom, List.Perm.refl _⟩
  | a :: vis, dom, h => by
    have hnd := List.nodup_cons.1 h.nd
    have ha := h.sub a List.mem_cons_self
    have hv : Vis (dom.erase a) vis := ⟨hnd.2, fun i hi => by
      have hne : i ≠ a := fun e => hnd.1 (e ▸ hi)
      exact (List.mem_erase_of_ne hne).2 (h.sub i (List.mem_cons_of_mem _ hi))⟩
    obtain ⟨rest, hr⟩ := hv.erase
    exact ⟨rest, (List.perm_cons_erase ha).trans (List.Perm.cons a hr)⟩
theorem Vis.len {dom vis : List Int} (h : Vis dom vis) : vis.length ≤ dom.length := by
  obtain ⟨rest, hr⟩ := h.erase
  have := hr.length_eq
  rw [List.length_append] at this
  omega
theorem Vis.lt {dom vis : List Int} {i : Int} (h : Vis dom vis) (hi : i ∈ dom) (hn : i ∉ vis) : vis.length < dom.length := by
  have := (h.snoc hi hn).len
  rw [List.length_append] at this
  simp at this
  omega
theorem Vis.sum {dom vis : List Int} (h : Vis dom vis) (s : Int → Nat) : sumAt s vis ≤ sumAt s dom := by
  obtain ⟨rest, hr⟩ := h.erase
  rw [sumAt_perm s hr]
  unfold sumAt
  rw [List.map_append, List.sum_append]
  omega
theorem Vis.all {dom vis : List Int} (h : Vis dom vis) (hd : dom.Nodup) (ha : ∀ i ∈ dom, i ∈ vis) : vis.Perm dom := (List.perm_ext_iff_of_nodup h.nd hd).2 fun i => ⟨h.sub i, ha i⟩
end Go.Proofs.Ythmnkpehifgjeaa.WL

end
section
/-
  THE WALK OVER A MAP IN A FENCE, raw: which entries have come; no datum.
-/
namespace Go.Proofs.Ythmnkpehifgjeaa.WL
open Go
open Go.Maps (Keyed)
open Go.ChangeMaps (setBlock)

/-- Block r goes over the map in block b; these entries have come. -/
structure WalkAt (w : World) (b r : Nat) (es : Array MapEntry) (clock : Nat) (vis : List MapEntry) : Prop where
  map : w.heap[b]? = some (.map es clock)
  it : w.heap[r]? = some (.mapIter (some b) clock (vis.map (·.born)).toArray clock)
  nd : (vis.map (·.born)).Nodup
  mem : ∀ x ∈ vis, x ∈ es.toList
/-- What a map's entries are: their stamps lie below its clock, and differ. -/
structure Borns (es : Array MapEntry) (clock : Nat) : Prop where
  old : ∀ x ∈ es.toList, x.born < clock
  nd : (es.toList.map (·.born)).Nodup

theorem Borns.inj {es : Array MapEntry} {clock : Nat} (h : Borns es clock) {x y : MapEntry} (hx : x ∈ es.toList) (hy : y ∈ es.toList) (e : x.born = y.born) : x = y := by
  obtain ⟨i, hi, rfl⟩ := List.getElem_of_mem hx
  obtain ⟨j, hj, rfl⟩ := List.getElem_of_mem hy
  have hp := h.nd
  unfold List.Nodup at hp
  rw [List.pairwise_map, List.pairwise_iff_getElem] at hp
  rcases Nat.lt_trichotomy i j with hij | rfl | hij
  · exact absurd e (hp i j hi hj hij)
  · rfl
  · exact absurd e.symm (hp j i hj hi hij)
theorem len_of_subN : ∀ {l m : List Nat}, l.Nodup → (∀ x ∈ l, x ∈ m) → l.length ≤ m.length
  | [], _, _, _ => by simp
  | x :: l, m, hn, hs => by
    have hx := hs x List.mem_cons_self
    have hn' := List.nodup_cons.1 hn
    have h1 := len_of_subN (l := l) (m := m.erase x) hn'.2 (fun y hy => by
      have hne : y ≠ x := fun e => hn'.1 (e ▸ hy)
      exact (List.mem_erase_of_ne hne).2 (hs y (List.mem_cons_of_mem _ hy)))
    have h2 := List.length_erase_of_mem hx
    have h3 : 0 < m.length := List.length_pos_of_mem hx
    simp only [List.length_cons]
    omega
theorem WalkAt.nodup {w : World} {b r : Nat} {es : Array MapEntry} {clock : Nat} {vis : List MapEntry} (h : WalkAt w b r es clock vis) : vis.Nodup := by
  have := h.nd
  unfold List.Nodup at this ⊢
  rw [List.pairwise_map] at this
  exact this.imp fun hab e => hab (congrArg MapEntry.born e)
theorem WalkAt.len {w : World} {b r : Nat} {es : Array MapEntry} {clock : Nat} {vis : List MapEntry} (h : WalkAt w b r es clock vis) : vis.length ≤ es.size := by
  have := len_of_subN (m := es.toList.map (·.born)) h.nd (fun x hx => by
    obtain ⟨y, hy, rfl⟩ := List.mem_map.1 hx
    exact List.mem_map.2 ⟨y, h.mem y hy, rfl⟩)
  simpa using this
/-- How many have come, read off the world. -/
def seenLen (w : World) (r : Nat) : Nat := match w.heap[r]? with
  | some (.mapIter _ _ seen _) => seen.size
  | _ => 0
theorem WalkAt.seenLen {w : World} {b r : Nat} {es : Array MapEntry} {clock : Nat} {vis : List MapEntry} (h : WalkAt w b r es clock vis) : seenLen w r = vis.length := by
  simp [WL.seenLen, h.it]
theorem WalkAt.of_walks {w w' : World} {b r : Nat} {es : Array MapEntry} {clock : Nat} {vis : List MapEntry} (h : WalkAt w b r es clock vis) (hk : KeepsWalks w w') : WalkAt w' b r es clock vis :=
  ⟨hk.same b _ h.map rfl, hk.same r _ h.it rfl, h.nd, h.mem⟩
theorem WalkAt.lt {w : World} {b r : Nat} {es : Array MapEntry} {clock : Nat} {vis : List MapEntry} (h : WalkAt w b r es clock vis) : r < w.heap.size := by
  have := h.it
  rcases Nat.lt_or_ge r w.heap.size with k | k
  · exact k
  · rw [Array.getElem?_eq_none k] at this; cases this

section
variable {F : Fence} {n : Nat} {P : Program} (w : World) {ops : Array Oper} {rest : List Oper} {o : Oper} {a : Act} {Q : Exit → Act → World → Prop}
theorem wpListIn_range_raw (hg : o.guard = none) (m : Operand) (t : TypeId) (hop : o.op = Op.range t m) (k e : TypeId) (ht : P.underlying t = some (.map k e)) (b : Nat) (es : Array MapEntry) (clock : Nat)
    (hm : a.eval m = .map (some b)) (hb : w.heap[b]? = some (.map es clock))
    (hK : ∀ w', WalkAt w' b w.heap.size es clock [] → w.grownBy w' none → w'.heap.size = w.heap.size + 1 → wpListIn F n P ops Q rest (a.put o.dst (.pointer (some ⟨w.heap.size, 0, none⟩))) w') :
    wpListIn F n P ops Q (o :: rest) a w := by
  refine wpListIn_plain hg fun K' hK' => ?_
  have hlt : b < w.heap.size := by
    rcases Nat.lt_or_ge b w.heap.size with h | h
    · exact h
    · rw [Array.getElem?_eq_none h] at hb; cases hb
  have hrun := run_range_map w t k e b es clock ht hb
  unfold Oper.wpIn
  refine ⟨?_, ?_⟩
  · simp [Oper.about, hop]
  · rw [Oper.semAt_plain F _ _ (by rw [hop]; intro c hc'; cases hc')]
    simp [execOp, hop, hm, hrun, Result.andThen]
    refine hK' _ _ (hK _ ⟨((MapKept.heap_alloc w _).2 b hlt).trans hb, (MapKept.heap_alloc w _).1, List.nodup_nil, fun x hx => by cases hx⟩ (World.grownBy_alloc w _ none) (by simp))
theorem wpListIn_next_raw (hg : o.guard = none) (it : Operand) (hop : o.op = Op.next it false) (b r : Nat) (es : Array MapEntry) (clock : Nat) (vis : List MapEntry) (hB : Borns es clock)
    (hit : a.eval it = .pointer (some ⟨r, 0, none⟩)) (h : WalkAt w b r es clock vis)
    (hDone : vis.Perm es.toList → wpListIn F n P ops Q rest (a.put o.dst (.tuple #[.bool false])) w)
    (hMore : ∀ (x : MapEntry) (w' : World), x ∈ es.toList → WalkAt w' b r es clock (vis ++ [x]) → w.grownBy w' (some r) → w'.heap.size = w.heap.size →
      (Instr.entry (.pointer (some ⟨r, 0, none⟩))).run P w' = .ok (.tuple #[x.key, x.val]) w' → wpListIn F n P ops Q rest (a.put o.dst (.tuple #[.bool true, x.key, x.val])) w') :
    wpListIn F n P ops Q (o :: rest) a w := by
  refine wpListIn_plain hg fun K' hK' => ?_
  unfold Oper.wpIn
  refine ⟨by simp [Oper.about, hop], ?_⟩
  rw [Oper.semAt_plain F _ _ (by rw [hop]; intro c hc'; cases hc')]
  rcases run_next_at (P := P) w o.type r b clock clock (vis.map (·.born)).toArray es clock h.it h.map hB.old (Nat.le_refl _) with ⟨h0, hrun⟩ | ⟨e, he, w1, hal, hrun⟩
  · simp [execOp, hop, hit, hrun, Result.andThen]
    refine hK' _ _ (hDone ?_)
    refine (List.perm_ext_iff_of_nodup h.nodup ?_).2 fun x => ⟨h.mem x, fun hx => ?_⟩
    · have := hB.nd
      unfold List.Nodup at this ⊢
      rw [List.pairwise_map] at this
      exact this.imp fun hab e => hab (congrArg MapEntry.born e)
    · have hs := all_seen es _ h0 x hx
      have hs' : x.born ∈ vis.map (·.born) := by simpa using hs
      obtain ⟨y, hy, e⟩ := List.mem_map.1 hs'
      have := hB.inj (h.mem y hy) hx e
      rwa [← this]
  · have hee : e ∈ es.toList ∧ e.born ∉ vis.map (·.born) := by
      have := he
      simp [leftOf] at this ⊢
      exact this
    have hpush : (vis.map (·.born)).toArray.push e.born = (vis.map (·.born) ++ [e.born]).toArray := by simp
    rw [hpush] at hrun
    have hgr : w.grownBy (setBlock w1 r (.mapIter (some b) clock (vis.map (·.born) ++ [e.born]).toArray clock)) (some r) := by
      rcases hal with rfl | rfl
      · exact grownBy_setBlock w1 r _
      · have h' := grownBy_setBlock w.drew r (.mapIter (some b) clock (vis.map (·.born) ++ [e.born]).toArray clock)
        exact ⟨h'.os, h'.tape, h'.output, h'.size, h'.block⟩
    have hw1 : w1.heap = w.heap := by rcases hal with rfl | rfl <;> rfl
    have hr1 : w1.heap[r]? = some (.mapIter (some b) clock (vis.map (·.born)).toArray clock) := by rw [hw1]; exact h.it
    have hbr : b ≠ r := by
      rintro rfl
      have := h.map.symm.trans h.it
      cases this
    have hwalk : WalkAt (setBlock w1 r (.mapIter (some b) clock (vis.map (·.born) ++ [e.born]).toArray clock)) b r es clock (vis ++ [e]) := by
      refine ⟨?_, ?_, ?_, ?_⟩
      · exact (hgr.block b (by
          rcases Nat.lt_or_ge b w.heap.size with k | k
          · exact k
          · have := h.map; rw [Array.getElem?_eq_none k] at this; cases this) (by simpa using hbr)).trans h.map
      · rw [setBlock_heap hr1]
        simp
      · rw [List.map_append, List.nodup_append]
        exact ⟨h.nd, by simp, fun x hx y hy => by simp at hy; subst hy; rintro rfl; exact hee.2 hx⟩
      · intro x hx
        rcases List.mem_append.1 hx with hx | hx
        · exact h.mem x hx
        · rw [List.mem_singleton] at hx; subst hx; exact hee.1
    simp [execOp, hop, hit, hrun, Result.andThen]
    refine hK' _ _ (hMore e _ hee.1 hwalk hgr ?_ ?_)
    · show (setBlock w1 r _).heap.size = _
      simp [setBlock, hw1]
    · exact run_entry_at _ r b clock (vis.map (·.born)).toArray es clock e (by rw [setBlock_heap hr1, hpush]) hwalk.map hee.1 hB.nd
end
end Go.Proofs.Ythmnkpehifgjeaa.WL

end
section
/-
  CHAPTER 08: the contract of Find.
-/
namespace Go.Proofs.Ythmnkpehifgjeaa.WL
open Go
theorem meets_of_wp {P : Program} {G : Nat → Option AV} {f : Nat} {fn : Func} {code : Code} {rs : List CRes} {args : List AV} {M : List (Nat × Loc)} {keep : Bool} {res : AV} {M' : List (Nat × Loc)} (hf : P.funcs[f]? = some fn) (hb : fn.body = some code) (hres : chkRes P fn.results.toList rs = true) (hn : args.length ≤ fn.ntmps)
    (hg : goodM keep M' M' = true ∧ goodA keep M' res = true ∧ (M'.map (·.1)).Nodup) (h : ∀ (w0 : World) (Ws I0 : Nat → Prop) (C0 : Ctx) (a : Act) (w : World), Rel w0 Ws I0 G C0 fn.ntmps ⟨argsL 0 args, M, 2⟩ a w → code.wp P (fun e a w => ∃ S', postA rs res M' e S' ∧ Rel w0 Ws I0 G C0 fn.ntmps S' a w) a w) : Meets P G f args M keep res M' := by
  refine ⟨hg, fun C Ws ys hw hm hu hG hv => ?_⟩
  have hlen := SVl_length hv
  refine calls_of_wp hf hb ?_
  have hrel : Rel C.w Ws C.I G C fn.ntmps ⟨argsL 0 args, M, 2⟩ { tmps := ys.toArray ++ Array.replicate (fn.ntmps - ys.toArray.size) undef, defers := [] } C.w := by
    refine ⟨Nat.le_refl _, C, rfl, hw, hm, fun t z hz => ?_, hG, Ctx.Le.refl C, by simp; omega, rfl, (fun i hi => by cases hi), fun k hk => by have := (hu k).1 hk; simp only; omega, fun h1 => by have := (hu 1).1 h1; omega⟩
    obtain ⟨_, h1⟩ := look_argsL hz
    rw [Nat.sub_zero] at h1
    obtain ⟨y, h2, h3⟩ := SVl_get hv h1
    refine ⟨y, ?_, h3⟩
    have hlt := (List.getElem?_eq_some_iff.1 h2).1
    rw [Array.getElem?_append_left (by simpa using hlt)]
    simpa using h2
  refine wp_mono (h _ _ _ _ _ _ hrel) ?_
  rintro e a w ⟨S, ⟨he, xs, L, T, hraw, hend⟩, hk, C1, rfl, hmid⟩
  have hm1 : C1.m = look S.m := hmid.m
  rw [← hm1] at hraw hend
  obtain ⟨y, hrun, hval⟩ := run_results hmid.wr hmid.fr hres hraw
  have hdef := hmid.defers
  suffices hR : ∃ y' C', y = y' ∧ C'.w = C1.w ∧ C.Le C' ∧ WR C.w Ws C.I C' ∧ C'.m = look M' ∧ SV C' res y' by
    obtain ⟨y', C', rfl, h1, h2, h3, h4, h5⟩ := hR
    rcases he with rfl | rfl <;> exact ⟨hdef, y, hrun, y, C', rfl, h1, h2, h3, h4, h5⟩
  let U : Nat → Prop := fun g => C1.used g ∨ g = 0 ∨ g = 1
  have hst' : ∀ (a : AV), Stamped (fun g => g = 0 ∨ g = 1) a → Stamped U a := by
    have key : (∀ (a : AV), Stamped (fun g => g = 0 ∨ g = 1) a → Stamped U a) := fun a => stamped_mono (fun g h => .inr h) a
    exact key
  have hnamed : Named C1.m L M' T U := ⟨hend.named.nd, hend.named.fit, hend.named.lent, hend.named.ns, hend.named.apart, fun e he => by
    have := hend.named.st e he
    cases hq : e.2 with
    | var g w => rw [hq] at this; exact ⟨.inr this.1, hst' w this.2⟩
    | rows g sz ws => rw [hq] at this; exact ⟨.inr this.1, stampedL_mono (fun g h => .inr h) ws this.2⟩
    | ob g q w => rw [hq] at this; exact ⟨.inr this.1, hst' w this.2⟩⟩
  have hle : C1.Le (reCtx C1 L M' T U) := by
    refine ⟨fun g hg => .inl hg, fun k hk => .inl hk, fun _ _ => rfl, fun l c' hc' hu' => ?_⟩
    have hmem := look_mem hc'
    have hgE := goodM_mem hg.1 hmem
    have hgen : c'.gen = 0 := by
      cases c' with
      | var g w =>
        simp only [goodE, Bool.and_eq_true, Bool.or_eq_true, beq_iff_eq] at hgE
        rcases hgE.1 with h | h
        · exact h
        · subst h; exact absurd hu' hmid.one
      | rows g sz ws =>
        simp only [goodE, Bool.and_eq_true, beq_iff_eq] at hgE
        obtain ⟨rfl, _⟩ := hgE
        exact absurd hu' hmid.one
      | ob g q w =>
        simp only [goodE, Bool.and_eq_true, Bool.or_eq_true, beq_iff_eq] at hgE
        rcases hgE.1 with h | h
        · exact h
        · subst h; exact absurd hu' hmid.one
    have hold := hend.old _ hmem hgen
    simp only at hold
    have hfit := hnamed.fit _ hmem
    cases c' with
    | rows g sz ws =>
      simp only [Loc.gen] at hgen
      subst hgen
      simp [goodE] at hgE
    | var g w =>
      simp only [Loc.gen] at hgen
      subst hgen
      obtain ⟨l2, g2, raw, h1, h2, _⟩ := hfit
      simp only at h1
      rw [hold] at h1
      obtain ⟨rfl, rfl⟩ := (by simpa using h1 : l = l2 ∧ 0 = g2)
      refine ⟨_, h2, rfl, by simp [reCtx, src, hold], fun b _ cur _ hcur => ⟨cur, hcur, rfl⟩⟩
    | ob g q w =>
      simp only [Loc.gen] at hgen
      subst hgen
      obtain ⟨l2, g2, raw, h1, h2, _⟩ := hfit
      simp only at h1
      rw [hold] at h1
      obtain ⟨rfl, rfl⟩ := (by simpa using h1 : l = l2 ∧ 0 = g2)
      refine ⟨_, h2, ⟨rfl, rfl⟩, by simp [reCtx, src, hold], fun b _ cur _ hcur => ⟨cur, hcur, rfl⟩⟩
  have hwr : WR C.w Ws C.I (reCtx C1 L M' T U) := by
    refine hnamed.wr hmid.wr (fun k hk => .inl (hmid.wr.imm0 k hk)) (fun l c b _ h2 h3 => (hmid.wr.own l c b h2 h3).2.2) (fun k hk => ?_) hmid.wr.os hmid.wr.tape hmid.wr.output hmid.wr.size hmid.wr.block
    rcases hk with hk | ⟨t, _, ct, hct, hbt⟩
    · exact (hmid.wr.imm k hk).2
    · exact .inr ((hmid.wr.own t ct k hct hbt).2.2)
  exact ⟨y, reCtx C1 L M' T U, rfl, rfl, hmid.le.trans hle, hwr, rfl, SV_fitR hmid.wr hnamed.seen hend.fit hend.lent (hst' res hend.st) hval⟩

end Go.Proofs.Ythmnkpehifgjeaa.WL

end
