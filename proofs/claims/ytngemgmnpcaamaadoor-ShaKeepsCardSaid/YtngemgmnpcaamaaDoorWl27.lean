/-
  THE RULES OF THE RUN.
-/
import Derived.Test.YtngemgmnpcaamaaDoorWl26
namespace Go.Proofs.YtngemgmnpcaamaaDoor.WL
open Go

attribute [simp] sub subs putAt putsAt deref loadA storeA faddrA fieldA indexA iaddrA iaddrArr lenA sliceA sliceArr srcA destA overA elemsAt bnd bounds
attribute [simp] AV.size AV.sizes AV.isAgg AV.solid AV.isRef AV.isTup refOf refs reads quiet fresh Option.getD

@[simp] theorem evs_nil (G fr : Nat → Option AV) : evs G fr [] = some [] := (rfl)
@[simp] theorem evs_t (G fr : Nat → Option AV) (n : Nat) (cs : List COpd) : evs G fr (.t n :: cs) = (fr n).bind fun x => (evs G fr cs).map (x :: ·) := (rfl)
@[simp] theorem evs_c (G fr : Nat → Option AV) (x : Value) (cs : List COpd) : evs G fr (.c x :: cs) = (evs G fr cs).map (AV.v x :: ·) := (rfl)
@[simp] theorem evs_g (G fr : Nat → Option AV) (n : Nat) (cs : List COpd) : evs G fr (.g n :: cs) = ((G n).map AV.iptr).bind fun x => (evs G fr cs).map (x :: ·) := (rfl)
@[simp] theorem ev_t (G fr : Nat → Option AV) (n : Nat) : ev G fr (.t n) = fr n := (rfl)
@[simp] theorem ev_c (G fr : Nat → Option AV) (x : Value) : ev G fr (.c x) = some (.v x) := (rfl)
@[simp] theorem ev_g (G fr : Nat → Option AV) (n : Nat) : ev G fr (.g n) = (G n).map AV.iptr := (rfl)
@[simp] theorem insL_nil {α : Type} (k : Nat) (v : α) : insL [] k v = [(k, v)] := (rfl)
@[simp] theorem insL_cons {α : Type} (j : Nat) (u : α) (r : List (Nat × α)) (k : Nat) (v : α) : insL ((j, u) :: r) k v = if k < j then (k, v) :: (j, u) :: r else if k = j then (k, v) :: r else (j, u) :: insL r k v := (rfl)
@[simp] theorem delL_nil {α : Type} (k : Nat) : delL ([] : List (Nat × α)) k = [] := (rfl)
@[simp] theorem delL_cons {α : Type} (j : Nat) (u : α) (r : List (Nat × α)) (k : Nat) : delL ((j, u) :: r) k = if j = k then delL r k else (j, u) :: delL r k := (rfl)
@[simp] theorem setL_none (fr : List (Nat × AV)) (av : AV) : setL fr none av = fr := (rfl)
@[simp] theorem setL_some (fr : List (Nat × AV)) (d : Nat) (av : AV) : setL fr (some d) av = insL fr d av := (rfl)
@[simp] theorem upsL_nil (m : List (Nat × Loc)) : upsL m [] = m := (rfl)
@[simp] theorem upsL_put (m : List (Nat × Loc)) (k : Nat) (c : Loc) (us : List (Nat × Option Loc)) : upsL m ((k, some c) :: us) = upsL (insL m k c) us := (rfl)
@[simp] theorem upsL_del (m : List (Nat × Loc)) (k : Nat) (us : List (Nat × Option Loc)) : upsL m ((k, none) :: us) = upsL (delL m k) us := (rfl)
@[simp] theorem look_nil {α : Type} (j : Nat) : look ([] : List (Nat × α)) j = none := (rfl)
@[simp] theorem look_same {α : Type} (k : Nat) (v : α) (r : List (Nat × α)) : look ((k, v) :: r) k = some v := by simp [look]
@[simp] theorem look_next {α : Type} (k j : Nat) (v : α) (r : List (Nat × α)) (h : k ≠ j) : look ((k, v) :: r) j = look r j := by simp [look, h]
@[simp] theorem keepL_nil {α : Type} (ks : List Nat) : keepL ks ([] : List (Nat × α)) = [] := (rfl)
@[simp] theorem keepL_cons {α : Type} (ks : List Nat) (j : Nat) (u : α) (r : List (Nat × α)) : keepL ks ((j, u) :: r) = if j ∈ ks then (j, u) :: keepL ks r else keepL ks r := (rfl)

/-- n times the same, not to be written out. -/
def rep (n : Nat) (x : AV) : List AV := List.replicate n x
@[simp] theorem rep_length (n : Nat) (x : AV) : (rep n x).length = n := by simp [rep]
@[simp] theorem rep_zero (x : AV) : rep 0 x = [] := (rfl)
theorem rep_get (n i : Nat) (x : AV) (h : i < n) : (rep n x)[i]? = some x := by simp [rep, h]
/-- The first numbers, not to be written out. -/
def upTo (n : Nat) : List Nat := List.range n
@[simp] theorem upTo_length (n : Nat) : (upTo n).length = n := by simp [upTo]
def allSz (sz : Nat) : List AV → Bool
  | [] => true
  | x :: r => x.solid && x.size == sz && allSz sz r
theorem buildE_all {sz : Nat} : ∀ (vals pre : List AV) (z : AV), allSz sz vals = true → buildE sz (pre ++ List.replicate vals.length z) ((List.range' pre.length vals.length).zip vals) = some (pre ++ vals)
  | [], pre, z, _ => by simp [buildE]
  | x :: r, pre, z, h => by
    simp only [allSz, Bool.and_eq_true, beq_iff_eq] at h
    simp only [List.length_cons, List.range'_succ, List.zip_cons_cons, buildE, List.length_append, List.length_replicate]
    rw [if_pos ⟨by omega, h.1.1, h.1.2⟩]
    have e : (pre ++ List.replicate (r.length + 1) z).set pre.length x = (pre ++ [x]) ++ List.replicate r.length z := by
      rw [List.set_append_right _ _ (Nat.le_refl _)]
      simp [List.replicate_succ]
    rw [e]
    have := buildE_all r (pre ++ [x]) z h.2
    rw [List.length_append, List.length_singleton] at this
    rw [this]
    simp

/-- So many elements may be in a slice. -/
def fitsB (n bytes : Nat) : Prop := n ≤ maxLen ∧ n * bytes ≤ 140737488355328
instance (n bytes : Nat) : Decidable (fitsB n bytes) := inferInstanceAs (Decidable (_ ∧ _))
theorem fits {n bytes : Nat} (h : n * bytes ≤ 100000000000) (h1 : n ≤ 100000000000) : fitsB n bytes := ⟨by unfold maxLen; omega, by omega⟩

section
variable {P : Program} {G : Nat → Option AV} {m : Nat → Option Loc} {g d : Nat}

theorem step_buildAll (sz n : Nat) (z : AV) (vals : List AV) (hn : vals.length = n) (h : allSz sz vals = true) : step (.buildA sz (rep n z) (upTo n)) vals m g d = some (.arr sz vals, []) := by
  subst hn
  have := buildE_all vals [] z h
  simp only [List.nil_append, List.length_nil] at this
  simp [step, rep, upTo, List.range_eq_range', this]

@[simp] theorem ite_vbool (b x y : Bool) : (if b = true then AV.v (.bool x) else AV.v (.bool y)) = .v (.bool (if b = true then x else y)) := by cases b <;> rfl

@[simp] theorem step_mov (x : AV) : step .mov [x] m g d = some (x, []) := (rfl)
@[simp] theorem step_pick (b : Bool) (x y : AV) : step .pick [.v (.bool b), x, y] m g d = some (if b = true then x else y, []) := (rfl)
@[simp] theorem step_not (b : Bool) : step .not [.v (.bool b)] m g d = some (.v (.bool !b), []) := (rfl)
@[simp] theorem step_add (k : IntKind) (a b : Int) : step (.bin .add) [.v (.int k a), .v (.int k b)] m g d = some (.v (.int k (k.wrap (a + b))), []) := by simp [step, binV]
@[simp] theorem step_sub (k : IntKind) (a b : Int) : step (.bin .sub) [.v (.int k a), .v (.int k b)] m g d = some (.v (.int k (k.wrap (a - b))), []) := by simp [step, binV]
@[simp] theorem step_mul (k : IntKind) (a b : Int) : step (.bin .mul) [.v (.int k a), .v (.int k b)] m g d = some (.v (.int k (k.wrap (a * b))), []) := by simp [step, binV]
@[simp] theorem step_and (k : IntKind) (a b : Int) : step (.bin .and) [.v (.int k a), .v (.int k b)] m g d = some (.v (.int k (bitsOp .and k a b)), []) := by simp [step, binV]
@[simp] theorem step_or (k : IntKind) (a b : Int) : step (.bin .or) [.v (.int k a), .v (.int k b)] m g d = some (.v (.int k (bitsOp .or k a b)), []) := by simp [step, binV]
@[simp] theorem step_xor (k : IntKind) (a b : Int) : step (.bin .xor) [.v (.int k a), .v (.int k b)] m g d = some (.v (.int k (bitsOp .xor k a b)), []) := by simp [step, binV]
@[simp] theorem step_andNot (k : IntKind) (a b : Int) : step (.bin .andNot) [.v (.int k a), .v (.int k b)] m g d = some (.v (.int k (bitsOp .andNot k a b)), []) := by simp [step, binV]
@[simp] theorem step_lss (k : IntKind) (a b : Int) : step (.bin .lss) [.v (.int k a), .v (.int k b)] m g d = some (.v (.bool (decide (a < b))), []) := by simp [step, binV]
@[simp] theorem step_leq (k : IntKind) (a b : Int) : step (.bin .leq) [.v (.int k a), .v (.int k b)] m g d = some (.v (.bool (decide (a ≤ b))), []) := by simp [step, binV]
@[simp] theorem step_gtr (k : IntKind) (a b : Int) : step (.bin .gtr) [.v (.int k a), .v (.int k b)] m g d = some (.v (.bool (decide (b < a))), []) := by simp [step, binV]
@[simp] theorem step_geq (k : IntKind) (a b : Int) : step (.bin .geq) [.v (.int k a), .v (.int k b)] m g d = some (.v (.bool (decide (b ≤ a))), []) := by simp [step, binV]
@[simp] theorem step_eql (k : IntKind) (a b : Int) : step (.bin .eql) [.v (.int k a), .v (.int k b)] m g d = some (.v (.bool (decide (a = b))), []) := by simp [step, binV]; rfl
@[simp] theorem step_neq (k : IntKind) (a b : Int) : step (.bin .neq) [.v (.int k a), .v (.int k b)] m g d = some (.v (.bool (!decide (a = b))), []) := by simp [step, binV]; rfl
@[simp] theorem step_shl (k k' : IntKind) (a b : Int) (h : 0 ≤ b) : step (.bin .shl) [.v (.int k a), .v (.int k' b)] m g d = some (.v (.int k (k.wrap (a * 2 ^ min b.toNat k.bits))), []) := by simp [step, binV, h]
@[simp] theorem step_shr (k k' : IntKind) (a b : Int) (h : 0 ≤ b) : step (.bin .shr) [.v (.int k a), .v (.int k' b)] m g d = some (.v (.int k (a.fdiv (2 ^ min b.toNat k.bits))), []) := by simp [step, binV, h]
@[simp] theorem step_quo (k : IntKind) (a b : Int) (h : b ≠ 0) : step (.bin .quo) [.v (.int k a), .v (.int k b)] m g d = some (.v (.int k (k.wrap (a.tdiv b))), []) := by simp [step, binV, h]
@[simp] theorem step_rem (k : IntKind) (a b : Int) (h : b ≠ 0) : step (.bin .rem) [.v (.int k a), .v (.int k b)] m g d = some (.v (.int k (a.tmod b)), []) := by simp [step, binV, h]
@[simp] theorem step_sadd (a b : ByteArray) (h : a.size + b.size ≤ 9223372036854775807) : step (.bin .add) [.v (.string a), .v (.string b)] m g d = some (.v (.string (a ++ b)), []) := by simp [step, binV, h]
@[simp] theorem step_seql (a b : ByteArray) : step (.bin .eql) [.v (.string a), .v (.string b)] m g d = some (.v (.bool (a.toList == b.toList)), []) := (rfl)
@[simp] theorem step_sneq (a b : ByteArray) : step (.bin .neq) [.v (.string a), .v (.string b)] m g d = some (.v (.bool !(a.toList == b.toList)), []) := (rfl)
@[simp] theorem step_eqb (a b : Bool) : step (.eqb false) [.v (.bool a), .v (.bool b)] m g d = some (.v (.bool (a == b)), []) := (rfl)
@[simp] theorem step_neb (a b : Bool) : step (.eqb true) [.v (.bool a), .v (.bool b)] m g d = some (.v (.bool !(a == b)), []) := (rfl)
@[simp] theorem step_eqp0 (neg : Bool) : step (.eqp neg) [.v (.pointer none), .v (.pointer none)] m g d = some (.v (.bool !neg), []) := (rfl)
@[simp] theorem step_eqp1 (neg : Bool) (l g' off : Nat) : step (.eqp neg) [.ptr l g' off, .v (.pointer none)] m g d = some (.v (.bool neg), []) := (rfl)
@[simp] theorem step_eqp2 (neg : Bool) (x : AV) : step (.eqp neg) [.iptr x, .v (.pointer none)] m g d = some (.v (.bool neg), []) := (rfl)
@[simp] theorem step_eqp3 (neg : Bool) (l s g' i off : Nat) : step (.eqp neg) [.rptr l s g' i off, .v (.pointer none)] m g d = some (.v (.bool neg), []) := (rfl)
theorem step_eqa (neg : Bool) (k : IntKind) (n : Nat) (a b : List Int) (ha : a.length = n) (hb : b.length = n) : step (.eqa neg k n) [.arr 1 (a.map fun x => .v (.int k x)), .arr 1 (b.map fun x => .v (.int k x))] m g d = some (.v (.bool (if neg = true then !(a == b) else a == b)), []) := by
  simp [step, intsOf_map, ha, hb]
@[simp] theorem step_un (op : UnOp) (x : Value) : step (.un op) [.v x] m g d = (unV op x).map fun r => (.v r, []) := (rfl)
@[simp] theorem step_convI (k k' : IntKind) (n : Int) : step (.convI k) [.v (.int k' n)] m g d = some (.v (.int k (k.wrap n)), []) := (rfl)
@[simp] theorem step_convId (s : ByteArray) : step .convId [.v (.string s)] m g d = some (.v (.string s), []) := (rfl)
@[simp] theorem step_convS (x : AV) : step .convS [x] m g d = (srcA m 1 x).bind fun xs => (intsOf .u8 xs).map fun ns => (.v (.string (strOfNums ns)), []) := (rfl)
@[simp] theorem step_convB (s : ByteArray) (h : s.size ≤ maxLen) : step .convB [.v (.string s)] m g d = some (.sl 1 (bytesAV s), []) := by simp [step, h]
@[simp] theorem step_alloc (z : AV) : step (.alloc z) [] m g d = some (.ptr d g 0, [(d, some (.var g z))]) := (rfl)
@[simp] theorem step_box (x : AV) : step .box [x] m g d = if x.solid = true then some (.ptr d g 0, [(d, some (.var g x))]) else none := (rfl)
@[simp] theorem step_build (zs : List AV) (is : List Nat) (vals : List AV) : step (.build zs is) vals m g d = if is.length = vals.length then (buildA zs (is.zip vals)).map fun r => (.node r, []) else none := (rfl)
@[simp low] theorem step_buildA (sz : Nat) (zs : List AV) (is : List Nat) (vals : List AV) : step (.buildA sz zs is) vals m g d = if is.length = vals.length then (buildE sz zs (is.zip vals)).map fun r => (.arr sz r, []) else none := rfl
@[simp] theorem step_bslice (sz n : Nat) (z : AV) (is : List Nat) (vals : List AV) : step (.bslice sz n z is) vals m g d = if is.length = vals.length then (buildE sz (List.replicate n z) (is.zip vals)).map fun r => (.row d sz g 0 n, [(d, some (.rows g sz r))]) else none := (rfl)
@[simp] theorem step_load (agg : Bool) (sz : Nat) (p : AV) : step (.load agg sz) [p] m g d = (loadA m agg sz p).map fun r => (r, []) := (rfl)
@[simp] theorem step_store (agg : Bool) (sz : Nat) (p x : AV) : step (.store agg sz) [p, x] m g d = (storeA m agg sz p x).map fun q => (.top, [(q.1, some q.2)]) := (rfl)
@[simp] theorem step_nilc (p : AV) : step .nilc [p] m g d = if p.isRef = true then some (p, []) else none := (rfl)
@[simp] theorem step_faddr (fo sz : Nat) (agg : Bool) (p : AV) : step (.faddr fo sz agg) [p] m g d = (faddrA fo sz agg p).map fun r => (r, []) := (rfl)
@[simp] theorem step_field (agg : Bool) (sz off : Nat) (p : AV) : step (.field agg sz off) [p] m g d = (fieldA agg sz off p).map fun r => (r, []) := (rfl)
@[simp] theorem step_iaddr (sz : Nat) (x : AV) (k : IntKind) (i : Int) : step (.iaddr sz) [x, .v (.int k i)] m g d = (iaddrA sz x i).map fun r => (r, []) := (rfl)
@[simp] theorem step_iaddrArr (N sz : Nat) (agg : Bool) (x : AV) (k : IntKind) (i : Int) : step (.iaddrArr N sz agg) [x, .v (.int k i)] m g d = (iaddrArr N sz agg x i).map fun r => (r, []) := (rfl)
@[simp] theorem step_idx (agg : Bool) (n sz : Nat) (x : AV) (k : IntKind) (i : Int) : step (.idx agg n sz) [x, .v (.int k i)] m g d = (indexA agg n sz x i).map fun r => (r, []) := (rfl)
@[simp] theorem step_idxS (s : ByteArray) (k : IntKind) (i : Int) (h : 0 ≤ i) : step .idxS [.v (.string s), .v (.int k i)] m g d = (s.data.toList[i.toNat]?).map fun b => (.v (.int .u8 b.toNat), []) := by simp [step, h]
@[simp] theorem step_slice (sz : Nat) (l h : Bool) (x : AV) (r : List AV) : step (.slice sz l h) (x :: r) m g d = (bounds l h r).bind fun q => (sliceA sz x q.1 q.2).map fun y => (y, []) := (rfl)
@[simp] theorem step_sliceArr (N sz : Nat) (l h : Bool) (x : AV) (r : List AV) : step (.sliceArr N sz l h) (x :: r) m g d = (bounds l h r).bind fun q => (sliceArr N sz x q.1 q.2).map fun y => (y, []) := (rfl)
@[simp] theorem step_sliceStr (l h : Bool) (s : ByteArray) (r : List AV) : step (.sliceStr l h) (.v (.string s) :: r) m g d = (bounds l h r).bind fun q => (bnd s.size s.size q.1 q.2).map fun b => (.v (.string (s.extract b.1 b.2)), []) := (rfl)
@[simp] theorem step_slice0 (sz : Nat) (x : AV) : step (.slice0 sz) [x] m g d = (lenA x).map fun _ => (.row d sz g 0 0, [(d, some (.rows g sz []))]) := by
  simp only [step]; cases lenA x <;> rfl
@[simp] theorem step_len (x : AV) : step .len [x] m g d = (lenA x).map fun (n : Nat) => (.v (.int .i64 (n : Int)), []) := (rfl)
@[simp] theorem step_lenS (s : ByteArray) : step .lenS [.v (.string s)] m g d = some (.v (.int .i64 (s.size : Nat)), []) := (rfl)
@[simp] theorem step_app (sz bytes : Nat) (a b : AV) : step (.app sz bytes) [a, b] m g d = ((destA m d sz a).bind fun q => (srcA m sz b).bind fun ys =>
    if fitsB (q.2.length + ys.length) bytes then some (.row q.1 sz g 0 (q.2.length + ys.length), [(q.1, some (.rows g sz (q.2 ++ ys)))]) else none) := rfl
@[simp] theorem step_appS (bytes : Nat) (a : AV) (s : ByteArray) : step (.appS bytes) [a, .v (.string s)] m g d = ((destA m d 1 a).bind fun q =>
    if fitsB (q.2.length + (bytesAV s).length) bytes then some (.row q.1 1 g 0 (q.2.length + (bytesAV s).length), [(q.1, some (.rows g 1 (q.2 ++ bytesAV s)))]) else none) := rfl
@[simp] theorem step_appM (sz bytes : Nat) (z a : AV) (kk : IntKind) (k : Int) (h : 0 ≤ k ∧ fitsB k.toNat bytes) : step (.appM sz bytes z) [a, .v (.int kk k)] m g d = ((destA m d sz a).bind fun q =>
    if fitsB (q.2.length + k.toNat) bytes then some (.row q.1 sz g 0 (q.2.length + k.toNat), [(q.1, some (.rows g sz (q.2 ++ rep k.toNat z)))]) else none) := by
  simp only [step]
  rw [if_pos ⟨h.1, h.2.1, h.2.2⟩]
  rfl
@[simp] theorem step_eqs (neg : Bool) (sh : Sh) (a b : AV) : step (.eqs neg sh) [a, b] m g d = (cmpA sh a b).map fun r => (.v (.bool (if neg = true then !r else r)), []) := by
  simp only [step]
@[simp] theorem step_copy (sz : Nat) (a b : AV) : step (.copy sz) [a, b] m g d = (srcA m sz b).bind fun ys => (overA m sz a (ys.take (copyN a ys))).map fun q => (.v (.int .i64 (copyN a ys)), [(q.1, some q.2)]) := (rfl)
@[simp] theorem step_clear (sz : Nat) (z a : AV) : step (.clear sz z) [a] m g d = (overA m sz a (rep (clearN a) z)).map fun q => (.top, [(q.1, some q.2)]) := (rfl)
@[simp] theorem step_mk (sz bytes : Nat) (z : AV) (k k' : IntKind) (n : Int) (h : 0 ≤ n ∧ bytes * n.toNat ≤ 281474976710656 ∧ n.toNat ≤ maxLen) : step (.mk sz bytes z) [.v (.int k n), .v (.int k' n)] m g d = some (.row d sz g 0 n.toNat, [(d, some (.rows g sz (rep n.toNat z)))]) := by simp [step, h, rep]
@[simp] theorem step_ext (k : Nat) (as : List AV) : step (.ext k) [.tup as] m g d = (as[k]?).map fun x => (x, []) := (rfl)
@[simp] theorem step_mx (k k' : IntKind) (a b : Int) : step .mx [.v (.int k a), .v (.int k' b)] m g d = some (.v (.int k (if b > a then b else a)), []) := (rfl)
@[simp] theorem step_mn (k k' : IntKind) (a b : Int) : step .mn [.v (.int k a), .v (.int k' b)] m g d = some (.v (.int k (if b < a then b else a)), []) := (rfl)
attribute [simp] buildA buildE copyN clearN dynOk lgAt memApart
end

end Go.Proofs.YtngemgmnpcaamaaDoor.WL
