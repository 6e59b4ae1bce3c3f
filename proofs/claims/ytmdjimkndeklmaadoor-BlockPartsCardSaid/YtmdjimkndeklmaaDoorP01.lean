/-
  CHAPTER 01: what the laws say, without any program.
-/
import Derived.Test.YtmdjimkndeklmaaDoorM01
namespace Go.Proofs.YtmdjimkndeklmaaDoor.WL
open Go

structure Part where
  kind : Int
  num : Int
  text : Bytes
  dg : Dg
  lo : Int
  hi : Int
/-- A part that can come in. -/
structure Part.Fits (p : Part) : Prop where
  num : -9223372036854775808 ≤ p.num ∧ p.num < 9223372036854775808
  text : p.text.length ≤ reachBytes
def Part.av (p : Part) : AV := .node [.v (.int .i64 p.kind), .v (.int .i64 p.num), .v (.string (mkS p.text)), dv p.dg, .v (.int .i64 p.lo), .v (.int .i64 p.hi)]
def Pv (ps : List Part) : List AV := ps.map Part.av
@[simp] theorem Pv_length (ps : List Part) : (Pv ps).length = ps.length := by simp [Pv]
@[simp] theorem Pv_closed (ps : List Part) : closeds (Pv ps) = true := by
  simp only [closeds_all, Pv, List.mem_map]
  rintro a ⟨p, _, rfl⟩
  simp [Part.av]
@[simp] theorem Pv_getElem (n : Nat) (a : List Part) (h : n < (Pv a).length) : (Pv a)[n] = (a[n]'(by simpa using h)).av := by simp [Pv]
@[simp] theorem Pv_get (n : Nat) (a : List Part) : (Pv a)[n]? = (a[n]?).map Part.av := by simp [Pv]

abbrev Ty.parts : Ty := .sl 37 80 (.st [.int .i64, .int .i64, .str, Ty.dg, .int .i64, .int .i64])
theorem ty_parts {a : AV} (h : TyOk Ty.parts a) : ∃ ps : List Part, a = .sl 37 (Pv ps) ∧ ps.length ≤ reachBytes ∧ ∀ p ∈ ps, p.Fits := by
  obtain ⟨xs, rfl, ⟨_, h1⟩, h2⟩ := ty_sl h
  obtain ⟨ps, rfl, h3⟩ := map_of_all (f := Part.av) (p := Part.Fits) fun x hx => by
    obtain ⟨as, rfl, k⟩ := ty_st (h2 x hx)
    obtain ⟨a, _, rfl, k1, k⟩ := tys_cons k
    obtain ⟨b, _, rfl, k2, k⟩ := tys_cons k
    obtain ⟨c, _, rfl, k3, k⟩ := tys_cons k
    obtain ⟨d, _, rfl, k4, k⟩ := tys_cons k
    obtain ⟨e, _, rfl, k5, k⟩ := tys_cons k
    obtain ⟨f, _, rfl, k6, k⟩ := tys_cons k
    obtain rfl := tys_nil k
    obtain ⟨a, rfl, _⟩ := ty_int k1
    obtain ⟨b, rfl, hb⟩ := ty_int k2
    obtain ⟨c, rfl, hc⟩ := ty_str k3
    obtain ⟨d, rfl⟩ := ty_dg k4
    obtain ⟨e, rfl, _⟩ := ty_int k5
    obtain ⟨f, rfl, _⟩ := ty_int k6
    exact ⟨⟨a, b, c, d, e, f⟩, rfl, hb, hc⟩
  refine ⟨ps, rfl, ?_, h3⟩
  rw [List.length_map] at h1
  omega

def textSum (ps : List Part) : Nat := (ps.map (·.text.length)).sum
def greatF (ps : List Part) : Bool := decide (16384 < textSum ps) || decide (200 < ps.length)
theorem textSum_snoc (ps : List Part) (j : Nat) (h : j < ps.length) : textSum (ps.take (j + 1)) = textSum (ps.take j) + ps[j].text.length := by
  simp only [textSum, take_snoc _ _ h, List.map_append, List.sum_append, List.map_cons, List.map_nil, List.sum_cons, List.sum_nil, Nat.add_zero]
theorem textSum_take_le (ps : List Part) (j : Nat) : textSum (ps.take j) ≤ textSum ps := by
  conv => rhs; rw [← List.take_append_drop j ps]
  simp only [textSum, List.map_append, List.sum_append]
  omega

theorem textSum_mem : ∀ (ps : List Part) (p : Part), p ∈ ps → p.text.length ≤ textSum ps
  | q :: ps, p, h => by
    simp only [textSum, List.map_cons, List.sum_cons]
    rcases List.mem_cons.1 h with rfl | h
    · omega
    · have := textSum_mem ps p h
      simp only [textSum] at this
      omega
def Part.out (p : Part) : Bytes := if p.kind = 1 then txt p.text else if p.kind = 2 then p.dg.bs else be8 p.num
def outs (ps : List Part) : Bytes := ps.flatMap Part.out
theorem outs_snoc (ps : List Part) (j : Nat) (h : j < ps.length) : outs (ps.take (j + 1)) = outs (ps.take j) ++ ps[j].out := by
  simp only [outs, take_snoc _ _ h, List.flatMap_append, List.flatMap_cons, List.flatMap_nil, List.append_nil]
theorem outs_cons (p : Part) (ps : List Part) : outs (p :: ps) = p.out ++ outs ps := by simp [outs]
theorem Part.out_le (p : Part) : p.out.length ≤ 32 + p.text.length := by
  unfold Part.out
  split
  · rw [txt_length]; omega
  · split
    · rw [Dg.length]; omega
    · rw [be8_length]; omega
theorem outs_le : ∀ (ps : List Part), (outs ps).length ≤ 32 * ps.length + textSum ps
  | [] => by simp [outs]
  | p :: ps => by
    have h1 := p.out_le
    have h2 := outs_le ps
    rw [outs_cons, List.length_append, List.length_cons]
    simp only [textSum, List.map_cons, List.sum_cons] at *
    omega

/-- A part's call on a reader: what it answers, what is left. -/
def Part.back (p : Part) (r : Rd) : Rd := if p.kind = 1 then r.text' p.text.length else if p.kind = 2 then r.dg' else r.inn' p.num p.num
def Part.same (p : Part) (r : Rd) : Bool := if p.kind = 1 then r.text p.text.length == p.text else if p.kind = 2 then decide (r.dg = p.dg) else decide (r.inn p.num p.num = p.num)

theorem Rd.got_app (pre x y : Bytes) (k : Nat) (h : x.length = k) : (⟨pre, x ++ y, false⟩ : Rd).got k = x := by
  subst h
  simp [Rd.got, Rd.ok]
  omega
theorem Rd.skip_app (pre x y : Bytes) (k : Nat) (h : x.length = k) : (⟨pre, x ++ y, false⟩ : Rd).skip k = ⟨pre ++ x, y, false⟩ := by
  subst h
  have : (x.length : Int) ≤ (x.length : Int) + y.length := by omega
  simp [Rd.skip, Rd.ok, this]
theorem Rd.got_few (r : Rd) (k : Nat) (h : r.s.length < k) : r.got k = [] := by
  have : ¬ ((k : Int) ≤ r.s.length) := by omega
  simp [Rd.got, Rd.ok, this]
theorem Rd.skip_few (r : Rd) (k : Nat) (h : r.s.length < k) : r.skip k = Rd.fault := by
  have : ¬ ((k : Int) ≤ r.s.length) := by omega
  simp [Rd.skip, Rd.ok, this]
theorem num_be8 (n : Int) (h : -9223372036854775808 ≤ n ∧ n < 9223372036854775808) : IntKind.i64.wrap (beVal (be8 n) : Nat) = n := by
  rw [beVal_be8, IntKind.wrap_i64]
  omega

theorem Part.back_app (p : Part) (h : p.Fits) (hl : p.text.length < 4294967296) (pre y : Bytes) : p.back ⟨pre, p.out ++ y, false⟩ = ⟨pre ++ p.out, y, false⟩ ∧ p.same ⟨pre, p.out ++ y, false⟩ = true := by
  have e8 : (8 : Int) = ((8 : Nat) : Int) := rfl
  have e4 : (4 : Int) = ((4 : Nat) : Int) := rfl
  have e32 : (32 : Int) = ((32 : Nat) : Int) := rfl
  unfold Part.back Part.same Part.out
  split
  · have h1 : (beVal (be4 p.text.length) : Int) = p.text.length := by rw [beVal_be4]; omega
    have h2 : (⟨pre, txt p.text ++ y, false⟩ : Rd).got 4 = be4 p.text.length := by
      rw [txt, List.append_assoc, e4]; exact Rd.got_app _ _ _ _ rfl
    have h3 : (⟨pre, txt p.text ++ y, false⟩ : Rd).skip 4 = ⟨pre ++ be4 p.text.length, p.text ++ y, false⟩ := by
      rw [txt, List.append_assoc, e4]; exact Rd.skip_app _ _ _ _ rfl
    have h4 : (⟨pre, txt p.text ++ y, false⟩ : Rd).len p.text.length = p.text.length := by
      unfold Rd.len
      rw [h2, h1, if_neg (by omega)]
    unfold Rd.text' Rd.text
    rw [h4, h3]
    constructor
    · rw [Rd.skip_app _ _ _ _ rfl, txt, List.append_assoc]
    · rw [Rd.got_app _ _ _ _ rfl]
      simp
  · split
    · unfold Rd.dg'
      rw [e32, Rd.skip_app _ _ _ _ p.dg.len]
      refine ⟨rfl, decide_eq_true (Dg.ext' ?_)⟩
      rw [Rd.dg_bs, e32, Rd.got_app _ _ _ _ p.dg.len]
      simp [zeros]
    · have h1 : (⟨pre, be8 p.num ++ y, false⟩ : Rd).num = p.num := by
        unfold Rd.num
        rw [e8, Rd.got_app _ _ _ _ (be8_length _)]
        exact num_be8 _ h.num
      have h2 : (⟨pre, be8 p.num ++ y, false⟩ : Rd).num' = ⟨pre ++ be8 p.num, y, false⟩ := by
        unfold Rd.num'
        rw [e8, Rd.skip_app _ _ _ _ (be8_length _)]
      have h3 : (⟨pre, be8 p.num ++ y, false⟩ : Rd).inOk p.num p.num = true := by
        unfold Rd.inOk
        rw [h1, h2]
        simp
      unfold Rd.inn' Rd.inn
      rw [if_pos h3, if_pos h3, h1, h2]
      exact ⟨rfl, by simp⟩

/-- With fewer bytes a fault comes, and stays. -/
theorem Rd.bad_skip (r : Rd) (k : Int) (h : r.bad = true) : (r.skip k).bad = true := by simp [Rd.skip, Rd.ok, h, Rd.fault]
theorem Part.back_bad (p : Part) (r : Rd) (h : r.bad = true) : (p.back r).bad = true := by
  unfold Part.back
  split
  · exact Rd.bad_skip _ _ (Rd.bad_skip _ _ h)
  · split
    · exact Rd.bad_skip _ _ h
    · have : r.num'.bad = true := Rd.bad_skip _ _ h
      simp [Rd.inn', Rd.inOk, this, Rd.fault]
theorem Part.back_few (p : Part) (h : p.Fits) (hl : p.text.length < 4294967296) (pre s t : Bytes) (ht : t ≠ []) (e : s ++ t = p.out) : (p.back ⟨pre, s, false⟩).bad = true := by
  have e8 : (8 : Int) = ((8 : Nat) : Int) := rfl
  have e4 : (4 : Int) = ((4 : Nat) : Int) := rfl
  have e32 : (32 : Int) = ((32 : Nat) : Int) := rfl
  have htl : 0 < t.length := List.length_pos_iff.2 ht
  have hlen := congrArg List.length e
  rw [List.length_append] at hlen
  unfold Part.back
  unfold Part.out at e hlen
  split
  · rename_i hk
    rw [if_pos hk] at e hlen
    rw [txt_length] at hlen
    unfold Rd.text'
    by_cases h4 : s.length < 4
    · exact Rd.bad_skip _ _ (by rw [e4, Rd.skip_few _ _ h4]; rfl)
    · have e2 : s = be4 p.text.length ++ s.drop 4 := by
        have h1 := congrArg (List.take 4) e
        rw [List.take_append_of_le_length (by omega), txt, List.take_append_of_le_length (by simp), List.take_of_length_le (l := be4 p.text.length) (by simp)] at h1
        rw [← h1]
        exact (List.take_append_drop 4 s).symm
      have h1 : (beVal (be4 p.text.length) : Int) = p.text.length := by rw [beVal_be4]; omega
      have h2 : (⟨pre, s, false⟩ : Rd).got 4 = be4 p.text.length := by
        rw [e2, e4]; exact Rd.got_app _ _ _ _ rfl
      have h3 : (⟨pre, s, false⟩ : Rd).skip 4 = ⟨pre ++ be4 p.text.length, s.drop 4, false⟩ := by
        rw [e4]
        conv => lhs; rw [e2]
        exact Rd.skip_app _ _ _ _ rfl
      have h5 : (⟨pre, s, false⟩ : Rd).len p.text.length = p.text.length := by
        unfold Rd.len
        rw [h2, h1, if_neg (by omega)]
      rw [h5, h3, Rd.skip_few _ _ (by simp only [List.length_drop]; omega)]
      rfl
  · rename_i hk
    rw [if_neg hk] at e hlen
    split
    · rename_i hk2
      rw [if_pos hk2] at e hlen
      unfold Rd.dg'
      rw [e32, Rd.skip_few _ _ (by simp only; have := p.dg.len; omega)]
      rfl
    · rename_i hk2
      rw [if_neg hk2] at e hlen
      rw [be8_length] at hlen
      have : (⟨pre, s, false⟩ : Rd).num'.bad = true := by
        unfold Rd.num'
        rw [e8, Rd.skip_few _ _ (by simp only; omega)]
        rfl
      simp [Rd.inn', Rd.inOk, this, Rd.fault]

def backs (ps : List Part) (r : Rd) : Rd := ps.foldl (fun r p => p.back r) r
theorem backs_snoc (ps : List Part) (j : Nat) (h : j < ps.length) (r : Rd) : backs (ps.take (j + 1)) r = ps[j].back (backs (ps.take j) r) := by
  simp only [backs, take_snoc _ _ h, List.foldl_append, List.foldl_cons, List.foldl_nil]
theorem backs_bad (ps : List Part) : ∀ r : Rd, r.bad = true → (backs ps r).bad = true := by
  induction ps with
  | nil => intro r h; exact h
  | cons p ps ih => intro r h; exact ih _ (p.back_bad r h)
/-- All parts are read back. -/
theorem backs_all : ∀ (ps : List Part), (∀ p ∈ ps, p.Fits ∧ p.text.length < 4294967296) → ∀ pre y : Bytes, backs ps ⟨pre, outs ps ++ y, false⟩ = ⟨pre ++ outs ps, y, false⟩
  | [], _, pre, y => by simp [backs, outs]
  | p :: ps, h, pre, y => by
    obtain ⟨h1, h2⟩ := h p List.mem_cons_self
    have k := (p.back_app h1 h2 pre (outs ps ++ y)).1
    show backs ps (p.back ⟨pre, outs (p :: ps) ++ y, false⟩) = _
    rw [outs_cons, List.append_assoc, k, backs_all ps (fun q hq => h q (List.mem_cons_of_mem _ hq)), List.append_assoc]
theorem backs_same (ps : List Part) (h : ∀ p ∈ ps, p.Fits ∧ p.text.length < 4294967296) (y : Bytes) (j : Nat) (hj : j < ps.length) : ps[j].same (backs (ps.take j) ⟨[], outs ps ++ y, false⟩) = true := by
  have e : outs ps ++ y = outs (ps.take j) ++ (ps[j].out ++ (outs (ps.drop (j + 1)) ++ y)) := by
    conv => lhs; rw [← List.take_append_drop j ps, List.drop_eq_getElem_cons hj]
    simp only [outs, List.flatMap_append, List.flatMap_cons, List.append_assoc]
  have hp : ∀ p ∈ ps.take j, p.Fits ∧ p.text.length < 4294967296 := fun p hp => h p (List.mem_of_mem_take hp)
  rw [e, backs_all _ hp]
  obtain ⟨h1, h2⟩ := h ps[j] (List.getElem_mem hj)
  exact (ps[j].back_app h1 h2 _ _).2
/-- Of a beginning they are not. -/
theorem backs_few : ∀ (ps : List Part), (∀ p ∈ ps, p.Fits ∧ p.text.length < 4294967296) → ∀ pre s t : Bytes, t ≠ [] → s ++ t = outs ps → (backs ps ⟨pre, s, false⟩).bad = true
  | [], _, pre, s, t, ht, e => by simp [outs] at e; exact absurd e.2 ht
  | p :: ps, h, pre, s, t, ht, e => by
    obtain ⟨h1, h2⟩ := h p List.mem_cons_self
    show (backs ps (p.back ⟨pre, s, false⟩)).bad = true
    rw [outs_cons] at e
    by_cases hl : s.length < p.out.length
    · refine backs_bad _ _ (p.back_few h1 h2 pre s (p.out.drop s.length) ?_ ?_)
      · intro e0
        have := congrArg List.length e0
        simp at this
        omega
      · have h3 := congrArg (List.take s.length) e
        rw [List.take_append_of_le_length (by omega), List.take_of_length_le (Nat.le_refl _), List.take_append_of_le_length (by omega)] at h3
        conv => lhs; lhs; rw [h3]
        exact List.take_append_drop _ _
    · have h3 := congrArg (List.take p.out.length) e
      rw [List.take_append_of_le_length (by omega), List.take_append_of_le_length (by omega), List.take_of_length_le (Nat.le_refl _)] at h3
      have h4 : s = p.out ++ s.drop p.out.length := by
        conv => rhs; lhs; rw [← h3]
        exact (List.take_append_drop _ _).symm
      have h5 := congrArg (List.drop p.out.length) e
      rw [List.drop_append_of_le_length (by omega), List.drop_append_of_le_length (by omega), List.drop_of_length_le (Nat.le_refl _), List.nil_append] at h5
      rw [h4, (p.back_app h1 h2 pre _).1]
      exact backs_few ps (fun q hq => h q (List.mem_cons_of_mem _ hq)) _ _ t ht h5

/-! What is read is what was written. -/
theorem beVal_inj : ∀ {a b : Bytes}, a.length = b.length → beVal a = beVal b → a = b
  | [], [], _, _ => rfl
  | x :: a, y :: b, hl, h => by
    simp only [List.length_cons, Nat.add_right_cancel_iff] at hl
    rw [beVal_cons, beVal_cons, hl] at h
    have h1 := beVal_lt a
    have h2 := beVal_lt b
    rw [hl] at h1
    have hq : x.toNat = y.toNat := by
      have e1 : (x.toNat * 256 ^ b.length + beVal a) / 256 ^ b.length = x.toNat := by
        rw [Nat.mul_comm, Nat.mul_add_div (by omega), Nat.div_eq_of_lt h1]; rfl
      have e2 : (y.toNat * 256 ^ b.length + beVal b) / 256 ^ b.length = y.toNat := by
        rw [Nat.mul_comm, Nat.mul_add_div (by omega), Nat.div_eq_of_lt h2]; rfl
      rw [← e1, ← e2, h]
    rw [hq] at h
    rw [UInt8.toNat_inj.1 hq, beVal_inj hl (by omega)]
  | [], _ :: _, hl, _ => by simp at hl
  | _ :: _, [], hl, _ => by simp at hl
theorem be8_beVal (x : Bytes) (h : x.length = 8) : be8 (IntKind.i64.wrap (beVal x : Nat)) = x := by
  apply beVal_inj (by rw [be8_length, h])
  have h1 := beVal_lt x
  rw [h] at h1
  have h2 := beVal_be8 (IntKind.i64.wrap (beVal x : Nat))
  have h3 : IntKind.i64.wrap (beVal x : Nat) % 18446744073709551616 = (beVal x : Nat) := by rw [IntKind.wrap_i64]; omega
  rw [h3] at h2
  omega
theorem be4_beVal (x : Bytes) (h : x.length = 4) : be4 (beVal x : Nat) = x := by
  apply beVal_inj (by rw [be4_length, h])
  have h1 := beVal_lt x
  rw [h] at h1
  have h2 := beVal_be4 (beVal x : Nat)
  omega

/-- What a call reads, is written down. -/
def Part.put (p : Part) (r : Rd) : Bytes := if p.kind = 1 then txt (r.text p.num) else if p.kind = 2 then r.dg.bs else if p.kind = 3 then be8 (r.inn p.lo p.hi) else be8 r.num
def Part.next (p : Part) (r : Rd) : Rd := if p.kind = 1 then r.text' p.num else if p.kind = 2 then r.dg' else if p.kind = 3 then r.inn' p.lo p.hi else r.num'

theorem Rd.skip_good {r : Rd} {k : Int} (h : (r.skip k).bad = false) : r.bad = false ∧ 0 ≤ k ∧ ((r.got k).length : Int) = k ∧ (r.skip k).pre = r.pre ++ r.got k ∧ (r.skip k).pre ++ (r.skip k).s = r.pre ++ r.s := by
  unfold Rd.skip Rd.got at *
  split at h
  · rename_i hk
    rw [if_pos hk, if_pos hk]
    simp only [Rd.ok, Bool.and_eq_true, Bool.not_eq_true', decide_eq_true_eq] at hk
    refine ⟨hk.1.1, hk.1.2, by rw [List.length_take]; omega, rfl, by simp⟩
  · simp [Rd.fault] at h
theorem Rd.skip_short (r : Rd) (k : Int) : (r.skip k).s.length ≤ r.s.length := by
  unfold Rd.skip
  split
  · simp
  · simp [Rd.fault]
theorem Rd.num_put {r : Rd} (h : r.num'.bad = false) : r.bad = false ∧ r.num'.pre = r.pre ++ be8 r.num ∧ r.num'.pre ++ r.num'.s = r.pre ++ r.s := by
  obtain ⟨h1, _, h2, h3, h4⟩ := Rd.skip_good h
  refine ⟨h1, ?_, h4⟩
  rw [Rd.num, be8_beVal _ (by omega)]
  exact h3
theorem Part.next_put (p : Part) (r : Rd) (h : (p.next r).bad = false) : r.bad = false ∧ (p.next r).pre = r.pre ++ p.put r ∧ (p.next r).pre ++ (p.next r).s = r.pre ++ r.s := by
  unfold Part.next Part.put at *
  split at h
  · rename_i hk
    rw [if_pos hk, if_pos hk]
    obtain ⟨h1, h0, h2, h3, h4⟩ := Rd.skip_good (r := r.skip 4) (k := r.len p.num) h
    obtain ⟨k1, _, k2, k3, k4⟩ := Rd.skip_good h1
    refine ⟨k1, ?_, h4.trans k4⟩
    have hl : r.len p.num = (beVal (r.got 4) : Nat) := by
      unfold Rd.len at h0 ⊢
      split at h0
      · omega
      · rename_i hm; rw [if_neg hm]
    have ht : ((r.text p.num).length : Int) = (beVal (r.got 4) : Nat) := by rw [← hl]; exact h2
    rw [txt, ht, be4_beVal _ (by omega), ← List.append_assoc, ← k3]
    exact h3
  · split at h
    · rename_i hk hk2
      rw [if_neg hk, if_neg hk, if_pos hk2, if_pos hk2]
      obtain ⟨h1, _, h2, h3, h4⟩ := Rd.skip_good (r := r) (k := 32) h
      refine ⟨h1, ?_, h4⟩
      have hl : (r.got 32).length = 32 := by omega
      rw [Rd.dg_bs, hl]
      simp only [Nat.sub_self]
      rw [show zeros 0 = [] from rfl, List.append_nil]
      exact h3
    · split at h
      · rename_i hk hk2 hk3
        rw [if_neg hk, if_neg hk, if_neg hk2, if_neg hk2, if_pos hk3, if_pos hk3]
        unfold Rd.inn' Rd.inn at *
        split at h
        · rename_i hok
          rw [if_pos hok, if_pos hok]
          exact Rd.num_put h
        · simp [Rd.fault] at h
      · rename_i hk hk2 hk3
        rw [if_neg hk, if_neg hk, if_neg hk2, if_neg hk2, if_neg hk3, if_neg hk3]
        exact Rd.num_put h
theorem Rd.got_short (r : Rd) (k : Int) : (r.got k).length ≤ r.s.length := by
  unfold Rd.got
  split
  · rw [List.length_take]; omega
  · simp
theorem Part.next_short (p : Part) (r : Rd) : (p.next r).s.length ≤ r.s.length := by
  unfold Part.next
  have hn : r.num'.s.length ≤ r.s.length := r.skip_short 8
  split
  · exact Nat.le_trans (Rd.skip_short _ _) (Rd.skip_short _ _)
  · split
    · exact Rd.skip_short _ _
    · split
      · unfold Rd.inn'
        split
        · exact hn
        · simp [Rd.fault]
      · exact hn
theorem Part.put_short (p : Part) (r : Rd) : (p.put r).length ≤ 32 + r.s.length := by
  unfold Part.put
  split
  · have h1 := Rd.got_short (r.skip 4) (r.len p.num)
    have h2 := r.skip_short 4
    rw [txt_length]
    unfold Rd.text
    omega
  · split
    · rw [Dg.length]; omega
    · split <;> (rw [be8_length]; omega)
/-- The reader behind the calls; what is written. -/
def nexts (ps : List Part) (r : Rd) : Rd := ps.foldl (fun r p => p.next r) r
def puts : List Part → Rd → Bytes
  | [], _ => []
  | p :: ps, r => p.put r ++ puts ps (p.next r)
theorem nexts_snoc (ps : List Part) (j : Nat) (h : j < ps.length) (r : Rd) : nexts (ps.take (j + 1)) r = ps[j].next (nexts (ps.take j) r) := by
  simp only [nexts, take_snoc _ _ h, List.foldl_append, List.foldl_cons, List.foldl_nil]
theorem puts_append : ∀ (as bs : List Part) (r : Rd), puts (as ++ bs) r = puts as r ++ puts bs (nexts as r)
  | [], _, _ => by simp [puts, nexts]
  | a :: as, bs, r => by
    simp only [List.cons_append, puts, puts_append as bs, List.append_assoc]
    rfl
theorem puts_snoc (ps : List Part) (j : Nat) (h : j < ps.length) (r : Rd) : puts (ps.take (j + 1)) r = puts (ps.take j) r ++ ps[j].put (nexts (ps.take j) r) := by
  rw [take_snoc _ _ h, puts_append]
  simp [puts]
theorem nexts_short : ∀ (ps : List Part) (r : Rd), (nexts ps r).s.length ≤ r.s.length
  | [], _ => Nat.le_refl _
  | p :: ps, r => Nat.le_trans (nexts_short ps (p.next r)) (p.next_short r)
theorem puts_short : ∀ (ps : List Part) (r : Rd), (puts ps r).length ≤ ps.length * (32 + r.s.length)
  | [], _ => by simp [puts]
  | p :: ps, r => by
    have h1 := p.put_short r
    have h2 := puts_short ps (p.next r)
    have h3 := p.next_short r
    have h4 : ps.length * (32 + (p.next r).s.length) ≤ ps.length * (32 + r.s.length) := Nat.mul_le_mul_left _ (by omega)
    simp only [puts, List.length_append, List.length_cons, Nat.succ_mul]
    omega
theorem puts_good : ∀ (ps : List Part) (r : Rd), (nexts ps r).bad = false → r.bad = false ∧ (nexts ps r).pre = r.pre ++ puts ps r ∧ (nexts ps r).pre ++ (nexts ps r).s = r.pre ++ r.s
  | [], r, h => ⟨h, by simp [nexts, puts], rfl⟩
  | p :: ps, r, h => by
    obtain ⟨h1, h2, h3⟩ := puts_good ps (p.next r) h
    obtain ⟨k1, k2, k3⟩ := p.next_put r h1
    refine ⟨k1, ?_, h3.trans k3⟩
    show (nexts ps (p.next r)).pre = _
    rw [h2, k2, puts, List.append_assoc]
/-- What is read to its end is what is written. -/
theorem puts_done (ps : List Part) (bs : Bytes) (h : (nexts ps (Rd.of bs)).done = true) : puts ps (Rd.of bs) = bs := by
  simp only [Rd.done, Bool.and_eq_true, Bool.not_eq_true', decide_eq_true_eq] at h
  obtain ⟨_, h2, h3⟩ := puts_good ps (Rd.of bs) h.1
  rw [h.2, List.append_nil] at h3
  rw [h3] at h2
  simpa [Rd.of] using h2.symm
end Go.Proofs.YtmdjimkndeklmaaDoor.WL
