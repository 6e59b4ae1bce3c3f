/-
  OPERATIONS ON SCALARS; comparisons; conversions.
-/
import Derived.Test.YtngemgmnpcaamaaDoorWl6
import Derived.Laws.StructEq
namespace Go.Proofs.YtngemgmnpcaamaaDoor.WL
open Go

def bitsOp (op : BinOp) (k : IntKind) (a b : Int) : Int :=
  match op with
  | .and => k.wrap ((BitVec.ofInt k.bits a &&& BitVec.ofInt k.bits b).toNat : Nat)
  | .or => k.wrap ((BitVec.ofInt k.bits a ||| BitVec.ofInt k.bits b).toNat : Nat)
  | .xor => k.wrap ((BitVec.ofInt k.bits a ^^^ BitVec.ofInt k.bits b).toNat : Nat)
  | _ => k.wrap ((BitVec.ofInt k.bits a &&& ~~~(BitVec.ofInt k.bits b)).toNat : Nat)

/-- Two-operand operations on integers and strings. -/
def binV (op : BinOp) (x y : Value) : Option Value :=
  match x, y with
  | .int k a, .int k' b =>
    match op with
    | .shl => if 0 ≤ b then some (.int k (k.wrap (a * 2 ^ min b.toNat k.bits))) else none
    | .shr => if 0 ≤ b then some (.int k (a.fdiv (2 ^ min b.toNat k.bits))) else none
    | .add => if k = k' then some (.int k (k.wrap (a + b))) else none
    | .sub => if k = k' then some (.int k (k.wrap (a - b))) else none
    | .mul => if k = k' then some (.int k (k.wrap (a * b))) else none
    | .quo => if k = k' ∧ b ≠ 0 then some (.int k (k.wrap (a.tdiv b))) else none
    | .rem => if k = k' ∧ b ≠ 0 then some (.int k (a.tmod b)) else none
    | .and => if k = k' then some (.int k (bitsOp .and k a b)) else none
    | .or => if k = k' then some (.int k (bitsOp .or k a b)) else none
    | .xor => if k = k' then some (.int k (bitsOp .xor k a b)) else none
    | .andNot => if k = k' then some (.int k (bitsOp .andNot k a b)) else none
    | .eql => if k = k' then some (.bool (a == b)) else none
    | .neq => if k = k' then some (.bool (a != b)) else none
    | .lss => if k = k' then some (.bool (decide (a < b))) else none
    | .leq => if k = k' then some (.bool (decide (a ≤ b))) else none
    | .gtr => if k = k' then some (.bool (decide (a > b))) else none
    | .geq => if k = k' then some (.bool (decide (a ≥ b))) else none
  | .string a, .string b =>
    match op with
    | .add => if a.size + b.size ≤ 9223372036854775807 then some (.string (a ++ b)) else none
    | .eql => some (.bool (a.toList == b.toList))
    | .neq => some (.bool !(a.toList == b.toList))
    | .lss => some (.bool (Op.bytesLess a.toList b.toList))
    | .leq => some (.bool (Op.bytesLess a.toList b.toList || a.toList == b.toList))
    | .gtr => some (.bool !(Op.bytesLess a.toList b.toList || a.toList == b.toList))
    | .geq => some (.bool !(Op.bytesLess a.toList b.toList))
    | _ => none
  | _, _ => none

theorem run_eqGuard_int {P : Program} {w : World} (op : BinOp) (t : TypeId) (xo yo : Operand) (k k' : IntKind) (a b : Int) : (eqGuard op t xo yo (.int k a) (.int k' b)).run P w = .ok () w := by
  unfold eqGuard; cases op <;> simp
theorem run_eqGuard_str {P : Program} {w : World} (op : BinOp) (t : TypeId) (xo yo : Operand) (a b : ByteArray) : (eqGuard op t xo yo (.string a) (.string b)).run P w = .ok () w := by
  unfold eqGuard; cases op <;> simp

theorem i64_max : IntKind.i64.max = 9223372036854775807 := by decide

theorem sim_bin {P : Program} {w : World} {op : BinOp} {t : TypeId} {xo yo : Operand} {x y r : Value} (h : binV op x y = some r) :
    (do eqGuard op t xo yo x y; binOp op t x y : Sem Value).run P w = .ok r w := by
  unfold binV at h
  split at h
  · rename_i k a k' b
    simp only [Sem.run_bind, run_eqGuard_int, Result.andThen_ok]
    cases op <;> simp only at h <;> split at h <;> first
      | (cases h; done)
      | (rename_i hc
         obtain rfl := Option.some.inj h
         first
           | (subst hc; simp [binOp, Op.intArith, Op.intBits, Op.intCmp, bitsOp]; done)
           | (obtain ⟨rfl, hb⟩ := hc; simp [binOp, Op.intDiv, hb]; done)
           | (have : ¬ b < 0 := by omega
              simp [binOp, Op.shift, this]; done))
  · rename_i a b
    simp only [Sem.run_bind, run_eqGuard_str, Result.andThen_ok]
    cases op <;> simp only at h <;> first
      | (cases h; done)
      | (obtain rfl := Option.some.inj h; simp [binOp, Op.stringOp]; done)
      | (split at h
         · rename_i hc
           obtain rfl := Option.some.inj h
           have : ¬ (((a.size + b.size : Nat) : Int) > IntKind.i64.max) := by rw [i64_max]; omega
           simp only [binOp, Op.stringOp, if_neg this]; rfl
         · cases h)
  · cases h

/-- '==', '!=' of bools. -/
def eqbV (neg : Bool) (x y : Value) : Option Value :=
  match x, y with
  | .bool a, .bool b => some (.bool (if neg then !(a == b) else a == b))
  | _, _ => none
def eqOp (neg : Bool) : BinOp := if neg then .neq else .eql

theorem sim_eqb {P : Program} {w : World} {neg : Bool} {t : TypeId} {xo yo : Operand} {x y r : Value} (hu : P.underlying t = some .bool) (h : eqbV neg x y = some r) :
    (do eqGuard (eqOp neg) t xo yo x y; binOp (eqOp neg) t x y : Sem Value).run P w = .ok r w := by
  unfold eqbV at h
  split at h
  · rename_i a b
    obtain rfl := Option.some.inj h
    have e : (Op.equal t (.bool a) (.bool b)).run P w = .ok (a == b) w := run_equalIn_bool w _ t a b hu
    cases neg <;> simp [eqOp, eqGuard, binOp, e]
  · cases h

theorem run_equalIn_ptr {P : Program} {w : World} {t e : TypeId} (d : Nat) (o : Option Addr) (hu : P.underlying t = some (.pointer e)) : (Op.equalIn (d + 1) t (.pointer o) (.pointer none)).run P w = .ok o.isNone w := by
  cases o <;> simp [Op.equalIn, run_underlying hu]

/-- '==', '!=' of a pointer and nil. -/
theorem sim_eqp {P : Program} {w : World} {neg : Bool} {t e : TypeId} {xo yo : Operand} (o : Option Addr) (hu : P.underlying t = some (.pointer e)) :
    (do eqGuard (eqOp neg) t xo yo (.pointer o) (.pointer none); binOp (eqOp neg) t (.pointer o) (.pointer none) : Sem Value).run P w = .ok (.bool (if neg then o.isSome else o.isNone)) w := by
  have e : (Op.equal t (.pointer o) (.pointer none)).run P w = .ok o.isNone w := run_equalIn_ptr _ o hu
  cases neg <;> cases o <;> simp [eqOp, eqGuard, binOp, e]

/-! Arrays of integers -/
def intsOf (k : IntKind) : List AV → Option (List Int)
  | [] => some []
  | .v (.int k' n) :: r => if k' = k then (intsOf k r).map (n :: ·) else none
  | _ => none

theorem intsOf_map (k : IntKind) (l : List Int) : intsOf k (l.map fun n => .v (.int k n)) = some l := by
  induction l with
  | nil => rfl
  | cons n l ih => simp [intsOf, ih]

theorem intsOf_cells {C : Ctx} {k : IntKind} : ∀ {xs : List AV} {ns : List Int} {cs : List Value}, intsOf k xs = some ns → Es C 1 xs cs → cs = ns.map (Value.int k)
  | [], ns, cs, h, e => by
    simp only [intsOf, Option.some.injEq] at h
    subst h
    simpa [Es] using e
  | x :: xs, ns, cs, h, e => by
    cases x with
    | v y =>
      cases y with
      | int k' n =>
        simp only [intsOf] at h
        split at h
        · rename_i hk
          subst hk
          simp only [Option.map_eq_some_iff] at h
          obtain ⟨ns', h1, rfl⟩ := h
          simp only [Es] at e
          obtain ⟨c1, c2, rfl, _, h2, h3⟩ := e
          simp only [V] at h2
          obtain ⟨rfl, _⟩ := h2
          rw [intsOf_cells h1 h3]
          rfl
        · cases h
      | _ => simp [intsOf] at h
    | _ => simp [intsOf] at h

theorem run_eqInts {P : Program} {w : World} {D : Nat} (hD : 0 < D) {t e : TypeId} {k : IntKind} {as bs : List Int} (hu : P.underlying t = some (.array as.length e)) (he : P.underlying e = some (.int k)) (hs : tsz P e = some 1)
    (hl : bs.length = as.length) : (Op.equalIn (D + 1) t (.agg (as.map (Value.int k)).toArray) (.agg (bs.map (Value.int k)).toArray)).run P w = .ok (as == bs) w := by
  have ha : tagg P e = some false := by simp [tagg, he]
  let body : Nat → Option Bool × Unit → Sem (ForInStep (Option Bool × Unit)) := fun i _ => do
    if (!(← Op.equalIn D e (← part e (as.map (Value.int k)).toArray (i * 1)) (← part e (bs.map (Value.int k)).toArray (i * 1)))) = true then pure (ForInStep.done (some false, ()))
    else pure (ForInStep.yield (none, ()))
  have step : ∀ (s : Nat) (hsa : s < as.length) (hsb : s < bs.length) (st : Option Bool × Unit),
      (body s st).run P w = .ok (if as[s] == bs[s] then ForInStep.yield (none, ()) else ForInStep.done (some false, ())) w := by
    intro s hsa hsb st
    have pa := run_part (P := P) (w := w) ha hs (fun _ => rfl) (off := s * 1) (cs := (as.map (Value.int k)).toArray) (by simp; omega)
    have pb := run_part (P := P) (w := w) ha hs (fun _ => rfl) (off := s * 1) (cs := (bs.map (Value.int k)).toArray) (by simp; omega)
    have ea : ((as.map (Value.int k)).toArray.toList.drop (s * 1)).take 1 = [.int k as[s]] := by rw [Nat.mul_one, List.drop_eq_getElem_cons (by simpa using hsa)]; simp
    have eb : ((bs.map (Value.int k)).toArray.toList.drop (s * 1)).take 1 = [.int k bs[s]] := by rw [Nat.mul_one, List.drop_eq_getElem_cons (by simpa using hsb)]; simp
    rw [ea] at pa
    rw [eb] at pb
    simp only [valOf, Bool.false_eq_true, if_false, List.headD_cons] at pa pb
    have hint : (Op.equalIn D e (.int k as[s]) (.int k bs[s])).run P w = .ok (as[s] == bs[s]) w := by
      cases D with
      | zero => omega
      | succ d => exact run_equalIn_int w d e k k _ _ he
    simp only [body, Sem.run_bind, pa, pb, Result.andThen_ok, hint, Sem.run_ite, Sem.run_pure]
    cases (as[s] == bs[s]) <;> simp
  have key : ∀ (n s : Nat) (st : Option Bool × Unit), s + n = as.length → st = (none, ()) →
      (forIn (m := Sem) (List.range' s n 1) st body).run P w = .ok (if as.drop s == bs.drop s then (none, ()) else (some false, ())) w := by
    intro n
    induction n with
    | zero =>
      intro s st hs' hst
      have h1 : as.drop s = [] := List.drop_of_length_le (by omega)
      have h2 : bs.drop s = [] := List.drop_of_length_le (by omega)
      simp [h1, h2, hst]
    | succ n ih =>
      intro s st hs' hst
      have hsa : s < as.length := by omega
      have hsb : s < bs.length := by omega
      rw [List.drop_eq_getElem_cons hsa, List.drop_eq_getElem_cons hsb, List.range'_succ, List.forIn_cons, Sem.run_bind, step s hsa hsb st, Result.andThen_ok]
      have e1 : (as[s] :: as.drop (s + 1) == bs[s] :: bs.drop (s + 1)) = ((as[s] == bs[s]) && (as.drop (s + 1) == bs.drop (s + 1))) := rfl
      rw [e1]
      cases hab : as[s] == bs[s] with
      | true =>
        simp only [if_true, Bool.true_and]
        exact ih (s + 1) (none, ()) (by omega) rfl
      | false => simp
  have h0 := key as.length 0 (none, ()) (by omega) rfl
  simp only [List.drop_zero] at h0
  simp only [Op.equalIn, Sem.run_bind, run_underlying hu, Result.andThen_ok, run_tsz hs, Std.Legacy.Range.forIn_eq_forIn_range', Std.Legacy.Range.size, Nat.sub_zero, Nat.add_sub_cancel, Nat.div_one]
  refine (congrArg (fun r => Result.andThen r _) h0).trans ?_
  clear h0 key step
  cases as == bs <;> simp


/-! Values of shapes that are compared whole. -/
inductive Sh where
  | int (k : IntKind)
  | str
  | bool
  | ints (k : IntKind) (n : Nat)
  | st (ss : List Sh)

mutual
def Sh.sz : Sh → Nat
  | .ints _ n => n
  | .st ss => Sh.szs ss
  | _ => 1
def Sh.szs : List Sh → Nat
  | [] => 0
  | s :: ss => Sh.sz s + Sh.szs ss
end

mutual
def cmpA : Sh → AV → AV → Option Bool
  | .int k, x, y => match x, y with
    | .v (.int k1 a), .v (.int k2 b) => if k1 = k ∧ k2 = k then some (a == b) else none
    | _, _ => none
  | .str, x, y => match x, y with
    | .v (.string a), .v (.string b) => some (a.toList == b.toList)
    | _, _ => none
  | .bool, x, y => match x, y with
    | .v (.bool a), .v (.bool b) => some (a == b)
    | _, _ => none
  | .ints k n, x, y => match x, y with
    | .arr 1 xs, .arr 1 ys => (match intsOf k xs, intsOf k ys with
      | some a, some b => if a.length = n ∧ b.length = n then some (a == b) else none
      | _, _ => none)
    | _, _ => none
  | .st ss, x, y => match x, y with
    | .node xs, .node ys => cmpL ss xs ys
    | _, _ => none
def cmpL : List Sh → List AV → List AV → Option Bool
  | [], [], [] => some true
  | s :: ss, x :: xs, y :: ys => (cmpA s x y).bind fun r => (cmpL ss xs ys).map fun q => r && q
  | _, _, _ => none
end

mutual
def Sh.dep : Sh → Nat
  | .ints _ _ => 2
  | .st ss => Sh.deps ss + 1
  | _ => 1
def Sh.deps : List Sh → Nat
  | [] => 0
  | s :: ss => max (Sh.dep s) (Sh.deps ss)
end
def Sh.agg : Sh → Bool
  | .ints _ _ | .st _ => true
  | _ => false

def isIntK (P : Program) (t : TypeId) (k : IntKind) : Bool := match P.underlying t with | some (.int k') => decide (k' = k) | _ => false
mutual
def chkSh (P : Program) : Sh → TypeId → Bool
  | .int k, t => isIntK P t k && tsz P t == some 1
  | .str, t => (match P.underlying t with | some .string => true | _ => false) && tsz P t == some 1
  | .bool, t => (match P.underlying t with | some .bool => true | _ => false) && tsz P t == some 1
  | .ints k n, t => (match P.underlying t with | some (.array n' e) => n' == n && isIntK P e k && tsz P e == some 1 | _ => false) && tsz P t == some n
  | .st ss, t => (match P.underlying t with | some (.struct fs) => !P.stoodInHeld t && chkShs P ss 0 fs.toList | _ => false) && tsz P t == some (Sh.szs ss)
def chkShs (P : Program) : List Sh → Nat → List Field → Bool
  | [], _, fs => fs.isEmpty
  | s :: ss, off, fs => match fs with
    | [] => false
    | f :: fs => f.name != "_" && f.offset == off && decide (0 < Sh.sz s) && chkSh P s f.type && chkShs P ss (off + Sh.sz s) fs
end

theorem isIntK_eq {P : Program} {t : TypeId} {k : IntKind} (h : isIntK P t k = true) : P.underlying t = some (.int k) := by
  unfold isIntK at h
  split at h
  · rename_i k' hk
    rw [hk, of_decide_eq_true h]
  · cases h

theorem chkSh_facts {P : Program} {s : Sh} {t : TypeId} (h : chkSh P s t = true) : tsz P t = some (Sh.sz s) ∧ tagg P t = some s.agg := by
  cases s with
  | int k =>
    simp only [chkSh, Bool.and_eq_true, beq_iff_eq] at h
    exact ⟨h.2, by simp [tagg, isIntK_eq h.1, Sh.agg]⟩
  | str =>
    simp only [chkSh, Bool.and_eq_true, beq_iff_eq] at h
    obtain ⟨h1, h2⟩ := h
    split at h1
    · rename_i hu; exact ⟨h2, by simp [tagg, hu, Sh.agg]⟩
    · cases h1
  | bool =>
    simp only [chkSh, Bool.and_eq_true, beq_iff_eq] at h
    obtain ⟨h1, h2⟩ := h
    split at h1
    · rename_i hu; exact ⟨h2, by simp [tagg, hu, Sh.agg]⟩
    · cases h1
  | ints k n =>
    simp only [chkSh, Bool.and_eq_true, beq_iff_eq] at h
    obtain ⟨h1, h2⟩ := h
    split at h1
    · rename_i hu; exact ⟨h2, by simp [tagg, hu, Sh.agg]⟩
    · cases h1
  | st ss =>
    simp only [chkSh, Bool.and_eq_true, beq_iff_eq] at h
    obtain ⟨h1, h2⟩ := h
    split at h1
    · rename_i hu; exact ⟨h2, by simp [tagg, hu, Sh.agg]⟩
    · cases h1

theorem Sh.sz_one {s : Sh} (h : s.agg = false) : Sh.sz s = 1 := by cases s <;> simp [Sh.agg] at h <;> rfl

theorem V_one {C : Ctx} {x : Value} {cs : List Value} (h : V C (.v x) cs) : cs = [x] := by simp only [V] at h; exact h.1

theorem intsOf_len {k : IntKind} : ∀ {xs : List AV} {ns : List Int}, intsOf k xs = some ns → ns.length = xs.length
  | [], ns, h => by simp only [intsOf, Option.some.injEq] at h; subst h; rfl
  | x :: xs, ns, h => by
    unfold intsOf at h
    split at h
    · rename_i e; cases e
    · rename_i e
      obtain ⟨rfl, rfl⟩ := List.cons.inj e
      split at h
      · simp only [Option.map_eq_some_iff] at h
        obtain ⟨ms, hm, rfl⟩ := h
        simp [intsOf_len hm]
      · cases h
    · cases h

mutual
theorem cmpA_size : ∀ {s : Sh} {x y : AV} {r : Bool}, cmpA s x y = some r → x.size = Sh.sz s ∧ y.size = Sh.sz s
  | .int k, x, y, r, h => by
    simp only [cmpA] at h
    split at h
    · exact ⟨rfl, rfl⟩
    · cases h
  | .str, x, y, r, h => by
    simp only [cmpA] at h
    split at h
    · exact ⟨rfl, rfl⟩
    · cases h
  | .bool, x, y, r, h => by
    simp only [cmpA] at h
    split at h
    · exact ⟨rfl, rfl⟩
    · cases h
  | .ints k n, x, y, r, h => by
    simp only [cmpA] at h
    split at h
    · split at h
      · rename_i h1 h2
        split at h
        · rename_i hl
          simp only [AV.size, Sh.sz, ← intsOf_len h1, ← intsOf_len h2]
          omega
        · cases h
      · cases h
    · cases h
  | .st ss, x, y, r, h => by
    simp only [cmpA] at h
    split at h
    · simp only [AV.size, Sh.sz]
      exact cmpL_size h
    · cases h
theorem cmpL_size : ∀ {ss : List Sh} {xs ys : List AV} {r : Bool}, cmpL ss xs ys = some r → AV.sizes xs = Sh.szs ss ∧ AV.sizes ys = Sh.szs ss
  | [], xs, ys, r, h => by
    unfold cmpL at h
    split at h
    · exact ⟨rfl, rfl⟩
    · rename_i e; cases e
    · cases h
  | s :: ss, xs, ys, r, h => by
    unfold cmpL at h
    split at h
    · rename_i e; cases e
    · rename_i s' ss' x xs y ys e
      obtain ⟨rfl, rfl⟩ := List.cons.inj e
      simp only [Option.bind_eq_some_iff, Option.map_eq_some_iff] at h
      obtain ⟨r1, hr1, r2, hr2, rfl⟩ := h
      have h1 := cmpA_size hr1
      have h2 := cmpL_size hr2
      simp only [AV.sizes, Sh.szs]
      omega
    · cases h
end

mutual
theorem eqSh {P : Program} {C : Ctx} {w : World} : ∀ (s : Sh) (t : TypeId) (a b : AV) (cs ds : List Value) (r : Bool) (D : Nat), chkSh P s t = true → cmpA s a b = some r → V C a cs → V C b ds → Sh.dep s ≤ D →
    (Op.equalIn D t (valOf s.agg cs) (valOf s.agg ds)).run P w = .ok r w
  | .int k, t, a, b, cs, ds, r, D, hc, h, ha, hb, hD => by
    obtain ⟨D, rfl⟩ : ∃ D', D = D' + 1 := ⟨D - 1, by simp only [Sh.dep] at hD; omega⟩
    simp only [chkSh, Bool.and_eq_true, beq_iff_eq] at hc
    simp only [cmpA] at h
    split at h
    · split at h
      · obtain rfl := V_one ha
        obtain rfl := V_one hb
        rename_i hk
        obtain ⟨rfl, rfl⟩ := hk
        rw [← Option.some.inj h]
        exact run_equalIn_int w D t _ _ _ _ (isIntK_eq hc.1)
      · cases h
    · cases h
  | .str, t, a, b, cs, ds, r, D, hc, h, ha, hb, hD => by
    obtain ⟨D, rfl⟩ : ∃ D', D = D' + 1 := ⟨D - 1, by simp only [Sh.dep] at hD; omega⟩
    simp only [chkSh, Bool.and_eq_true, beq_iff_eq] at hc
    obtain ⟨hc, _⟩ := hc
    split at hc
    · rename_i hu
      simp only [cmpA] at h
      split at h
      · obtain rfl := V_one ha
        obtain rfl := V_one hb
        rw [← Option.some.inj h]
        exact run_equalIn_string w D t _ _ hu
      · cases h
    · cases hc
  | .bool, t, a, b, cs, ds, r, D, hc, h, ha, hb, hD => by
    obtain ⟨D, rfl⟩ : ∃ D', D = D' + 1 := ⟨D - 1, by simp only [Sh.dep] at hD; omega⟩
    simp only [chkSh, Bool.and_eq_true, beq_iff_eq] at hc
    obtain ⟨hc, _⟩ := hc
    split at hc
    · rename_i hu
      simp only [cmpA] at h
      split at h
      · obtain rfl := V_one ha
        obtain rfl := V_one hb
        rw [← Option.some.inj h]
        exact run_equalIn_bool' w D t _ _ hu
      · cases h
    · cases hc
  | .ints k n, t, a, b, cs, ds, r, D, hc, h, ha, hb, hD => by
    obtain ⟨D, rfl⟩ : ∃ D', D = D' + 1 := ⟨D - 1, by simp only [Sh.dep] at hD; omega⟩
    simp only [chkSh, Bool.and_eq_true, beq_iff_eq] at hc
    obtain ⟨hc, _⟩ := hc
    split at hc
    · rename_i n' e hu
      simp only [Bool.and_eq_true, beq_iff_eq] at hc
      obtain ⟨⟨rfl, he⟩, hs⟩ := hc
      simp only [cmpA] at h
      split at h
      · rename_i xs ys
        split at h
        · rename_i as bs h1 h2
          split at h
          · rename_i hl
            obtain ⟨rfl, hl2⟩ := hl
            simp only [V] at ha hb
            have e1 := intsOf_cells h1 ha
            have e2 := intsOf_cells h2 hb
            subst e1 e2
            rw [← Option.some.inj h]
            exact run_eqInts (by simp only [Sh.dep] at hD; omega) hu (isIntK_eq he) hs hl2
          · cases h
        · cases h
      · cases h
    · cases hc
  | .st ss, t, a, b, cs, ds, r, D, hc, h, ha, hb, hD => by
    obtain ⟨D, rfl⟩ : ∃ D', D = D' + 1 := ⟨D - 1, by simp only [Sh.dep] at hD; omega⟩
    simp only [Sh.dep] at hD
    simp only [chkSh, Bool.and_eq_true, beq_iff_eq] at hc
    obtain ⟨hc, _⟩ := hc
    split at hc
    · rename_i fs hu
      simp only [Bool.and_eq_true, Bool.not_eq_true'] at hc
      obtain ⟨hst, hfs⟩ := hc
      simp only [cmpA] at h
      split at h
      · rename_i xs ys
        simp only [V] at ha hb
        have hf : P.fieldsOf t = fs := by simp [Program.fieldsOf, hu]
        have h1 := run_equalIn_struct w D t cs.toArray ds.toArray (by rw [hf]; exact hu) hst
        rw [hf] at h1
        show (Op.equalIn (D + 1) t (.agg cs.toArray) (.agg ds.toArray)).run P w = .ok r w
        rw [h1]
        exact eqShs ss 0 fs.toList xs ys cs.toArray ds.toArray r D hfs h ha hb (by omega)
      · cases h
    · cases hc
theorem eqShs {P : Program} {C : Ctx} {w : World} : ∀ (ss : List Sh) (off : Nat) (fs : List Field) (xs ys : List AV) (cs ds : Array Value) (r : Bool) (D : Nat), chkShs P ss off fs = true → cmpL ss xs ys = some r → Vs C xs (cs.toList.drop off) → Vs C ys (ds.toList.drop off) → Sh.deps ss ≤ D →
    (Op.eqFields D cs ds fs).run P w = .ok r w
  | [], off, fs, xs, ys, cs, ds, r, D, hc, h, ha, hb, hD => by
    simp only [chkShs, List.isEmpty_iff] at hc
    subst hc
    unfold cmpL at h
    split at h
    · rw [← Option.some.inj h]; rfl
    · rename_i e; cases e
    · cases h
  | s :: ss, off, fs, xs, ys, cs, ds, r, D, hc, h, ha, hb, hD => by
    simp only [Sh.deps] at hD
    simp only [chkShs] at hc
    split at hc
    · cases hc
    · rename_i f fs
      simp only [Bool.and_eq_true, bne_iff_ne, beq_iff_eq, decide_eq_true_eq] at hc
      obtain ⟨⟨⟨⟨hn, ho⟩, hpos⟩, h1⟩, h2⟩ := hc
      unfold cmpL at h
      split at h
      · rename_i e; cases e
      · rename_i s' ss' x xs y ys e
        obtain ⟨rfl, rfl⟩ := List.cons.inj e
        simp only [Option.bind_eq_some_iff, Option.map_eq_some_iff] at h
        obtain ⟨r1, hr1, r2, hr2, rfl⟩ := h
        simp only [Vs] at ha hb
        obtain ⟨c1, c2, ec, hx, hxs⟩ := ha
        obtain ⟨d1, d2, ed, hy, hys⟩ := hb
        obtain ⟨hsz, hag⟩ := chkSh_facts h1
        have lx := cmpA_size hr1
        have lc : c1.length = Sh.sz s := by rw [V_size _ _ hx, lx.1]
        have ld : d1.length = Sh.sz s := by rw [V_size _ _ hy, lx.2]
        have fit : ∀ (zs : Array Value) (z1 z2 : List Value), zs.toList.drop off = z1 ++ z2 → z1.length = Sh.sz s → off + Sh.sz s ≤ zs.size ∧ (zs.toList.drop off).take (Sh.sz s) = z1 ∧ zs.toList.drop (off + Sh.sz s) = z2 := by
          intro zs z1 z2 e hl
          refine ⟨?_, by rw [e, ← hl]; simp, by rw [← List.drop_drop, e, ← hl]; simp⟩
          have := congrArg List.length e
          simp only [List.length_drop, List.length_append, Array.length_toList] at this
          omega
        obtain ⟨f1, g1, k1⟩ := fit cs c1 c2 ec lc
        obtain ⟨f2, g2, k2⟩ := fit ds d1 d2 ed ld
        have p1 : (part f.type cs f.offset).run P w = .ok (valOf s.agg c1) w := by
          rw [ho]
          have := run_part (P := P) (w := w) (off := off) (cs := cs) hag hsz (fun h => Sh.sz_one h) f1
          rwa [g1] at this
        have p2 : (part f.type ds f.offset).run P w = .ok (valOf s.agg d1) w := by
          rw [ho]
          have := run_part (P := P) (w := w) (off := off) (cs := ds) hag hsz (fun h => Sh.sz_one h) f2
          rwa [g2] at this
        have q := eqSh (w := w) s f.type x y c1 d1 r1 D h1 hr1 hx hy (by omega)
        have qs := eqShs (w := w) ss (off + Sh.sz s) fs xs ys cs ds r2 D h2 hr2 (by rw [k1]; exact hxs) (by rw [k2]; exact hys) (by omega)
        simp only [Op.eqFields, hn, ne_eq, not_false_eq_true, if_true, Sem.run_bind, p1, p2, q, Result.andThen_ok, Sem.run_ite]
        cases r1 <;> simp [qs]
      · cases h
end

end Go.Proofs.YtngemgmnpcaamaaDoor.WL
