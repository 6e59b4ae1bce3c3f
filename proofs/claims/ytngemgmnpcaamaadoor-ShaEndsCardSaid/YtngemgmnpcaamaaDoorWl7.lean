/-
  OPERATIONS ON SCALARS; comparisons; conversions.
-/
import Derived.Test.YtngemgmnpcaamaaDoorWl6
import Derived.Laws.StructEq
namespace Go.Proofs.YtngemgmnpcaamaaDoor.WL
open Go

def bitsOp (op : BinOp) (k : IntKind) (a b : Int) : Int :=
  match op with
  | .and => k.wrap ((BitVec.ofInt k.bits a &&& BitVec.ofInt k.bits b).toNat : Nat)
  | .or => k.wrap ((BitVec.ofInt k.bits a ||| BitVec.ofInt k.bits b).toNat : Nat)
  | .xor => k.wrap ((BitVec.ofInt k.bits a ^^^ BitVec.ofInt k.bits b).toNat : Nat)
  | _ => k.wrap ((BitVec.ofInt k.bits a &&& ~~~(BitVec.ofInt k.bits b)).toNat : Nat)

/-- Two-operand operations on integers and strings. -/
def binV (op : BinOp) (x y : Value) : Option Value :=
  match x, y with
  | .int k a, .int k' b =>
    match op with
    | .shl => if 0 ≤ b then some (.int k (k.wrap (a * 2 ^ min b.toNat k.bits))) else none
    | .shr => if 0 ≤ b then some (.int k (a.fdiv (2 ^ min b.toNat k.bits))) else none
    | .add => if k = k' then some (.int k (k.wrap (a + b))) else none
    | .sub => if k = k' then some (.int k (k.wrap (a - b))) else none
    | .mul => if k = k' then some (.int k (k.wrap (a * b))) else none
    | .quo => if k = k' ∧ b ≠ 0 then some (.int k (k.wrap (a.tdiv b))) else none
    | .rem => if k = k' ∧ b ≠ 0 then some (.int k (a.tmod b)) else none
    | .and => if k = k' then some (.int k (bitsOp .and k a b)) else none
    | .or => if k = k' then some (.int k (bitsOp .or k a b)) else none
    | .xor => if k = k' then some (.int k (bitsOp .xor k a b)) else none
    | .andNot => if k = k' then some (.int k (bitsOp .andNot k a b)) else none
    | .eql => if k = k' then some (.bool (a == b)) else none
    | .neq => if k = k' then some (.bool (a != b)) else none
    | .lss => if k = k' then some (.bool (decide (a < b))) else none
    | .leq => if k = k' then some (.bool (decide (a ≤ b))) else none
    | .gtr => if k = k' then some (.bool (decide (a > b))) else none
    | .geq => if k = k' then some (.bool (decide (a ≥ b))) else none
  | .string a, .string b =>
    match op with
    | .add => if a.size + b.size ≤ 9223372036854775807 then some (.string (a ++ b)) else none
    | .eql => some (.bool (a.toList == b.toList))
    | .neq => some (.bool !(a.toList == b.toList))
    | .lss => some (.bool (Op.bytesLess a.toList b.toList))
    | .leq => some (.bool (Op.bytesLess a.toList b.toList || a.toList == b.toList))
    | .gtr => some (.bool !(Op.bytesLess a.toList b.toList || a.toList == b.toList))
    | .geq => some (.bool !(Op.bytesLess a.toList b.toList))
    | _ => none
  | _, _ => none

theorem run_eqGuard_int {P : Program} {w : World} (op : BinOp) (t : TypeId) (xo yo : Operand) (k k' : IntKind) (a b : Int) : (eqGuard op t xo yo (.int k a) (.int k' b)).run P w = .ok () w := by
  unfold eqGuard; cases op <;> simp
theorem run_eqGuard_str {P : Program} {w : World} (op : BinOp) (t : TypeId) (xo yo : Operand) (a b : ByteArray) : (eqGuard op t xo yo (.string a) (.string b)).run P w = .ok () w := by
  unfold eqGuard; cases op <;> simp

theorem i64_max : IntKind.i64.max = 9223372036854775807 := by decide

theorem sim_bin {P : Program} {w : World} {op : BinOp} {t : TypeId} {xo yo : Operand} {x y r : Value} (h : binV op x y = some r) :
    (do eqGuard op t xo yo x y; binOp op t x y : Sem Value).run P w = .ok r w := by
  unfold binV at h
  split at h
  · rename_i k a k' b
    simp only [Sem.run_bind, run_eqGuard_int, Result.andThen_ok]
    cases op <;> simp only at h <;> split at h <;> first
      | (cases h; done)
      | (rename_i hc
         obtain rfl := Option.some.inj h
         first
           | (subst hc; simp [binOp, Op.intArith, Op.intBits, Op.intCmp, bitsOp]; done)
           | (obtain ⟨rfl, hb⟩ := hc; simp [binOp, Op.intDiv, hb]; done)
           | (have : ¬ b < 0 := by omega
              simp [binOp, Op.shift, this]; done))
  · rename_i a b
    simp only [Sem.run_bind, run_eqGuard_str, Result.andThen_ok]
    cases op <;> simp only at h <;> first
      | (cases h; done)
      | (obtain rfl := Option.some.inj h; simp [binOp, Op.stringOp]; done)
      | (split at h
         · rename_i hc
           obtain rfl := Option.some.inj h
           have : ¬ (((a.size + b.size : Nat) : Int) > IntKind.i64.max) := by rw [i64_max]; omega
           simp only [binOp, Op.stringOp, if_neg this]; rfl
         · cases h)
  · cases h

/-- '==', '!=' of bools. -/
def eqbV (neg : Bool) (x y : Value) : Option Value :=
  match x, y with
  | .bool a, .bool b => some (.bool (if neg then !(a == b) else a == b))
  | _, _ => none
def eqOp (neg : Bool) : BinOp := if neg then .neq else .eql

theorem sim_eqb {P : Program} {w : World} {neg : Bool} {t : TypeId} {xo yo : Operand} {x y r : Value} (hu : P.underlying t = some .bool) (h : eqbV neg x y = some r) :
    (do eqGuard (eqOp neg) t xo yo x y; binOp (eqOp neg) t x y : Sem Value).run P w = .ok r w := by
  unfold eqbV at h
  split at h
  · rename_i a b
    obtain rfl := Option.some.inj h
    have e : (Op.equal t (.bool a) (.bool b)).run P w = .ok (a == b) w := run_equalIn_bool w _ t a b hu
    cases neg <;> simp [eqOp, eqGuard, binOp, e]
  · cases h

theorem run_equalIn_ptr {P : Program} {w : World} {t e : TypeId} (d : Nat) (o : Option Addr) (hu : P.underlying t = some (.pointer e)) : (Op.equalIn (d + 1) t (.pointer o) (.pointer none)).run P w = .ok o.isNone w := by
  cases o <;> simp [Op.equalIn, run_underlying hu]

/-- '==', '!=' of a pointer and nil. -/
theorem sim_eqp {P : Program} {w : World} {neg : Bool} {t e : TypeId} {xo yo : Operand} (o : Option Addr) (hu : P.underlying t = some (.pointer e)) :
    (do eqGuard (eqOp neg) t xo yo (.pointer o) (.pointer none); binOp (eqOp neg) t (.pointer o) (.pointer none) : Sem Value).run P w = .ok (.bool (if neg then o.isSome else o.isNone)) w := by
  have e : (Op.equal t (.pointer o) (.pointer none)).run P w = .ok o.isNone w := run_equalIn_ptr _ o hu
  cases neg <;> cases o <;> simp [eqOp, eqGuard, binOp, e]

/-! Arrays of integers -/
def intsOf (k : IntKind) : List AV → Option (List Int)
  | [] => some []
  | .v (.int k' n) :: r => if k' = k then (intsOf k r).map (n :: ·) else none
  | _ => none

theorem intsOf_map (k : IntKind) (l : List Int) : intsOf k (l.map fun n => .v (.int k n)) = some l := by
  induction l with
  | nil => rfl
  | cons n l ih => simp [intsOf, ih]

theorem intsOf_cells {C : Ctx} {k : IntKind} : ∀ {xs : List AV} {ns : List Int} {cs : List Value}, intsOf k xs = some ns → Es C 1 xs cs → cs = ns.map (Value.int k)
  | [], ns, cs, h, e => by
    simp only [intsOf, Option.some.injEq] at h
    subst h
    simpa [Es] using e
  | x :: xs, ns, cs, h, e => by
    cases x with
    | v y =>
      cases y with
      | int k' n =>
        simp only [intsOf] at h
        split at h
        · rename_i hk
          subst hk
          simp only [Option.map_eq_some_iff] at h
          obtain ⟨ns', h1, rfl⟩ := h
          simp only [Es] at e
          obtain ⟨c1, c2, rfl, _, h2, h3⟩ := e
          simp only [V] at h2
          obtain ⟨rfl, _⟩ := h2
          rw [intsOf_cells h1 h3]
          rfl
        · cases h
      | _ => simp [intsOf] at h
    | _ => simp [intsOf] at h

theorem run_eqInts {P : Program} {w : World} {D : Nat} (hD : 0 < D) {t e : TypeId} {k : IntKind} {as bs : List Int} (hu : P.underlying t = some (.array as.length e)) (he : P.underlying e = some (.int k)) (hs : tsz P e = some 1)
    (hl : bs.length = as.length) : (Op.equalIn (D + 1) t (.agg (as.map (Value.int k)).toArray) (.agg (bs.map (Value.int k)).toArray)).run P w = .ok (as == bs) w := by
  have ha : tagg P e = some false := by simp [tagg, he]
  let body : Nat → Option Bool × Unit → Sem (ForInStep (Option Bool × Unit)) := fun i _ => do
    if (!(← Op.equalIn D e (← part e (as.map (Value.int k)).toArray (i * 1)) (← part e (bs.map (Value.int k)).toArray (i * 1)))) = true then pure (ForInStep.done (some false, ()))
    else pure (ForInStep.yield (none, ()))
  have step : ∀ (s : Nat) (hsa : s < as.length) (hsb : s < bs.length) (st : Option Bool × Unit),
      (body s st).run P w = .ok (if as[s] == bs[s] then ForInStep.yield (none, ()) else ForInStep.done (some false, ())) w := by
    intro s hsa hsb st
    have pa := run_part (P := P) (w := w) ha hs (fun _ => rfl) (off := s * 1) (cs := (as.map (Value.int k)).toArray) (by simp; omega)
    have pb := run_part (P := P) (w := w) ha hs (fun _ => rfl) (off := s * 1) (cs := (bs.map (Value.int k)).toArray) (by simp; omega)
    have ea : ((as.map (Value.int k)).toArray.toList.drop (s * 1)).take 1 = [.int k as[s]] := by rw [Nat.mul_one, List.drop_eq_getElem_cons (by simpa using hsa)]; simp
    have eb : ((bs.map (Value.int k)).toArray.toList.drop (s * 1)).take 1 = [.int k bs[s]] := by rw [Nat.mul_one, List.drop_eq_getElem_cons (by simpa using hsb)]; simp
    rw [ea] at pa
    rw [eb] at pb
    simp only [valOf, Bool.false_eq_true, if_false, List.headD_cons] at pa pb
    have hint : (Op.equalIn D e (.int k as[s]) (.int k bs[s])).run P w = .ok (as[s] == bs[s]) w := by
      cases D with
      | zero => omega
      | succ d => exact run_equalIn_int w d e k k _ _ he
    simp only [body, Sem.run_bind, pa, pb, Result.andThen_ok, hint, Sem.run_ite, Sem.run_pure]
    cases (as[s] == bs[s]) <;> simp
  have key : ∀ (n s : Nat) (st : Option Bool × Unit), s + n = as.length → st = (none, ()) →
      (forIn (m := Sem) (List.range' s n 1) st body).run P w = .ok (if as.drop s == bs.drop s then (none, ()) else (some false, ())) w := by
    intro n
    induction n with
    | zero =>
      intro s st hs' hst
      have h1 : as.drop s = [] := List.drop_of_length_le (by omega)
      have h2 : bs.drop s = [] := List.drop_of_length_le (by omega)
      simp [h1, h2, hst]
    | succ n ih =>
      intro s st hs' hst
      have hsa : s < as.length := by omega
      have hsb : s < bs.length := by omega
      rw [List.drop_eq_getElem_cons hsa, List.drop_eq_getElem_cons hsb, List.range'_succ, List.forIn_cons, Sem.run_bind, step s hsa hsb st, Result.andThen_ok]
      have e1 : (as[s] :: as.drop (s + 1) == bs[s] :: bs.drop (s + 1)) = ((as[s] == bs[s]) && (as.drop (s + 1) == bs.drop (s + 1))) := rfl
      rw [e1]
      cases hab : as[s] == bs[s] with
      | true =>
        simp only [if_true, Bool.true_and]
        exact ih (s + 1) (none, ()) (by omega) rfl
      | false => simp
  have h0 := key as.length 0 (none, ()) (by omega) rfl
  simp only [List.drop_zero] at h0
  simp only [Op.equalIn, Sem.run_bind, run_underlying hu, Result.andThen_ok, run_tsz hs, Std.Legacy.Range.forIn_eq_forIn_range', Std.Legacy.Range.size, Nat.sub_zero, Nat.add_sub_cancel, Nat.div_one]
  refine (congrArg (fun r => Result.andThen r _) h0).trans ?_
  clear h0 key step
  cases as == bs <;> simp

end Go.Proofs.YtngemgmnpcaamaaDoor.WL
