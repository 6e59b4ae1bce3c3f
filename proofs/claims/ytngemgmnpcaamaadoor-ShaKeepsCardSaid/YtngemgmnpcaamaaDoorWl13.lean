/-
  THE ABSTRACT OPERATIONS: their text, that it fits the model's, what they do.
-/
import Derived.Test.YtngemgmnpcaamaaDoorWl12
namespace Go.Proofs.YtngemgmnpcaamaaDoor.WL
open Go

mutual
/-- No reference to a location of the call's own. -/
def closed : AV → Bool
  | .top => true
  | .v _ => true
  | .node cs => closeds cs
  | .arr _ xs => closeds xs
  | .sl _ xs => closeds xs
  | .iptr x => closed x
  | _ => false
def closeds : List AV → Bool
  | [] => true
  | a :: as => closed a && closeds as
end

inductive COpd where
  | t (n : Nat)
  | c (x : Value)
  | g (n : Nat)

def vbeq : Value → Value → Bool
  | .bool a, .bool b => a == b
  | .int k a, .int k' b => decide (k = k') && a == b
  | .string a, .string b => a.data.toList == b.data.toList
  | .pointer none, .pointer none => true
  | .slice none a b, .slice none c d => a == c && b == d
  | .map none, .map none => true
  | .nilFunc, .nilFunc => true
  | .nilIface, .nilIface => true
  | _, _ => false

theorem vbeq_eq {x y : Value} (h : vbeq x y = true) : x = y ∧ x.oneCell' = true := by
  unfold vbeq at h
  split at h <;> first | (simp at h; done) | skip
  · simp only [beq_iff_eq] at h; subst h; exact ⟨rfl, rfl⟩
  · simp only [Bool.and_eq_true, decide_eq_true_eq, beq_iff_eq] at h; obtain ⟨rfl, rfl⟩ := h; exact ⟨rfl, rfl⟩
  · rename_i a b
    simp only [beq_iff_eq] at h
    obtain ⟨⟨a⟩⟩ := a
    obtain ⟨⟨b⟩⟩ := b
    simp only at h
    subst h
    exact ⟨rfl, rfl⟩
  · exact ⟨rfl, rfl⟩
  · simp only [Bool.and_eq_true, beq_iff_eq] at h; obtain ⟨rfl, rfl⟩ := h; exact ⟨rfl, rfl⟩
  · exact ⟨rfl, rfl⟩
  · exact ⟨rfl, rfl⟩
  · exact ⟨rfl, rfl⟩

def vbeqL : List Value → List Value → Bool
  | [], [] => true
  | a :: as, b :: bs => vbeq a b && vbeqL as bs
  | _, _ => false
theorem vbeqL_eq : ∀ {xs ys : List Value}, vbeqL xs ys = true → xs = ys
  | [], [], _ => rfl
  | a :: as, b :: bs, h => by
    simp only [vbeqL, Bool.and_eq_true] at h
    rw [(vbeq_eq h.1).1, vbeqL_eq h.2]
  | [], _ :: _, h => by simp [vbeqL] at h
  | _ :: _, [], h => by simp [vbeqL] at h
def cellsEq : Option (List Value) → Option (List Value) → Bool
  | some a, some b => vbeqL a b
  | _, _ => false
theorem cellsEq_eq {a b : Option (List Value)} (h : cellsEq a b = true) : ∃ cs, a = some cs ∧ b = some cs := by
  unfold cellsEq at h
  split at h
  · rename_i x y; rw [vbeqL_eq h]; exact ⟨_, rfl, rfl⟩
  · cases h

def chkOpd : Operand → COpd → Bool
  | .tmp n, .t m => n == m
  | .const x, .c y => vbeq x y
  | .global n, .g m => n == m
  | _, _ => false

def ev (G : Nat → Option AV) (fr : Nat → Option AV) : COpd → Option AV
  | .t n => fr n
  | .c x => some (.v x)
  | .g n => (G n).map .iptr

def FR (C : Ctx) (fr : Nat → Option AV) (a : Act) : Prop := ∀ t x, fr t = some x → ∃ y, a.tmps[t]? = some y ∧ SV C x y
def GR (C : Ctx) (G : Nat → Option AV) : Prop := ∀ n x, G n = some x → closed x = true ∧ V C (.iptr x) [.pointer (some ⟨n, 0, none⟩)]

theorem FR.mono {C C' : Ctx} (h : C.Le C') {fr : Nat → Option AV} {a : Act} (k : FR C fr a) : FR C' fr a := fun t x hx => let ⟨y, h1, h2⟩ := k t x hx; ⟨y, h1, h2.mono h⟩
theorem GR.mono {C C' : Ctx} (h : C.Le C') {G : Nat → Option AV} (k : GR C G) : GR C' G := fun n x hx => ⟨(k n x hx).1, V_mono h _ _ (k n x hx).2⟩

theorem ev_ok {C : Ctx} {G fr : Nat → Option AV} {a : Act} (hf : FR C fr a) (hg : GR C G) {o : Operand} {c : COpd} {x : AV} (hc : chkOpd o c = true) (h : ev G fr c = some x) : SV C x (a.eval o) := by
  unfold chkOpd at hc
  split at hc
  · rename_i n m
    simp only [beq_iff_eq] at hc
    subst hc
    obtain ⟨y, h1, h2⟩ := hf n x h
    obtain ⟨hlt, rfl⟩ := Array.getElem?_eq_some_iff.1 h1
    simpa [Act.eval, Array.getD, hlt] using h2
  · rename_i v y
    obtain ⟨rfl, h1⟩ := vbeq_eq hc
    simp only [ev, Option.some.injEq] at h
    subst h
    show V C (.v v) [v]
    simp only [V]
    exact ⟨trivial, h1⟩
  · rename_i n m
    simp only [beq_iff_eq] at hc
    subst hc
    simp only [ev, Option.map_eq_some_iff] at h
    obtain ⟨y, h1, rfl⟩ := h
    exact (hg n y h1).2
  · cases hc

def chkOpds : List Operand → List COpd → Bool
  | [], [] => true
  | o :: os, c :: cs => chkOpd o c && chkOpds os cs
  | _, _ => false

/-- Values side by side. -/
def SVl (C : Ctx) : List AV → List Value → Prop
  | [], ys => ys = []
  | a :: as, ys => ∃ y r, ys = y :: r ∧ SV C a y ∧ SVl C as r

def evs (G fr : Nat → Option AV) : List COpd → Option (List AV)
  | [] => some []
  | c :: cs => (ev G fr c).bind fun x => (evs G fr cs).map (x :: ·)

theorem evs_ok {C : Ctx} {G fr : Nat → Option AV} {a : Act} (hf : FR C fr a) (hg : GR C G) : ∀ {os : List Operand} {cs : List COpd} {xs : List AV}, chkOpds os cs = true → evs G fr cs = some xs → SVl C xs (os.map a.eval)
  | [], [], xs, _, h => by simp only [evs, Option.some.injEq] at h; subst h; simp [SVl]
  | o :: os, c :: cs, xs, hc, h => by
    simp only [chkOpds, Bool.and_eq_true] at hc
    simp only [evs, Option.bind_eq_some_iff, Option.map_eq_some_iff] at h
    obtain ⟨x, h1, xs', h2, rfl⟩ := h
    simp only [List.map_cons, SVl]
    exact ⟨_, _, rfl, ev_ok hf hg hc.1 h1, evs_ok hf hg hc.2 h2⟩
  | [], _ :: _, _, hc, _ => by simp [chkOpds] at hc
  | _ :: _, [], _, hc, _ => by simp [chkOpds] at hc

inductive COp where
  | mov | pick
  | bin (op : BinOp) | eqb (neg : Bool) | eqp (neg : Bool) | eqa (neg : Bool) (k : IntKind) (n : Nat) | eqs (neg : Bool) (s : Sh)
  | not | un (op : UnOp)
  | convI (k : IntKind) | convId | convS | convB | convM
  | alloc (z : AV) | box
  | build (zs : List AV) (is : List Nat)
  | buildA (sz : Nat) (zs : List AV) (is : List Nat)
  | bslice (sz n : Nat) (z : AV) (is : List Nat)
  | load (agg : Bool) (sz : Nat) | store (agg : Bool) (sz : Nat)
  | nilc | faddr (fo sz : Nat) (agg : Bool) | field (agg : Bool) (sz off : Nat)
  | iaddr (sz : Nat) | iaddrArr (N sz : Nat) (agg : Bool)
  | idx (agg : Bool) (n sz : Nat) | idxS
  | slice (sz : Nat) (lo hi : Bool) | sliceArr (N sz : Nat) (lo hi : Bool) | sliceStr (lo hi : Bool) | slice0 (sz : Nat)
  | len | lenS | app (sz bytes : Nat) | appS (bytes : Nat) | appM (sz bytes : Nat) (z : AV)
  | copy (sz : Nat) | clear (sz : Nat) (z : AV)
  | mk (sz bytes : Nat) (z : AV)
  | ext (k : Nat)
  | mx | mn
  | call (f : Nat)

def unV (op : UnOp) (x : Value) : Option Value :=
  match op, x with
  | .neg, .int k n => some (.int k (k.wrap (0 - n)))
  | .xor, .int k n => some (.int k (bitsOp .xor k (if k.signed then -1 else k.max) n))
  | _, _ => none

/-- An optional bound. -/
def bounds (lo hi : Bool) (vals : List AV) : Option (Option Int × Option Int) :=
  match lo, hi, vals with
  | false, false, [] => some (none, none)
  | true, false, [.v (.int _ l)] => some (some l, none)
  | false, true, [.v (.int _ h)] => some (none, some h)
  | true, true, [.v (.int _ l), .v (.int _ h)] => some (some l, some h)
  | _, _, _ => none

/-- What an operation answers, and what it turns. -/
def step (c : COp) (vals : List AV) (m : Nat → Option Loc) (g d : Nat) : Option (AV × List (Nat × Option Loc)) :=
  match c with
  | .mov => match vals with
    | [x] => some (x, [])
    | _ => none
  | .pick => match vals with
    | [.v (.bool t), a, b] => some (if t then a else b, [])
    | _ => none
  | .bin op => match vals with
    | [.v x, .v y] => (binV op x y).map fun r => (.v r, [])
    | _ => none
  | .eqb neg => match vals with
    | [.v x, .v y] => (eqbV neg x y).map fun r => (.v r, [])
    | _ => none
  | .eqp neg => match vals with
    | [x, .v (.pointer none)] => (match x with
        | .v (.pointer none) => some (.v (.bool !neg), [])
        | _ => if x.isRef = true then some (.v (.bool neg), []) else none)
    | _ => none
  | .eqa neg k n => match vals with
    | [.arr 1 xs, .arr 1 ys] => (match intsOf k xs, intsOf k ys with
        | some a, some b => if a.length = n ∧ b.length = n then some (.v (.bool (if neg then !(a == b) else a == b)), []) else none
        | _, _ => none)
    | _ => none
  | .eqs neg sh => match vals with
    | [a, b] => (cmpA sh a b).map fun r => (.v (.bool (if neg then !r else r)), [])
    | _ => none
  | .not => match vals with
    | [.v (.bool b)] => some (.v (.bool !b), [])
    | _ => none
  | .un op => match vals with
    | [.v x] => (unV op x).map fun r => (.v r, [])
    | _ => none
  | .convI k => match vals with
    | [.v (.int _ n)] => some (.v (.int k (k.wrap n)), [])
    | _ => none
  | .convId => match vals with
    | [.v (.string s)] => some (.v (.string s), [])
    | _ => none
  | .convS => match vals with
    | [x] => (srcA m 1 x).bind fun xs => (intsOf .u8 xs).map fun ns => (.v (.string (strOfNums ns)), [])
    | _ => none
  | .convB => match vals with
    | [.v (.string s)] => if s.size ≤ maxLen then some (.sl 1 (bytesAV s), []) else none
    | _ => none
  | .convM => match vals with
    | [.row l 1 g' 0 n] => (match m l with
        | some (.rows g'' 1 xs) => if g'' = g' ∧ n = xs.length ∧ 0 < n then some (.sl 1 xs, [(l, none)]) else none
        | _ => none)
    | _ => none
  | .alloc z => match vals with
    | [] => some (.ptr d g 0, [(d, some (.var g z))])
    | _ => none
  | .box => match vals with
    | [x] => if x.solid = true then some (.ptr d g 0, [(d, some (.var g x))]) else none
    | _ => none
  | .build zs is => match vals with
    | vals => if is.length = vals.length then (buildA zs (is.zip vals)).map fun r => (.node r, []) else none
  | .buildA sz zs is => match vals with
    | vals => if is.length = vals.length then (buildE sz zs (is.zip vals)).map fun r => (.arr sz r, []) else none
  | .bslice sz n z is => match vals with
    | vals => if is.length = vals.length then (buildE sz (List.replicate n z) (is.zip vals)).map fun r => (.row d sz g 0 n, [(d, some (.rows g sz r))]) else none
  | .load agg sz => match vals with
    | [p] => (loadA m agg sz p).map fun r => (r, [])
    | _ => none
  | .store agg sz => match vals with
    | [p, x] => (storeA m agg sz p x).map fun q => (.top, [(q.1, some q.2)])
    | _ => none
  | .nilc => match vals with
    | [p] => if p.isRef = true then some (p, []) else none
    | _ => none
  | .faddr fo sz agg => match vals with
    | [p] => (faddrA fo sz agg p).map fun r => (r, [])
    | _ => none
  | .field agg sz off => match vals with
    | [x] => (fieldA agg sz off x).map fun r => (r, [])
    | _ => none
  | .iaddr sz => match vals with
    | [x, .v (.int _ i)] => (iaddrA sz x i).map fun r => (r, [])
    | _ => none
  | .iaddrArr N sz agg => match vals with
    | [x, .v (.int _ i)] => (iaddrArr N sz agg x i).map fun r => (r, [])
    | _ => none
  | .idx agg n sz => match vals with
    | [x, .v (.int _ i)] => (indexA agg n sz x i).map fun r => (r, [])
    | _ => none
  | .idxS => match vals with
    | [.v (.string s), .v (.int _ i)] => if 0 ≤ i then (s.data.toList[i.toNat]?).map fun b => (.v (.int .u8 b.toNat), []) else none
    | _ => none
  | .slice sz lo hi => match vals with
    | x :: r => (bounds lo hi r).bind fun q => (sliceA sz x q.1 q.2).map fun y => (y, [])
    | _ => none
  | .sliceArr N sz lo hi => match vals with
    | x :: r => (bounds lo hi r).bind fun q => (sliceArr N sz x q.1 q.2).map fun y => (y, [])
    | _ => none
  | .sliceStr lo hi => match vals with
    | .v (.string s) :: r => (bounds lo hi r).bind fun q => (bnd s.size s.size q.1 q.2).map fun b => (.v (.string (s.extract b.1 b.2)), [])
    | _ => none
  | .slice0 sz => match vals with
    | [x] => (match lenA x with
        | some _ => some (.row d sz g 0 0, [(d, some (.rows g sz []))])
        | none => none)
    | _ => none
  | .len => match vals with
    | [x] => (lenA x).map fun (n : Nat) => (.v (.int .i64 (n : Int)), [])
    | _ => none
  | .lenS => match vals with
    | [.v (.string s)] => some (.v (.int .i64 (s.size : Nat)), [])
    | _ => none
  | .app sz bytes => match vals with
    | [a, b] => ((destA m d sz a).bind fun q => (srcA m sz b).bind fun ys =>
          if q.2.length + ys.length ≤ maxLen ∧ (q.2.length + ys.length) * bytes ≤ 140737488355328 then some (.row q.1 sz g 0 (q.2.length + ys.length), [(q.1, some (.rows g sz (q.2 ++ ys)))]) else none)
    | _ => none
  | .appS bytes => match vals with
    | [a, .v (.string s)] => ((destA m d 1 a).bind fun q =>
          if q.2.length + (bytesAV s).length ≤ maxLen ∧ (q.2.length + (bytesAV s).length) * bytes ≤ 140737488355328 then some (.row q.1 1 g 0 (q.2.length + (bytesAV s).length), [(q.1, some (.rows g 1 (q.2 ++ bytesAV s)))]) else none)
    | _ => none
  | .appM sz bytes z => match vals with
    | [a, .v (.int _ k)] => if 0 ≤ k ∧ k.toNat ≤ maxLen ∧ k.toNat * bytes ≤ 140737488355328 then ((destA m d sz a).bind fun q =>
          if q.2.length + k.toNat ≤ maxLen ∧ (q.2.length + k.toNat) * bytes ≤ 140737488355328 then some (.row q.1 sz g 0 (q.2.length + k.toNat), [(q.1, some (.rows g sz (q.2 ++ List.replicate k.toNat z)))]) else none) else none
    | _ => none
  | .copy sz => match vals with
    | [a, b] => (srcA m sz b).bind fun ys => (overA m sz a (ys.take (copyN a ys))).map fun q => (.v (.int .i64 (copyN a ys)), [(q.1, some q.2)])
    | _ => none
  | .clear sz z => match vals with
    | [a] => (overA m sz a (List.replicate (clearN a) z)).map fun q => (.top, [(q.1, some q.2)])
    | _ => none
  | .mk sz bytes z => match vals with
    | [.v (.int _ n), .v (.int _ n')] => if n = n' ∧ 0 ≤ n ∧ bytes * n.toNat ≤ 281474976710656 ∧ n.toNat ≤ maxLen then some (.row d sz g 0 n.toNat, [(d, some (.rows g sz (List.replicate n.toNat z)))]) else none
    | _ => none
  | .ext k => match vals with
    | [.tup as] => (as[k]?).map fun x => (x, [])
    | _ => none
  | .mx => match vals with
    | [.v (.int k a), .v (.int _ b)] => some (.v (.int k (if b > a then b else a)), [])
    | _ => none
  | .mn => match vals with
    | [.v (.int k a), .v (.int _ b)] => some (.v (.int k (if b < a then b else a)), [])
    | _ => none
  | .call _ => none

def isSlice (P : Program) (t : TypeId) : Option TypeId := match P.underlying t with | some (.slice e) => some e | _ => none
def isArr (P : Program) (t : TypeId) : Option (Nat × TypeId) := match P.underlying t with | some (.array n e) => some (n, e) | _ => none
def isStruct (P : Program) (t : TypeId) : Option (Array Field) := match P.underlying t with | some (.struct fs) => some fs | _ => none
def isInt (P : Program) (t : TypeId) : Option IntKind := match P.underlying t with | some (.int k) => some k | _ => none
def isStr (P : Program) (t : TypeId) : Bool := match P.underlying t with | some .string => true | _ => false
def isBoolT (P : Program) (t : TypeId) : Bool := match P.underlying t with | some .bool => true | _ => false
def isPtr (P : Program) (t : TypeId) : Bool := match P.underlying t with | some (.pointer _) => true | _ => false

theorem isSlice_eq {P : Program} {t e : TypeId} (h : isSlice P t = some e) : P.underlying t = some (.slice e) := by unfold isSlice at h; split at h <;> simp_all
theorem isArr_eq {P : Program} {t e : TypeId} {n : Nat} (h : isArr P t = some (n, e)) : P.underlying t = some (.array n e) := by unfold isArr at h; split at h <;> simp_all
theorem isStruct_eq {P : Program} {t : TypeId} {fs : Array Field} (h : isStruct P t = some fs) : P.underlying t = some (.struct fs) := by unfold isStruct at h; split at h <;> simp_all
theorem isInt_eq {P : Program} {t : TypeId} {k : IntKind} (h : isInt P t = some k) : P.underlying t = some (.int k) := by unfold isInt at h; split at h <;> simp_all
theorem isStr_eq {P : Program} {t : TypeId} (h : isStr P t = true) : P.underlying t = some .string := by unfold isStr at h; split at h <;> simp_all
theorem isBoolT_eq {P : Program} {t : TypeId} (h : isBoolT P t = true) : P.underlying t = some .bool := by unfold isBoolT at h; split at h <;> simp_all
theorem isPtr_eq {P : Program} {t : TypeId} (h : isPtr P t = true) : ∃ e, P.underlying t = some (.pointer e) := by unfold isPtr at h; split at h <;> simp_all

def aggOk (agg : Bool) (sz : Nat) : Bool := agg || sz == 1
theorem aggOk_eq {agg : Bool} {sz : Nat} (h : aggOk agg sz = true) : agg = false → sz = 1 := by
  intro e; subst e; simpa [aggOk] using h

def elemOkB (P : Program) (t : TypeId) (sz bytes : Nat) : Bool :=
  match isSlice P t with
  | some e => tsz P e == some sz && decide (0 < sz) && (P.info? e).map (·.bytes) == some bytes && (match (P.info? e).bind (·.zero) with | some z => z.cells.size == sz | none => false)
  | none => false
theorem elemOkB_eq {P : Program} {t : TypeId} {sz bytes : Nat} (h : elemOkB P t sz bytes = true) : ∃ e, ElemOk P t e sz bytes := by
  unfold elemOkB at h
  split at h
  · rename_i e he
    simp only [Bool.and_eq_true, beq_iff_eq, decide_eq_true_eq] at h
    obtain ⟨⟨⟨h1, h2⟩, h3⟩, h4⟩ := h
    split at h4
    · rename_i z hz
      simp only [beq_iff_eq] at h4
      exact ⟨e, isSlice_eq he, h1, h2, h3, z, hz, h4⟩
    · cases h4
  · cases h

/-- A Go function with a text. -/
def isGo (P : Program) (f : Nat) : Bool := match P.funcs[f]? with | some fn => fn.body.isSome && !(fn.name == "runtime.NumGoroutine") | none => false
theorem run_isGo {P : Program} {f : Nat} (h : isGo P f = true) (args : Array Value) (w : World) : (callFunc f args).run P w = .ok (.enter f args) w := by
  unfold isGo at h
  split at h
  · rename_i fn hf
    simp only [Bool.and_eq_true, Bool.not_eq_true', beq_eq_false_iff_ne] at h
    obtain ⟨c, hc⟩ := Option.isSome_iff_exists.1 h.1
    simp [callFunc, hf, h.2, hc]
  · cases h

/-- The operation's text is this. -/
def chkOp (P : Program) (op : Op) (xs : List COpd) : COp → Bool
  | .mov => match op with
    | .move x => chkOpds [x] xs
    | .assign x => chkOpds [x] xs
    | _ => false
  | .pick => match op with
    | .pick a b d => chkOpds [a, b, d] xs
    | _ => false
  | .bin o' => match op with
    | .binOp o _ x y _ => decide (o = o') && chkOpds [x, y] xs
    | _ => false
  | .eqb neg => match op with
    | .binOp o t x y _ => decide (o = eqOp neg) && isBoolT P t && chkOpds [x, y] xs
    | _ => false
  | .eqp neg => match op with
    | .binOp o t x y _ => decide (o = eqOp neg) && isPtr P t && chkOpds [x, y] xs
    | _ => false
  | .eqa neg k n => match op with
    | .binOp o t x y _ => decide (o = eqOp neg) && chkOpds [x, y] xs && (match isArr P t with | some (n', e) => n' == n && isInt P e == some k && tsz P e == some 1 && !(P.eqGuardType P.depth t) | none => false)
    | _ => false
  | .eqs neg sh => match op with
    | .binOp o t x y _ => decide (o = eqOp neg) && chkOpds [x, y] xs && (chkSh P sh t && sh.agg && !P.eqGuardType P.depth t && decide (Sh.dep sh ≤ 1000))
    | _ => false
  | .not => match op with
    | .unOp o _ x => decide (o = .not) && chkOpds [x] xs
    | _ => false
  | .un o' => match op with
    | .unOp o _ x => decide (o = o') && chkOpds [x] xs
    | _ => false
  | .convI k => match op with
    | .convert s d x => isInt P d == some k && (P.underlying s).isSome && chkOpds [x] xs
    | _ => false
  | .convId => match op with
    | .convert s d x => isStr P d && (P.underlying s).isSome && chkOpds [x] xs
    | _ => false
  | .convS => match op with
    | .convert s d x => isStr P d && (match isSlice P s with | some e => isInt P e == some .u8 | none => false) && chkOpds [x] xs
    | _ => false
  | .convB => match op with
    | .convert s d x => (P.underlying s).isSome && (match isSlice P d with | some e => isInt P e == some .u8 | none => false) && chkOpds [x] xs
    | _ => false
  | .convM => match op with
    | .convert s d x => s == d && (match isSlice P s with | some e => isInt P e == some .u8 | none => false) && chkOpds [x] xs
    | _ => false
  | .alloc z => match op with
    | .alloc t => xs.isEmpty && cellsEq (tzero P t) (flat z)
    | _ => false
  | .box => match op with
    | .box _ x => chkOpds [x] xs
    | _ => false
  | .build zs is => match op with
    | .build t ps => (match isStruct P t with | some fs => placesOk P 0 fs.toList zs | none => false) && cellsEq (tzero P t) (flats zs) && is == ps.toList.map (·.1) && chkOpds (ps.toList.map (·.2)) xs
    | _ => false
  | .buildA sz zs is => match op with
    | .build t ps => (match isArr P t with | some (_, e) => tsz P e == some sz | none => false) && cellsEq (tzero P t) (flatE sz zs) && is == ps.toList.map (·.1) && chkOpds (ps.toList.map (·.2)) xs
    | _ => false
  | .bslice sz n' z is => match op with
    | .buildSlice t n ps => n == n' && (match isSlice P t with | some e => tsz P e == some sz && cellsEq (tzero P e) (flat z) && ((flat z).map (·.length)) == some sz | none => false) && decide (0 < sz) && decide (n * sz ≤ 16777216) && is == ps.toList.map (·.1) && chkOpds (ps.toList.map (·.2)) xs
    | _ => false
  | .load agg sz => match op with
    | .load t x => tagg P t == some agg && tsz P t == some sz && aggOk agg sz && chkOpds [x] xs
    | _ => false
  | .store _ sz => match op with
    | .store t x y => tsz P t == some sz && chkOpds [x, y] xs
    | _ => false
  | .nilc => match op with
    | .nilCheck x => chkOpds [x] xs
    | _ => false
  | .faddr fo sz _ => match op with
    | .fieldAddr s x k => (match (isStruct P s).bind (·[k]?) with | some f => f.offset == fo && tsz P f.type == some sz && decide (sz ≠ 0) | none => false) && chkOpds [x] xs
    | _ => false
  | .field agg sz off => match op with
    | .field s x k => (match (isStruct P s).bind (·[k]?) with | some f => f.offset == off && tsz P f.type == some sz && tagg P f.type == some agg && aggOk agg sz | none => false) && chkOpds [x] xs
    | _ => false
  | .iaddr sz => match op with
    | .indexAddr t x i => (match isSlice P t with | some e => tsz P e == some sz | none => false) && chkOpds [x, i] xs
    | _ => false
  | .iaddrArr N sz _ => match op with
    | .indexAddr t x i => (match isArr P t with | some (n, e) => n == N && tsz P e == some sz | none => false) && chkOpds [x, i] xs
    | _ => false
  | .idx agg n sz => match op with
    | .index t x i => (match isArr P t with | some (n', e) => n' == n && tsz P e == some sz && tagg P e == some agg && aggOk agg sz | none => false) && chkOpds [x, i] xs
    | _ => false
  | .idxS => match op with
    | .index t x i => isStr P t && chkOpds [x, i] xs
    | _ => false
  | .slice sz l h => match op with
    | .slice t x lo hi none => (match isSlice P t with | some e => tsz P e == some sz | none => false) && l == lo.isSome && h == hi.isSome && chkOpds (x :: (lo.toList ++ hi.toList)) xs
    | _ => false
  | .sliceArr N sz l h => match op with
    | .slice t x lo hi none => (match isArr P t with | some (n, e) => n == N && tsz P e == some sz | none => false) && l == lo.isSome && h == hi.isSome && chkOpds (x :: (lo.toList ++ hi.toList)) xs
    | _ => false
  | .sliceStr l h => match op with
    | .slice t x lo hi none => isStr P t && l == lo.isSome && h == hi.isSome && chkOpds (x :: (lo.toList ++ hi.toList)) xs
    | _ => false
  | .slice0 sz => match op with
    | .slice t x none (some (.const (.int _ h))) (some (.const (.int _ m))) => (match isSlice P t with | some e => tsz P e == some sz | none => false) && h == 0 && m == 0 && chkOpds [x] xs
    | _ => false
  | .len => match op with
    | .call { callee := .builtin .len, args, argTypes } => (match argTypes[0]? with | some t => (isSlice P t).isSome | none => false) && chkOpds args.toList xs
    | _ => false
  | .lenS => match op with
    | .call { callee := .builtin .len, args, argTypes } => (match argTypes[0]? with | some t => isStr P t | none => false) && chkOpds args.toList xs
    | _ => false
  | .app sz bytes => match op with
    | .call { callee := .builtin .append, args, argTypes } => (match argTypes.toList with | [t, t'] => elemOkB P t sz bytes && (isSlice P t').isSome | _ => false) && chkOpds args.toList xs
    | _ => false
  | .appS bytes => match op with
    | .call { callee := .builtin .append, args, argTypes } => (match argTypes.toList with | [t, t'] => elemOkB P t 1 bytes && isStr P t' | _ => false) && chkOpds args.toList xs
    | _ => false
  | .appM sz bytes z => match op with
    | .call { callee := .builtin .append, args, argTypes } => (match argTypes.toList with | [t, t'] => elemOkB P t sz bytes && (isInt P t').isSome && (match isSlice P t with | some e => cellsEq (tzero P e) (flat z) && ((flat z).map (·.length)) == some sz | none => false) | _ => false) && chkOpds args.toList xs
    | _ => false
  | .copy sz => match op with
    | .call { callee := .builtin .copy, args, argTypes } => (match argTypes.toList with | [t, _] => (match isSlice P t with | some e => tsz P e == some sz | none => false) | _ => false) && chkOpds args.toList xs
    | _ => false
  | .clear sz z => match op with
    | .call { callee := .builtin .clear, args, argTypes } => (match argTypes.toList with | [t] => (match isSlice P t with | some e => cellsEq (tzero P e) (flat z) && ((flat z).map (·.length)) == some sz | none => false) | _ => false) && decide (0 < sz) && chkOpds args.toList xs
    | _ => false
  | .mx => match op with
    | .call { callee := .builtin .max, args, .. } => chkOpds args.toList xs
    | _ => false
  | .mn => match op with
    | .call { callee := .builtin .min, args, .. } => chkOpds args.toList xs
    | _ => false
  | .mk sz bytes z => match op with
    | .makeSlice t l c => (match isSlice P t with | some e => tsz P e == some sz && cellsEq (tzero P e) (flat z) && ((flat z).map (·.length)) == some sz && (P.info? e).map (·.bytes) == some bytes | none => false) && decide (0 < sz) && chkOpds [l, c] xs
    | _ => false
  | .ext k' => match op with
    | .extract x k => k == k' && chkOpds [x] xs
    | _ => false
  | .call f' => match op with
    | .call { callee := .value (.func f), args, .. } => f == f' && isGo P f && chkOpds args.toList xs
    | _ => false

end Go.Proofs.YtngemgmnpcaamaaDoor.WL
