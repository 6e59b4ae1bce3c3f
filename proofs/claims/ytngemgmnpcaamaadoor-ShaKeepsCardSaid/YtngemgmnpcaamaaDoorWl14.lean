/-
  EACH ABSTRACT STEP IS THE MODEL's.
-/
import Derived.Test.YtngemgmnpcaamaaDoorWl13
namespace Go.Proofs.YtngemgmnpcaamaaDoor.WL
open Go

/-- The changes, laid on. -/
def ups (m : Nat → Option Loc) : List (Nat × Option Loc) → Nat → Option Loc
  | [] => m
  | (l, c) :: r => ups (upd m l c) r

/-- The operation runs as the abstract step says. -/
def Does (P : Program) (w0 : World) (Ws I0 : Nat → Prop) (C : Ctx) (g : Nat) (o : Oper) (a : Act) (av : AV) (us : List (Nat × Option Loc)) : Prop :=
  ∃ nx y w' C', (execOp a.eval o).run P C.w = .ok nx w' ∧ (nx = .value y ∨ (nx = .skip ∧ y = undef)) ∧ SV C' av y ∧ C'.w = w' ∧ C.Le C' ∧ WR w0 Ws I0 C' ∧ C'.m = ups C.m us ∧ (∀ k, C'.used k → C.used k ∨ k = g)

section
variable {P : Program} {w0 : World} {Ws I0 : Nat → Prop} {C : Ctx} {g : Nat} {o : Oper} {a : Act} {av : AV}

/-- A quiet operation: a value, the world as it was. -/
theorem Does.quiet (hw : WR w0 Ws I0 C) {y : Value} (h : (execOp a.eval o).run P C.w = .ok (.value y) C.w) (hv : SV C av y) : Does P w0 Ws I0 C g o a av [] :=
  ⟨_, y, C.w, C, h, .inl rfl, hv, rfl, Ctx.Le.refl C, hw, rfl, fun _ h => .inl h⟩

theorem Does.new {l : Nat} {w' : World} {B : Option Nat} {c' : Loc} {y : Value} (h : (execOp a.eval o).run P C.w = .ok (.value y) w') (k1 : C.Le (newAt C w' l g B c')) (k2 : WR w0 Ws I0 (newAt C w' l g B c')) (k3 : SV (newAt C w' l g B c') av y) :
    Does P w0 Ws I0 C g o a av [(l, some c')] :=
  ⟨_, y, w', _, h, .inl rfl, k3, rfl, k1, k2, rfl, fun _ h => h⟩

theorem SVl_one {x : AV} {ys : List Value} (h : SVl C [x] ys) : ∃ y, ys = [y] ∧ SV C x y := by
  simp only [SVl] at h
  obtain ⟨y, r, rfl, h1, rfl⟩ := h
  exact ⟨y, rfl, h1⟩
theorem SVl_two {x x' : AV} {ys : List Value} (h : SVl C [x, x'] ys) : ∃ y y', ys = [y, y'] ∧ SV C x y ∧ SV C x' y' := by
  simp only [SVl] at h
  obtain ⟨y, r, rfl, h1, y', r', rfl, h2, rfl⟩ := h
  exact ⟨y, y', rfl, h1, h2⟩

theorem SV_v {x y : Value} (h : SV C (.v x) y) : y = x := by
  have h' : V C (.v x) [y] := h
  simp only [V] at h'
  exact (List.cons.inj h'.1).1

theorem SVs_get : ∀ {as : List AV} {ys : List Value} {k : Nat} {r : AV}, SVs C as ys → as[k]? = some r → ∃ y, ys[k]? = some y ∧ SV1 C r y
  | [], _, _, _, _, h => by simp at h
  | a :: as, ys, 0, r, h, hr => by
    obtain ⟨y, ys', rfl, h1, _⟩ := h
    simp only [List.getElem?_cons_zero, Option.some.injEq] at hr
    subst hr
    exact ⟨y, rfl, h1⟩
  | a :: as, ys, k + 1, r, h, hr => by
    obtain ⟨y, ys', rfl, _, h2⟩ := h
    obtain ⟨y2, h3, h4⟩ := SVs_get (as := as) (k := k) h2 (by simpa using hr)
    exact ⟨y2, by simpa using h3, h4⟩

theorem SV_mk {x : Value} (h : x.oneCell' = true) : SV C (.v x) x := by
  show V C (.v x) [x]
  simp [V, h]

theorem partsOk_zip : ∀ {is : List Nat} {vals : List AV} {ys : List Value}, is.length = vals.length → SVl C vals ys → PartsOk C (is.zip vals) (is.zip ys)
  | [], [], ys, _, h => by simp only [SVl] at h; simp [PartsOk]
  | i :: is, v :: vals, ys, hl, h => by
    simp only [SVl] at h
    obtain ⟨y, r, rfl, h1, h2⟩ := h
    simp only [List.zip_cons_cons, PartsOk]
    exact ⟨y, _, rfl, h1, partsOk_zip (by simpa using hl) h2⟩
  | [], _ :: _, _, hl, _ => by simp at hl
  | _ :: _, [], _, hl, _ => by simp at hl

theorem buildE_length {sz : Nat} : ∀ {parts : List (Nat × AV)} {zs r : List AV}, buildE sz zs parts = some r → r.length = zs.length
  | [], zs, r, h => by simp only [buildE, Option.some.injEq] at h; rw [h]
  | (i, x) :: ps, zs, r, h => by
    simp only [buildE] at h
    split at h
    · rw [buildE_length h]; simp
    · cases h

theorem bytes_get? (s : ByteArray) (n : Nat) : s[n]? = s.data.toList[n]? := by
  by_cases h : n < s.size
  · rw [getElem?_pos s n h, List.getElem?_eq_getElem (by simpa using h)]
    rfl
  · rw [getElem?_neg s n h, List.getElem?_eq_none (by simpa using h)]

theorem parts_zip (ps : Array (Nat × Operand)) (f : Operand → Value) : (ps.map fun (x : Nat × Operand) => (x.1, f x.2)) = ((ps.toList.map (·.1)).zip ((ps.toList.map (·.2)).map f)).toArray := by
  apply Array.ext'
  simp only [Array.toList_map, List.map_map]
  generalize ps.toList = l
  induction l with
  | nil => rfl
  | cons p l ih => simp [ih]

theorem oneCell_bin {op : BinOp} {x y r : Value} (h : binV op x y = some r) : r.oneCell' = true := by
  unfold binV at h
  split at h
  · cases op <;> simp only at h <;> split at h <;> first | (cases h; done) | (obtain rfl := Option.some.inj h; rfl)
  · cases op <;> simp only at h <;> first | (cases h; done) | (obtain rfl := Option.some.inj h; rfl) | (split at h <;> first | (cases h; done) | (obtain rfl := Option.some.inj h; rfl))
  · cases h

theorem SV_arrInts {k : IntKind} {xs : List AV} {ns : List Int} {y : Value} (h : SV C (.arr 1 xs) y) (hn : intsOf k xs = some ns) : y = .agg (ns.map (Value.int k)).toArray := by
  obtain ⟨cs, rfl, hv⟩ := h
  simp only [V] at hv
  rw [← intsOf_cells hn hv]

theorem cmpA_agg {s : Sh} {x y : AV} {r : Bool} (h : cmpA s x y = some r) (ha : s.agg = true) : x.isAgg = true ∧ y.isAgg = true := by
  cases s <;> simp [Sh.agg] at ha
  · simp only [cmpA] at h
    split at h
    · exact ⟨rfl, rfl⟩
    · cases h
  · simp only [cmpA] at h
    split at h
    · exact ⟨rfl, rfl⟩
    · cases h

theorem run_eqGuard_agg {w : World} {op : BinOp} {t : TypeId} {xo yo : Operand} {xs ys : Array Value} (h : P.eqGuardType P.depth t = false) : (eqGuard op t xo yo (.agg xs) (.agg ys)).run P w = .ok () w := by
  unfold eqGuard
  cases op <;> simp [h]

theorem bounds_ok {lo hi : Bool} {vals : List AV} {q : Option Int × Option Int} {l h : Option Operand} (hl : lo = l.isSome) (hh : hi = h.isSome) (hb : bounds lo hi vals = some q) (hs : SVl C vals ((l.toList ++ h.toList).map a.eval)) :
    ∃ k1 k2, l.map a.eval = q.1.map (Value.int k1) ∧ h.map a.eval = q.2.map (Value.int k2) := by
  cases l <;> cases h <;> simp only [Option.isSome_none, Option.isSome_some] at hl hh <;> subst hl hh <;> unfold bounds at hb <;> split at hb <;> simp_all only [reduceCtorEq, Option.some.injEq, Bool.true_eq_false, Bool.false_eq_true]
  · obtain rfl := hb
    exact ⟨.i64, .i64, rfl, rfl⟩
  · subst hb
    obtain ⟨y, e, h1⟩ := SVl_one hs
    simp only [Option.toList_none, Option.toList_some, List.nil_append, List.map_cons, List.map_nil, List.cons.injEq, and_true] at e
    rw [SV_v h1] at e
    exact ⟨.i64, _, rfl, by simp [e]; rfl⟩
  · subst hb
    obtain ⟨y, e, h1⟩ := SVl_one hs
    simp only [Option.toList_none, Option.toList_some, List.append_nil, List.map_cons, List.map_nil, List.cons.injEq, and_true] at e
    rw [SV_v h1] at e
    exact ⟨_, .i64, by simp [e]; rfl, rfl⟩
  · subst hb
    obtain ⟨y, y', e, h1, h2⟩ := SVl_two hs
    simp only [Option.toList_some, List.singleton_append, List.map_cons, List.map_nil, List.cons.injEq, and_true] at e
    rw [SV_v h1, SV_v h2] at e
    exact ⟨_, _, by simp [e.1]; rfl, by simp [e.2]; rfl⟩

end
end Go.Proofs.YtngemgmnpcaamaaDoor.WL
