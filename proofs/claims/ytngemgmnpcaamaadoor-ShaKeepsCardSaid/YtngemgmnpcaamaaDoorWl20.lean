/-
  REGIONS, first part: operations in a row; two that are apart may change places.
-/
import Derived.Test.YtngemgmnpcaamaaDoorWl19
namespace Go.Proofs.YtngemgmnpcaamaaDoor.WL
open Go

structure COper where
  dst : Option Nat
  op : COp
  xs : List COpd
  guard : Option (Nat × Bool)

/-- Looks at no memory, and turns none. -/
def quiet : COp → Bool
  | .mov | .pick | .bin _ | .eqb _ | .eqp _ | .eqa .. | .eqs .. | .not | .un _ | .convI _ | .convId | .convB | .build .. | .buildA .. | .nilc | .faddr .. | .field .. | .iaddr _ | .iaddrArr .. | .idx .. | .idxS
  | .slice .. | .sliceArr .. | .sliceStr .. | .len | .lenS | .ext _ | .mx | .mn => true
  | _ => false

/-- Makes a location, and looks at none. -/
def fresh : COp → Bool
  | .alloc _ | .box | .bslice .. | .slice0 _ | .mk .. => true
  | _ => false

/-- Only looks. -/
def looker : COp → Bool
  | .load .. | .convS => true
  | _ => false

def refs (vals : List AV) : List Nat := vals.filterMap refOf

def reads (op : COp) (vals : List AV) : List Nat := if quiet op || fresh op then [] else refs vals

theorem step_quiet {op : COp} (h : (quiet op || fresh op) = true) (vals : List AV) (m m' : Nat → Option Loc) (g d : Nat) : step op vals m' g d = step op vals m g d := by
  cases op <;> first | rfl | (simp [quiet, fresh] at h)

theorem quiet_us {op : COp} (h : (quiet op || looker op) = true) {vals : List AV} {m : Nat → Option Loc} {g d : Nat} {av : AV} {us : List (Nat × Option Loc)} (hs : step op vals m g d = some (av, us)) : us = [] := by
  cases op <;> first | (simp [quiet, looker] at h; done) | skip
  all_goals
    simp only [step] at hs
    repeat' (first | (split at hs) | (cases hs; done))
    all_goals first
      | (cases hs; done)
      | (simp only [Option.map_eq_some_iff, Option.bind_eq_some_iff, Prod.mk.injEq, Option.some.injEq] at hs; grind)

theorem fresh_us {op : COp} (h : fresh op = true) {vals : List AV} {m : Nat → Option Loc} {g d : Nat} {av : AV} {us : List (Nat × Option Loc)} (hs : step op vals m g d = some (av, us)) : us.map (·.1) = [d] := by
  cases op <;> first | (simp [fresh] at h; done) | skip
  all_goals
    simp only [step] at hs
    repeat' (first | (split at hs) | (cases hs; done))
    all_goals first
      | (cases hs; done)
      | (simp only [Option.map_eq_some_iff, Option.bind_eq_some_iff, Prod.mk.injEq, Option.some.injEq] at hs; grind)

theorem deref_local {m m' : Nat → Option Loc} {p : AV} (h : ∀ l, refOf p = some l → m' l = m l) : deref m' p = deref m p := by
  cases p <;> first | rfl | (simp only [deref, h _ rfl])
theorem srcA_local {m m' : Nat → Option Loc} {sz : Nat} {p : AV} (h : ∀ l, refOf p = some l → m' l = m l) : srcA m' sz p = srcA m sz p := by
  unfold srcA
  split <;> first | rfl | (simp only [h _ rfl])
theorem destA_local {m m' : Nat → Option Loc} {d sz : Nat} {p : AV} (h : ∀ l, refOf p = some l → m' l = m l) : destA m' d sz p = destA m d sz p := by
  unfold destA
  split <;> first | rfl | (simp only [h _ rfl])
theorem overA_local {m m' : Nat → Option Loc} {sz : Nat} {p : AV} {ys : List AV} (h : ∀ l, refOf p = some l → m' l = m l) : overA m' sz p ys = overA m sz p ys := by
  cases p <;> first | rfl | (simp only [overA, h _ rfl])
theorem storeA_local {m m' : Nat → Option Loc} {agg : Bool} {sz : Nat} {p v : AV} (h : ∀ l, refOf p = some l → m' l = m l) : storeA m' agg sz p v = storeA m agg sz p v := by
  cases p <;> first | rfl | (simp only [storeA, h _ rfl])

theorem refs_mem {vals : List AV} {p : AV} {l : Nat} (hp : p ∈ vals) (h : refOf p = some l) : l ∈ refs vals := List.mem_filterMap.2 ⟨p, hp, h⟩

theorem step_local {op : COp} {vals : List AV} {m m' : Nat → Option Loc} {g d : Nat} (h : ∀ l ∈ reads op vals, m' l = m l) : step op vals m' g d = step op vals m g d := by
  by_cases hq : (quiet op || fresh op) = true
  · exact step_quiet hq vals m m' g d
  · simp only [reads, hq] at h
    have hr : ∀ p ∈ vals, ∀ l, refOf p = some l → m' l = m l := fun p hp l hl => h l (refs_mem hp hl)
    cases op <;> first | rfl | (simp [quiet, fresh] at hq; done) | skip
    all_goals
      simp only [step]
      split <;> first | rfl | skip
    all_goals first
      | (rename_i a; simp only [loadA, deref_local (hr a (by simp))]; done)
      | (rename_i a b; simp only [storeA_local (hr a (by simp))]; done)
      | (rename_i a; simp only [srcA_local (hr a (by simp))]; done)
      | (rename_i l g' n; simp only [hr (.row l 1 g' 0 n) List.mem_cons_self l rfl]; done)
      | (rename_i a b; simp only [destA_local (hr a (by simp)), srcA_local (hr b (by simp))]; done)
      | (rename_i a b; simp only [destA_local (hr a (by simp))]; done)
      | (rename_i a b; simp only [srcA_local (hr b (by simp)), overA_local (hr a (by simp))]; done)
      | (rename_i a b c; simp only [destA_local (hr a (by simp))]; done)
      | (rename_i a; simp only [overA_local (hr a (by simp))]; done)

end Go.Proofs.YtngemgmnpcaamaaDoor.WL
