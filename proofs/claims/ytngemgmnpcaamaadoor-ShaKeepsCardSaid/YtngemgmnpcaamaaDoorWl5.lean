/-
  MORE QUIET OPERATIONS: fields and elements of values, addresses of elements, lengths, slices.
-/
import Derived.Test.YtngemgmnpcaamaaDoorWl4
namespace Go.Proofs.YtngemgmnpcaamaaDoor.WL
open Go

section
variable {P : Program} {w0 : World} {Ws I0 : Nat → Prop} {C : Ctx}

theorem run_part {t : TypeId} {agg : Bool} {sz off : Nat} {cs : Array Value} {w : World} (ha : tagg P t = some agg) (hs : tsz P t = some sz) (h1 : agg = false → sz = 1) (hfit : off + sz ≤ cs.size) :
    (part t cs off).run P w = .ok (valOf agg ((cs.toList.drop off).take sz)) w := by
  cases agg with
  | true =>
    simp only [part, Sem.run_bind, run_tagg ha, Result.andThen_ok, if_true, run_tsz hs, Sem.run_pure, valOf]
    congr 2
    apply Array.ext'
    simp
  | false =>
    obtain rfl := h1 rfl
    have hlt : off < cs.size := by omega
    have e : (cs.toList.drop off).take 1 = [cs[off]] := by
      rw [List.drop_eq_getElem_cons (by simpa using hlt)]; simp
    simp [part, run_tagg ha, valOf, e, hlt]

theorem SV_isAgg {a : AV} {x : Value} (h : SV C a x) (ha : a.isAgg = true) : ∃ cs : Array Value, x = .agg cs ∧ V C a cs.toList := by
  cases a <;> simp [AV.isAgg] at ha <;> exact h

def fieldA (agg : Bool) (sz off : Nat) (a : AV) : Option AV := if a.isAgg = true then sub agg sz a off else none

theorem sim_field {a r : AV} {x : Value} {s : TypeId} {fields : Array Field} {k : Nat} {f : Field} {sz : Nat} {agg : Bool} (hp : SV C a x) (hu : P.underlying s = some (.struct fields)) (hf : fields[k]? = some f)
    (ha : tagg P f.type = some agg) (hs : tsz P f.type = some sz) (h1 : agg = false → sz = 1) (h : fieldA agg sz f.offset a = some r) :
    ∃ y, (Instr.field s x k).run P C.w = .ok y C.w ∧ SV C r y := by
  unfold fieldA at h
  split at h
  · rename_i hag
    obtain ⟨cs, rfl, hv⟩ := SV_isAgg hp hag
    obtain ⟨s1, s2, s3, s4⟩ := sub_ok a f.offset r _ h hv
    have hr := run_part (P := P) (w := C.w) ha hs h1 (off := f.offset) (cs := cs) (by simpa using s2)
    exact ⟨_, by simp [Instr.field, run_underlying hu, hf, asAgg, hr], SV_valOf s1 s3 (fun e => by rw [s4]; exact h1 e)⟩
  · cases h

def indexA (agg : Bool) (n sz : Nat) (a : AV) (i : Int) : Option AV :=
  match a with
  | .arr s xs => if s = sz ∧ xs.length = n ∧ 0 ≤ i then (match xs[i.toNat]? with | some y => if y.isAgg = agg then some y else none | none => none) else none
  | _ => none

theorem sim_index {a r : AV} {x : Value} {t e : TypeId} {n sz : Nat} {agg : Bool} {k : IntKind} {i : Int} (hp : SV C a x) (hu : P.underlying t = some (.array n e)) (ha : tagg P e = some agg) (hs : tsz P e = some sz)
    (h1 : agg = false → sz = 1) (h : indexA agg n sz a i = some r) : ∃ y, (Instr.index t x (.int k i)).run P C.w = .ok y C.w ∧ SV C r y := by
  unfold indexA at h
  split at h
  · rename_i s xs
    split at h
    · rename_i hc
      obtain ⟨rfl, hn, hi⟩ := hc
      split at h
      · rename_i y hy
        split at h
        · rename_i hag
          obtain rfl := Option.some.inj h
          obtain ⟨cs, rfl, hv⟩ := hp
          simp only [V] at hv
          have hg := Es_get hv hy
          obtain ⟨hlt, _⟩ := List.getElem?_eq_some_iff.1 hy
          have hfit : i.toNat * s + s ≤ cs.size := by
            have := hg.2; simp only [List.length_take, List.length_drop, Array.length_toList] at this; rcases Nat.eq_zero_or_pos s with h0 | h0
            · have hl := Es_length hv; subst h0; omega
            · omega
          have hr := run_part (P := P) (w := C.w) ha hs h1 (off := i.toNat * s) (cs := cs) hfit
          have hin : 0 ≤ i ∧ i < (n : Int) := ⟨hi, by omega⟩
          refine ⟨_, by simp [Instr.index, asIntOf, run_underlying hu, hin, run_tsz hs, hr], SV_valOf hg.1 hag (fun e => by rw [hg.2]; exact h1 e)⟩
        · cases h
      · cases h
    · cases h
  · cases h

/-- The address of an element: of a slice, or of an array behind a pointer. -/
def iaddrA (sz : Nat) (a : AV) (i : Int) : Option AV :=
  if 0 ≤ i then
    match a with
    | .sl s xs => if s = sz then (xs[i.toNat]?).map .iptr else none
    | .row l s g off n => if s = sz ∧ i < (n : Int) then some (.rptr l s g (off + i.toNat) 0) else none
    | .vrow l g off s n _ => if s = sz ∧ i < (n : Int) then some (.ptr l g (off + i.toNat * sz)) else none
    | _ => none
  else none

theorem sim_iaddr {a r : AV} {x : Value} {t e : TypeId} {sz : Nat} {k : IntKind} {i : Int} (hp : SV C a x) (hu : P.underlying t = some (.slice e)) (hs : tsz P e = some sz)
    (h : iaddrA sz a i = some r) : ∃ y, (Instr.indexAt t x (.int k i)).run P C.w = .ok y C.w ∧ SV C r y := by
  have run : ∀ (a : Addr) (len cap : Nat), i < (len : Int) → 0 ≤ i → (Instr.indexAt t (.slice (some a) len cap) (.int k i)).run P C.w = .ok (.pointer (some (a.add (i.toNat * sz)))) C.w := by
    intro a len cap h1 h0
    have hin : 0 ≤ i ∧ i < (len : Int) := ⟨h0, h1⟩
    simp [Instr.indexAt, asIntOf, run_underlying hu, hin, run_tsz hs]
  unfold iaddrA at h
  split at h
  · rename_i h0
    split at h
    · rename_i s xs
      split at h
      · rename_i hs'
        subst hs'
        simp only [Option.map_eq_some_iff] at h
        obtain ⟨y, hy, rfl⟩ := h
        have hp' : V C (.sl s xs) [x] := hp
        simp only [V] at hp'
        obtain ⟨ao, cap, body, e1, h2, h3, h4, h5⟩ := hp'
        obtain rfl := (List.cons.inj e1).1
        obtain ⟨hlt, _⟩ := List.getElem?_eq_some_iff.1 hy
        rcases h5 with rfl | ⟨b, o, rfl, hi, hc⟩
        · simp at hlt
        · refine ⟨_, run _ _ cap (by omega) h0, ?_⟩
          rw [add_at]
          show V C (.iptr y) [_]
          simp only [V]
          have hg := Es_get h4 hy
          exact ⟨b, o + i.toNat * s, _, rfl, hi, hg.1, hc.part _ _⟩
      · cases h
    · rename_i l s g off n
      split at h
      · rename_i hc
        obtain ⟨rfl, hin⟩ := hc
        obtain rfl := Option.some.inj h
        have hp' : V C (.row l s g off n) [x] := hp
        simp only [V] at hp'
        obtain ⟨ao, cap, e1, hn, _, hso, hg, k'⟩ := hp'
        obtain rfl := (List.cons.inj e1).1
        obtain ⟨a, rfl⟩ := Option.isSome_iff_exists.1 (hso (by omega))
        refine ⟨_, run a _ _ hin h0, ?_⟩
        show V C (.rptr l s g (off + i.toNat) 0) [_]
        simp only [V]
        refine ⟨_, rfl, hg, fun xs hm => ?_⟩
        have hrv := k' _ hm
        unfold RowVal at hrv
        split at hrv
        · rename_i hb; omega
        · rename_i b hb
          obtain ⟨cur, T, cap', a', h1, h2, h3, h4, e5, h6⟩ := hrv
          simp only [Value.slice.injEq, Option.some.injEq] at e5
          obtain ⟨rfl, _, _⟩ := e5
          obtain rfl := h6 (.inl (by omega))
          exact ⟨b, hb, by rw [add_at, Nat.add_mul, Nat.add_zero]⟩
      · cases h
    · rename_i l g off s n cap
      split at h
      · rename_i hc
        obtain ⟨rfl, hin⟩ := hc
        obtain rfl := Option.some.inj h
        have hp' : V C (.vrow l g off s n cap) [x] := hp
        simp only [V] at hp'
        obtain ⟨a, e1, hn, _, hg, k'⟩ := hp'
        obtain rfl := (List.cons.inj e1).1
        refine ⟨_, run a _ _ hin h0, ?_⟩
        show V C (.ptr l g (off + i.toNat * s)) [_]
        simp only [V]
        refine ⟨_, rfl, hg, fun y hc => ?_⟩
        obtain ⟨b, hb, ha⟩ := k' _ hc
        obtain rfl := ha (by omega)
        exact ⟨b, hb, add_at _ _ _⟩
      · cases h
    · cases h
  · cases h

/-- The address of an element of an array behind a pointer. -/
def iaddrArr (N sz : Nat) (agg : Bool) (p : AV) (i : Int) : Option AV :=
  if 0 ≤ i ∧ i < (N : Int) then faddrA (i.toNat * sz) sz agg p else none

theorem sim_iaddrArr {p r : AV} {x : Value} {t e : TypeId} {N sz : Nat} {agg : Bool} {k : IntKind} {i : Int} (hp : SV C p x) (hu : P.underlying t = some (.array N e)) (hs : tsz P e = some sz)
    (h : iaddrArr N sz agg p i = some r) : ∃ y, (Instr.indexAt t x (.int k i)).run P C.w = .ok y C.w ∧ SV C r y := by
  unfold iaddrArr at h
  split at h
  · rename_i hin
    obtain ⟨a, rfl, hr⟩ := faddr_ok hp h
    exact ⟨_, by simp [Instr.indexAt, asIntOf, run_underlying hu, Instr.sureAddr, hin, run_tsz hs], hr⟩
  · cases h

/-! Lengths -/
def lenA (a : AV) : Option Nat :=
  match a with
  | .sl _ xs => some xs.length
  | .row _ _ _ _ n => some n
  | .vrow _ _ _ _ n _ => some n
  | .v (.slice none 0 0) => some 0
  | _ => none

/-- A slice's length, known whatever the location holds now. -/
theorem slice_form {a : AV} {x : Value} {n : Nat} (hp : SV C a x) (h : lenA a = some n) : ∃ o cap, x = .slice o n cap := by
  unfold lenA at h
  split at h
  · rename_i s xs
    obtain rfl := Option.some.inj h
    have hp' : V C (.sl s xs) [x] := hp
    simp only [V] at hp'
    obtain ⟨ao, cap, body, e1, _⟩ := hp'
    exact ⟨ao, cap, (List.cons.inj e1).1⟩
  · rename_i l s g off n'
    obtain rfl := Option.some.inj h
    have hp' : V C (.row l s g off n') [x] := hp
    simp only [V] at hp'
    obtain ⟨ao, cap, e1, _⟩ := hp'
    exact ⟨ao, cap, (List.cons.inj e1).1⟩
  · rename_i l g off s n' cap
    obtain rfl := Option.some.inj h
    have hp' : V C (.vrow l g off s n' cap) [x] := hp
    simp only [V] at hp'
    obtain ⟨a, e1, _⟩ := hp'
    exact ⟨some a, cap, (List.cons.inj e1).1⟩
  · obtain rfl := Option.some.inj h
    have hp' : V C (.v (.slice none 0 0)) [x] := hp
    simp only [V] at hp'
    obtain rfl := (List.cons.inj hp'.1).1
    exact ⟨_, _, rfl⟩
  · cases h

end
end Go.Proofs.YtngemgmnpcaamaaDoor.WL
