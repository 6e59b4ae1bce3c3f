/-
  THE QUIET OPERATIONS ON MEMORY, AND THE STORE.
-/
import Derived.Test.YtngemgmnpcaamaaDoorWl3
namespace Go.Proofs.YtngemgmnpcaamaaDoor.WL
open Go

def tagg (P : Program) (t : TypeId) : Option Bool := (P.underlying t).map fun d => match d with | .struct _ | .array _ _ => true | _ => false
def tsz (P : Program) (t : TypeId) : Option Nat := (P.info? t).map (·.size)

theorem add_at (b o n : Nat) : (⟨b, o, none⟩ : Addr).add n = ⟨b, o + n, none⟩ := by unfold Addr.add; split <;> simp_all

theorem run_tsz {P : Program} {t : TypeId} {sz : Nat} (h : tsz P t = some sz) (w : World) : (sizeOf t).run P w = .ok sz w := by
  unfold tsz at h
  cases hq : P.info? t with
  | none => simp [hq] at h
  | some i =>
    have : i.size = sz := by simpa [hq] using h
    simp [sizeOf, typeInfo, hq, this]

theorem run_tagg {P : Program} {t : TypeId} {agg : Bool} (h : tagg P t = some agg) (w : World) : (isAgg t).run P w = .ok agg w := by
  unfold tagg at h
  cases hq : P.underlying t with
  | none => simp [hq] at h
  | some d =>
    rw [hq] at h
    unfold isAgg
    rw [Sem.run_bind, run_underlying hq w]
    cases d <;> simp_all

/-- Cells as a value: an aggregate, or one. -/
def valOf (agg : Bool) (cs : List Value) : Value := if agg then .agg cs.toArray else cs.headD undef

theorem run_loadVar {P : Program} {w : World} {t : TypeId} {agg : Bool} {sz b o : Nat} {cs : List Value} (ha : tagg P t = some agg) (hs : tsz P t = some sz) (hl : cs.length = sz) (h1 : agg = false → sz = 1)
    (hc : CellsAt w b o cs) : (loadVar t ⟨b, o, none⟩).run P w = .ok (valOf agg cs) w := by
  have hc' : ∀ j v, cs[j]? = some v → w.cell? ((⟨b, o, none⟩ : Addr).add j) = some v := fun j v hv => by rw [add_at]; exact hc j v hv
  have hr := run_loadCells_list (P := P) w ⟨b, o, none⟩ cs hc'
  cases agg with
  | true => simp [loadVar, run_tagg ha, run_tsz hs, ← hl, hr, valOf]
  | false =>
    have h2 := h1 rfl
    match cs, hl with
    | [], hl => simp at hl; omega
    | [c], _ =>
      have hcell : w.cell? ⟨b, o, none⟩ = some c := by simpa using hc 0 c rfl
      simp [loadVar, run_tagg ha, valOf, run_load, hcell]
    | _ :: _ :: _, hl => simp at hl; omega

theorem SV_valOf {C : Ctx} {r : AV} {cs : List Value} {agg : Bool} (h : V C r cs) (ha : r.isAgg = agg) (h1 : agg = false → cs.length = 1) : SV C r (valOf agg cs) := by
  cases agg with
  | true => exact SV_agg (by simpa using h) ha
  | false =>
    match cs, h1 rfl with
    | [c], _ => exact SV_one (by simpa [valOf] using h) ha

theorem cellsAt_block {w : World} {b o n : Nat} {cur : Array Value} {T : TypeId} {fr : Nat × Nat} (h : w.heap[b]? = some (.cells cur T fr)) : CellsAt w b o ((cur.toList.drop o).take n) := by
  intro j u hu
  rw [cell_of_row w b (o + j) cur T fr h]
  rw [List.getElem?_take] at hu
  split at hu
  · rw [List.getElem?_drop] at hu
    simpa using hu
  · cases hu

theorem CellsAt.part {w : World} {b o : Nat} {cs : List Value} (h : CellsAt w b o cs) (off n : Nat) : CellsAt w b (o + off) ((cs.drop off).take n) := by
  intro j u hu
  rw [List.getElem?_take] at hu
  split at hu
  · rw [List.getElem?_drop] at hu
    have := h (off + j) u hu
    rwa [Nat.add_assoc]
  · cases hu

/-- What a pointer leads to, and the place in it. -/
def deref (m : Nat → Option Loc) : AV → Option (AV × Nat)
  | .ptr l g off => match m l with
    | some (.var g' y) => if g' = g then some (y, off) else none
    | _ => none
  | .iptr y => some (y, 0)
  | .rptr l sz g i off => match m l with
    | some (.rows g' sz' xs) => if g' = g ∧ sz' = sz then (xs[i]?).map (·, off) else none
    | _ => none
  | _ => none

theorem deref_ok {w0 : World} {Ws I0 : Nat → Prop} {C : Ctx} (hw : WR w0 Ws I0 C) {p : AV} {x : Value} {y : AV} {off : Nat} (hp : SV C p x) (h : deref C.m p = some (y, off)) :
    ∃ b base cs, V C y cs ∧ CellsAt C.w b base cs ∧ x = .pointer (some ⟨b, base + off, none⟩) := by
  cases p with
  | ptr l g o =>
    simp only [deref] at h
    split at h
    · rename_i g' y' hm
      split at h
      · rename_i e
        subst e
        simp only [Option.some.injEq, Prod.mk.injEq] at h
        obtain ⟨rfl, rfl⟩ := h
        obtain ⟨b, cur, T, h1, h2, h3⟩ := hw.locs l _ hm
        have hp' : V C (.ptr l g' o) [x] := hp
        simp only [V] at hp'
        obtain ⟨x', e, _, k⟩ := hp'
        obtain rfl := (List.cons.inj e).1
        obtain ⟨b', e1, rfl⟩ := k _ hm
        rw [h1] at e1
        obtain rfl := Option.some.inj e1
        have hc := cellsAt_block (o := 0) (n := cur.toList.length) h2
        rw [List.drop_zero, List.take_length] at hc
        exact ⟨b, 0, cur.toList, h3, hc, by simp⟩
      · cases h
    · cases h
  | iptr y' =>
    simp only [deref, Option.some.injEq, Prod.mk.injEq] at h
    obtain ⟨rfl, rfl⟩ := h
    have hp' : V C (.iptr y') [x] := hp
    simp only [V] at hp'
    obtain ⟨b, o, body, e, _, h2, h3⟩ := hp'
    obtain rfl := (List.cons.inj e).1
    exact ⟨b, o, body, h2, h3, rfl⟩
  | rptr l s0 g i o =>
    simp only [deref] at h
    split at h
    · rename_i g' sz xs hm
      split at h
      · rename_i e
        obtain ⟨rfl, rfl⟩ := e
        simp only [Option.map_eq_some_iff, Prod.mk.injEq] at h
        obtain ⟨y', hy, rfl, rfl⟩ := h
        have hp' : V C (.rptr l sz g' i o) [x] := hp
        simp only [V] at hp'
        obtain ⟨x', e, _, k⟩ := hp'
        obtain rfl := (List.cons.inj e).1
        obtain ⟨b', e1, rfl⟩ := k _ hm
        rcases hw.locs l _ hm with ⟨h1, _⟩ | ⟨b, cur, T, cap, h1, h2, h3, h4, h5, h6⟩
        · rw [e1] at h1; cases h1
        · rw [h1] at e1
          obtain rfl := Option.some.inj e1
          have hg := Es_get h6 hy
          have hc := (cellsAt_block (o := 0) (n := xs.length * sz) h2).part (i * sz) sz
          rw [List.drop_zero] at hc
          exact ⟨b, 0 + i * sz, _, hg.1, hc, by simp⟩
      · cases h
    · cases h
  | top => simp [deref] at h
  | v y => simp [deref] at h
  | node as => simp [deref] at h
  | arr sz as => simp [deref] at h
  | sl sz xs => simp [deref] at h
  | row l sz g off n => simp [deref] at h
  | vrow l g off sz n cap => simp [deref] at h
  | tup as => simp [deref] at h

theorem SV.oneCell {C : Ctx} {a : AV} {x : Value} (h : SV C a x) (hs : a.solid = true) (hn : a.isAgg = false) : x.oneCell' = true :=
  V_oneCell _ _ (h.oneOf hs hn) x (by simp)

section
variable {P : Program} {w0 : World} {Ws I0 : Nat → Prop} {C : Ctx}

def loadA (m : Nat → Option Loc) (agg : Bool) (sz : Nat) (p : AV) : Option AV := (deref m p).bind fun q => sub agg sz q.1 q.2

theorem sim_load (hw : WR w0 Ws I0 C) {p r : AV} {x : Value} {t : TypeId} {agg : Bool} {sz : Nat} (hp : SV C p x) (ha : tagg P t = some agg) (hs : tsz P t = some sz) (h1 : agg = false → sz = 1)
    (h : loadA C.m agg sz p = some r) : ∃ y, (Instr.loadAt t x).run P C.w = .ok y C.w ∧ SV C r y := by
  unfold loadA at h
  obtain ⟨⟨y, off⟩, h2, h3⟩ := Option.bind_eq_some_iff.1 h
  obtain ⟨b, base, cs, k1, k2, rfl⟩ := deref_ok hw hp h2
  obtain ⟨s1, s2, s3, s4⟩ := sub_ok y off r cs h3 k1
  have hr := run_loadVar (P := P) ha hs s4 h1 (k2.part off sz)
  exact ⟨_, by simp [Instr.loadAt, Instr.sureAddr, hr], SV_valOf s1 s3 (fun e => by rw [s4]; exact h1 e)⟩

def AV.isRef : AV → Bool
  | .ptr .. | .iptr _ | .rptr .. => true
  | _ => false

theorem sim_nilCheck {p : AV} {x : Value} (hp : SV C p x) (h : p.isRef = true) : ∃ a, x = .pointer (some a) := by
  cases p <;> simp [AV.isRef] at h
  · have hp' : V C (.ptr _ _ _) [x] := hp
    simp only [V] at hp'
    obtain ⟨a, e, _⟩ := hp'
    exact ⟨a, (List.cons.inj e).1⟩
  · have hp' : V C (.iptr _) [x] := hp
    simp only [V] at hp'
    obtain ⟨b, o, body, e, _⟩ := hp'
    exact ⟨_, (List.cons.inj e).1⟩
  · have hp' : V C (.rptr _ _ _ _ _) [x] := hp
    simp only [V] at hp'
    obtain ⟨a, e, _⟩ := hp'
    exact ⟨a, (List.cons.inj e).1⟩

/-- A field's address. -/
def faddrA (fo sz : Nat) (agg : Bool) (p : AV) : Option AV :=
  match p with
  | .ptr l g off => some (.ptr l g (off + fo))
  | .rptr l s g i off => some (.rptr l s g i (off + fo))
  | .iptr y => (sub agg sz y fo).map .iptr
  | _ => none

/-- The address behind a reference is moved. -/
theorem faddr_ok {p r : AV} {x : Value} {fo sz : Nat} {agg : Bool} (hp : SV C p x) (h : faddrA fo sz agg p = some r) :
    ∃ a, x = .pointer (some a) ∧ SV C r (.pointer (some (a.add fo))) := by
  unfold faddrA at h
  split at h
  · rename_i l g off
    obtain rfl := Option.some.inj h
    have hp' : V C (.ptr l g off) [x] := hp
    simp only [V] at hp'
    obtain ⟨a, e, hg, k⟩ := hp'
    refine ⟨a, (List.cons.inj e).1, ?_⟩
    show V C (.ptr l g (off + fo)) [_]
    simp only [V]
    refine ⟨_, rfl, hg, fun y hc => ?_⟩
    obtain ⟨b', e1, rfl⟩ := k y hc
    exact ⟨b', e1, add_at _ _ _⟩
  · rename_i l s g i off
    obtain rfl := Option.some.inj h
    have hp' : V C (.rptr l s g i off) [x] := hp
    simp only [V] at hp'
    obtain ⟨a, e, hg, k⟩ := hp'
    refine ⟨a, (List.cons.inj e).1, ?_⟩
    show V C (.rptr l s g i (off + fo)) [_]
    simp only [V]
    refine ⟨_, rfl, hg, fun xs hc => ?_⟩
    obtain ⟨b', e1, rfl⟩ := k xs hc
    exact ⟨b', e1, by rw [add_at, Nat.add_assoc]⟩
  · rename_i y
    simp only [Option.map_eq_some_iff] at h
    obtain ⟨r', h1, rfl⟩ := h
    have hp' : V C (.iptr y) [x] := hp
    simp only [V] at hp'
    obtain ⟨b, o, body, e, hi, h2, h3⟩ := hp'
    obtain ⟨s1, s2, s3, s4⟩ := sub_ok y fo r' body h1 h2
    refine ⟨_, (List.cons.inj e).1, ?_⟩
    rw [add_at]
    show V C (.iptr r') [_]
    simp only [V]
    exact ⟨b, o + fo, _, rfl, hi, s1, h3.part fo sz⟩
  · cases h

theorem sim_faddr {p r : AV} {x : Value} {s : TypeId} {fields : Array Field} {k : Nat} {f : Field} {sz : Nat} {agg : Bool} (hp : SV C p x) (hu : P.underlying s = some (.struct fields)) (hf : fields[k]? = some f)
    (hs : tsz P f.type = some sz) (hne : sz ≠ 0) (h : faddrA f.offset sz agg p = some r) : ∃ y, (Instr.fieldAt s x k).run P C.w = .ok y C.w ∧ SV C r y := by
  obtain ⟨a, rfl, hr⟩ := faddr_ok hp h
  exact ⟨_, by simp [Instr.fieldAt, run_underlying hu, hf, Instr.sureAddr, fieldPlace, run_tsz hs, hne], hr⟩

theorem splice_take {α : Type} (L d : List α) (n A s off sz : Nat) (hd : d.length = sz) (h1 : off + sz ≤ s) (h2 : A + s ≤ n) (h3 : n ≤ L.length) :
    (L.take (A + off) ++ d ++ (L.drop (A + off + sz))).take n = (L.take n).take A ++ (((((L.take n).drop A).take s).take off ++ d) ++ (((L.take n).drop A).take s).drop (off + sz)) ++ (L.take n).drop (A + s) := by
  apply List.ext_getElem?
  intro j
  simp only [List.getElem?_append, List.getElem?_take, List.getElem?_drop, List.length_append, List.length_take, List.length_drop, hd]
  grind

theorem setRow_heap_other (w : World) (g k : Nat) (cs : Array Value) (h : k ≠ g) : (w.setRow g cs).heap[k]? = w.heap[k]? := by
  simp only [World.setRow, Array.getElem?_modify]
  rw [if_neg (by omega)]

theorem grownBy_setRow (w : World) (g : Nat) (cs : Array Value) : w.grownBy (w.setRow g cs) (some g) :=
  ⟨rfl, rfl, rfl, by simp, fun k _ hn => setRow_heap_other w g k cs (fun e => hn (by rw [e]))⟩

theorem run_storeVar {w : World} {t : TypeId} {sz b o : Nat} {x : Value} {cur : Array Value} {T : TypeId} (hs : tsz P t = some sz) (hl : x.cells.toList.length = sz) (h1 : ∀ u ∈ x.cells.toList, u.oneCell' = true)
    (hg : w.heap[b]? = some (.cells cur T (0, 0))) (hfit : o + sz ≤ cur.size) :
    (storeVar t ⟨b, o, none⟩ x).run P w = .ok () (w.setRow b (cur.toList.take o ++ x.cells.toList ++ cur.toList.drop (o + sz)).toArray) := by
  have hst := run_storeCells_at P b o T x.cells.toList 0 cur w hg (by rw [hl]; simpa using hfit) h1
  rw [hl] at hst
  simp only [Nat.add_zero] at hst
  have hl' : x.cells.size = sz := by simpa using hl
  simp [storeVar, run_tsz hs, hl', hst]

/-- What a store leaves at the location. -/
def storeA (m : Nat → Option Loc) (agg : Bool) (sz : Nat) (p v : AV) : Option (Nat × Loc) :=
  if v.solid = true ∧ v.size = sz ∧ v.isAgg = agg then
    match p with
    | .ptr l g off => match m l with
      | some (.var g' y) => if g' = g then (putAt agg sz v y off).map fun y' => (l, .var g y') else none
      | _ => none
    | .rptr l s0 g i off => match m l with
      | some (.rows g' s xs) => if g' = g ∧ s = s0 then (xs[i]?).bind fun y => (putAt agg sz v y off).map fun y' => (l, .rows g s (xs.set i y')) else none
      | _ => none
    | _ => none
  else none

theorem sim_store (hw : WR w0 Ws I0 C) {p v : AV} {x y : Value} {t : TypeId} {agg : Bool} {sz l : Nat} {c' : Loc} (hp : SV C p x) (hv : SV C v y) (hs : tsz P t = some sz)
    (h : storeA C.m agg sz p v = some (l, c')) :
    ∃ w', (Instr.storeAt t x y).run P C.w = .ok () w' ∧ C.Le { C with w := w', m := upd C.m l (some c') } ∧ WR w0 Ws I0 { C with w := w', m := upd C.m l (some c') } := by
  unfold storeA at h
  split at h
  · rename_i hc
    obtain ⟨hso, hsz, _⟩ := hc
    have hvc := hv.cells hso
    have hvl : y.cells.toList.length = sz := by rw [V_size _ _ hvc, hsz]
    have hv1 := V_oneCell _ _ hvc
    cases p with
    | ptr l' g off =>
      simp only at h
      split at h
      · rename_i g' z hm
        split at h
        · rename_i e
          subst e
          simp only [Option.map_eq_some_iff, Prod.mk.injEq] at h
          obtain ⟨z', hz, rfl, rfl⟩ := h
          obtain ⟨b, cur, T, h1, h2, h3⟩ := hw.locs l' _ hm
          have hp' : V C (.ptr l' g' off) [x] := hp
          simp only [V] at hp'
          obtain ⟨x', e, _, k⟩ := hp'
          obtain rfl := (List.cons.inj e).1
          obtain ⟨b', e1, rfl⟩ := k _ hm
          rw [h1] at e1
          obtain rfl := Option.some.inj e1
          obtain ⟨k1, k2⟩ := put_ok hvc hvl z off z' _ hz h3
          have hr := run_storeVar (P := P) hs hvl hv1 h2 (o := off) (by simpa using k2)
          have hput := hw.put hm h1 h2 (grownBy_setRow C.w b _) (setRow_heap C.w b cur (cur.toList.take off ++ y.cells.toList ++ cur.toList.drop (off + sz)).toArray T _ h2)
            (by simp only [Array.length_toList] at k2 hvl; simp; omega) (c' := .var g' z') (by simp [Loc.same])
          refine ⟨_, by simp [Instr.storeAt, Instr.sureAddr, hr], hput.1, hput.2 ⟨b, _, T, h1, setRow_heap C.w b cur _ T _ h2, ?_⟩⟩
          have := V_mono hput.1 _ _ k1
          simpa using this
        · cases h
      · cases h
    | rptr l' s0 g i off =>
      simp only at h
      split at h
      · rename_i g' s xs hm
        split at h
        · rename_i e
          obtain ⟨rfl, rfl⟩ := e
          simp only [Option.bind_eq_some_iff, Option.map_eq_some_iff, Prod.mk.injEq] at h
          obtain ⟨z, hz0, z', hz, rfl, rfl⟩ := h
          have hp' : V C (.rptr l' s g' i off) [x] := hp
          simp only [V] at hp'
          obtain ⟨x', e, _, k⟩ := hp'
          obtain rfl := (List.cons.inj e).1
          obtain ⟨b', e1, rfl⟩ := k _ hm
          rcases hw.locs l' _ hm with ⟨h1, _⟩ | ⟨b, cur, T, cap, h1, h2, h3, h4, h5, h6⟩
          · rw [e1] at h1; cases h1
          · rw [h1] at e1
            obtain rfl := Option.some.inj e1
            obtain ⟨hi, _⟩ := List.getElem?_eq_some_iff.1 hz0
            have hg := Es_get h6 hz0
            obtain ⟨k1, k2⟩ := put_ok hvc hvl z off z' _ hz hg.1
            rw [hg.2] at k2
            have hlen := Es_length h6
            have hmul : (i + 1) * s ≤ xs.length * s := Nat.mul_le_mul_right _ hi
            rw [Nat.succ_mul] at hmul
            have hcurl : xs.length * s ≤ cur.size := by rw [h3]; exact Nat.mul_le_mul_right _ h5
            have hr := run_storeVar (P := P) hs hvl hv1 h2 (o := i * s + off) (by omega)
            have hput := hw.put hm h1 h2 (grownBy_setRow C.w b _) (setRow_heap C.w b cur (cur.toList.take (i * s + off) ++ y.cells.toList ++ cur.toList.drop (i * s + off + sz)).toArray T _ h2)
              (by simp only [Array.length_toList] at hvl; simp; omega) (c' := .rows g' s (xs.set i z')) (by simp [Loc.same])
            refine ⟨_, by simp [Instr.storeAt, Instr.sureAddr, hr], hput.1, hput.2 (.inr ⟨b, _, T, cap, h1, setRow_heap C.w b cur _ T _ h2, ?_, h4, by simpa using h5, ?_⟩)⟩
            · simp only [Array.length_toList] at hvl
              simp
              omega
            · have hset := Es_set h6 hi (d := (((cur.toList.take (xs.length * s)).drop (i * s)).take s).take off ++ y.cells.toList ++ (((cur.toList.take (xs.length * s)).drop (i * s)).take s).drop (off + sz)) (by simp only [List.length_append, List.length_take, List.length_drop, hvl, Array.length_toList]; omega) k1
              have := Es_mono hput.1 _ _ _ hset
              rw [List.length_set]
              rw [← splice_take cur.toList y.cells.toList (xs.length * s) (i * s) s off sz hvl k2 (by omega) (by simpa using hcurl)] at this
              exact this
        · cases h
      · cases h
    | _ => cases h
  · cases h

end
end Go.Proofs.YtngemgmnpcaamaaDoor.WL
