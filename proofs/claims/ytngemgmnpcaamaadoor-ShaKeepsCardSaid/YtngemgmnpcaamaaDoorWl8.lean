/-
  WHAT MAKES MEMORY: variables, literals, make; conversions between bytes and strings.
-/
import Derived.Test.YtngemgmnpcaamaaDoorWl7
import Derived.Lib.ConvBytes
import Derived.Laws.BytesArg
import Derived.Great.BuildSlice
namespace Go.Proofs.YtngemgmnpcaamaaDoor.WL
open Go

/-! A value that is known to the bottom, as cells. -/
mutual
def flat : AV → Option (List Value)
  | .v x => if x.oneCell' = true then some [x] else none
  | .node cs => flats cs
  | .arr sz xs => flatE sz xs
  | _ => none
def flats : List AV → Option (List Value)
  | [] => some []
  | a :: as => (flat a).bind fun c => (flats as).map (c ++ ·)
def flatE (sz : Nat) : List AV → Option (List Value)
  | [] => some []
  | a :: as => (flat a).bind fun c => if c.length = sz then (flatE sz as).map (c ++ ·) else none
end

mutual
theorem flat_V {C : Ctx} : ∀ (a : AV) (cs : List Value), flat a = some cs → V C a cs
  | .v x, cs, h => by
    simp only [flat] at h
    split at h
    · rename_i h1; obtain rfl := Option.some.inj h; simp [V, h1]
    · cases h
  | .node as, cs, h => by simp only [flat] at h; simp only [V]; exact flats_V as cs h
  | .arr sz xs, cs, h => by simp only [flat] at h; simp only [V]; exact flatE_V sz xs cs h
  | .top, _, h => by simp [flat] at h
  | .sl .., _, h => by simp [flat] at h
  | .ptr .., _, h => by simp [flat] at h
  | .row .., _, h => by simp [flat] at h
  | .vrow .., _, h => by simp [flat] at h
  | .iptr .., _, h => by simp [flat] at h
  | .rptr .., _, h => by simp [flat] at h
  | .tup .., _, h => by simp [flat] at h
theorem flats_V {C : Ctx} : ∀ (as : List AV) (cs : List Value), flats as = some cs → Vs C as cs
  | [], cs, h => by simp only [flats, Option.some.injEq] at h; simp [Vs, ← h]
  | a :: as, cs, h => by
    simp only [flats, Option.bind_eq_some_iff, Option.map_eq_some_iff] at h
    obtain ⟨c, h1, c2, h2, rfl⟩ := h
    simp only [Vs]
    exact ⟨c, c2, rfl, flat_V a c h1, flats_V as c2 h2⟩
theorem flatE_V {C : Ctx} (sz : Nat) : ∀ (as : List AV) (cs : List Value), flatE sz as = some cs → Es C sz as cs
  | [], cs, h => by simp only [flatE, Option.some.injEq] at h; simp [Es, ← h]
  | a :: as, cs, h => by
    simp only [flatE, Option.bind_eq_some_iff] at h
    obtain ⟨c, h1, h2⟩ := h
    split at h2
    · rename_i hl
      simp only [Option.map_eq_some_iff] at h2
      obtain ⟨c2, h3, rfl⟩ := h2
      simp only [Es]
      exact ⟨c, c2, rfl, hl, flat_V a c h1, flatE_V sz as c2 h3⟩
    · cases h2
end

section
variable {P : Program} {w0 : World} {Ws I0 : Nat → Prop} {C : Ctx}

/-- The context behind a new block for location l. -/
def newAt (C : Ctx) (w' : World) (l g : Nat) (B : Option Nat) (c' : Loc) : Ctx := ⟨w', C.I, upd C.blk l B, upd C.m l (some c'), fun k => C.used k ∨ k = g⟩

theorem WR.newVar (h : WR w0 Ws I0 C) {l g : Nat} {a : AV} {cs : Array Value} {T : TypeId} (hnew : ¬ C.used g) (hv : V C a cs.toList) :
    C.Le (newAt C (C.w.alloc (.cells cs T)) l g (some C.w.heap.size) (.var g a)) ∧ WR w0 Ws I0 (newAt C (C.w.alloc (.cells cs T)) l g (some C.w.heap.size) (.var g a)) ∧
      SV (newAt C (C.w.alloc (.cells cs T)) l g (some C.w.heap.size) (.var g a)) (.ptr l g 0) (.pointer (some ⟨C.w.heap.size, 0, none⟩)) := by
  have hr := h.regen (l := l) (g := g) (c' := .var g a) (w' := C.w.alloc (.cells cs T)) (row := none) (B := some C.w.heap.size) (World.grownBy_alloc C.w _ none) rfl hnew (.inl rfl)
    (.inr (.inr ⟨_, rfl, Nat.le_refl _, by simp⟩))
  refine ⟨hr.1, hr.2 ⟨C.w.heap.size, cs, T, by simp, heap_alloc_new C.w _, V_mono hr.1 _ _ hv⟩, ?_⟩
  show V _ (.ptr l g 0) [_]
  simp only [V]
  exact ⟨_, rfl, .inr rfl, fun _ _ => ⟨C.w.heap.size, by simp [newAt], rfl⟩⟩

theorem WR.newRows (h : WR w0 Ws I0 C) {l g sz n : Nat} {xs : List AV} {cs : Array Value} {T : TypeId} (hnew : ¬ C.used g) (hv : Es C sz xs cs.toList) (hn : xs.length = n) (hm : n ≤ maxLen) :
    C.Le (newAt C (C.w.alloc (.cells cs T)) l g (some C.w.heap.size) (.rows g sz xs)) ∧ WR w0 Ws I0 (newAt C (C.w.alloc (.cells cs T)) l g (some C.w.heap.size) (.rows g sz xs)) ∧
      SV (newAt C (C.w.alloc (.cells cs T)) l g (some C.w.heap.size) (.rows g sz xs)) (.row l sz g 0 n) (.slice (some ⟨C.w.heap.size, 0, none⟩) n n) := by
  subst hn
  have hr := h.regen (l := l) (g := g) (c' := .rows g sz xs) (w' := C.w.alloc (.cells cs T)) (row := none) (B := some C.w.heap.size) (World.grownBy_alloc C.w _ none) rfl hnew (.inl rfl)
    (.inr (.inr ⟨_, rfl, Nat.le_refl _, by simp⟩))
  have hl := Es_length hv
  simp only [Array.length_toList] at hl
  have hE := Es_mono hr.1 _ _ _ hv
  refine ⟨hr.1, hr.2 (.inr ⟨C.w.heap.size, cs, T, xs.length, by simp, heap_alloc_new C.w _, hl, hm, Nat.le_refl _, ?_⟩), ?_⟩
  · rw [List.take_of_length_le (by simp [hl])]; exact hE
  · show V _ (.row l sz g 0 xs.length) [_]
    simp only [V]
    refine ⟨_, _, rfl, Nat.le_refl _, hm, fun _ => rfl, .inr rfl, fun xs' hc => ?_⟩
    simp only [newAt, upd_same, Option.some.injEq, Loc.rows.injEq, true_and] at hc
    subst hc
    unfold RowVal
    simp only [newAt, upd_same]
    exact ⟨cs, T, xs.length, _, heap_alloc_new C.w _, hl, hm, by omega, rfl, fun _ => by simp⟩

def tzero (P : Program) (t : TypeId) : Option (List Value) := (P.info? t).bind fun i => i.zero.map (·.cells.toList)

theorem run_tzero {t : TypeId} {cs : List Value} {w : World} (h : tzero P t = some cs) : ∃ z : Value, (zeroValue t).run P w = .ok z w ∧ z.cells.toList = cs := by
  unfold tzero at h
  simp only [Option.bind_eq_some_iff, Option.map_eq_some_iff] at h
  obtain ⟨i, hi, z, hz, rfl⟩ := h
  exact ⟨z, by simp [zeroValue, typeInfo, hi, hz], rfl⟩

theorem sim_alloc (h : WR w0 Ws I0 C) {l g : Nat} {t : TypeId} {z : AV} {cs : List Value} (hnew : ¬ C.used g) (hz : tzero P t = some cs) (hf : flat z = some cs) :
    ∃ y w', (Instr.alloc t true (.tuple #[])).run P C.w = .ok y w' ∧ C.Le (newAt C w' l g (some C.w.heap.size) (.var g z)) ∧ WR w0 Ws I0 (newAt C w' l g (some C.w.heap.size) (.var g z)) ∧
      SV (newAt C w' l g (some C.w.heap.size) (.var g z)) (.ptr l g 0) y := by
  obtain ⟨zv, hr, rfl⟩ := run_tzero (P := P) (w := C.w) hz
  obtain ⟨k1, k2, k3⟩ := h.newVar (l := l) (T := t) (cs := zv.cells) hnew (flat_V z _ hf)
  exact ⟨_, _, by simp [Instr.alloc, hr, newVar, newRow], k1, k2, k3⟩

theorem sim_box (h : WR w0 Ws I0 C) {l g : Nat} {t : TypeId} {a : AV} {x : Value} (hnew : ¬ C.used g) (hx : SV C a x) (hs : a.solid = true) :
    ∃ y w', (Instr.box t x).run P C.w = .ok y w' ∧ C.Le (newAt C w' l g (some C.w.heap.size) (.var g a)) ∧ WR w0 Ws I0 (newAt C w' l g (some C.w.heap.size) (.var g a)) ∧
      SV (newAt C w' l g (some C.w.heap.size) (.var g a)) (.ptr l g 0) y := by
  obtain ⟨k1, k2, k3⟩ := h.newVar (l := l) (T := t) (cs := x.cells) hnew (hx.cells hs)
  exact ⟨_, _, by simp [Instr.box, newVar, newRow], k1, k2, k3⟩

/-! Literals -/
theorem foldl_splice (off : Nat) : ∀ (vs : List Value) (k : Nat) (cs : Array Value), off + k + vs.length ≤ cs.size →
    (vs.zipIdx k).foldl (fun cs (x : Value × Nat) => cs.setIfInBounds (off + x.2) x.1) cs = (cs.toList.take (off + k) ++ vs ++ cs.toList.drop (off + k + vs.length)).toArray
  | [], k, cs, _ => by simp
  | v :: vs, k, cs, h => by
    simp only [List.length_cons] at h
    rw [List.zipIdx_cons, List.foldl_cons, foldl_splice off vs (k + 1) _ (by simp; omega)]
    apply Array.ext'
    have e := list_seg_step cs.toList (off + k) v vs (by simp; omega)
    simpa [Array.toList_setIfInBounds, Nat.add_assoc] using e

theorem fill_one {place : Nat → Option (Nat × Nat)} {cells : Array Value} {i off sz : Nat} {v : Value} {rest : List (Nat × Value)} (hp : place i = some (off, sz)) (hs : v.cells.size = sz) (hfit : off + sz ≤ cells.size) :
    Instr.fill place cells ((i, v) :: rest) = Instr.fill place (cells.toList.take off ++ v.cells.toList ++ cells.toList.drop (off + sz)).toArray rest := by
  have e := foldl_splice off v.cells.toList 0 cells (by simp; omega)
  have hz : v.cells.zipIdx.foldl (fun cs (c, j) => cs.setIfInBounds (off + j) c) cells = (v.cells.toList.zipIdx 0).foldl (fun cs (x : Value × Nat) => cs.setIfInBounds (off + x.2) x.1) cells := by
    rw [← Array.foldl_toList]; simp
  have hn : ¬ (v.cells.size ≠ sz ∨ cells.size < off + v.cells.size) := by omega
  rw [Instr.fill, hp]
  simp only [Bool.or_eq_true, decide_eq_true_eq, gt_iff_lt, ne_eq] at hn ⊢
  rw [if_neg hn, hz, e]
  simp only [Nat.add_zero, Array.length_toList, hs]

theorem Vs_set {C : Ctx} : ∀ {zs : List AV} {i : Nat} {z0 y : AV} {cs d : List Value}, Vs C zs cs → zs[i]? = some z0 → V C y d → d.length = z0.size →
    Vs C (zs.set i y) (cs.take (AV.sizes (zs.take i)) ++ d ++ cs.drop (AV.sizes (zs.take i) + z0.size)) ∧ AV.sizes (zs.take i) + z0.size ≤ cs.length
  | [], i, _, _, _, _, _, h, _, _ => by simp at h
  | z :: zs, 0, z0, y, cs, d, hv, h, hy, hd => by
    simp only [List.getElem?_cons_zero, Option.some.injEq] at h
    subst h
    simp only [Vs] at hv
    obtain ⟨c1, c2, rfl, h1, h2⟩ := hv
    have hl := V_size _ _ h1
    simp only [List.set_cons_zero, List.take_zero, AV.sizes, Nat.zero_add, List.nil_append, Vs]
    refine ⟨⟨d, c2, ?_, hy, h2⟩, by rw [List.length_append]; omega⟩
    rw [← hl, List.drop_left]
  | z :: zs, i + 1, z0, y, cs, d, hv, h, hy, hd => by
    simp only [List.getElem?_cons_succ] at h
    simp only [Vs] at hv
    obtain ⟨c1, c2, rfl, h1, h2⟩ := hv
    have hl := V_size _ _ h1
    obtain ⟨k1, k2⟩ := Vs_set h2 h hy hd
    simp only [List.set_cons_succ, List.take_succ_cons, AV.sizes, Vs]
    refine ⟨⟨c1, _, ?_, h1, k1⟩, by rw [List.length_append]; omega⟩
    rw [← hl, List.take_append, List.drop_append, List.take_of_length_le (l := c1) (by omega), List.drop_of_length_le (l := c1) (by omega)]
    simp [List.append_assoc, Nat.add_assoc]

/-- Parts laid into a struct's children. -/
def buildA : List AV → List (Nat × AV) → Option (List AV)
  | zs, [] => some zs
  | zs, (i, x) :: r => match zs[i]? with
    | some z => if x.solid = true ∧ x.size = z.size then buildA (zs.set i x) r else none
    | none => none

/-- Parts laid into an array's elements. -/
def buildE (sz : Nat) : List AV → List (Nat × AV) → Option (List AV)
  | zs, [] => some zs
  | zs, (i, x) :: r => if i < zs.length ∧ x.solid = true ∧ x.size = sz then buildE sz (zs.set i x) r else none

/-- The parts' values fit. -/
def PartsOk (C : Ctx) : List (Nat × AV) → List (Nat × Value) → Prop
  | [], ys => ys = []
  | (i, a) :: r, ys => ∃ y ys', ys = (i, y) :: ys' ∧ SV C a y ∧ PartsOk C r ys'

theorem fill_struct {C : Ctx} {place : Nat → Option (Nat × Nat)} : ∀ {parts : List (Nat × AV)} {ys : List (Nat × Value)} {zs r : List AV} {cells : Array Value}, PartsOk C parts ys → buildA zs parts = some r → Vs C zs cells.toList →
    (∀ i z, zs[i]? = some z → place i = some (AV.sizes (zs.take i), z.size)) → ∃ cells', Instr.fill place cells ys = some cells' ∧ Vs C r cells'.toList
  | [], ys, zs, r, cells, hp, hb, hv, _ => by
    simp only [PartsOk] at hp
    simp only [buildA, Option.some.injEq] at hb
    subst hp hb
    exact ⟨cells, rfl, hv⟩
  | (i, a) :: parts, ys, zs, r, cells, hp, hb, hv, hpl => by
    simp only [PartsOk] at hp
    obtain ⟨y, ys', rfl, hy, hp'⟩ := hp
    simp only [buildA] at hb
    split at hb
    · rename_i z hz
      split at hb
      · rename_i hc
        have hyc := hy.cells hc.1
        have hl := V_size _ _ hyc
        obtain ⟨k1, k2⟩ := Vs_set hv hz hyc (by rw [hl, hc.2])
        simp only [Array.length_toList] at k2 hl
        rw [fill_one (hpl i z hz) (by rw [hl, hc.2]) k2]
        have hsz : ∀ k, AV.sizes ((zs.set i a).take k) = AV.sizes (zs.take k) := by
          have aux : ∀ (l : List AV) (i k : Nat) (z : AV), l[i]? = some z → a.size = z.size → AV.sizes ((l.set i a).take k) = AV.sizes (l.take k) := by
            intro l
            induction l with
            | nil => intro i k z h; simp at h
            | cons x l ih =>
              intro i k z h he
              cases k with
              | zero => simp
              | succ k =>
                cases i with
                | zero => simp only [List.getElem?_cons_zero, Option.some.injEq] at h; subst h; simp [AV.sizes, he]
                | succ i => simp only [List.getElem?_cons_succ] at h; simp [AV.sizes, ih i k z h he]
          exact fun k => aux zs i k z hz hc.2
        refine fill_struct hp' hb (by simpa using k1) (fun j z' hz' => ?_)
        rw [hsz]
        rw [List.getElem?_set] at hz'
        split at hz'
        · rename_i hij
          subst hij
          split at hz'
          · obtain rfl := Option.some.inj hz'; rw [hc.2]; exact hpl i z hz
          · cases hz'
        · exact hpl j z' hz'
      · cases hb
    · cases hb

theorem fill_elems {C : Ctx} {sz : Nat} {place : Nat → Option (Nat × Nat)} (hpl : ∀ i, place i = some (i * sz, sz)) : ∀ {parts : List (Nat × AV)} {ys : List (Nat × Value)} {zs r : List AV} {cells : Array Value}, PartsOk C parts ys → buildE sz zs parts = some r → Es C sz zs cells.toList →
    ∃ cells', Instr.fill place cells ys = some cells' ∧ Es C sz r cells'.toList
  | [], ys, zs, r, cells, hp, hb, hv => by
    simp only [PartsOk] at hp
    simp only [buildE, Option.some.injEq] at hb
    subst hp hb
    exact ⟨cells, rfl, hv⟩
  | (i, a) :: parts, ys, zs, r, cells, hp, hb, hv => by
    simp only [PartsOk] at hp
    obtain ⟨y, ys', rfl, hy, hp'⟩ := hp
    simp only [buildE] at hb
    split at hb
    · rename_i hc
      have hyc := hy.cells hc.2.1
      have hl := V_size _ _ hyc
      have k1 := Es_set hv hc.1 (by rw [hl, hc.2.2]) hyc
      have hlen := Es_length hv
      have hmul : (i + 1) * sz ≤ zs.length * sz := Nat.mul_le_mul_right _ hc.1
      rw [Nat.succ_mul] at hmul
      simp only [Array.length_toList] at hlen hl
      rw [fill_one (hpl i) (by rw [hl, hc.2.2]) (by omega)]
      exact fill_elems hpl hp' hb (by simpa using k1)
    · cases hb

end
end Go.Proofs.YtngemgmnpcaamaaDoor.WL
