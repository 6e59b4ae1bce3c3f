/-
  LITERALS, make, CONVERSIONS: the operations.
-/
import Derived.Test.YtngemgmnpcaamaaDoorWl8
namespace Go.Proofs.YtngemgmnpcaamaaDoor.WL
open Go

section
variable {P : Program} {w0 : World} {Ws I0 : Nat → Prop} {C : Ctx}

/-- The places of a struct's fields fit these children. -/
def placesOk (P : Program) : Nat → List Field → List AV → Bool
  | _, [], zs => zs.isEmpty
  | off, f :: fs, z :: zs => f.offset == off && tsz P f.type == some z.size && placesOk P (off + z.size) fs zs
  | _, _, [] => false

theorem placesOk_get : ∀ {fs : List Field} {zs : List AV} {off i : Nat} {z : AV}, placesOk P off fs zs = true → zs[i]? = some z → ∃ f, fs[i]? = some f ∧ f.offset = off + AV.sizes (zs.take i) ∧ tsz P f.type = some z.size
  | [], zs, off, i, z, h, hz => by
    simp only [placesOk, List.isEmpty_iff] at h
    subst h
    simp at hz
  | f :: fs, [], off, i, z, h, hz => by simp at hz
  | f :: fs, z0 :: zs, off, 0, z, h, hz => by
    simp only [placesOk, Bool.and_eq_true, beq_iff_eq] at h
    simp only [List.getElem?_cons_zero, Option.some.injEq] at hz
    subst hz
    exact ⟨f, rfl, by simp [AV.sizes, h.1.1], h.1.2⟩
  | f :: fs, z0 :: zs, off, i + 1, z, h, hz => by
    simp only [placesOk, Bool.and_eq_true, beq_iff_eq] at h
    simp only [List.getElem?_cons_succ] at hz
    obtain ⟨f', h1, h2, h3⟩ := placesOk_get h.2 hz
    exact ⟨f', h1, by simp only [List.take_succ_cons, AV.sizes]; omega, h3⟩

theorem placesOk_len : ∀ {fs : List Field} {zs : List AV} {off : Nat}, placesOk P off fs zs = true → fs.length = zs.length
  | [], zs, _, h => by simp only [placesOk, List.isEmpty_iff] at h; simp [h]
  | f :: fs, [], _, h => by simp [placesOk] at h
  | f :: fs, z :: zs, _, h => by simp only [placesOk, Bool.and_eq_true] at h; simp [placesOk_len h.2]

theorem run_places {w : World} : ∀ {fs : List Field} {zs : List AV} {off : Nat}, placesOk P off fs zs = true →
    ∃ ps : List (Nat × Nat), (fs.mapM (m := Sem) fun f => do pure (f.offset, ← sizeOf f.type)).run P w = .ok ps w ∧ ∀ i z, zs[i]? = some z → ps[i]? = some (off + AV.sizes (zs.take i), z.size)
  | [], zs, off, h => by
    simp only [placesOk, List.isEmpty_iff] at h
    subst h
    exact ⟨[], by simp, by simp⟩
  | f :: fs, [], off, h => by simp [placesOk] at h
  | f :: fs, z0 :: zs, off, h => by
    simp only [placesOk, Bool.and_eq_true, beq_iff_eq] at h
    obtain ⟨ps, h1, h2⟩ := run_places (w := w) h.2
    refine ⟨(f.offset, z0.size) :: ps, ?_, ?_⟩
    · simp only [List.mapM_cons, Sem.run_bind, run_tsz h.1.2, Result.andThen_ok, Sem.run_pure]
      rw [h1]
      rfl
    · intro i z hz
      cases i with
      | zero => simp only [List.getElem?_cons_zero, Option.some.injEq] at hz; subst hz; simp [AV.sizes, h.1.1]
      | succ i =>
        simp only [List.getElem?_cons_succ] at hz ⊢
        rw [h2 i z hz]
        simp only [List.take_succ_cons, AV.sizes, Nat.add_assoc]

theorem sim_build {t : TypeId} {fields : Array Field} {zs r : List AV} {cs : List Value} {parts : List (Nat × AV)} {ys : List (Nat × Value)} (hu : P.underlying t = some (.struct fields)) (hz : tzero P t = some cs) (hf : flats zs = some cs)
    (hpl : placesOk P 0 fields.toList zs = true) (hp : PartsOk C parts ys) (hb : buildA zs parts = some r) :
    ∃ y, (Instr.build t ys.toArray).run P C.w = .ok y C.w ∧ SV C (.node r) y := by
  obtain ⟨zv, hr, rfl⟩ := run_tzero (P := P) (w := C.w) hz
  obtain ⟨ps, h1, h2⟩ := run_places (w := C.w) hpl
  obtain ⟨cells', h3, h4⟩ := fill_struct (place := (ps.toArray[·]?)) hp hb (flats_V zs _ hf) (fun i z hz => by simpa using h2 i z hz)
  refine ⟨.agg cells', ?_, ⟨cells', rfl, by simpa only [V] using h4⟩⟩
  have hm : (fields.mapM (m := Sem) fun f => do pure (f.offset, ← sizeOf f.type)).run P C.w = .ok ps.toArray C.w := by
    rw [Array.mapM_eq_mapM_toList]
    simp only [Sem.run_map, h1, Result.andThen_ok]
  simp only [Instr.build, Sem.run_bind, hr, Result.andThen_ok, run_underlying hu, hm, h3, Sem.run_pure]

theorem sim_buildArr {t e : TypeId} {n sz : Nat} {zs r : List AV} {cs : List Value} {parts : List (Nat × AV)} {ys : List (Nat × Value)} (hu : P.underlying t = some (.array n e)) (hs : tsz P e = some sz) (hz : tzero P t = some cs) (hf : flatE sz zs = some cs)
    (hp : PartsOk C parts ys) (hb : buildE sz zs parts = some r) : ∃ y, (Instr.build t ys.toArray).run P C.w = .ok y C.w ∧ SV C (.arr sz r) y := by
  obtain ⟨zv, hr, rfl⟩ := run_tzero (P := P) (w := C.w) hz
  obtain ⟨cells', h3, h4⟩ := fill_elems (place := fun i => some (i * sz, sz)) (fun _ => rfl) hp hb (flatE_V sz zs _ hf)
  refine ⟨.agg cells', ?_, ⟨cells', rfl, by simpa only [V] using h4⟩⟩
  simp [Instr.build, hr, run_underlying hu, run_tsz hs, h3]

/-- n zero elements' cells. -/
theorem madeCells_flat {sz : Nat} {z : AV} {zv : Array Value} (hf : flat z = some zv.toList) (hl : zv.size = sz) (h0 : 0 < sz) : ∀ n, Es C sz (List.replicate n z) (madeCells zv (n * sz)).toList := by
  have hpiece : ∀ n, (madeCells zv ((n + 1) * sz)).toList = (madeCells zv (n * sz)).toList ++ zv.toList := by
    intro n
    apply List.ext_getElem?
    intro j
    simp only [madeCells, Array.toList_map, Array.toList_range, List.getElem?_map, List.getElem?_append, List.length_map, List.length_range]
    rw [Nat.succ_mul]
    by_cases h1 : j < n * sz
    · rw [if_pos h1, List.getElem?_range (by omega), List.getElem?_range h1]
    · rw [if_neg h1]
      by_cases h2 : j < n * sz + sz
      · rw [List.getElem?_range h2]
        have e : j % zv.size = j - n * sz := by
          obtain ⟨m, rfl⟩ : ∃ m, j = n * sz + m := ⟨j - n * sz, by omega⟩
          rw [hl, Nat.mul_add_mod_self_right, Nat.mod_eq_of_lt (by omega)]
          omega
        simp only [Option.map_some, e]
        have hlt : j - n * sz < zv.size := by omega
        simp [hlt]
      · rw [List.getElem?_eq_none (by simp; omega), List.getElem?_eq_none (by simp; omega)]
        rfl
  intro n
  induction n with
  | zero => simp [madeCells, Es]
  | succ n ih =>
    rw [hpiece, List.replicate_succ']
    exact Es_append ih (Es_one (flat_V z _ hf) (by simpa using hl))

theorem sim_bslice (h : WR w0 Ws I0 C) {l g : Nat} {t e : TypeId} {n sz : Nat} {z : AV} {cs : List Value} {r : List AV} {parts : List (Nat × AV)} {ys : List (Nat × Value)} (hnew : ¬ C.used g) (hu : P.underlying t = some (.slice e)) (hs : tsz P e = some sz) (h0 : 0 < sz)
    (hz : tzero P e = some cs) (hf : flat z = some cs) (hl : cs.length = sz) (hn : n * sz ≤ 16777216) (hp : PartsOk C parts ys) (hb : buildE sz (List.replicate n z) parts = some r) (hrl : r.length = n) :
    ∃ y w', (Instr.buildSlice t n ys.toArray).run P C.w = .ok y w' ∧ C.Le (newAt C w' l g (some C.w.heap.size) (.rows g sz r)) ∧ WR w0 Ws I0 (newAt C w' l g (some C.w.heap.size) (.rows g sz r)) ∧
      SV (newAt C w' l g (some C.w.heap.size) (.rows g sz r)) (.row l sz g 0 n) y := by
  obtain ⟨zv, hr, rfl⟩ := run_tzero (P := P) (w := C.w) hz
  have hl' : zv.cells.size = sz := by simpa using hl
  have hz0 := madeCells_flat (C := C) hf hl' h0 n
  obtain ⟨cells', h3, h4⟩ := fill_elems (place := fun i => some (i * sz, sz)) (fun _ => rfl) hp hb hz0
  have hm : n ≤ maxLen := by
    have : n * 1 ≤ n * sz := Nat.mul_le_mul_left _ h0
    unfold maxLen; omega
  obtain ⟨k1, k2, k3⟩ := h.newRows (l := l) (T := e) hnew h4 hrl hm
  refine ⟨_, _, ?_, k1, k2, k3⟩
  have hn' : ¬ (n * sz > 2 ^ 24) := by omega
  by_cases hn0 : n * sz = 0
  · have hn1 : n = 0 := by rcases Nat.mul_eq_zero.1 hn0 with h | h <;> omega
    subst hn1
    have e1 : madeCells zv.cells (0 * sz) = (Array.range 0).map (fun i => (#[] : Array Value)[i % (#[] : Array Value).size]!) := by
      have r0 : Array.range 0 = #[] := rfl
      simp only [madeCells, Nat.zero_mul, r0, List.map_toArray, List.map_nil]
    rw [e1] at h3
    simp only [Instr.buildSlice, Sem.run_bind, run_underlying hu, Result.andThen_ok, run_tsz hs, Nat.zero_mul, Nat.not_lt_zero, gt_iff_lt, if_false, if_true, Sem.run_pure, h3, newRow, run_newObj, World.alloc_eq]
  · have e1 : madeCells zv.cells (n * sz) = (Array.range (n * sz)).map (fun i => zv.cells[i % zv.cells.size]!) := rfl
    rw [e1] at h3
    simp only [Instr.buildSlice, Sem.run_bind, run_underlying hu, Result.andThen_ok, run_tsz hs, if_neg hn', if_neg hn0, hr, Sem.run_pure, h3, newRow, run_newObj, World.alloc_eq]

theorem sim_make (h : WR w0 Ws I0 C) {l g : Nat} {t e : TypeId} {sz bytes : Nat} {n : Nat} {z : AV} {cs : List Value} {k1 k2 : IntKind} (hnew : ¬ C.used g) (hu : P.underlying t = some (.slice e)) (hs : tsz P e = some sz) (h0 : 0 < sz)
    (hz : tzero P e = some cs) (hf : flat z = some cs) (hl : cs.length = sz) (hby : (P.info? e).map (·.bytes) = some bytes) (hb : bytes * n ≤ 281474976710656) (hm : n ≤ maxLen) :
    ∃ y w', (Instr.makeSlice t (.int k1 n) (.int k2 n)).run P C.w = .ok y w' ∧ C.Le (newAt C w' l g (some C.w.heap.size) (.rows g sz (List.replicate n z))) ∧ WR w0 Ws I0 (newAt C w' l g (some C.w.heap.size) (.rows g sz (List.replicate n z))) ∧
      SV (newAt C w' l g (some C.w.heap.size) (.rows g sz (List.replicate n z))) (.row l sz g 0 n) y := by
  unfold tzero at hz
  simp only [Option.bind_eq_some_iff, Option.map_eq_some_iff] at hz
  obtain ⟨i, hi, zv, hzv, rfl⟩ := hz
  have hl' : zv.cells.size = sz := by simpa using hl
  have hz0 := madeCells_flat (C := C) hf hl' h0 n
  have hisz : i.size = sz := by simpa [tsz, hi] using hs
  have hiby : i.bytes = bytes := by simpa [hi] using hby
  have hr := run_make (P := P) C.w t e i zv hu hi hzv k1 k2 (n : Int) n (by omega) (by omega) (by rw [hiby]; have h2 := Int.ofNat_le.mpr hb; rw [Int.natCast_mul] at h2; exact h2) (by unfold maxLen at hm; omega)
  simp only [Int.toNat_natCast, hisz] at hr
  obtain ⟨a1, a2, a3⟩ := h.newRows (l := l) (T := e) hnew hz0 (by simp : (List.replicate n z).length = n) hm
  exact ⟨_, _, hr, a1, a2, a3⟩

end
end Go.Proofs.YtngemgmnpcaamaaDoor.WL
