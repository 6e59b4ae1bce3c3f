/-
  SLICES OF SLICES, OF ARRAYS, OF STRINGS.
-/
import Derived.Test.YtngemgmnpcaamaaDoorWl5
namespace Go.Proofs.YtngemgmnpcaamaaDoor.WL
open Go

section
variable {P : Program} {w0 : World} {Ws I0 : Nat → Prop} {C : Ctx}

/-- The bounds of a slice expression: from, to; 'most' is what the upper one may be at most. -/
def bnd (len most : Nat) (lo hi : Option Int) : Option (Nat × Nat) :=
  let h := hi.getD (len : Int)
  let l := lo.getD 0
  if 0 ≤ l ∧ l ≤ h ∧ h ≤ (most : Int) then some (l.toNat, h.toNat) else none

theorem run_sliceBounds {w : World} {isSl : Bool} {len cap most l h : Nat} {lo hi : Option Int} {k1 k2 : IntKind} (hm : most ≤ cap) (hl : hi = none → len ≤ cap) (e : bnd len most lo hi = some (l, h)) :
    (Instr.sliceBounds isSl len cap (lo.map (Value.int k1)) (hi.map (Value.int k2)) none).run P w = .ok (l, h, cap) w ∧ l ≤ h ∧ h ≤ most := by
  unfold bnd at e
  simp only at e
  split at e
  · rename_i hc
    obtain ⟨h1, h2, h3⟩ := hc
    simp only [Option.some.injEq, Prod.mk.injEq] at e
    obtain ⟨rfl, rfl⟩ := e
    refine ⟨?_, by omega, by omega⟩
    cases lo with
    | none =>
      cases hi with
      | none => simp [Instr.sliceBounds]
      | some h' =>
        simp only [Option.getD_some, Option.getD_none] at h2 h3 ⊢
        have hin : 0 ≤ h' ∧ h' ≤ (cap : Int) := ⟨h2, by omega⟩
        simp [Instr.sliceBounds, Instr.sliceBound, asIntOf, hin]
    | some l' =>
      cases hi with
      | none =>
        simp only [Option.getD_some, Option.getD_none] at h1 h2 h3 ⊢
        have hin : 0 ≤ l' ∧ l' ≤ (len : Int) := ⟨h1, h2⟩
        simp [Instr.sliceBounds, Instr.sliceBound, asIntOf, hin]
      | some h' =>
        simp only [Option.getD_some] at h1 h2 h3 ⊢
        have hin : 0 ≤ h' ∧ h' ≤ (cap : Int) := ⟨by omega, by omega⟩
        have hin2 : 0 ≤ l' ∧ l' ≤ h' := ⟨h1, h2⟩
        have e2 : (l' ≤ max h' 0) = True := by simp; omega
        simp [Instr.sliceBounds, Instr.sliceBound, asIntOf, hin, h1, e2]
  · cases e

/-- A slice of a slice (not of a string). -/
def sliceA (sz : Nat) (a : AV) (lo hi : Option Int) : Option AV :=
  match a with
  | .sl s xs => if s = sz then (bnd xs.length xs.length lo hi).map fun q => .sl s ((xs.take q.2).drop q.1) else none
  | .row l s g off n => if s = sz then (bnd n n lo hi).map fun q => .row l s g (off + q.1) (q.2 - q.1) else none
  | .vrow l g off s n cap => if s = sz then (bnd n n lo hi).map fun q => .vrow l g (off + q.1 * sz) s (q.2 - q.1) (cap - q.1) else none
  | .v (.slice none 0 0) => (bnd 0 0 lo hi).map fun _ => .v (.slice none 0 0)
  | _ => none

theorem sim_slice {a r : AV} {x : Value} {t e : TypeId} {sz : Nat} {lo hi : Option Int} {k1 k2 : IntKind} (hp : SV C a x) (hu : P.underlying t = some (.slice e)) (hs : tsz P e = some sz)
    (h : sliceA sz a lo hi = some r) : ∃ y, (Instr.sliceAt t x (lo.map (Value.int k1)) (hi.map (Value.int k2)) none).run P C.w = .ok y C.w ∧ SV C r y := by
  have run : ∀ (ao : Option Addr) (len cap l h : Nat), len ≤ cap → bnd len len lo hi = some (l, h) →
      (Instr.sliceAt t (.slice ao len cap) (lo.map (Value.int k1)) (hi.map (Value.int k2)) none).run P C.w = .ok (.slice (if cap = l then ao else ao.map (·.add (l * sz))) (h - l) (cap - l)) C.w ∧ l ≤ h ∧ h ≤ len := by
    intro ao len cap l h h1 h2
    obtain ⟨r1, r2, r3⟩ := run_sliceBounds (P := P) (w := C.w) (isSl := true) (k1 := k1) (k2 := k2) h1 (fun _ => h1) h2
    refine ⟨?_, r2, r3⟩
    simp [Instr.sliceAt, Instr.slice, run_underlying hu, r1, run_tsz hs]
  unfold sliceA at h
  split at h
  · rename_i s xs
    split at h
    · rename_i hs'
      subst hs'
      simp only [Option.map_eq_some_iff] at h
      obtain ⟨⟨l, h'⟩, hb, rfl⟩ := h
      have hp' : V C (.sl s xs) [x] := hp
      simp only [V] at hp'
      obtain ⟨ao, cap, body, e1, h2, h3, h4, h5⟩ := hp'
      obtain rfl := (List.cons.inj e1).1
      obtain ⟨r1, r2, r3⟩ := run ao xs.length cap l h' h2 hb
      refine ⟨_, r1, ?_⟩
      show V C (.sl s ((xs.take h').drop l)) [_]
      simp only [V]
      have hlen : ((xs.take h').drop l).length = h' - l := by rw [List.length_drop, List.length_take]; omega
      refine ⟨_, cap - l, (body.take (h' * s)).drop (l * s), by rw [hlen], by omega, by omega, Es_drop (Es_take h4), ?_⟩
      rcases h5 with rfl | ⟨b, o, rfl, hi', hc⟩
      · simp
      · by_cases hlt : l < h'
        · refine .inr ⟨b, o + l * s, ?_, hi', ?_⟩
          · rw [if_neg (by omega)]; simp [add_at]
          · have := hc.part (l * s) (h' * s - l * s)
            rwa [List.drop_take]
        · left
          apply List.eq_nil_of_length_eq_zero
          omega
    · cases h
  · rename_i l s g off n
    split at h
    · rename_i hs'
      subst hs'
      simp only [Option.map_eq_some_iff] at h
      obtain ⟨⟨lo', h'⟩, hb, rfl⟩ := h
      have hp' : V C (.row l s g off n) [x] := hp
      simp only [V] at hp'
      obtain ⟨ao, cap0, e1, hn, hmx, hso, hg, k'⟩ := hp'
      obtain rfl := (List.cons.inj e1).1
      obtain ⟨r1, r2, r3⟩ := run ao n cap0 lo' h' hn hb
      refine ⟨_, r1, ?_⟩
      show V C (.row l s g (off + lo') (h' - lo')) [_]
      simp only [V]
      refine ⟨_, _, rfl, by omega, by omega, fun hpos => ?_, hg, fun xs hm => ?_⟩
      · rw [if_neg (by omega)]
        simpa using hso (by omega)
      have hrv := k' _ hm
      unfold RowVal at hrv
      split at hrv
      · rename_i hblk
        obtain ⟨rfl, rfl, a, e5⟩ := hrv
        simp only [Value.slice.injEq] at e5
        obtain ⟨rfl, _, rfl⟩ := e5
        unfold RowVal
        rw [hblk]
        obtain rfl : h' = 0 := by omega
        obtain rfl : lo' = 0 := by omega
        exact ⟨rfl, rfl, _, by simp; rfl⟩
      · rename_i b hblk
        obtain ⟨cur, T, cap, a, h1, h2, h3, h4, e5, h6⟩ := hrv
        simp only [Value.slice.injEq] at e5
        obtain ⟨rfl, _, rfl⟩ := e5
        unfold RowVal
        rw [hblk]
        refine ⟨cur, T, cap, if cap - off = lo' then a else a.add (lo' * s), h1, h2, h3, by omega, ?_, ?_⟩
        · rw [show cap - off - lo' = cap - (off + lo') by omega]
          split <;> simp
        · intro hor
          rcases hor with hlt | h0
          · rw [if_neg (by omega), h6 (.inl (by omega)), add_at, Nat.add_mul]
          · obtain rfl : lo' = 0 := by omega
            obtain rfl : off = 0 := by omega
            rw [h6 (.inr rfl)]
            split <;> simp [add_at]
    · cases h
  · rename_i l g off s n cap
    split at h
    · rename_i hs'
      subst hs'
      simp only [Option.map_eq_some_iff] at h
      obtain ⟨⟨lo', h'⟩, hb, rfl⟩ := h
      have hp' : V C (.vrow l g off s n cap) [x] := hp
      simp only [V] at hp'
      obtain ⟨a, e1, hn, hmx, hg, k'⟩ := hp'
      obtain rfl := (List.cons.inj e1).1
      obtain ⟨r1, r2, r3⟩ := run (some a) n cap lo' h' hn hb
      refine ⟨_, r1, ?_⟩
      show V C (.vrow l g (off + lo' * s) s (h' - lo') (cap - lo')) [_]
      simp only [V]
      refine ⟨if cap = lo' then a else a.add (lo' * s), by split <;> simp, by omega, by omega, hg, fun y' hm' => ?_⟩
      obtain ⟨b, hblk, ha⟩ := k' _ hm'
      refine ⟨b, hblk, fun hpos => ?_⟩
      rw [if_neg (by omega), ha (by omega), add_at]
    · cases h
  · simp only [Option.map_eq_some_iff] at h
    obtain ⟨⟨lo', h'⟩, hb, rfl⟩ := h
    have hp' : V C (.v (.slice none 0 0)) [x] := hp
    simp only [V] at hp'
    obtain rfl := (List.cons.inj hp'.1).1
    obtain ⟨r1, r2, r3⟩ := run none 0 0 lo' h' (Nat.le_refl _) hb
    obtain rfl : h' = 0 := by omega
    obtain rfl : lo' = 0 := by omega
    refine ⟨_, r1, ?_⟩
    show V C (.v (.slice none 0 0)) [_]
    simp [V, Value.oneCell']
  · cases h

/-- A slice of an array behind a pointer. -/
def sliceArr (N sz : Nat) (p : AV) (lo hi : Option Int) : Option AV :=
  match p with
  | .ptr l g off => if N ≤ maxLen then (bnd N N lo hi).map fun q => .vrow l g (off + q.1 * sz) sz (q.2 - q.1) (N - q.1) else none
  | .iptr (.arr s xs) => if s = sz ∧ xs.length = N ∧ N ≤ maxLen then (bnd N N lo hi).map fun q => .sl s ((xs.take q.2).drop q.1) else none
  | _ => none

theorem sim_sliceArr {p r : AV} {x : Value} {t e : TypeId} {N sz : Nat} {lo hi : Option Int} {k1 k2 : IntKind} (hp : SV C p x) (hu : P.underlying t = some (.array N e)) (hs : tsz P e = some sz)
    (h : sliceArr N sz p lo hi = some r) : ∃ y, (Instr.sliceAt t x (lo.map (Value.int k1)) (hi.map (Value.int k2)) none).run P C.w = .ok y C.w ∧ SV C r y := by
  have run : ∀ (a : Addr) (l h : Nat), bnd N N lo hi = some (l, h) →
      (Instr.sliceAt t (.pointer (some a)) (lo.map (Value.int k1)) (hi.map (Value.int k2)) none).run P C.w = .ok (.slice (some (if N = l then a else a.add (l * sz))) (h - l) (N - l)) C.w ∧ l ≤ h ∧ h ≤ N := by
    intro a l h h2
    obtain ⟨r1, r2, r3⟩ := run_sliceBounds (P := P) (w := C.w) (isSl := false) (k1 := k1) (k2 := k2) (Nat.le_refl N) (fun _ => Nat.le_refl N) h2
    refine ⟨?_, r2, r3⟩
    simp [Instr.sliceAt, Instr.sureAddr, run_underlying hu, r1, run_tsz hs]
  unfold sliceArr at h
  split at h
  · rename_i l g off
    split at h
    · rename_i hmx
      simp only [Option.map_eq_some_iff] at h
      obtain ⟨⟨l', h'⟩, hb, rfl⟩ := h
      have hp' : V C (.ptr l g off) [x] := hp
      simp only [V] at hp'
      obtain ⟨a, e, hg, k⟩ := hp'
      obtain rfl := (List.cons.inj e).1
      obtain ⟨r1, r2, r3⟩ := run a l' h' hb
      refine ⟨_, r1, ?_⟩
      show V C (.vrow l g (off + l' * sz) sz (h' - l') (N - l')) [_]
      simp only [V]
      refine ⟨_, rfl, by omega, by omega, hg, fun y hm => ?_⟩
      obtain ⟨b', e1, rfl⟩ := k _ hm
      refine ⟨b', e1, fun hpos => ?_⟩
      rw [if_neg (by omega), add_at]
    · cases h
  · rename_i s xs
    split at h
    · rename_i hc
      obtain ⟨rfl, rfl, hmx⟩ := hc
      simp only [Option.map_eq_some_iff] at h
      obtain ⟨⟨l', h'⟩, hb, rfl⟩ := h
      have hp' : V C (.iptr (.arr s xs)) [x] := hp
      simp only [V] at hp'
      obtain ⟨b, o, body, e, hi', h2, h3⟩ := hp'
      obtain rfl := (List.cons.inj e).1
      obtain ⟨r1, r2, r3⟩ := run ⟨b, o, none⟩ l' h' hb
      refine ⟨_, r1, ?_⟩
      show V C (.sl s ((xs.take h').drop l')) [_]
      simp only [V]
      have hlen : ((xs.take h').drop l').length = h' - l' := by rw [List.length_drop, List.length_take]; omega
      refine ⟨_, xs.length - l', (body.take (h' * s)).drop (l' * s), by rw [hlen], by omega, by omega, Es_drop (Es_take h2), ?_⟩
      by_cases hlt : l' < h'
      · refine .inr ⟨b, o + l' * s, ?_, hi', ?_⟩
        · rw [if_neg (by omega), add_at]
        · have := h3.part (l' * s) (h' * s - l' * s)
          rwa [List.drop_take]
      · left
        apply List.eq_nil_of_length_eq_zero
        omega
    · cases h
  · cases h

/-- A slice of a string. -/
theorem sim_sliceStr {s : ByteArray} {x : Value} {t : TypeId} {lo hi : Option Int} {k1 k2 : IntKind} {q : Nat × Nat} (hp : SV C (.v (.string s)) x) (hu : P.underlying t = some .string) (h : bnd s.size s.size lo hi = some q) :
    ∃ y, (Instr.sliceAt t x (lo.map (Value.int k1)) (hi.map (Value.int k2)) none).run P C.w = .ok y C.w ∧ SV C (.v (.string (s.extract q.1 q.2))) y := by
  have hp' : V C (.v (.string s)) [x] := hp
  simp only [V] at hp'
  obtain rfl := (List.cons.inj hp'.1).1
  obtain ⟨r1, r2, r3⟩ := run_sliceBounds (P := P) (w := C.w) (isSl := false) (k1 := k1) (k2 := k2) (Nat.le_refl s.size) (fun _ => Nat.le_refl _) h
  refine ⟨.string (s.extract q.1 q.2), ?_, ?_⟩
  · simp [Instr.sliceAt, Instr.slice, run_underlying hu, r1]
  · show V C (.v (.string (s.extract q.1 q.2))) [_]
    simp [V, Value.oneCell']

end
end Go.Proofs.YtngemgmnpcaamaaDoor.WL
