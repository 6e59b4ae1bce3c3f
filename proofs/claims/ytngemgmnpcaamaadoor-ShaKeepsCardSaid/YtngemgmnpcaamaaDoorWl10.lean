/-
  append, copy, clear; bytes and strings.
-/
import Derived.Test.YtngemgmnpcaamaaDoorWl9
namespace Go.Proofs.YtngemgmnpcaamaaDoor.WL
open Go

section
variable {P : Program} {w0 : World} {Ws I0 : Nat → Prop} {C : Ctx}

/-! The elements that a slice shows -/
/-- Elements of an array within a value, from a cell on. -/
def elemsAt (sz : Nat) : AV → Nat → Option (List AV)
  | .arr s xs, off => if s = sz ∧ 0 < sz ∧ off % sz = 0 ∧ off / sz ≤ xs.length then some (xs.drop (off / sz)) else none
  | _, _ => none

/-- The location that a reference leads to. -/
def refOf : AV → Option Nat
  | .ptr l _ _ => some l
  | .row l _ _ _ _ => some l
  | .vrow l _ _ _ _ _ => some l
  | .rptr l _ _ _ _ => some l
  | _ => none

def srcA (m : Nat → Option Loc) (sz : Nat) (a : AV) : Option (List AV) :=
  match a with
  | .sl s xs => if s = sz then some xs else none
  | .row l s0 g off n => match m l with
    | some (.rows g' s xs) => if g' = g ∧ s = s0 ∧ s = sz ∧ off + n ≤ xs.length then some ((xs.drop off).take n) else none
    | _ => none
  | .vrow l g off s n _ => match m l with
    | some (.var g' y) => if g' = g ∧ s = sz then (elemsAt sz y off).bind fun xs => if n ≤ xs.length then some (xs.take n) else none else none
    | _ => none
  | .v (.slice none 0 0) => some []
  | _ => none

theorem elemsAt_ok {sz : Nat} {y : AV} {off : Nat} {xs : List AV} {cs : List Value} (h : elemsAt sz y off = some xs) (hv : V C y cs) : Es C sz xs (cs.drop off) := by
  unfold elemsAt at h
  split at h
  · rename_i s zs
    split at h
    · rename_i hc
      obtain ⟨rfl, h0, h1, h2⟩ := hc
      obtain rfl := Option.some.inj h
      simp only [V] at hv
      have := Es_drop (n := off / s) hv
      have e : off / s * s = off := by have := Nat.div_add_mod off s; rw [h1] at this; rw [Nat.mul_comm]; omega
      rwa [e] at this
    · cases h
  · cases h

/-- What a source of elements is in memory. -/
theorem src_ok (hw : WR w0 Ws I0 C) {sz : Nat} {a : AV} {x : Value} {xs : List AV} (hp : SV C a x) (h : srcA C.m sz a = some xs) :
    ∃ ao cap news, x = .slice ao xs.length cap ∧ xs.length ≤ cap ∧ cap ≤ maxLen ∧ Es C sz xs news ∧ (xs = [] ∨ ∃ b o, ao = some ⟨b, o, none⟩ ∧ CellsAt C.w b o news ∧ (C.I b ∨ ∃ l c, refOf a = some l ∧ C.m l = some c ∧ C.blk l = some b)) := by
  unfold srcA at h
  split at h
  · rename_i s zs
    split at h
    · rename_i hs
      subst hs
      obtain rfl := Option.some.inj h
      have hp' : V C (.sl s zs) [x] := hp
      simp only [V] at hp'
      obtain ⟨ao, cap, body, e1, h2, h3, h4, h5⟩ := hp'
      obtain rfl := (List.cons.inj e1).1
      refine ⟨ao, cap, body, rfl, h2, h3, h4, h5.imp id ?_⟩
      rintro ⟨b, o, e, hi, hc⟩
      exact ⟨b, o, e, hc, .inl hi⟩
    · cases h
  · rename_i l s0 g off n
    split at h
    · rename_i g' s zs hm
      split at h
      · rename_i hc
        obtain ⟨rfl, rfl, rfl, hfit⟩ := hc
        obtain rfl := Option.some.inj h
        have hp' : V C (.row l s g' off n) [x] := hp
        simp only [V] at hp'
        obtain ⟨ao, cap0, e1, hnc0, hmx0, hso, hg, k'⟩ := hp'
        obtain rfl := (List.cons.inj e1).1
        have hrv := k' _ hm
        have hlen : ((zs.drop off).take n).length = n := by rw [List.length_take, List.length_drop]; omega
        unfold RowVal at hrv
        split at hrv
        · obtain ⟨rfl, rfl, ao, e5⟩ := hrv
          obtain ⟨rfl, _, rfl⟩ := (by simpa using e5)
          exact ⟨_, 0, [], by simp; rfl, by simp, by simp [maxLen], by simp [Es], .inl (by simp)⟩
        · rename_i b hb
          obtain ⟨cur, T, cap, ad, h1, h2, h3, h4, e5, h6⟩ := hrv
          rw [e5]
          rcases hw.locs l _ hm with ⟨h7, _⟩ | ⟨b', cur', T', cap', h7, h8, h9, h10, h11, h12⟩
          · rw [hb] at h7; cases h7
          · rw [hb] at h7
            obtain rfl := Option.some.inj h7
            rw [h1] at h8
            obtain ⟨rfl, rfl⟩ := (by simpa using h8 : cur = cur' ∧ T = T')
            refine ⟨some ad, cap - off, _, by rw [hlen], by omega, by omega, Es_take (Es_drop h12), ?_⟩
            by_cases hn : n = 0
            · left; subst hn; simp
            · right
              refine ⟨b, off * s, by rw [h6 (.inl (by omega))], ?_, .inr ⟨l, _, rfl, hm, hb⟩⟩
              have hc := ((cellsAt_block (o := 0) (n := zs.length * s) h1).part (off * s) (zs.length * s - off * s)).part 0 (n * s)
              rw [List.drop_zero] at hc
              simp only [Nat.zero_add, Nat.add_zero, List.drop_zero] at hc
              rwa [← List.drop_take, List.take_take, Nat.min_self] at hc
      · cases h
    · cases h
  · rename_i l g off s n cap
    split at h
    · rename_i g' y hm
      split at h
      · rename_i hc
        obtain ⟨rfl, rfl⟩ := hc
        simp only [Option.bind_eq_some_iff] at h
        obtain ⟨zs, hz, h⟩ := h
        split at h
        · rename_i hn
          obtain rfl := Option.some.inj h
          have hp' : V C (.vrow l g' off s n cap) [x] := hp
          simp only [V] at hp'
          obtain ⟨ad, e1, hnc, hmx, hg, k'⟩ := hp'
          obtain rfl := (List.cons.inj e1).1
          obtain ⟨b, hb, ha⟩ := k' _ hm
          obtain ⟨b', cur, T, h1, h2, h3⟩ := hw.locs l _ hm
          rw [hb] at h1
          obtain rfl := Option.some.inj h1
          have hlen : (zs.take n).length = n := by rw [List.length_take]; omega
          have hE := elemsAt_ok hz h3
          refine ⟨some ad, cap, _, by rw [hlen], by omega, hmx, Es_take hE, ?_⟩
          by_cases hn0 : n = 0
          · left; subst hn0; simp
          · right
            refine ⟨b, off, by rw [ha (by omega)], cellsAt_block h2, .inr ⟨l, _, rfl, hm, hb⟩⟩
        · cases h
      · cases h
    · cases h
  · obtain rfl := Option.some.inj h
    have hp' : V C (.v (.slice none 0 0)) [x] := hp
    simp only [V] at hp'
    obtain rfl := (List.cons.inj hp'.1).1
    exact ⟨none, 0, [], rfl, by simp, by simp [maxLen], by simp [Es], .inl rfl⟩
  · cases h

end
end Go.Proofs.YtngemgmnpcaamaaDoor.WL
