/-
  CHAPTER 01: the laws' arguments, parts.
-/
import Derived.Test.YtngemgmnpcaamaaS01j
namespace Go.Proofs.Ytngemgmnpcaamaa.WL
open Go

theorem typed_int {n : Nat} {av : AV} (h : Typed Try.prog n 3 av) : ∃ b : Int, av = .v (.int .i64 b) := by
  cases n with
  | zero => exact h.elim
  | succ n =>
    simp only [Typed, Try.underlying3] at h
    obtain ⟨i, rfl, _⟩ := h
    exact ⟨i, rfl⟩

theorem typed_str {n : Nat} {av : AV} (h : Typed Try.prog n 9 av) : ∃ s : ByteArray, av = .v (.string s) ∧ s.size ≤ maxLen := by
  cases n with
  | zero => exact h.elim
  | succ n =>
    simp only [Typed, Try.underlying9] at h
    obtain ⟨i, rfl, hi⟩ := h
    exact ⟨i, rfl, hi⟩

theorem typed_dg {n : Nat} {av : AV} (h : Typed Try.prog n 34 av) : ∃ bs : List Int, av = .arr 1 (B bs) ∧ bs.length = 32 := by
  cases n with
  | zero => exact h.elim
  | succ n =>
    simp only [Typed, Try.underlying34] at h
    obtain ⟨xs, rfl, hl, hx⟩ := h
    obtain ⟨bs, rfl⟩ := map_of_all (f := fun b : Int => AV.v (.int .u8 b)) (xs := xs) fun x hxx => typed_u8 (hx x hxx)
    have e : Try.prog.cellsOf 5 = 1 := by kernel_rfl
    rw [e]
    exact ⟨bs, rfl, by simpa using hl⟩

theorem typed_part {n : Nat} {av : AV} (h : Typed Try.prog n 48 av) : ∃ p : Part, av = p.av ∧ p.dg.length = 32 ∧ p.text.size ≤ maxLen := by
  cases n with
  | zero => exact h.elim
  | succ n =>
    simp only [Typed, Try.underlying48] at h
    obtain ⟨zs, rfl, hz⟩ := h
    match zs, hz with
    | [a, b, c, d, e, f], ⟨h1, h2, h3, h4, h5, h6, _⟩ =>
      obtain ⟨a, rfl⟩ := typed_int h1
      obtain ⟨b, rfl⟩ := typed_int h2
      obtain ⟨c, rfl, hc⟩ := typed_str h3
      obtain ⟨d, rfl, hd⟩ := typed_dg h4
      obtain ⟨e, rfl⟩ := typed_int h5
      obtain ⟨f, rfl⟩ := typed_int h6
      exact ⟨⟨a, b, c, d, e, f⟩, rfl, hd, hc⟩

theorem typed_parts {n : Nat} {av : AV} (h : Typed Try.prog n 23 av) : ∃ ps : List Part, av = .sl 37 (Pv ps) ∧ ps.length ≤ maxLen ∧ ∀ p ∈ ps, p.dg.length = 32 ∧ p.text.size ≤ maxLen := by
  cases n with
  | zero => exact h.elim
  | succ n =>
    simp only [Typed, Try.underlying23] at h
    obtain ⟨xs, rfl, hl, hx⟩ := h
    obtain ⟨ps, rfl⟩ := map_of_all (f := fun p : {p : Part // p.dg.length = 32 ∧ p.text.size ≤ maxLen} => p.1.av) (xs := xs) fun x hxx => by
      obtain ⟨p, e, h1, h2⟩ := typed_part (hx x hxx)
      exact ⟨⟨p, h1, h2⟩, e⟩
    have e : Try.prog.cellsOf 48 = 37 := by kernel_rfl
    rw [e]
    refine ⟨ps.map (·.1), by simp [Pv], by simpa using hl, fun p hp => ?_⟩
    obtain ⟨q, _, rfl⟩ := List.mem_map.1 hp
    exact q.2

end Go.Proofs.Ytngemgmnpcaamaa.WL
