/-
  CHAPTER 02: walks of laws: ends, is.
-/
import Derived.Test.YtngemgmnpcaamaaDoorL02a
namespace Go.Proofs.YtngemgmnpcaamaaDoor.WL
open Go
set_option maxHeartbeats 4000000
attribute [local irreducible] comp hb sha

theorem ends_walk (n : Int) (x : UInt8) : Meets Tryd.prog Gt fn_l02_ShaEnds [.v (.int .i64 n), bv x] [] true (.v (.bool true)) [] := by
  refine meets_of_go mix k_l02_ShaEnds ⟨by simp, by simp, by simp⟩ ?_
  simp
  refine call_intro alive2_meets ?_ ?_
  · simp
  by_cases c1 : n < 0
  · simp [c1]
    refine post_end (.inr rfl) ?_
    simp
  by_cases c2 : 600 < n
  · simp [c1, c2]
    refine post_end (.inr rfl) ?_
    simp
  obtain ⟨m, rfl⟩ : ∃ m : Nat, n = m := ⟨n.toNat, by omega⟩
  have hm : m ≤ 600 := by omega
  have b1 : m ≤ 281474976710656 ∧ m ≤ maxLen := by unfold maxLen; omega
  have e : ∀ z : Bytes, cat [z] = z := fun z => by simp [cat]
  simp [c1, c2, b1]
  refine go_up m (fun j (z : Bytes) => z.length = m) (fun j z c => ⟨[(1, bv x), (5, .row 5 1 c 0 m), (18, .v (.int .i64 (m : Nat))), (19, .v (.int .i64 (j : Nat)))], [(5, .rows c 1 (B z))], c + 1⟩) (zeros m) _ (Weak.re (by simp)) (by simp) ?_ ?_
  · intro j z c hj hz
    have hw : IntKind.i64.wrap ((j : Int) + 1) = ((j + 1 : Nat) : Int) := w64_succ (by omega)
    have hjm : (j : Int) < m := by omega
    simp [hj, hjm, hz, B_set, hw]
    exact ⟨z.set j x, _, Weak.re (by simp), by simpa using hz⟩
  · intro z c hz
    have h1 := of_meets [z] (by simp) (by rw [e]; omega)
    have h2 := rof_meets (G := Gt) z (by omega)
    rw [e] at h1
    generalize sha z = d at *
    have tz : List.take m z = z := List.take_of_length_le (by omega)
    simp
    refine call_intro h1 ?_ ?_
    · simp [Bss, hz, tz]
    simp
    refine call_intro h2 ?_ ?_
    · simp [hz, tz]
    simp [dv]
    refine post_end (.inr rfl) ?_
    simp

theorem ty_bytess {a : AV} (h : TyOk (.sl 1 24 Ty.bytes) a) : ∃ ps : List Bytes, a = .sl 1 (Bss ps) ∧ ps.length ≤ reachBytes ∧ ∀ p ∈ ps, p.length ≤ reachBytes := by
  obtain ⟨xs, rfl, ⟨_, h1⟩, h2⟩ := h
  obtain ⟨ns, rfl, h3⟩ := map_of_all (f := fun p : Bytes => AV.sl 1 (B p)) (p := fun p => p.length ≤ reachBytes) fun x hx => ty_bytes (h2 x hx)
  exact ⟨ns, rfl, by simp at h1; omega, h3⟩
theorem is_walk (ps : List Bytes) (hn : ps.length ≤ reachBytes) (hl : ∀ p ∈ ps, p.length ≤ reachBytes) : Meets Tryd.prog Gt fn_l02_ShaIs [.sl 1 (Bss ps)] [] true (.v (.bool true)) [] := by
  refine meets_of_go mix k_l02_ShaIs ⟨by simp, by simp, by simp⟩ ?_
  unfold reachBytes at hn
  simp
  refine call_intro alive2_meets ?_ ?_
  · simp
  simp
  have e : ∀ z : Bytes, cat [z] = z := fun z => by simp [cat]
  refine go_up ps.length (fun j (z : Bytes) => z = cat (ps.take j) ∧ z.length ≤ 8192 ∧ (0 < j → ps.length ≤ 200)) (fun j z c => ⟨[(0, .sl 1 (Bss ps)), (3, .row 3 1 c 0 z.length), (8, .sl 1 (Bss ps)), (9, .v (.int .i64 (ps.length : Nat))), (10, .v (.int .i64 (j : Nat)))], [(3, .rows c 1 (B z))], c + 1⟩) [] _ (Weak.re (by simp)) (by simp) ?_ ?_
  · intro j z c hj ⟨hz, hz8, hj2⟩
    have hw : IntKind.i64.wrap ((j : Int) + 1) = ((j + 1 : Nat) : Int) := w64_succ (by omega)
    have hs := cat_snoc ps j hj
    have hle := hl ps[j] (List.getElem_mem hj)
    unfold reachBytes at hle
    obtain ⟨p, hp⟩ : ∃ p, ps[j] = p := ⟨_, rfl⟩
    rw [hp] at hs hle
    obtain ⟨q, hq⟩ : ∃ q : Nat, q = z.length + p.length := ⟨_, rfl⟩
    have hwq : IntKind.i64.wrap ((z.length : Nat) + (p.length : Nat)) = (q : Int) := by rw [w64_id (by omega)]; omega
    by_cases c1 : (8192 : Int) < (q : Int)
    · simp [hj, hp, hwq, c1]
      refine post_end (.inr rfl) ?_
      simp
    by_cases c2 : (200 : Int) < (ps.length : Nat)
    · simp [hj, hp, hwq, c1, c2]
      refine post_end (.inr rfl) ?_
      simp
    have hf : fitsB (z.length + p.length) 1 := fits (by omega) (by omega)
    simp [hj, hp, hwq, c1, c2, hf, hw]
    exact ⟨z ++ p, _, Weak.re (by simp), by rw [hs, hz], by rw [List.length_append]; omega, fun _ => by omega⟩
  · intro z c ⟨hz, hz8, hj2⟩
    rw [List.take_length] at hz
    have hn2 : ps.length ≤ 1000000 := by
      rcases Nat.eq_zero_or_pos ps.length with h | h
      · omega
      · have := hj2 h; omega
    have h1 := of_meets ps hn2 (by rw [← hz]; omega)
    have h2 := rof_meets (G := Gt) z (by omega)
    have h3 := of_meets [z] (by simp) (by rw [e]; omega)
    rw [e] at h3
    rw [← hz] at h1
    generalize sha z = d at *
    have tz : List.take z.length z = z := List.take_of_length_le (by omega)
    simp
    refine call_intro h1 ?_ ?_
    · simp
    simp
    refine call_intro h2 ?_ ?_
    · simp [tz]
    simp [dv]
    refine call_intro h3 ?_ ?_
    · simp [Bss, tz]
    simp
    refine call_intro h1 ?_ ?_
    · simp
    simp [dv]
    refine post_end (.inr rfl) ?_
    simp
end Go.Proofs.YtngemgmnpcaamaaDoor.WL
