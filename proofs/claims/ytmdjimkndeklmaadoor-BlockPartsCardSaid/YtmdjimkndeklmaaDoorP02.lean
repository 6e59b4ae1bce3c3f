/-
  CHAPTER 02: how the digest is reckoned piece by piece.
-/
import Derived.Test.YtmdjimkndeklmaaDoorM02
namespace Go.Proofs.YtmdjimkndeklmaaDoor.WL
open Go
attribute [local irreducible] comp

/-- The bytes that wait for their block's end. -/
def rem (d : Bytes) : Bytes := d.drop (64 * (d.length / 64))
theorem rem_length (d : Bytes) : (rem d).length = d.length % 64 := by
  simp only [rem, List.length_drop]
  omega
theorem hb_succ (n : Nat) (b : Bytes) : hb (n + 1) b = comp (hb n b) ((b.drop (64 * n)).take 64) := rfl
/-- More bytes, not up to a block's end. -/
theorem hb_more (d x : Bytes) (h : (rem d).length + x.length < 64) : (d ++ x).length / 64 = d.length / 64 ∧ rem (d ++ x) = rem d ++ x ∧ hb ((d ++ x).length / 64) (d ++ x) = hb (d.length / 64) d := by
  rw [rem_length] at h
  have h1 : (d ++ x).length / 64 = d.length / 64 := by rw [List.length_append]; omega
  refine ⟨h1, ?_, ?_⟩
  · rw [rem, h1, List.drop_append_of_le_length (by omega)]
    rfl
  · rw [h1]
    exact hb_append _ _ _ (by omega)
/-- Just to a block's end. -/
theorem hb_full (d x : Bytes) (h : (rem d).length + x.length = 64) : (d ++ x).length / 64 = d.length / 64 + 1 ∧ rem (d ++ x) = [] ∧ hb ((d ++ x).length / 64) (d ++ x) = comp (hb (d.length / 64) d) (rem d ++ x) := by
  have h0 := h
  rw [rem_length] at h
  have hx : 0 < x.length := by omega
  have h1 : (d ++ x).length / 64 = d.length / 64 + 1 := by rw [List.length_append]; omega
  refine ⟨h1, ?_, ?_⟩
  · rw [rem, h1, List.drop_of_length_le (by rw [List.length_append]; omega)]
  · rw [h1, hb_succ, hb_append _ _ _ (by omega), List.drop_append_of_le_length (by omega)]
    congr 1
    show (rem d ++ x).take 64 = _
    exact List.take_of_length_le (by rw [List.length_append]; omega)
theorem fill_small (n : Nat) (h : n % 64 < 56) : fillN n = 55 - n % 64 := by unfold fillN; omega
theorem fill_great (n : Nat) (h : 56 ≤ n % 64) : fillN n = 119 - n % 64 := by unfold fillN; omega
/-- The end, in one block. -/
theorem sha_small (d : Bytes) (h : d.length % 64 < 56) : (sha d).bs = (comp (hb (d.length / 64) d) (rem d ++ 128 :: (zeros (55 - d.length % 64) ++ be8 (8 * d.length : Nat)))).bytes := by
  show (hb ((pad d).length / 64) (pad d)).bytes = _
  have hl := rem_length d
  have e : pad d = d ++ (128 :: (zeros (55 - d.length % 64) ++ be8 (8 * d.length : Nat))) := by rw [pad, fill_small _ h]
  obtain ⟨_, _, h3⟩ := hb_full d (128 :: (zeros (55 - d.length % 64) ++ be8 (8 * d.length : Nat))) (by simp only [List.length_cons, List.length_append, zeros_length, be8_length]; omega)
  rw [e, h3]
/-- The end, in two blocks. -/
theorem sha_great (d : Bytes) (h : 56 ≤ d.length % 64) : (sha d).bs = (comp (comp (hb (d.length / 64) d) (rem d ++ 128 :: zeros (63 - d.length % 64))) (zeros 56 ++ be8 (8 * d.length : Nat))).bytes := by
  show (hb ((pad d).length / 64) (pad d)).bytes = _
  have hl := rem_length d
  have hlt : d.length % 64 < 64 := Nat.mod_lt _ (by decide)
  have e : pad d = (d ++ 128 :: zeros (63 - d.length % 64)) ++ (zeros 56 ++ be8 (8 * d.length : Nat)) := by
    rw [pad, fill_great _ h, show 119 - d.length % 64 = (63 - d.length % 64) + 56 by omega]
    simp only [zeros, ← List.replicate_append_replicate, List.append_assoc, List.cons_append]
  obtain ⟨h1, h2, h3⟩ := hb_full d (128 :: zeros (63 - d.length % 64)) (by simp only [List.length_cons, zeros_length]; omega)
  obtain ⟨_, _, k3⟩ := hb_full (d ++ 128 :: zeros (63 - d.length % 64)) (zeros 56 ++ be8 (8 * d.length : Nat)) (by rw [h2]; simp)
  rw [e, k3, h2, h3, List.nil_append]
end Go.Proofs.YtmdjimkndeklmaaDoor.WL
