/-
  CHAPTER 02: contracts: a pair, the reference's numbers and padding.
-/
import Derived.Test.YtmdjimkndeklmaaDoorS02c
namespace Go.Proofs.YtmdjimkndeklmaaDoor.WL
open Go
set_option maxHeartbeats 4000000
attribute [local irreducible] comp hb sha

theorem B_one (m : UInt8) : B [m] = [bv m] := rfl
theorem pair_meets (m : UInt8) (a b : Dg) : Meets Tryd.prog Gt fn_sha_Pair [bv m, dv a, dv b] [] true (dv (sha (m :: (a.bs ++ b.bs)))) [] := by
  refine meets_of_go mix k_sha_Pair ⟨by simp, by simp, by simp⟩ ?_
  have h := of_meets [[m], a.bs, b.bs] (by simp) (by simp [cat])
  have e : cat [[m], a.bs, b.bs] = m :: (a.bs ++ b.bs) := by simp [cat]
  have ta : List.take 32 a.bs = a.bs := List.take_of_length_le (by simp)
  have tb : List.take 32 b.bs = b.bs := List.take_of_length_le (by simp)
  rw [e] at h
  simp [dv]
  refine call_intro h ?_ ?_
  · simp [Bss, B_one, ta, tb]
  simp [dv]
  refine post_end (.inr rfl) ?_
  simp [dv]
theorem numbers_meets {G : Nat → Option AV} : Meets Tryd.prog G fn_r02_Numbers [] [] true (.arr 1 (U table)) [] := by
  refine meets_of_go mix k_r02_Numbers ⟨by simp, by simp, by simp⟩ ?_
  simp
  refine post_end (.inr rfl) ?_
  simp [table, U]
  repeat (first | exact rfl | refine ⟨rfl, ?_⟩)

theorem quo_pow (M i : Nat) (d : Nat) (hd : d = 256) : M / 256 ^ (i + 1) = M / 256 ^ i / d := by
  rw [hd, Nat.pow_succ, Nat.div_div_eq_div_mul]
theorem be8_at (M i : Nat) (h : i < 8) : (be8 (M : Nat)).drop (8 - (i + 1)) = u8 ((M / 256 ^ i : Nat) : Int) :: (be8 (M : Nat)).drop (8 - i) := by
  match i, h with
  | 0, _ => simp [be8]
  | 1, _ => simp [be8]
  | 2, _ => simp [be8]
  | 3, _ => simp [be8]
  | 4, _ => simp [be8]
  | 5, _ => simp [be8]
  | 6, _ => simp [be8]
  | 7, _ => simp [be8]
theorem padded_meets {G : Nat → Option AV} (b : Bytes) (hb : b.length ≤ 100000000) : Meets Tryd.prog G fn_r02_Padded [.sl 1 (B b)] [] true (.row 3000 1 1 0 (pad b).length) [(3000, .rows 1 1 (B (pad b)))] := by
  refine meets_of_go mix k_r02_Padded ⟨by simp, by simp, by simp⟩ ?_
  have f1 : fitsB b.length 1 := fits (by omega) (by omega)
  have f2 : fitsB (b.length + 1) 1 := fits (by omega) (by omega)
  simp [f1, f2, bv_lit 128 (by decide), show u8 128 = 128 by decide]
  obtain ⟨n, hn⟩ : ∃ n, fillN b.length = n := ⟨_, rfl⟩
  have hn64 : n < 64 := by rw [← hn]; exact Nat.mod_lt _ (by decide)
  refine go_up n (fun j (x : Bytes) => x = b ++ 128 :: zeros j) (fun j x c => ⟨[(0, .sl 1 (B b)), (3, .row 3 1 c 0 x.length)], [(3, .rows c 1 (B x))], c + 1⟩) (b ++ [128]) _ (Weak.re (by simp [B_snoc])) (by simp [zeros]) ?_ ?_
  · intro j x c hj hx
    have hxl : x.length = b.length + 1 + j := by rw [hx]; simp; omega
    have h1 : (x.length : Int).tmod 64 = ((x.length % 64 : Nat) : Int) := rfl
    have h2 : ¬ (((x.length % 64 : Nat) : Int) = 56) := by unfold fillN at hn; omega
    obtain ⟨q, hq⟩ : ∃ q : Nat, q = x.length % 64 := ⟨_, rfl⟩
    rw [← hq] at h1 h2
    have f3 : fitsB (x.length + 1) 1 := fits (by omega) (by omega)
    simp [h1, h2, f3, bv_lit 0 (by decide), show u8 0 = 0 by decide]
    exact ⟨x ++ [0], _, Weak.re (by simp [B_snoc]), by rw [hx]; simp [zeros, List.replicate_succ']⟩
  · intro x c hx
    have hxl : x.length = b.length + 1 + n := by rw [hx]; simp; omega
    have h1 : (x.length : Int).tmod 64 = 56 := by
      show ((x.length % 64 : Nat) : Int) = 56
      unfold fillN at hn
      omega
    simp [h1]
    obtain ⟨M, hM⟩ : ∃ M : Nat, M = 8 * b.length := ⟨_, rfl⟩
    refine go_up 8 (fun i (a : Nat × Bytes) => a.2 = (be8 (M : Nat)).drop (8 - i) ∧ (i = 0 → a.1 = b.length) ∧ (0 < i → a.1 = M / 256 ^ i)) (fun i a c => ⟨[(3, .row 3 1 c 0 x.length), (4, .v (.int .i64 (a.1 : Nat))), (5, .sl 1 (B a.2)), (6, .v (.int .i64 (i : Nat)))], [(3, .rows c 1 (B x))], c + 1⟩) (b.length, []) _ (Weak.re (by simp)) (by simp [be8]) ?_ ?_
    · rintro i ⟨m, t⟩ c hi ⟨ht, hm0, hm1⟩
      have hw : IntKind.i64.wrap ((i : Int) + 1) = ((i + 1 : Nat) : Int) := w64_succ (by omega)
      have hi8 : (i : Int) < 8 := by omega
      simp only at hm0 hm1 ht
      have tk : ∀ y : UInt8, List.take (1 + t.length) (y :: t) = y :: t := fun y => List.take_of_length_le (by simp; omega)
      have tl : 1 + t.length ≤ t.length + 1 := by omega
      have htl : t.length = i := by rw [ht]; simp; omega
      have hb8 := be8_at M i hi
      rw [← ht] at hb8
      have f4 : fitsB (1 + t.length) 1 := fits (by omega) (by omega)
      by_cases h0 : i = 0
      · have hme := hm0 h0
        subst h0
        have a1 : (m : Int).tmod 32 = ((m % 32 : Nat) : Int) := rfl
        obtain ⟨r, hr⟩ : ∃ r : Nat, r = m % 32 := ⟨_, rfl⟩
        obtain ⟨d, hd⟩ : ∃ d : Nat, d = m / 32 := ⟨_, rfl⟩
        rw [← hr] at a1
        have a2 : IntKind.i64.wrap ((r : Int) * 8) = (r : Int) * 8 := w64_id (by omega)
        have a3 : IntKind.i64.wrap ((m : Int) / (32 : Int)) = (d : Int) := by rw [w64_id (by omega)]; omega
        have a4 : u8 ((r : Int) * 8) = u8 ((M / 256 ^ 0 : Nat) : Int) := u8_congr (by simp; omega)
        simp [a1, a2, a3, bv_u8, a4, f4, hw]
        exact ⟨(d, _ :: t), _, Weak.re (by simp [tk, tl, show IntKind.i64.wrap 1 = 1 by decide]), hb8.symm, by omega, fun _ => by simp; omega⟩
      · have hme := hm1 (by omega)
        have a1 : (m : Int).tmod 256 = ((m % 256 : Nat) : Int) := rfl
        obtain ⟨r, hr⟩ : ∃ r : Nat, r = m % 256 := ⟨_, rfl⟩
        obtain ⟨d, hd⟩ : ∃ d : Nat, d = m / 256 := ⟨_, rfl⟩
        rw [← hr] at a1
        have hmM : m ≤ M := by rw [hme]; exact Nat.div_le_self _ _
        have a3 : IntKind.i64.wrap ((m : Int) / (256 : Int)) = (d : Int) := by rw [w64_id (by omega)]; omega
        have a4 : u8 (r : Int) = u8 ((M / 256 ^ i : Nat) : Int) := u8_congr (by rw [← hme]; omega)
        have h0' : ¬ (i : Int) = 0 := by omega
        simp [h0, h0', hi8, a1, a3, bv_u8, a4, f4, hw]
        exact ⟨(d, _ :: t), _, Weak.re (by simp [tk, tl]), hb8.symm, by omega, fun _ => by rw [quo_pow M i 256 rfl, ← hme]; exact hd⟩
    · rintro ⟨m, t⟩ c ⟨ht, -, -⟩
      simp only at ht
      have ht' : t = be8 (M : Nat) := by rw [ht]; rfl
      have f5 : fitsB (x.length + t.length) 1 := by rw [ht']; exact fits (by simp; omega) (by simp; omega)
      simp [f5]
      refine post_end (.inr rfl) ?_
      simp [pad, hn, hx, ht', hM]
      omega
end Go.Proofs.YtmdjimkndeklmaaDoor.WL
