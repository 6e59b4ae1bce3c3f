/-
  CHAPTER 04: contracts of the program.
-/
import Derived.Test.YtmkkfccnacodoaaDoorM04
import Derived.Test.YtmkkfccnacodoaaDoorS02f
import Derived.Test.YtmkkfccnacodoaaDoorS01e
namespace Go.Proofs.YtmkkfccnacodoaaDoor.WL
open Go
set_option maxHeartbeats 4000000
attribute [local irreducible] comp hb sha leafD pairD secD shutD bitD wholeD pubD ofD

@[simp] theorem le_max16 : 16 ≤ maxLen := by decide
theorem Dgs_snoc2 (x : List Dg) (p q : Dg) : Dgs x ++ [AV.arr 1 (B p.bs), AV.arr 1 (B q.bs)] = Dgs (x ++ [p, q]) := by simp [Dgs]
theorem cat_three (a b c : Bytes) : cat [a, b, c] = a ++ (b ++ c) := by simp [cat]
theorem cat_one (a : Bytes) : cat [a] = a := by simp [cat]
/-- Eight bytes of two numbers, so far. -/
def nums2 (a b : Int) (i : Nat) : Bytes := ((be8 a).take i ++ zeros (8 - i)) ++ ((be8 b).take i ++ zeros (8 - i))
theorem nums2_len (a b : Int) (i : Nat) (h : i ≤ 8) : (nums2 a b i).length = 16 := by
  simp [nums2]
  omega
theorem nums2_step (a b : Int) (i : Nat) (h : i < 8) : ((nums2 a b i).set i (u8 (a / 2 ^ (56 - 8 * i)))).set (8 + i) (u8 (b / 2 ^ (56 - 8 * i))) = nums2 a b (i + 1) := by
  have g := fun n : Int => fill_zeros (be8 n) 8 i (by simpa using h) (by simp)
  have e : ∀ n : Int, (be8 n)[i]'(by simpa using h) = u8 (n / 2 ^ (56 - 8 * i)) := fun n => by
    have := be8_get n i h
    rw [List.getElem?_eq_getElem (by simpa using h)] at this
    exact Option.some.inj this
  have ga := g a
  have gb := g b
  rw [e a] at ga
  rw [e b] at gb
  have hl : ∀ n : Int, ((be8 n).take i ++ zeros (8 - i)).length = 8 := fun n => by simp; omega
  have hl2 : ∀ n : Int, ((be8 n).take (i + 1) ++ zeros (8 - (i + 1))).length = 8 := fun n => by simp; omega
  unfold nums2
  rw [List.set_append_left _ _ (by rw [hl]; exact h), ga, List.set_append_right _ _ (by rw [hl2]; omega), hl2, show 8 + i - 8 = i by omega, gb]
theorem nums2_all (a b : Int) : nums2 a b 8 = be8 a ++ be8 b := by
  unfold nums2
  rw [List.take_of_length_le (l := be8 a) (by simp), List.take_of_length_le (l := be8 b) (by simp)]
  simp [zeros]
theorem nums2_zero (a b : Int) : nums2 a b 0 = zeros 16 := by simp [nums2, zeros]

theorem secret_meets (seed : Dg) (leaf : Int) (bit is : Nat) (hl : -9223372036854775808 ≤ leaf ∧ leaf < 9223372036854775808) (hb : bit < 1000) (hi : is < 1000) :
    Meets Tryd.prog Gt fn_once_secret [dv seed, .v (.int .i64 leaf), .v (.int .i64 (bit : Nat)), .v (.int .i64 (is : Nat))] [] true (dv (secD seed leaf bit is)) [] := by
  refine meets_of_go mix k_once_secret ⟨by simp, by simp, by simp⟩ ?_
  obtain ⟨n, hn⟩ : ∃ n : Nat, n = 2 * bit + is := ⟨_, rfl⟩
  obtain ⟨b2, hb2⟩ : ∃ n : Nat, n = 2 * bit := ⟨_, rfl⟩
  have w1 : IntKind.i64.wrap (2 * (bit : Int)) = (b2 : Int) := by rw [w64_id (by omega)]; omega
  have w2 : IntKind.i64.wrap ((b2 : Int) + (is : Int)) = (n : Int) := by rw [w64_id (by omega)]; omega
  simp
  refine go_up 8 (fun j (_ : Unit) => True) (fun j _ c => ⟨[(1, .v (.int .i64 leaf)), (2, .v (.int .i64 (bit : Nat))), (3, .v (.int .i64 (is : Nat))), (4, .ptr 4 c 0), (8, .ptr 8 c 0), (9, .ptr 9 c 0), (11, .v (.int .i64 (j : Nat)))],
    [(4, .var c (dv seed)), (8, .var c (dv Dg.zero)), (9, .var c (.arr 1 (B (nums2 leaf n j))))], c + 1⟩) () _ (Weak.re (by simp [nums2_zero])) trivial ?_ ?_
  · intro j _ c hj _
    have hw : IntKind.i64.wrap ((j : Int) + 1) = ((j + 1 : Nat) : Int) := w64_succ (by omega)
    have hj8 : (j : Int) < 8 := by omega
    obtain ⟨q, hq⟩ : ∃ q : Nat, q = 8 + j := ⟨_, rfl⟩
    have w3 : IntKind.i64.wrap (8 + (j : Int)) = (q : Int) := by rw [w64_id (by omega)]; omega
    obtain ⟨r, hr⟩ : ∃ r : Nat, r = 8 * j := ⟨_, rfl⟩
    have w4 : IntKind.i64.wrap (8 * (j : Int)) = (r : Int) := by rw [w64_id (by omega)]; omega
    obtain ⟨s, hs⟩ : ∃ s : Nat, s = 56 - 8 * j := ⟨_, rfl⟩
    have w5 : IntKind.i64.wrap (56 - (r : Int)) = (s : Int) := by rw [w64_id (by omega)]; omega
    have hmin : min s 64 = s := by omega
    have u1 := be8_u64 leaf j hj
    have u2 := be8_u64 (n : Int) j hj
    rw [← hs] at u1 u2
    have hst := nums2_step leaf n j hj
    rw [← hs, ← hq] at hst
    have hlen := nums2_len leaf n j (by omega)
    have hq16 : q < 16 := by omega
    have hqi : (q : Int) < 16 := by omega
    have hj16 : j < 16 := by omega
    have hj16i : (j : Int) < 16 := by omega
    simp [hj8, w1, w2, w3, w4, w5, hmin, bv_u8, u1, u2, B_set, hlen, hq16, hqi, hj16, hj16i, hw]
    exact ⟨(), _, Weak.re (by simp [hst]), trivial⟩
  · intro _ c _
    have e : secB seed leaf (2 * bit + is) = [2] ++ (seed.bs ++ nums2 leaf n 8) := by rw [nums2_all, hn]; rfl
    have h1 := of_meets [[2], seed.bs, nums2 leaf n 8] (by simp) (by rw [cat_three, ← e, secB_len]; omega)
    rw [cat_three, ← e] at h1
    have e2 : sha (secB seed leaf (2 * bit + is)) = secD seed leaf bit is := by unfold secD; rfl
    rw [e2] at h1
    have hlen := nums2_len leaf n 8 (by omega)
    have ht : List.take 16 (nums2 leaf n 8) = nums2 leaf n 8 := List.take_of_length_le (by omega)
    have hbl : B [2] = [AV.v (.int .u8 2)] := (rfl)
    generalize nums2 leaf n 8 = x at *
    simp [hlen]
    refine call_intro h1 ?_ ?_
    · simp [Bss, hbl, hlen, ht]
    simp [Bss, hbl, hlen, ht]
    refine post_end (.inr rfl) ?_
    simp

theorem shut_meets (s : Dg) : Meets Tryd.prog Gt fn_once_shut [dv s] [] true (dv (shutD s)) [] := by
  refine meets_of_go mix k_once_shut ⟨by simp, by simp, by simp⟩ ?_
  have h1 := of_meets [s.bs] (by simp) (by rw [cat_one]; simp)
  rw [cat_one] at h1
  have e2 : sha s.bs = shutD s := by unfold shutD; rfl
  rw [e2] at h1
  simp
  refine call_intro h1 ?_ ?_
  · simp [Bss]
  simp
  refine post_end (.inr rfl) ?_
  simp

theorem whole_meets (l : List Dg) (h : l.length ≤ 100000) : Meets Tryd.prog Gt fn_once_whole [.sl 32 (Dgs l)] [] true (dv (wholeD l)) [] := by
  refine meets_of_go mix k_once_whole ⟨by simp, by simp, by simp⟩ ?_
  have hfl := flatD_length l
  have h1 := of_meets [flatD l] (by simp) (by rw [cat_one]; omega)
  rw [cat_one] at h1
  have e2 : sha (flatD l) = wholeD l := by unfold wholeD; rfl
  rw [e2] at h1
  have hw := wdigest_meets (G := Gt) [] l (by simp; omega)
  have hb := bytes_meets (G := Gt) (flatD l) (by omega)
  rw [List.nil_append] at hw
  generalize flatD l = x at *
  generalize wholeD l = y at *
  have htx : List.take x.length x = x := List.take_of_length_le (by omega)
  simp
  refine call_intro hw ?_ ?_
  · simp [wrM]
  simp [wrM]
  refine call_intro hb ?_ ?_
  · simp [wrM]
  simp [wrM]
  refine call_intro h1 ?_ ?_
  · simp [Bss, htx]
  simp
  refine post_end (.inr rfl) ?_
  simp

theorem public_meets (seed : Dg) (leaf : Int) (hl : -9223372036854775808 ≤ leaf ∧ leaf < 9223372036854775808) (N : Nat) (hN : N = 32) :
    Meets Tryd.prog Gt fn_once_Public [dv seed, .v (.int .i64 leaf)] [] true (dv (pubD seed leaf N)) [] := by
  refine meets_of_go mix k_once_Public ⟨by simp, by simp, by simp⟩ ?_
  simp
  refine go_up N (fun j (x : List Dg) => x = pubL seed leaf j) (fun j x c => ⟨[(1, .v (.int .i64 leaf)), (2, .ptr 2 c 0), (4, .ptr 4 c 0), (5, .row 5 32 c 0 x.length), (7, .v (.int .i64 (j : Nat)))],
    [(2, .var c (dv seed)), (4, .var c (dv Dg.zero)), (5, .rows c 32 (Dgs x))], c + 1⟩) [] _ (Weak.re (by simp)) rfl ?_ ?_
  · intro j x c hj hx
    have hw : IntKind.i64.wrap ((j : Int) + 1) = ((j + 1 : Nat) : Int) := w64_succ (by omega)
    have hj8 : (j : Int) < 32 := by omega
    have hxl : x.length = 2 * j := by rw [hx, pubL_length]
    have f1 : fitsB (x.length + 2) 32 := fits (by omega) (by omega)
    have s0 := secret_meets seed leaf j 0 hl (by omega) (by omega)
    have s1 := secret_meets seed leaf j 1 hl (by omega) (by omega)
    have hnx : x ++ [shutD (secD seed leaf j 0), shutD (secD seed leaf j 1)] = pubL seed leaf (j + 1) := by rw [hx]; rfl
    generalize secD seed leaf j 0 = a at *
    generalize secD seed leaf j 1 = b at *
    have t0 := shut_meets a
    have t1 := shut_meets b
    generalize shutD a = a' at *
    generalize shutD b = b' at *
    simp [hj8]
    refine call_intro s0 ?_ ?_
    · simp
    simp
    refine call_intro t0 ?_ ?_
    · simp
    simp
    refine call_intro s1 ?_ ?_
    · simp
    simp
    refine call_intro t1 ?_ ?_
    · simp
    simp [f1, hw, Dgs_snoc2]
    exact ⟨x ++ [a', b'], _, Weak.re (by simp), hnx⟩
  · intro x c hx
    have hxl : x.length = 2 * N := by rw [hx, pubL_length]
    have hwh := whole_meets x (by omega)
    have hp : wholeD x = pubD seed leaf N := by rw [hx]; unfold pubD; rfl
    rw [hp] at hwh
    generalize pubD seed leaf N = y at *
    subst hN
    have htx : List.take x.length x = x := List.take_of_length_le (by omega)
    simp
    refine call_intro hwh ?_ ?_
    · simp [htx]
    simp [htx]
    refine post_end (.inr rfl) ?_
    simp
end Go.Proofs.YtmkkfccnacodoaaDoor.WL
