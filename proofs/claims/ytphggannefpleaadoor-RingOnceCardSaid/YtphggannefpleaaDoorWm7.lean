/- Texts put together: S04a, S04b, S03a, S03b, S05a, S06a, S01a, S05c, L05a, L05b. -/
import Derived.Test.YtphggannefpleaaDoorWm6
section
/-
  CHAPTER 04: contracts of the program.
-/
namespace Go.Proofs.YtphggannefpleaaDoor.WL
open Go
set_option maxHeartbeats 4000000
attribute [local irreducible] comp hb sha leafD pairD secD shutD bitD wholeD pubD ofD

@[simp] theorem le_max16 : 16 ≤ maxLen := by decide
theorem Dgs_snoc2 (x : List Dg) (p q : Dg) : Dgs x ++ [AV.arr 1 (B p.bs), AV.arr 1 (B q.bs)] = Dgs (x ++ [p, q]) := by simp [Dgs]
theorem cat_three (a b c : Bytes) : cat [a, b, c] = a ++ (b ++ c) := by simp [cat]
theorem cat_one (a : Bytes) : cat [a] = a := by simp [cat]
/-- Eight bytes of two numbers, so far. -/
def nums2 (a b : Int) (i : Nat) : Bytes := ((be8 a).take i ++ zeros (8 - i)) ++ ((be8 b).take i ++ zeros (8 - i))
theorem nums2_len (a b : Int) (i : Nat) (h : i ≤ 8) : (nums2 a b i).length = 16 := by
  simp [nums2]
  omega
theorem nums2_step (a b : Int) (i : Nat) (h : i < 8) : ((nums2 a b i).set i (u8 (a / 2 ^ (56 - 8 * i)))).set (8 + i) (u8 (b / 2 ^ (56 - 8 * i))) = nums2 a b (i + 1) := by
  have g := fun n : Int => fill_zeros (be8 n) 8 i (by simpa using h) (by simp)
  have e : ∀ n : Int, (be8 n)[i]'(by simpa using h) = u8 (n / 2 ^ (56 - 8 * i)) := fun n => by
    have := be8_get n i h
    rw [List.getElem?_eq_getElem (by simpa using h)] at this
    exact Option.some.inj this
  have ga := g a
  have gb := g b
  rw [e a] at ga
  rw [e b] at gb
  have hl : ∀ n : Int, ((be8 n).take i ++ zeros (8 - i)).length = 8 := fun n => by simp; omega
  have hl2 : ∀ n : Int, ((be8 n).take (i + 1) ++ zeros (8 - (i + 1))).length = 8 := fun n => by simp; omega
  unfold nums2
  rw [List.set_append_left _ _ (by rw [hl]; exact h), ga, List.set_append_right _ _ (by rw [hl2]; omega), hl2, show 8 + i - 8 = i by omega, gb]
theorem nums2_all (a b : Int) : nums2 a b 8 = be8 a ++ be8 b := by
  unfold nums2
  rw [List.take_of_length_le (l := be8 a) (by simp), List.take_of_length_le (l := be8 b) (by simp)]
  simp [zeros]
theorem nums2_zero (a b : Int) : nums2 a b 0 = zeros 16 := by simp [nums2, zeros]

theorem secret_meets (seed : Dg) (leaf : Int) (bit is : Nat) (hl : -9223372036854775808 ≤ leaf ∧ leaf < 9223372036854775808) (hb : bit < 1000) (hi : is < 1000) :
    Meets Tryd.prog Gt fn_once_secret [dv seed, .v (.int .i64 leaf), .v (.int .i64 (bit : Nat)), .v (.int .i64 (is : Nat))] [] true (dv (secD seed leaf bit is)) [] := by
  refine meets_of_go mix k_once_secret ⟨by simp, by simp, by simp⟩ ?_
  obtain ⟨n, hn⟩ : ∃ n : Nat, n = 2 * bit + is := ⟨_, rfl⟩
  obtain ⟨b2, hb2⟩ : ∃ n : Nat, n = 2 * bit := ⟨_, rfl⟩
  have w1 : IntKind.i64.wrap (2 * (bit : Int)) = (b2 : Int) := by rw [w64_id (by omega)]; omega
  have w2 : IntKind.i64.wrap ((b2 : Int) + (is : Int)) = (n : Int) := by rw [w64_id (by omega)]; omega
  simp
  refine go_up 8 (fun j (_ : Unit) => True) (fun j _ c => ⟨[(1, .v (.int .i64 leaf)), (2, .v (.int .i64 (bit : Nat))), (3, .v (.int .i64 (is : Nat))), (4, .ptr 4 c 0), (8, .ptr 8 c 0), (9, .ptr 9 c 0), (11, .v (.int .i64 (j : Nat)))],
    [(4, .var c (dv seed)), (8, .var c (dv Dg.zero)), (9, .var c (.arr 1 (B (nums2 leaf n j))))], c + 1⟩) () _ (Weak.re (by simp [nums2_zero])) trivial ?_ ?_
  · intro j _ c hj _
    have hw : IntKind.i64.wrap ((j : Int) + 1) = ((j + 1 : Nat) : Int) := w64_succ (by omega)
    have hj8 : (j : Int) < 8 := by omega
    obtain ⟨q, hq⟩ : ∃ q : Nat, q = 8 + j := ⟨_, rfl⟩
    have w3 : IntKind.i64.wrap (8 + (j : Int)) = (q : Int) := by rw [w64_id (by omega)]; omega
    obtain ⟨r, hr⟩ : ∃ r : Nat, r = 8 * j := ⟨_, rfl⟩
    have w4 : IntKind.i64.wrap (8 * (j : Int)) = (r : Int) := by rw [w64_id (by omega)]; omega
    obtain ⟨s, hs⟩ : ∃ s : Nat, s = 56 - 8 * j := ⟨_, rfl⟩
    have w5 : IntKind.i64.wrap (56 - (r : Int)) = (s : Int) := by rw [w64_id (by omega)]; omega
    have hmin : min s 64 = s := by omega
    have u1 := be8_u64 leaf j hj
    have u2 := be8_u64 (n : Int) j hj
    rw [← hs] at u1 u2
    have hst := nums2_step leaf n j hj
    rw [← hs, ← hq] at hst
    have hlen := nums2_len leaf n j (by omega)
    have hq16 : q < 16 := by omega
    have hqi : (q : Int) < 16 := by omega
    have hj16 : j < 16 := by omega
    have hj16i : (j : Int) < 16 := by omega
    simp [hj8, w1, w2, w3, w4, w5, hmin, bv_u8, u1, u2, B_set, hlen, hq16, hqi, hj16, hj16i, hw]
    exact ⟨(), _, Weak.re (by simp [hst]), trivial⟩
  · intro _ c _
    have e : secB seed leaf (2 * bit + is) = [2] ++ (seed.bs ++ nums2 leaf n 8) := by rw [nums2_all, hn]; rfl
    have h1 := of_meets [[2], seed.bs, nums2 leaf n 8] (by simp) (by rw [cat_three, ← e, secB_len]; omega)
    rw [cat_three, ← e] at h1
    have e2 : sha (secB seed leaf (2 * bit + is)) = secD seed leaf bit is := by unfold secD; rfl
    rw [e2] at h1
    have hlen := nums2_len leaf n 8 (by omega)
    have ht : List.take 16 (nums2 leaf n 8) = nums2 leaf n 8 := List.take_of_length_le (by omega)
    have hbl : B [2] = [AV.v (.int .u8 2)] := (rfl)
    generalize nums2 leaf n 8 = x at *
    simp [hlen]
    refine call_intro h1 ?_ ?_
    · simp [Bss, hbl, hlen, ht]
    simp [Bss, hbl, hlen, ht]
    refine post_end (.inr rfl) ?_
    simp

theorem shut_meets (s : Dg) : Meets Tryd.prog Gt fn_once_shut [dv s] [] true (dv (shutD s)) [] := by
  refine meets_of_go mix k_once_shut ⟨by simp, by simp, by simp⟩ ?_
  have h1 := of_meets [s.bs] (by simp) (by rw [cat_one]; simp)
  rw [cat_one] at h1
  have e2 : sha s.bs = shutD s := by unfold shutD; rfl
  rw [e2] at h1
  simp
  refine call_intro h1 ?_ ?_
  · simp [Bss]
  simp
  refine post_end (.inr rfl) ?_
  simp

theorem whole_meets (l : List Dg) (h : l.length ≤ 100000) : Meets Tryd.prog Gt fn_once_whole [.sl 32 (Dgs l)] [] true (dv (wholeD l)) [] := by
  refine meets_of_go mix k_once_whole ⟨by simp, by simp, by simp⟩ ?_
  have hfl := flatD_length l
  have h1 := of_meets [flatD l] (by simp) (by rw [cat_one]; omega)
  rw [cat_one] at h1
  have e2 : sha (flatD l) = wholeD l := by unfold wholeD; rfl
  rw [e2] at h1
  have hw := wdigest_meets (G := Gt) [] l (by simp; omega)
  have hb := bytes_meets (G := Gt) (flatD l) (by omega)
  rw [List.nil_append] at hw
  generalize flatD l = x at *
  generalize wholeD l = y at *
  have htx : List.take x.length x = x := List.take_of_length_le (by omega)
  simp
  refine call_intro hw ?_ ?_
  · simp [wrM]
  simp [wrM]
  refine call_intro hb ?_ ?_
  · simp [wrM]
  simp [wrM]
  refine call_intro h1 ?_ ?_
  · simp [Bss, htx]
  simp
  refine post_end (.inr rfl) ?_
  simp

theorem public_meets (seed : Dg) (leaf : Int) (hl : -9223372036854775808 ≤ leaf ∧ leaf < 9223372036854775808) (N : Nat) (hN : N = 32) :
    Meets Tryd.prog Gt fn_once_Public [dv seed, .v (.int .i64 leaf)] [] true (dv (pubD seed leaf N)) [] := by
  refine meets_of_go mix k_once_Public ⟨by simp, by simp, by simp⟩ ?_
  simp
  refine go_up N (fun j (x : List Dg) => x = pubL seed leaf j) (fun j x c => ⟨[(1, .v (.int .i64 leaf)), (2, .ptr 2 c 0), (4, .ptr 4 c 0), (5, .row 5 32 c 0 x.length), (7, .v (.int .i64 (j : Nat)))],
    [(2, .var c (dv seed)), (4, .var c (dv Dg.zero)), (5, .rows c 32 (Dgs x))], c + 1⟩) [] _ (Weak.re (by simp)) rfl ?_ ?_
  · intro j x c hj hx
    have hw : IntKind.i64.wrap ((j : Int) + 1) = ((j + 1 : Nat) : Int) := w64_succ (by omega)
    have hj8 : (j : Int) < 32 := by omega
    have hxl : x.length = 2 * j := by rw [hx, pubL_length]
    have f1 : fitsB (x.length + 2) 32 := fits (by omega) (by omega)
    have s0 := secret_meets seed leaf j 0 hl (by omega) (by omega)
    have s1 := secret_meets seed leaf j 1 hl (by omega) (by omega)
    have hnx : x ++ [shutD (secD seed leaf j 0), shutD (secD seed leaf j 1)] = pubL seed leaf (j + 1) := by rw [hx]; rfl
    generalize secD seed leaf j 0 = a at *
    generalize secD seed leaf j 1 = b at *
    have t0 := shut_meets a
    have t1 := shut_meets b
    generalize shutD a = a' at *
    generalize shutD b = b' at *
    simp [hj8]
    refine call_intro s0 ?_ ?_
    · simp
    simp
    refine call_intro t0 ?_ ?_
    · simp
    simp
    refine call_intro s1 ?_ ?_
    · simp
    simp
    refine call_intro t1 ?_ ?_
    · simp
    simp [f1, hw, Dgs_snoc2]
    exact ⟨x ++ [a', b'], _, Weak.re (by simp), hnx⟩
  · intro x c hx
    have hxl : x.length = 2 * N := by rw [hx, pubL_length]
    have hwh := whole_meets x (by omega)
    have hp : wholeD x = pubD seed leaf N := by rw [hx]; unfold pubD; rfl
    rw [hp] at hwh
    generalize pubD seed leaf N = y at *
    subst hN
    have htx : List.take x.length x = x := List.take_of_length_le (by omega)
    simp
    refine call_intro hwh ?_ ?_
    · simp [htx]
    simp [htx]
    refine post_end (.inr rfl) ?_
    simp
end Go.Proofs.YtphggannefpleaaDoor.WL

end
section
/-
  CHAPTER 04: contracts of the program: signing, checking.
-/
namespace Go.Proofs.YtphggannefpleaaDoor.WL
open Go
set_option maxHeartbeats 4000000
attribute [local irreducible] comp hb sha leafD pairD secD shutD wholeD pubD ofD

theorem and_one (n : Nat) (h : n < 4294967296) : bitsOp .and .i64 (n : Int) 1 = ((n % 2 : Nat) : Int) := by
  simp only [bitsOp, BitVec.toNat_and, BitVec.toNat_ofInt]
  have e1 : ((n : Int) % ((2 ^ IntKind.i64.bits : Nat) : Int)).toNat = n := by
    rw [← Int.natCast_emod, Int.toNat_natCast, Nat.mod_eq_of_lt (by simp only [IntKind.bits]; omega)]
  have e2 : ((1 : Int) % ((2 ^ IntKind.i64.bits : Nat) : Int)).toNat = 1 := by decide
  rw [e1, e2, Nat.and_one_is_mod, IntKind.wrap_i64]
  omega
theorem tdivN (j k : Nat) : Int.tdiv (j : Int) (k : Int) = ((j / k : Nat) : Int) := by
  rw [Int.tdiv_eq_ediv_of_nonneg (by omega)]
  exact (Int.natCast_ediv j k).symm
theorem tmodN (j k : Nat) : Int.tmod (j : Int) (k : Int) = ((j % k : Nat) : Int) := by
  rw [Int.tmod_eq_emod_of_nonneg (by omega)]
  exact (Int.natCast_emod j k).symm

theorem bit_meets {G : Nat → Option AV} (d : Dg) (i : Nat) (hi : i < 256) : Meets Tryd.prog G fn_once_bit [dv d, .v (.int .i64 (i : Nat))] [] true (.v (.int .i64 (bitD d i : Nat))) [] := by
  refine meets_of_go mix k_once_bit ⟨by simp, by simp, by simp⟩ ?_
  obtain ⟨q, hq⟩ : ∃ q : Nat, i / 8 = q := ⟨_, rfl⟩
  obtain ⟨r, hr⟩ : ∃ r : Nat, i % 8 = r := ⟨_, rfl⟩
  have d1 : Int.tdiv (i : Int) 8 = (q : Int) := by have := tdivN i 8; rw [hq] at this; exact this
  have d2 : Int.tmod (i : Int) 8 = (r : Int) := by have := tmodN i 8; rw [hr] at this; exact this
  have w0 : IntKind.i64.wrap (q : Int) = (q : Int) := w64_id (by omega)
  have hq32 : q < 32 := by omega
  have hq32i : (q : Int) < 32 := by omega
  have hql : q < d.bs.length := by rw [Dg.length]; omega
  obtain ⟨s, hs⟩ : ∃ s : Nat, 7 - r = s := ⟨_, rfl⟩
  have w1 : IntKind.i64.wrap (7 - (r : Int)) = (s : Int) := by rw [w64_id (by omega)]; omega
  obtain ⟨b, hb⟩ : ∃ b, d.bs[q] = b := ⟨_, rfl⟩
  have hbn := b.toNat_lt
  have hmin : min s 8 = s := by omega
  obtain ⟨v, hv⟩ : ∃ v : Nat, b.toNat / 2 ^ s = v := ⟨_, rfl⟩
  have hvl : v ≤ b.toNat := by rw [← hv]; exact Nat.div_le_self _ _
  have hfd : Int.fdiv (b.toNat : Int) (2 ^ s) = (v : Int) := by
    rw [Int.fdiv_eq_ediv_of_nonneg _ (by exact Int.le_of_lt (Int.pow_pos (by decide))), ← hv, Int.natCast_ediv]
    simp
  have hfd2 : (b.toNat : Int) / (2 ^ s) = (v : Int) := by
    rw [← hv, Int.natCast_ediv]
    simp
  have w2 : IntKind.i64.wrap (v : Int) = (v : Int) := w64_id (by omega)
  have ha := and_one v (by omega)
  have hbit : v % 2 = bitD d i := by
    unfold bitD
    rw [hq, hr, hs, List.getD_eq_getElem?_getD, List.getElem?_eq_getElem hql, Option.getD_some, hb, hv]
  rw [hbit] at ha
  have hget : d.bs[q]? = some b := by rw [List.getElem?_eq_getElem hql, hb]
  simp [d1, d2, w0, hq32, hq32i, w1, hget, hb, hmin, hfd, hfd2, w2, ha]
  refine post_end (.inr rfl) ?_
  simp

/-- What Sign has under way. -/
abbrev SgA := List Dg × List Dg

theorem sign_meets (seed : Dg) (leaf : Int) (d : Dg) (hl : -9223372036854775808 ≤ leaf ∧ leaf < 9223372036854775808) (N : Nat) (hN : N = 32) :
    Meets Tryd.prog Gt fn_once_Sign [dv seed, .v (.int .i64 leaf), dv d] [] true (.node [.row 1000 32 1 0 N, .row 2000 32 1 0 N]) [(1000, .rows 1 32 (Dgs (openL seed leaf d N))), (2000, .rows 1 32 (Dgs (shutL seed leaf d N)))] := by
  refine meets_of_go mix k_once_Sign ⟨by simp, by simp, by simp⟩ ?_
  simp
  refine go_up N (fun j (x : SgA) => x.1 = openL seed leaf d j ∧ x.2 = shutL seed leaf d j) (fun j x c => ⟨[(1, .v (.int .i64 leaf)), (3, .ptr 3 c 0), (5, .ptr 5 c 0), (6, .ptr 6 c 0), (7, .ptr 7 c 0), (10, .v (.int .i64 (j : Nat)))],
    [(3, .var c (dv seed)), (5, .var c (dv d)), (6, .var c (.node [.v (.slice none 0 0), .v (.slice none 0 0)])), (7, .var c (.node [.row 24 32 c 0 x.1.length, .row 36 32 c 0 x.2.length])), (24, .rows c 32 (Dgs x.1)), (36, .rows c 32 (Dgs x.2))], c + 1⟩) ([], []) _ (Weak.re (by simp)) ⟨rfl, rfl⟩ ?_ ?_
  · rintro j ⟨xo, xs⟩ c hj ⟨hxo, hxs⟩
    simp only at hxo hxs
    have hw : IntKind.i64.wrap ((j : Int) + 1) = ((j + 1 : Nat) : Int) := w64_succ (by omega)
    have hj8 : (j : Int) < 32 := by omega
    have hol : xo.length = j := by rw [hxo]; simp
    have hsl : xs.length = j := by rw [hxs]; simp
    have f1 : fitsB (j + 1) 32 := fits (by omega) (by omega)
    have hbt := bit_meets (G := Gt) d j (by omega)
    have hle := bitD_le d j
    have hno : xo ++ [secD seed leaf j (bitD d j)] = openL seed leaf d (j + 1) := by rw [hxo]; rfl
    have hns : xs ++ [shutD (secD seed leaf j (1 - bitD d j))] = shutL seed leaf d (j + 1) := by rw [hxs]; rfl
    generalize bitD d j = b at *
    have s0 := secret_meets seed leaf j b hl (by omega) (by omega)
    have s1 := secret_meets seed leaf j (1 - b) hl (by omega) (by omega)
    obtain ⟨b1, hb1⟩ : ∃ b1, 1 - b = b1 := ⟨_, rfl⟩
    rw [hb1] at s1 hns
    have w1 : IntKind.i64.wrap (1 - (b : Int)) = (b1 : Int) := by rw [w64_id (by omega)]; omega
    generalize secD seed leaf j b = sa at *
    generalize secD seed leaf j b1 = sb at *
    have t1 := shut_meets sb
    generalize shutD sb = sc at *
    simp [hj8]
    refine call_intro hbt ?_ ?_
    · simp
    simp
    refine call_intro s0 ?_ ?_
    · simp
    simp [f1, hol, Dgs_snoc, w1]
    refine call_intro s1 ?_ ?_
    · simp
    simp
    refine call_intro t1 ?_ ?_
    · simp
    simp [f1, hsl, Dgs_snoc, hw]
    exact ⟨(xo ++ [sa], xs ++ [sc]), _, Weak.re (by simp [hol, hsl]), hno, hns⟩
  · rintro ⟨xo, xs⟩ c ⟨hxo, hxs⟩
    simp only at hxo hxs
    have hol : xo.length = N := by rw [hxo]; simp
    have hsl : xs.length = N := by rw [hxs]; simp
    rw [← hxo, ← hxs]
    subst hN
    simp
    refine post_end (.inr rfl) ?_
    simp [hol, hsl]

theorem of4_bad (d : Dg) (o s : List Dg) (h : ¬ (o.length = 32 ∧ s.length = 32)) : Meets Tryd.prog Gt fn_once_Of [dv d, .node [.sl 32 (Dgs o), .sl 32 (Dgs s)]] [] true (.tup [dv Dg.zero, .v (.bool false)]) [] := by
  refine meets_of_go mix k_once_Of ⟨by simp, by simp, by simp⟩ ?_
  by_cases h1 : o.length = 32
  · have h2 : ¬ s.length = 32 := fun e => h ⟨h1, e⟩
    have h3 : ¬ (s.length : Int) = 32 := by omega
    simp [h1, h2, h3]
    refine post_end (.inr rfl) ?_
    simp
  · have h3 : ¬ (o.length : Int) = 32 := by omega
    simp [h1, h3]
    refine post_end (.inr rfl) ?_
    simp

theorem of4_meets (d : Dg) (o s : List Dg) (N : Nat) (hN : N = 32) (ho : o.length = N) (hs : s.length = N) : Meets Tryd.prog Gt fn_once_Of [dv d, .node [.sl 32 (Dgs o), .sl 32 (Dgs s)]] [] true (.tup [dv (ofD d o s N), .v (.bool true)]) [] := by
  refine meets_of_go mix k_once_Of ⟨by simp, by simp, by simp⟩ ?_
  have hoi : (o.length : Int) = 32 := by omega
  have hsi : (s.length : Int) = 32 := by omega
  have ho32 : o.length = 32 := by omega
  have hs32 : s.length = 32 := by omega
  simp [ho32, hs32]
  refine go_up N (fun j (x : List Dg) => x = ofL d o s j) (fun j x c => ⟨[(2, .ptr 2 c 0), (3, .ptr 3 c 0), (4, .ptr 4 c 0), (6, .row 6 32 c 0 x.length), (21, .v (.int .i64 (j : Nat)))],
    [(2, .var c (dv d)), (3, .var c (.node [.sl 32 (Dgs o), .sl 32 (Dgs s)])), (4, .var c (dv Dg.zero)), (6, .rows c 32 (Dgs x))], c + 1⟩) [] _ (Weak.re (by simp)) rfl ?_ ?_
  · intro j x c hj hx
    have hw : IntKind.i64.wrap ((j : Int) + 1) = ((j + 1 : Nat) : Int) := w64_succ (by omega)
    have hj8 : (j : Int) < 32 := by omega
    have hxl : x.length = 2 * j := by rw [hx, ofL_length]
    have f1 : fitsB (x.length + 2) 32 := fits (by omega) (by omega)
    have hbt := bit_meets (G := Gt) d j (by omega)
    have hle := bitD_le d j
    have hjo : j < o.length := by omega
    have hjs : j < s.length := by omega
    have hnx : x ++ two (bitD d j) (shutD o[j]) s[j] = ofL d o s (j + 1) := by
      have e1 : o.getD j Dg.zero = o[j] := by rw [List.getD_eq_getElem?_getD, List.getElem?_eq_getElem hjo]; rfl
      have e2 : s.getD j Dg.zero = s[j] := by rw [List.getD_eq_getElem?_getD, List.getElem?_eq_getElem hjs]; rfl
      rw [hx, ← e1, ← e2]
      rfl
    generalize bitD d j = b at *
    have t1 := shut_meets o[j]
    generalize shutD o[j] = a at *
    obtain ⟨z, hz⟩ : ∃ z, s[j] = z := ⟨_, rfl⟩
    rw [hz] at hnx
    rcases hle with rfl | rfl
    · rw [two, if_pos rfl] at hnx
      have w1 : IntKind.i64.wrap (1 - 0) = 1 := by decide
      have w2 : IntKind.i64.wrap 1 = 1 := by decide
      simp [hj8, hjo, hjs, hz]
      refine call_intro t1 ?_ ?_
      · simp
      simp [hjo, hjs, hz]
      refine call_intro hbt ?_ ?_
      · simp
      simp [f1, hw, w2, Dgs_snoc2]
      exact ⟨x ++ [a, z], _, Weak.re (by simp), hnx⟩
    · rw [two, if_neg (by omega)] at hnx
      have w1 : IntKind.i64.wrap 0 = 0 := by decide
      simp [hj8, hjo, hjs, hz]
      refine call_intro t1 ?_ ?_
      · simp
      simp [hjo, hjs, hz]
      refine call_intro hbt ?_ ?_
      · simp
      simp [f1, hw, w1, Dgs_snoc2]
      exact ⟨x ++ [z, a], _, Weak.re (by simp), hnx⟩
  · intro x c hx
    have hxl : x.length = 2 * N := by rw [hx, ofL_length]
    have hwh := whole_meets x (by omega)
    have hp : wholeD x = ofD d o s N := by rw [hx]; unfold ofD; rfl
    rw [hp] at hwh
    generalize ofD d o s N = y at *
    subst hN
    have htx : List.take x.length x = x := List.take_of_length_le (by omega)
    simp
    refine call_intro hwh ?_ ?_
    · simp [htx]
    simp [htx]
    refine post_end (.inr rfl) ?_
    simp

end Go.Proofs.YtphggannefpleaaDoor.WL

end
section
/-
  CHAPTER 03: contracts of the program.
-/
namespace Go.Proofs.YtphggannefpleaaDoor.WL
open Go
set_option maxHeartbeats 4000000
attribute [local irreducible] comp hb sha leafD pairD

theorem pair1_meets (a b : Dg) : Meets Tryd.prog Gt fn_sha_Pair [.v (.int .u8 1), dv a, dv b] [] true (dv (pairD a b)) [] := by
  unfold pairD
  exact pair_meets 1 a b

theorem leaf_meets (b : Bytes) (h : b.length ≤ 1000000) : Meets Tryd.prog Gt fn_tree_Leaf [.sl 1 (B b)] [] true (dv (leafD b)) [] := by
  refine meets_of_go mix k_tree_Leaf ⟨by simp, by simp, by simp⟩ ?_
  have e : cat [[0], b] = 0 :: b := by simp [cat]
  have h1 := of_meets [[0], b] (by simp) (by rw [e, List.length_cons]; omega)
  rw [e] at h1
  have e2 : sha (0 :: b) = leafD b := by unfold leafD; rfl
  rw [e2] at h1
  simp
  refine call_intro h1 ?_ ?_
  · simp [Bss, B_one]
  simp
  refine post_end (.inr rfl) ?_
  simp

theorem up_meets (ds : List Dg) (h0 : ds ≠ []) (hn : ds.length ≤ 1000000) :
    Meets Tryd.prog Gt fn_tree_up [.sl 32 (Dgs ds)] [] true (.row 1000 32 1 0 (upD ds).length) [(1000, .rows 1 32 (Dgs (upD ds)))] := by
  refine meets_of_go mix k_tree_up ⟨by simp, by simp, by simp⟩ ?_
  simp
  have hl := upD_length ds
  have hl0 : 0 < ds.length := List.length_pos_iff.2 h0
  refine go_up (ds.length / 2) (fun j (x : List Dg) => x = (upD ds).take j ∧ x.length = j) (fun j x c => ⟨[(0, .sl 32 (Dgs ds)), (3, .row 3 32 c 0 j), (4, .v (.int .i64 ((2 * j : Nat) : Int)))], [(3, .rows c 32 (Dgs x))], c + 1⟩) [] _ (Weak.re (by simp)) (by simp) ?_ ?_
  · rintro j x c hj ⟨hx, hxl⟩
    obtain ⟨q, hq⟩ : ∃ q : Nat, q = 2 * j := ⟨_, rfl⟩
    have hq2 : q < ds.length ∧ q + 1 < ds.length := by omega
    have c1 : (q : Int) < (ds.length : Nat) := by omega
    have c2 : IntKind.i64.wrap ((q : Int) + 1) = ((q + 1 : Nat) : Int) := w64_succ (by omega)
    have c3 : IntKind.i64.wrap ((q : Int) + 2) = ((q + 2 : Nat) : Int) := by rw [w64_id (by omega)]; omega
    have c4 : ¬ ((q + 1 : Nat) : Int) = (ds.length : Nat) := by omega
    have f1 : fitsB (j + 1) 32 := fits (by omega) (by omega)
    have hp := upD_pair ds j (by omega)
    rw [← hx] at hp
    have e1 : ds[2 * j]'(by omega) = ds[q]'hq2.1 := by simp [hq]
    have e2 : ds[2 * j + 1]'(by omega) = ds[q + 1]'hq2.2 := by simp [hq]
    rw [e1, e2] at hp
    rw [← hq]
    obtain ⟨q1, hq1⟩ : ∃ q1 : Nat, q1 = q + 1 := ⟨_, rfl⟩
    have hq3 : q1 < ds.length := by omega
    have e3 : ds[q + 1]'hq2.2 = ds[q1]'hq3 := by simp [hq1]
    rw [e3] at hp
    rw [← hq1] at c2 c4
    have c5 : ¬ ((q1 : Int) = (ds.length : Nat)) := by omega
    simp [c1, c2, c4, c5, hq2, hq3]
    refine call_intro (pair1_meets ds[q] ds[q1]) ?_ ?_
    · simp
    simp [f1, hxl, c3]
    exact ⟨x ++ [pairD ds[q] ds[q1]], _, Weak.re (by simp [Dgs_snoc, hxl]; omega), hp.symm, by simp [hxl]⟩
  · rintro x c ⟨hx, hxl⟩
    obtain ⟨j, hj⟩ : ∃ j : Nat, j = ds.length / 2 := ⟨_, rfl⟩
    rw [← hj] at hx hxl ⊢
    obtain ⟨q, hq⟩ : ∃ q : Nat, q = 2 * j := ⟨_, rfl⟩
    rw [← hq]
    by_cases ho : q + 1 = ds.length
    · have hq2 : q < ds.length := by omega
      have c1 : (q : Int) < (ds.length : Nat) := by omega
      have c2 : IntKind.i64.wrap ((q : Int) + 1) = (ds.length : Nat) := by rw [w64_id (by omega)]; omega
      have f1 : fitsB (j + 1) 32 := fits (by omega) (by omega)
      have hp := upD_one ds j (by omega)
      rw [← hx] at hp
      have e1 : ds[2 * j]'(by omega) = ds[q]'hq2 := by simp [hq]
      rw [e1, List.take_of_length_le (by omega)] at hp
      simp [c1, c2, hq2, f1, hxl]
      refine post_end (.inr rfl) ?_
      simp [hp, Dgs_snoc, hxl]
    · have c1 : ¬ (q : Int) < (ds.length : Nat) := by omega
      have hp : x = upD ds := by rw [hx, upD_all ds j (by omega)]
      subst hp
      simp [c1, hxl]
      refine post_end (.inr rfl) ?_
      simp [hxl]

theorem root_meets (ds : List Dg) (hn : ds.length ≤ 1000000) : Meets Tryd.prog Gt fn_tree_Root [.sl 32 (Dgs ds)] [] true (dv (rootD ds)) [] := by
  refine meets_of_go mix k_tree_Root ⟨by simp, by simp, by simp⟩ ?_
  by_cases h0 : ds = []
  · subst h0
    have h1 := of_meets [] (by simp) (by simp)
    rw [cat_nil] at h1
    rw [rootD_nil]
    simp
    refine call_intro h1 ?_ ?_
    · simp [Bss]
    simp
    refine post_end (.inr rfl) ?_
    simp
  · have hl0 : 0 < ds.length := List.length_pos_iff.2 h0
    have f1 : fitsB ds.length 32 := fits (by omega) (by omega)
    have n0 : ¬ ds.length = 0 := by omega
    simp [n0, h0, f1]
    refine go_wh (fun l : List Dg => l.length) (fun l => 0 < l.length ∧ l.length ≤ 1000000 ∧ rootD l = rootD ds) (fun l c => ⟨[(2, .ptr 2 c 0), (3, .row 3 32 c 0 l.length)], [(2, .var c (dv Dg.zero)), (3, .rows c 32 (Dgs l))], c + 1⟩) ds _ (Weak.re (by simp)) ⟨hl0, hn, rfl⟩ ?_
    rintro l c ⟨hl, hln, hr⟩
    by_cases h1 : 1 < l.length
    · have c1 : (1 : Int) < (l.length : Nat) := by omega
      simp [c1, h1]
      refine call_intro (up_meets l (List.length_pos_iff.1 hl) hln) ?_ ?_
      · simp
      simp
      exact ⟨upD l, _, Weak.re (by simp), ⟨by rw [upD_length]; omega, by rw [upD_length]; omega, by rw [← rootD_up l h1]; exact hr⟩, by show (upD l).length < l.length; rw [upD_length]; omega⟩
    · have c1 : ¬ (1 : Int) < (l.length : Nat) := by omega
      obtain ⟨a, rfl⟩ : ∃ a, l = [a] := by
        match l, hl, h1 with
        | [a], _, _ => exact ⟨a, rfl⟩
        | a :: b :: r, _, h => simp only [List.length_cons] at h; omega
      rw [rootD_one] at hr
      subst hr
      simp [c1, h1, Dgs_one]
      refine post_end (.inr rfl) ?_
      simp
end Go.Proofs.YtphggannefpleaaDoor.WL

end
section
/-
  CHAPTER 03: contracts of the program: paths.
-/
namespace Go.Proofs.YtphggannefpleaaDoor.WL
open Go
set_option maxHeartbeats 4000000
attribute [local irreducible] comp hb sha leafD pairD

theorem pathP_meets (ds : List Dg) (at_ : Nat) (h : at_ < ds.length) (hn : ds.length ≤ 1000000) :
    Meets Tryd.prog Gt fn_tree_Path [.v (.int .i64 (at_ : Nat)), .sl 32 (Dgs ds)] [] true (.tup [.row 1000 32 1 0 (pathD ds at_).length, .v (.bool true)]) [(1000, .rows 1 32 (Dgs (pathD ds at_)))] := by
  refine meets_of_go mix k_tree_Path ⟨by simp, by simp, by simp⟩ ?_
  have c0 : ¬ (at_ : Int) < 0 := by omega
  have c1 : ¬ (ds.length : Int) ≤ (at_ : Nat) := by omega
  have f1 : fitsB ds.length 32 := fits (by omega) (by omega)
  have c2 : ¬ ds.length ≤ at_ := by omega
  simp [c0, c1, c2, f1]
  refine go_wh (fun a : List Dg × Nat × List Dg => a.1.length) (fun a => a.2.1 < a.1.length ∧ a.1.length ≤ 1000000 ∧ a.2.2.length + a.1.length ≤ 2000000 ∧ a.2.2 ++ pathD a.1 a.2.1 = pathD ds at_)
    (fun a c => ⟨[(0, .v (.int .i64 (a.2.1 : Nat))), (6, .row 6 32 c 0 a.2.2.length), (7, .row 7 32 c 0 a.1.length)], [(6, .rows c 32 (Dgs a.2.2)), (7, .rows c 32 (Dgs a.1))], c + 1⟩) (ds, at_, []) _ (Weak.re (by simp)) ⟨h, hn, by simp; omega, by simp⟩ ?_
  rintro ⟨l, i, acc⟩ c ⟨hi, hln, hac, hp⟩
  simp only at hi hln hac hp
  by_cases h1 : 1 < l.length
  · have c3 : (1 : Int) < (l.length : Nat) := by omega
    have hx := xor_sib i (by omega)
    have hd : Int.tdiv (i : Int) 2 = ((i / 2 : Nat) : Int) := by rw [Int.tdiv_eq_ediv_of_nonneg (by omega)]; omega
    have hw : IntKind.i64.wrap ((i / 2 : Nat) : Int) = ((i / 2 : Nat) : Int) := w64_id (by omega)
    have hw2 : IntKind.i64.wrap ((i : Int) / 2) = (i : Int) / 2 := w64_id (by omega)
    rw [pathD_up l i h1] at hp
    have hul := upD_length l
    obtain ⟨s, hs⟩ : ∃ s, sib i = s := ⟨_, rfl⟩
    rw [hs] at hx hp
    by_cases h2 : s < l.length
    · have c4 : (s : Int) < (l.length : Nat) := by omega
      have f2 : fitsB (acc.length + 1) 32 := fits (by omega) (by omega)
      have hg : (l[s]?).toList = [l[s]] := by rw [List.getElem?_eq_getElem h2]; rfl
      rw [hg, ← List.append_assoc] at hp
      simp [c3, h1, hx, h2, c4, f2]
      refine call_intro (up_meets l (by intro e; subst e; simp at h2) hln) ?_ ?_
      · simp
      simp [hd, hw, hw2]
      exact ⟨(upD l, i / 2, acc ++ [l[s]]), _, Weak.re (by simp [Dgs_snoc]), ⟨by dsimp only; rw [hul]; omega, by dsimp only; rw [hul]; omega, by dsimp only; rw [hul, List.length_append, List.length_singleton]; omega, hp⟩, by show (upD l).length < l.length; rw [upD_length]; omega⟩
    · have c4 : ¬ (s : Int) < (l.length : Nat) := by omega
      have hg : (l[s]?).toList = [] := by rw [List.getElem?_eq_none (by omega)]; rfl
      rw [hg, List.nil_append] at hp
      simp [c3, h1, hx, h2, c4]
      refine call_intro (up_meets l (by intro e; subst e; simp at h1) hln) ?_ ?_
      · simp
      simp [hd, hw, hw2]
      exact ⟨(upD l, i / 2, acc), _, Weak.re (by simp), ⟨by dsimp only; rw [hul]; omega, by dsimp only; rw [hul]; omega, by dsimp only; rw [hul]; omega, hp⟩, by show (upD l).length < l.length; rw [upD_length]; omega⟩
  · have c3 : ¬ (1 : Int) < (l.length : Nat) := by omega
    rw [pathD_end l i (by omega), List.append_nil] at hp
    subst hp
    simp [c3, h1]
    refine post_end (.inr rfl) ?_
    simp

theorem checkP_out (root leaf : Dg) (at_ count : Int) (path : List Dg) (h : at_ < 0 ∨ count ≤ at_) : Meets Tryd.prog Gt fn_tree_Check [dv root, dv leaf, .v (.int .i64 at_), .v (.int .i64 count), .sl 32 (Dgs path)] [] true (.v (.bool false)) [] := by
  refine meets_of_go mix k_tree_Check ⟨by simp, by simp, by simp⟩ ?_
  by_cases c1 : at_ < 0
  · simp [c1]
    refine post_end (.inr rfl) ?_
    simp
  · have c2 : count ≤ at_ := by omega
    simp [c1, c2]
    refine post_end (.inr rfl) ?_
    simp

theorem checkP_meets (root leaf : Dg) (at_ count : Nat) (path : List Dg) (h : at_ < count) (hc : count < 9223372036854775808) :
    Meets Tryd.prog Gt fn_tree_Check [dv root, dv leaf, .v (.int .i64 (at_ : Nat)), .v (.int .i64 (count : Nat)), .sl 32 (Dgs path)] [] true (.v (.bool (checkD root leaf at_ count path))) [] := by
  refine meets_of_go mix k_tree_Check ⟨by simp, by simp, by simp⟩ ?_
  have c0 : ¬ (at_ : Int) < 0 := by omega
  have c1 : ¬ (count : Int) ≤ (at_ : Nat) := by omega
  have c2 : ¬ count ≤ at_ := by omega
  simp [c0, c1, c2]
  refine go_wh (fun a : Dg × Nat × Nat × List Dg => a.2.2.1) (fun a => a.2.1 < a.2.2.1 ∧ a.2.2.1 < 9223372036854775808 ∧ checkD root a.1 a.2.1 a.2.2.1 a.2.2.2 = checkD root leaf at_ count path)
    (fun a c => ⟨[(2, .v (.int .i64 (a.2.1 : Nat))), (3, .v (.int .i64 (a.2.2.1 : Nat))), (4, .sl 32 (Dgs a.2.2.2)), (5, .ptr 5 c 0), (6, .ptr 6 c 0)], [(5, .var c (dv root)), (6, .var c (dv a.1))], c + 1⟩) (leaf, at_, count, path) _ (Weak.re (by simp)) ⟨h, hc, rfl⟩ ?_
  rintro ⟨lf, i, n, p⟩ c ⟨hi, hn, hr⟩
  simp only at hi hn hr
  rw [← hr]
  by_cases h1 : 1 < n
  · have c3 : (1 : Int) < (n : Nat) := by omega
    have hx := xor_sib i (by omega)
    have hd : Int.tdiv (i : Int) 2 = ((i / 2 : Nat) : Int) := by rw [Int.tdiv_eq_ediv_of_nonneg (by omega)]; omega
    have hw : IntKind.i64.wrap ((i : Int) / 2) = (i : Int) / 2 := w64_id (by omega)
    have hw1 : IntKind.i64.wrap ((n : Int) - 1) = ((n - 1 : Nat) : Int) := by rw [w64_id (by omega)]; omega
    have hd2 : Int.tdiv ((n - 1 : Nat) : Int) 2 = (((n - 1) / 2 : Nat) : Int) := by rw [Int.tdiv_eq_ediv_of_nonneg (by omega)]; omega
    have hw2 : IntKind.i64.wrap (((n - 1) / 2 : Nat) : Int) = (((n - 1) / 2 : Nat) : Int) := w64_id (by omega)
    have hw3 : IntKind.i64.wrap ((((n - 1) / 2 : Nat) : Int) + 1) = (((n + 1) / 2 : Nat) : Int) := by rw [w64_id (by omega)]; omega
    obtain ⟨s, hs⟩ : ∃ s, sib i = s := ⟨_, rfl⟩
    rw [hs] at hx
    obtain ⟨n1, hn1⟩ : ∃ n1, n - 1 = n1 := ⟨_, rfl⟩
    rw [hn1] at hw1 hd2 hw2 hw3
    obtain ⟨n2, hn2⟩ : ∃ n2, n1 / 2 = n2 := ⟨_, rfl⟩
    rw [hn2] at hd2 hw2 hw3
    by_cases h2 : n ≤ s
    · have c4 : (n : Int) ≤ (s : Nat) := by omega
      have hu := checkD_up root lf i n p h1 (by omega)
      simp [c3, h1, hx, h2, c4, hd, hw, hw1, hd2, hw2, hw3]
      exact ⟨(lf, i / 2, (n + 1) / 2, p), _, Weak.re (by simp), ⟨by show i / 2 < (n + 1) / 2; omega, by show (n + 1) / 2 < _; omega, by dsimp only; rw [← hu, hr]⟩, by show (n + 1) / 2 < n; omega⟩
    · have c4 : ¬ (n : Int) ≤ (s : Nat) := by omega
      cases p with
      | nil =>
        have hu := checkD_none root lf i n h1 (by omega)
        simp [c3, h1, hx, h2, c4]
        refine post_end (.inr rfl) ?_
        simp [hu]
      | cons q ps =>
        have hu := checkD_pair root lf i n q ps h1 (by omega)
        have hn0 : ¬ ((ps.length : Int) + 1 = 0) := by omega
        have hn3 : (0 : Int) < (ps.length : Int) + 1 := by omega
        have hn4 : (1 : Int) ≤ (ps.length : Int) + 1 := by omega
        have hDg : Dgs (q :: ps) = dv q :: Dgs ps := rfl
        by_cases h3 : i % 2 = 1
        · have h4 : s < i := by rw [← hs]; unfold sib; rw [if_pos h3]; omega
          have c5 : (s : Int) < (i : Nat) := by omega
          rw [if_pos h3] at hu
          simp [c3, h1, hx, h2, c4, hn0, hn3, c5, h4, hDg]
          refine call_intro (pair1_meets q lf) ?_ ?_
          · simp
          simp [hd, hw, hw1, hd2, hw2, hw3, hn4]
          exact ⟨(pairD q lf, i / 2, (n + 1) / 2, ps), _, Weak.re (by simp), ⟨by show i / 2 < (n + 1) / 2; omega, by show (n + 1) / 2 < _; omega, by dsimp only; rw [← hu, hr]⟩, by show (n + 1) / 2 < n; omega⟩
        · have h4 : ¬ s < i := by rw [← hs]; unfold sib; rw [if_neg h3]; omega
          have c5 : ¬ (s : Int) < (i : Nat) := by omega
          rw [if_neg h3] at hu
          simp [c3, h1, hx, h2, c4, hn0, hn3, c5, h4, hDg]
          refine call_intro (pair1_meets lf q) ?_ ?_
          · simp
          simp [hd, hw, hw1, hd2, hw2, hw3, hn4]
          exact ⟨(pairD lf q, i / 2, (n + 1) / 2, ps), _, Weak.re (by simp), ⟨by show i / 2 < (n + 1) / 2; omega, by show (n + 1) / 2 < _; omega, by dsimp only; rw [← hu, hr]⟩, by show (n + 1) / 2 < n; omega⟩
  · have c3 : ¬ (1 : Int) < (n : Nat) := by omega
    have hu := checkD_end root lf i n p (by omega)
    rw [hu]
    by_cases h5 : p = []
    · subst h5
      simp [c3, h1]
      refine post_end (.inr rfl) ?_
      simp
    · have h6 : ¬ p.length = 0 := by intro e; exact h5 (List.eq_nil_of_length_eq_zero e)
      have h7 : ¬ ((p.length : Int) = 0) := by omega
      simp [c3, h1, h6, h7, h5]
      refine post_end (.inr rfl) ?_
      simp
end Go.Proofs.YtphggannefpleaaDoor.WL

end
section
/-
  CHAPTER 05: contracts of the program: trees.
-/
namespace Go.Proofs.YtphggannefpleaaDoor.WL
open Go
set_option maxHeartbeats 4000000
attribute [local irreducible] comp hb sha leafD pairD secD shutD wholeD pubD ofD

theorem kleaf_meets (p : Dg) : Meets Tryd.prog Gt fn_keys_leaf [dv p] [] true (dv (leafK p)) [] := by
  refine meets_of_go mix k_keys_leaf ⟨by simp, by simp, by simp⟩ ?_
  have h := leaf_meets p.bs (by simp)
  unfold leafK
  generalize leafD p.bs = y at *
  simp
  refine call_intro h ?_ ?_
  · simp
  simp
  refine post_end (.inr rfl) ?_
  simp

def trM1 (seed : Dg) (h : Int) (ls : List Dg) : List (Nat × Loc) := [(1000, .var 1 (.node [dv seed, .v (.int .i64 h), .row 2000 32 1 0 ls.length])), (2000, .rows 1 32 (Dgs ls))]

theorem knew_bad (seed : Dg) (h : Int) (hh : h < 0 ∨ 6 < h) : Meets Tryd.prog Gt fn_keys_New [dv seed, .v (.int .i64 h)] [] true (.tup [.v (.pointer none), .v (.int .i64 1)]) [] := by
  refine meets_of_go mix k_keys_New ⟨by simp, by simp, by simp⟩ ?_
  by_cases c1 : h < 0
  · simp [c1]
    refine post_end (.inr rfl) ?_
    simp
  · have c2 : 6 < h := by omega
    simp [c1, c2]
    refine post_end (.inr rfl) ?_
    simp

theorem knew_meets (seed : Dg) (h : Nat) (hh : h ≤ 6) (N : Nat) (hN : N = 32) :
    Meets Tryd.prog Gt fn_keys_New [dv seed, .v (.int .i64 (h : Nat))] [] true (.tup [.ptr 1000 1 0, .v (.int .i64 0)]) (trM1 seed h (leavesD seed N (2 ^ h))) := by
  refine meets_of_go mix k_keys_New ⟨by simp [trM1], by simp [trM1], by simp [trM1]⟩ ?_
  have c1 : ¬ (h : Int) < 0 := by omega
  have c2 : ¬ (6 : Int) < (h : Nat) := by omega
  have c3 : ¬ 6 < h := by omega
  have hmin : min h 64 = h := by omega
  obtain ⟨q, hq⟩ : ∃ q : Nat, q = 2 ^ h := ⟨_, rfl⟩
  have hq64 : q ≤ 64 := by rw [hq]; exact Nat.le_trans (Nat.pow_le_pow_right (by omega) hh) (by decide)
  have hqi : ((2 : Int) ^ h) = (q : Int) := by rw [hq]; simp
  have w1 : IntKind.i64.wrap (q : Int) = (q : Int) := w64_id (by omega)
  rw [← hq]
  simp [c1, c2, c3, hmin, hqi, w1]
  refine go_up q (fun j (x : List Dg) => x = leavesD seed N j) (fun j x c => ⟨[(2, .ptr 2 c 0), (6, .ptr 17 c 0), (19, .v (.int .i64 (q : Nat))), (20, .v (.int .i64 (j : Nat)))],
    [(2, .var c (dv seed)), (17, .var c (.node [dv seed, .v (.int .i64 (h : Nat)), .row 33 32 c 0 x.length])), (33, .rows c 32 (Dgs x))], c + 1⟩) [] _ (Weak.re (by simp)) rfl ?_ ?_
  · intro j x c hj hx
    have hw : IntKind.i64.wrap ((j : Int) + 1) = ((j + 1 : Nat) : Int) := w64_succ (by omega)
    have hxl : x.length = j := by rw [hx]; simp
    have f1 : fitsB (j + 1) 32 := fits (by omega) (by omega)
    have m1 := public_meets seed (j : Int) (by omega) N hN
    have m2 := kleaf_meets (pubD seed (j : Int) N)
    have hnx : x ++ [leafK (pubD seed (j : Int) N)] = leavesD seed N (j + 1) := by rw [hx]; rfl
    generalize pubD seed (j : Int) N = p at *
    generalize leafK p = k at *
    simp [hj]
    refine call_intro m1 ?_ ?_
    · simp
    simp
    refine call_intro m2 ?_ ?_
    · simp
    simp [f1, hxl, hw, Dgs_snoc]
    exact ⟨x ++ [k], _, Weak.re (by simp [hxl]), hnx⟩
  · intro x c hx
    have hxl : x.length = q := by rw [hx]; simp
    rw [← hx]
    simp
    refine post_end (.inr rfl) ?_
    simp [trM1, hxl]

theorem kcheck_meets (root : Dg) (h : Int) (d : Dg) (s : Sig) (hh : -9223372036854775808 ≤ h ∧ h < 9223372036854775808) (hl : -9223372036854775808 ≤ s.leaf ∧ s.leaf < 9223372036854775808) :
    Meets Tryd.prog Gt fn_keys_Check [.node [dv root, .v (.int .i64 h)], dv d, s.avS] [] true (.v (.bool (checkK root h d s))) [] := by
  refine meets_of_go mix k_keys_Check ⟨by simp, by simp, by simp⟩ ?_
  unfold checkK
  by_cases h1 : s.op.length = 32 ∧ s.sh.length = 32
  · have m1 := of4_meets d s.op s.sh 32 rfl h1.1 h1.2
    generalize ofD d s.op s.sh 32 = y at *
    have m2 := kleaf_meets y
    generalize leafK y = z at *
    by_cases h2 : 0 ≤ h
    · by_cases h3 : h ≤ 6
      · obtain ⟨n, rfl⟩ : ∃ n : Nat, h = n := ⟨h.toNat, by omega⟩
        have hmin : min n 64 = n := by omega
        obtain ⟨q, hq⟩ : ∃ q : Nat, q = 2 ^ n := ⟨_, rfl⟩
        have hq64 : q ≤ 64 := by rw [hq]; exact Nat.le_trans (Nat.pow_le_pow_right (by omega) (show n ≤ 6 by omega)) (by decide)
        have hqi : ((2 : Int) ^ n) = (q : Int) := by rw [hq]; simp
        have w1 : IntKind.i64.wrap (q : Int) = (q : Int) := w64_id (by omega)
        have hn6 : (n : Int) ≤ 6 := h3
        rw [Int.toNat_natCast, ← hq]
        by_cases h4 : 0 ≤ s.leaf ∧ s.leaf < (q : Nat)
        · obtain ⟨i, hi⟩ : ∃ i : Nat, s.leaf = i := ⟨s.leaf.toNat, by omega⟩
          rw [hi] at h4
          have m3 := checkP_meets root z i q s.path (by omega) (by omega)
          rw [hi, Int.toNat_natCast]
          generalize checkD root z i q s.path = e at *
          simp [Sig.avS]
          refine call_intro m1 ?_ ?_
          · simp
          simp [h2, h3, hn6]
          refine call_intro m2 ?_ ?_
          · simp
          simp [hmin, hqi, w1, hi]
          refine call_intro m3 ?_ ?_
          · simp
          simp
          refine post_end (.inr rfl) ?_
          have h5 : i < q := by omega
          simp [h1, h5]
        · have m3 := checkP_out root z s.leaf (q : Int) s.path (by omega)
          simp [Sig.avS]
          refine call_intro m1 ?_ ?_
          · simp
          simp [h2, h3, hn6]
          refine call_intro m2 ?_ ?_
          · simp
          simp [hmin, hqi, w1]
          refine call_intro m3 ?_ ?_
          · simp
          simp
          refine post_end (.inr rfl) ?_
          simp [h4]
      · simp [Sig.avS]
        refine call_intro m1 ?_ ?_
        · simp
        simp [h2, h3]
        refine post_end (.inr rfl) ?_
        simp [h3]
    · simp [Sig.avS]
      refine call_intro m1 ?_ ?_
      · simp
      simp [h2]
      refine post_end (.inr rfl) ?_
      simp [h2]
  · have m1 := of4_bad d s.op s.sh h1
    simp [Sig.avS]
    refine call_intro m1 ?_ ?_
    · simp
    simp
    refine post_end (.inr rfl) ?_
    simp [h1]
end Go.Proofs.YtphggannefpleaaDoor.WL

end
section
/-
  CHAPTER 06: trees that stay as they are.
-/
namespace Go.Proofs.YtphggannefpleaaDoor.WL
open Go
set_option maxHeartbeats 4000000
attribute [local irreducible] comp hb sha leafD pairD secD shutD wholeD pubD ofD

/-- A tree as a value. -/
def trA (seed : Dg) (h : Nat) (ls : List Dg) : AV := .node [dv seed, .v (.int .i64 (h : Nat)), .sl 32 (Dgs ls)]
@[simp] theorem trA_closed (seed : Dg) (h : Nat) (ls : List Dg) : closed (trA seed h ls) = true := by simp [trA]

theorem knewI_meets (seed : Dg) (h : Nat) (hh : h ≤ 6) :
    Meets Tryd.prog Gt fn_keys_New [dv seed, .v (.int .i64 (h : Nat))] [] false (.tup [.iptr (trA seed h (leavesD seed 32 (2 ^ h))), .v (.int .i64 0)]) [] := by
  have h1 := knew_meets seed h hh 32 rfl
  generalize leavesD seed 32 (2 ^ h) = ls at *
  have htl : List.take ls.length ls = ls := List.take_of_length_le (by omega)
  exact h1.freeze ⟨by simp, by simp, by simp⟩ (by simp [trM1, trA, htl])

theorem kkeyI_meets (seed : Dg) (h : Nat) (ls : List Dg) (hl : ls.length ≤ 1000000) : Meets Tryd.prog Gt fn_keys_Tree_Key [.iptr (trA seed h ls)] [] true (.node [dv (rootD ls), .v (.int .i64 (h : Nat))]) [] := by
  refine meets_of_go mix k_keys_Tree_Key ⟨by simp, by simp, by simp⟩ ?_
  have m1 := root_meets ls hl
  generalize rootD ls = y at *
  simp [trA]
  refine call_intro m1 ?_ ?_
  · simp
  simp
  refine post_end (.inr rfl) ?_
  simp

theorem ksignI_meets (seed : Dg) (h : Nat) (ls : List Dg) (n : Nat) (d : Dg) (hn : n < ls.length) (hl : ls.length ≤ 1000000) (N : Nat) (hN : N = 32) :
    Meets Tryd.prog Gt fn_keys_Tree_Sign [.iptr (trA seed h ls), .v (.int .i64 (n : Nat)), dv d] [] true (.tup [Sig.avR 3000 4000 5000 1 (signK seed ls n d N), .v (.int .i64 0)]) (Sig.rows 3000 4000 5000 1 (signK seed ls n d N)) := by
  refine meets_of_go mix k_keys_Tree_Sign ⟨by simp [Sig.rows], by simp [Sig.rows, Sig.avR], by simp [Sig.rows]⟩ ?_
  have m1 := pathP_meets ls n hn hl
  have m2 := sign_meets seed (n : Int) d (by omega) N hN
  have ho := openL_length seed (n : Int) d N
  have hs := shutL_length seed (n : Int) d N
  unfold signK
  generalize openL seed (n : Int) d N = o at *
  generalize shutL seed (n : Int) d N = s at *
  generalize pathD ls n = p at *
  simp [trA]
  refine call_intro m1 ?_ ?_
  · simp
  simp
  refine call_intro m2 ?_ ?_
  · simp
  simp
  refine post_end (.inr rfl) ?_
  simp [Sig.avR, Sig.rows, ho, hs]
theorem ksignV_meets (seed : Dg) (h : Nat) (ls : List Dg) (n : Nat) (d : Dg) (hn : n < ls.length) (hl : ls.length ≤ 1000000) :
    Meets Tryd.prog Gt fn_keys_Tree_Sign [.iptr (trA seed h ls), .v (.int .i64 (n : Nat)), dv d] [] false (.tup [(signK seed ls n d 32).avS, .v (.int .i64 0)]) [] := by
  have h1 := ksignI_meets seed h ls n d hn hl 32 rfl
  generalize signK seed ls n d 32 = s at *
  exact h1.freeze ⟨by simp, by simp [Sig.avS], by simp⟩ (by simp [Sig.avS, Sig.avR, Sig.rows])
end Go.Proofs.YtphggannefpleaaDoor.WL

end
section
/-
  CHAPTER 01: contracts of the reader.
-/
namespace Go.Proofs.YtphggannefpleaaDoor.WL
open Go
set_option maxHeartbeats 4000000

/-- Where the bytes lie that were taken. -/
def Rd.at_ (r : Rd) (k : Int) : Nat := if r.ok k = true then r.pre.length else 0
end Go.Proofs.YtphggannefpleaaDoor.WL

end
section
/-
  CHAPTER 05: contracts of the reference.
-/
namespace Go.Proofs.YtphggannefpleaaDoor.WL
open Go
set_option maxHeartbeats 4000000
attribute [local irreducible] comp hb sha leafD pairD secD shutD wholeD pubD ofD

def Sig.same (a b : Sig) : Bool := decide (a.leaf = b.leaf) && (decide (a.op = b.op) && decide (a.sh = b.sh)) && decide (a.path = b.path)
end Go.Proofs.YtphggannefpleaaDoor.WL

end
section
/-
  CHAPTER 05: walks of laws.
-/
namespace Go.Proofs.YtphggannefpleaaDoor.WL
open Go
set_option maxHeartbeats 4000000
attribute [local irreducible] comp hb sha leafD pairD secD shutD wholeD pubD ofD

def Dg.one (b : UInt8) : Dg := ⟨b :: zeros 31, by simp⟩
theorem one_set (b : UInt8) : AV.arr 1 ((B (zeros 32)).set 0 (bv b)) = dv (Dg.one b) := (rfl)
theorem bv1 : AV.v (.int .u8 1) = bv 1 := (rfl)
attribute [local irreducible] Dg.one

end Go.Proofs.YtphggannefpleaaDoor.WL

end
section
/-
  CHAPTER 05: walks of laws: signing, keeping.
-/
namespace Go.Proofs.YtphggannefpleaaDoor.WL
open Go
set_option maxHeartbeats 4000000
attribute [local irreducible] comp hb sha leafD pairD secD shutD wholeD pubD ofD

theorem cmp_key (r r' : Dg) (h h' : Int) : cmpA (.st [.ints .u8 32, .int .i64]) (.node [dv r, .v (.int .i64 h)]) (.node [dv r', .v (.int .i64 h')]) = some (decide (r = r' ∧ h = h')) := by
  have e : (natsOf r.bs == natsOf r'.bs) = decide (r = r') := by
    rw [Bool.eq_iff_iff, beq_iff_eq, decide_eq_true_eq]
    exact ⟨fun h => Dg.ext' (toNats_inj.1 h), fun h => by rw [h]⟩
  have la : (natsOf r.bs).length = 32 := by simp [natsOf]
  have lb : (natsOf r'.bs).length = 32 := by simp [natsOf]
  have e2 : (h == h') = decide (h = h') := by rw [Bool.eq_iff_iff]; simp
  simp [cmpA, cmpL, la, lb, e, e2]

end Go.Proofs.YtphggannefpleaaDoor.WL

end
