/-
  CHAPTER 04: contracts of the program: signing, checking.
-/
import Derived.Test.YtmkkfccnacodoaaDoorS04a
namespace Go.Proofs.YtmkkfccnacodoaaDoor.WL
open Go
set_option maxHeartbeats 4000000
attribute [local irreducible] comp hb sha leafD pairD secD shutD wholeD pubD ofD

theorem and_one (n : Nat) (h : n < 4294967296) : bitsOp .and .i64 (n : Int) 1 = ((n % 2 : Nat) : Int) := by
  simp only [bitsOp, BitVec.toNat_and, BitVec.toNat_ofInt]
  have e1 : ((n : Int) % ((2 ^ IntKind.i64.bits : Nat) : Int)).toNat = n := by
    rw [← Int.natCast_emod, Int.toNat_natCast, Nat.mod_eq_of_lt (by simp only [IntKind.bits]; omega)]
  have e2 : ((1 : Int) % ((2 ^ IntKind.i64.bits : Nat) : Int)).toNat = 1 := by decide
  rw [e1, e2, Nat.and_one_is_mod, IntKind.wrap_i64]
  omega
theorem tdivN (j k : Nat) : Int.tdiv (j : Int) (k : Int) = ((j / k : Nat) : Int) := by
  rw [Int.tdiv_eq_ediv_of_nonneg (by omega)]
  exact (Int.natCast_ediv j k).symm
theorem tmodN (j k : Nat) : Int.tmod (j : Int) (k : Int) = ((j % k : Nat) : Int) := by
  rw [Int.tmod_eq_emod_of_nonneg (by omega)]
  exact (Int.natCast_emod j k).symm

theorem bit_meets {G : Nat → Option AV} (d : Dg) (i : Nat) (hi : i < 256) : Meets Tryd.prog G fn_once_bit [dv d, .v (.int .i64 (i : Nat))] [] true (.v (.int .i64 (bitD d i : Nat))) [] := by
  refine meets_of_go mix k_once_bit ⟨by simp, by simp, by simp⟩ ?_
  obtain ⟨q, hq⟩ : ∃ q : Nat, i / 8 = q := ⟨_, rfl⟩
  obtain ⟨r, hr⟩ : ∃ r : Nat, i % 8 = r := ⟨_, rfl⟩
  have d1 : Int.tdiv (i : Int) 8 = (q : Int) := by have := tdivN i 8; rw [hq] at this; exact this
  have d2 : Int.tmod (i : Int) 8 = (r : Int) := by have := tmodN i 8; rw [hr] at this; exact this
  have w0 : IntKind.i64.wrap (q : Int) = (q : Int) := w64_id (by omega)
  have hq32 : q < 32 := by omega
  have hq32i : (q : Int) < 32 := by omega
  have hql : q < d.bs.length := by rw [Dg.length]; omega
  obtain ⟨s, hs⟩ : ∃ s : Nat, 7 - r = s := ⟨_, rfl⟩
  have w1 : IntKind.i64.wrap (7 - (r : Int)) = (s : Int) := by rw [w64_id (by omega)]; omega
  obtain ⟨b, hb⟩ : ∃ b, d.bs[q] = b := ⟨_, rfl⟩
  have hbn := b.toNat_lt
  have hmin : min s 8 = s := by omega
  obtain ⟨v, hv⟩ : ∃ v : Nat, b.toNat / 2 ^ s = v := ⟨_, rfl⟩
  have hvl : v ≤ b.toNat := by rw [← hv]; exact Nat.div_le_self _ _
  have hfd : Int.fdiv (b.toNat : Int) (2 ^ s) = (v : Int) := by
    rw [Int.fdiv_eq_ediv_of_nonneg _ (by exact Int.le_of_lt (Int.pow_pos (by decide))), ← hv, Int.natCast_ediv]
    simp
  have hfd2 : (b.toNat : Int) / (2 ^ s) = (v : Int) := by
    rw [← hv, Int.natCast_ediv]
    simp
  have w2 : IntKind.i64.wrap (v : Int) = (v : Int) := w64_id (by omega)
  have ha := and_one v (by omega)
  have hbit : v % 2 = bitD d i := by
    unfold bitD
    rw [hq, hr, hs, List.getD_eq_getElem?_getD, List.getElem?_eq_getElem hql, Option.getD_some, hb, hv]
  rw [hbit] at ha
  have hget : d.bs[q]? = some b := by rw [List.getElem?_eq_getElem hql, hb]
  simp [d1, d2, w0, hq32, hq32i, w1, hget, hb, hmin, hfd, hfd2, w2, ha]
  refine post_end (.inr rfl) ?_
  simp

/-- What Sign has under way. -/
abbrev SgA := List Dg × List Dg

theorem sign_meets (seed : Dg) (leaf : Int) (d : Dg) (hl : -9223372036854775808 ≤ leaf ∧ leaf < 9223372036854775808) (N : Nat) (hN : N = 32) :
    Meets Tryd.prog Gt fn_once_Sign [dv seed, .v (.int .i64 leaf), dv d] [] true (.node [.row 1000 32 1 0 N, .row 2000 32 1 0 N]) [(1000, .rows 1 32 (Dgs (openL seed leaf d N))), (2000, .rows 1 32 (Dgs (shutL seed leaf d N)))] := by
  refine meets_of_go mix k_once_Sign ⟨by simp, by simp, by simp⟩ ?_
  simp
  refine go_up N (fun j (x : SgA) => x.1 = openL seed leaf d j ∧ x.2 = shutL seed leaf d j) (fun j x c => ⟨[(1, .v (.int .i64 leaf)), (3, .ptr 3 c 0), (5, .ptr 5 c 0), (6, .ptr 6 c 0), (7, .ptr 7 c 0), (10, .v (.int .i64 (j : Nat)))],
    [(3, .var c (dv seed)), (5, .var c (dv d)), (6, .var c (.node [.v (.slice none 0 0), .v (.slice none 0 0)])), (7, .var c (.node [.row 24 32 c 0 x.1.length, .row 36 32 c 0 x.2.length])), (24, .rows c 32 (Dgs x.1)), (36, .rows c 32 (Dgs x.2))], c + 1⟩) ([], []) _ (Weak.re (by simp)) ⟨rfl, rfl⟩ ?_ ?_
  · rintro j ⟨xo, xs⟩ c hj ⟨hxo, hxs⟩
    simp only at hxo hxs
    have hw : IntKind.i64.wrap ((j : Int) + 1) = ((j + 1 : Nat) : Int) := w64_succ (by omega)
    have hj8 : (j : Int) < 32 := by omega
    have hol : xo.length = j := by rw [hxo]; simp
    have hsl : xs.length = j := by rw [hxs]; simp
    have f1 : fitsB (j + 1) 32 := fits (by omega) (by omega)
    have hbt := bit_meets (G := Gt) d j (by omega)
    have hle := bitD_le d j
    have hno : xo ++ [secD seed leaf j (bitD d j)] = openL seed leaf d (j + 1) := by rw [hxo]; rfl
    have hns : xs ++ [shutD (secD seed leaf j (1 - bitD d j))] = shutL seed leaf d (j + 1) := by rw [hxs]; rfl
    generalize bitD d j = b at *
    have s0 := secret_meets seed leaf j b hl (by omega) (by omega)
    have s1 := secret_meets seed leaf j (1 - b) hl (by omega) (by omega)
    obtain ⟨b1, hb1⟩ : ∃ b1, 1 - b = b1 := ⟨_, rfl⟩
    rw [hb1] at s1 hns
    have w1 : IntKind.i64.wrap (1 - (b : Int)) = (b1 : Int) := by rw [w64_id (by omega)]; omega
    generalize secD seed leaf j b = sa at *
    generalize secD seed leaf j b1 = sb at *
    have t1 := shut_meets sb
    generalize shutD sb = sc at *
    simp [hj8]
    refine call_intro hbt ?_ ?_
    · simp
    simp
    refine call_intro s0 ?_ ?_
    · simp
    simp [f1, hol, Dgs_snoc, w1]
    refine call_intro s1 ?_ ?_
    · simp
    simp
    refine call_intro t1 ?_ ?_
    · simp
    simp [f1, hsl, Dgs_snoc, hw]
    exact ⟨(xo ++ [sa], xs ++ [sc]), _, Weak.re (by simp [hol, hsl]), hno, hns⟩
  · rintro ⟨xo, xs⟩ c ⟨hxo, hxs⟩
    simp only at hxo hxs
    have hol : xo.length = N := by rw [hxo]; simp
    have hsl : xs.length = N := by rw [hxs]; simp
    rw [← hxo, ← hxs]
    subst hN
    simp
    refine post_end (.inr rfl) ?_
    simp [hol, hsl]

theorem of4_bad (d : Dg) (o s : List Dg) (h : ¬ (o.length = 32 ∧ s.length = 32)) : Meets Tryd.prog Gt fn_once_Of [dv d, .node [.sl 32 (Dgs o), .sl 32 (Dgs s)]] [] true (.tup [dv Dg.zero, .v (.bool false)]) [] := by
  refine meets_of_go mix k_once_Of ⟨by simp, by simp, by simp⟩ ?_
  by_cases h1 : o.length = 32
  · have h2 : ¬ s.length = 32 := fun e => h ⟨h1, e⟩
    have h3 : ¬ (s.length : Int) = 32 := by omega
    simp [h1, h2, h3]
    refine post_end (.inr rfl) ?_
    simp
  · have h3 : ¬ (o.length : Int) = 32 := by omega
    simp [h1, h3]
    refine post_end (.inr rfl) ?_
    simp

theorem of4_meets (d : Dg) (o s : List Dg) (N : Nat) (hN : N = 32) (ho : o.length = N) (hs : s.length = N) : Meets Tryd.prog Gt fn_once_Of [dv d, .node [.sl 32 (Dgs o), .sl 32 (Dgs s)]] [] true (.tup [dv (ofD d o s N), .v (.bool true)]) [] := by
  refine meets_of_go mix k_once_Of ⟨by simp, by simp, by simp⟩ ?_
  have hoi : (o.length : Int) = 32 := by omega
  have hsi : (s.length : Int) = 32 := by omega
  have ho32 : o.length = 32 := by omega
  have hs32 : s.length = 32 := by omega
  simp [ho32, hs32]
  refine go_up N (fun j (x : List Dg) => x = ofL d o s j) (fun j x c => ⟨[(2, .ptr 2 c 0), (3, .ptr 3 c 0), (4, .ptr 4 c 0), (6, .row 6 32 c 0 x.length), (21, .v (.int .i64 (j : Nat)))],
    [(2, .var c (dv d)), (3, .var c (.node [.sl 32 (Dgs o), .sl 32 (Dgs s)])), (4, .var c (dv Dg.zero)), (6, .rows c 32 (Dgs x))], c + 1⟩) [] _ (Weak.re (by simp)) rfl ?_ ?_
  · intro j x c hj hx
    have hw : IntKind.i64.wrap ((j : Int) + 1) = ((j + 1 : Nat) : Int) := w64_succ (by omega)
    have hj8 : (j : Int) < 32 := by omega
    have hxl : x.length = 2 * j := by rw [hx, ofL_length]
    have f1 : fitsB (x.length + 2) 32 := fits (by omega) (by omega)
    have hbt := bit_meets (G := Gt) d j (by omega)
    have hle := bitD_le d j
    have hjo : j < o.length := by omega
    have hjs : j < s.length := by omega
    have hnx : x ++ two (bitD d j) (shutD o[j]) s[j] = ofL d o s (j + 1) := by
      have e1 : o.getD j Dg.zero = o[j] := by rw [List.getD_eq_getElem?_getD, List.getElem?_eq_getElem hjo]; rfl
      have e2 : s.getD j Dg.zero = s[j] := by rw [List.getD_eq_getElem?_getD, List.getElem?_eq_getElem hjs]; rfl
      rw [hx, ← e1, ← e2]
      rfl
    generalize bitD d j = b at *
    have t1 := shut_meets o[j]
    generalize shutD o[j] = a at *
    obtain ⟨z, hz⟩ : ∃ z, s[j] = z := ⟨_, rfl⟩
    rw [hz] at hnx
    rcases hle with rfl | rfl
    · rw [two, if_pos rfl] at hnx
      have w1 : IntKind.i64.wrap (1 - 0) = 1 := by decide
      have w2 : IntKind.i64.wrap 1 = 1 := by decide
      simp [hj8, hjo, hjs, hz]
      refine call_intro t1 ?_ ?_
      · simp
      simp [hjo, hjs, hz]
      refine call_intro hbt ?_ ?_
      · simp
      simp [f1, hw, w2, Dgs_snoc2]
      exact ⟨x ++ [a, z], _, Weak.re (by simp), hnx⟩
    · rw [two, if_neg (by omega)] at hnx
      have w1 : IntKind.i64.wrap 0 = 0 := by decide
      simp [hj8, hjo, hjs, hz]
      refine call_intro t1 ?_ ?_
      · simp
      simp [hjo, hjs, hz]
      refine call_intro hbt ?_ ?_
      · simp
      simp [f1, hw, w1, Dgs_snoc2]
      exact ⟨x ++ [z, a], _, Weak.re (by simp), hnx⟩
  · intro x c hx
    have hxl : x.length = 2 * N := by rw [hx, ofL_length]
    have hwh := whole_meets x (by omega)
    have hp : wholeD x = ofD d o s N := by rw [hx]; unfold ofD; rfl
    rw [hp] at hwh
    generalize ofD d o s N = y at *
    subst hN
    have htx : List.take x.length x = x := List.take_of_length_le (by omega)
    simp
    refine call_intro hwh ?_ ?_
    · simp [htx]
    simp [htx]
    refine post_end (.inr rfl) ?_
    simp

/-- Whether a signature is right. -/
def checkO (p d : Dg) (o s : List Dg) : Bool := decide (o.length = 32 ∧ s.length = 32) && decide (ofD d o s 32 = p)
theorem check4_meets (p d : Dg) (o s : List Dg) : Meets Tryd.prog Gt fn_once_Check [dv p, dv d, .node [.sl 32 (Dgs o), .sl 32 (Dgs s)]] [] true (.v (.bool (checkO p d o s))) [] := by
  refine meets_of_go mix k_once_Check ⟨by simp, by simp, by simp⟩ ?_
  unfold checkO
  by_cases h : o.length = 32 ∧ s.length = 32
  · have h1 := of4_meets d o s 32 rfl h.1 h.2
    generalize ofD d o s 32 = y at *
    simp
    refine call_intro h1 ?_ ?_
    · simp
    simp
    refine post_end (.inr rfl) ?_
    simp [h]
  · have h1 := of4_bad d o s h
    generalize ofD d o s 32 = y at *
    simp
    refine call_intro h1 ?_ ?_
    · simp
    simp
    refine post_end (.inr rfl) ?_
    simp [h]
end Go.Proofs.YtmkkfccnacodoaaDoor.WL
