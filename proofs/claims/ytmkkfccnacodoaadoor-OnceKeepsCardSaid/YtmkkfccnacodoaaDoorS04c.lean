/-
  CHAPTER 04: contracts of the reference.
-/
import Derived.Test.YtmkkfccnacodoaaDoorS04b
import Derived.Test.YtmkkfccnacodoaaDoorS03c
namespace Go.Proofs.YtmkkfccnacodoaaDoor.WL
open Go
set_option maxHeartbeats 4000000
attribute [local irreducible] comp hb sha leafD pairD secD shutD wholeD pubD ofD

theorem rsecret_meets (seed : Dg) (leaf : Int) (bit is : Nat) (hl : -9223372036854775808 ≤ leaf ∧ leaf < 9223372036854775808) (hb : bit < 1000) (hi : is < 1000) :
    Meets Tryd.prog Gt fn_r04_Secret [dv seed, .v (.int .i64 leaf), .v (.int .i64 (bit : Nat)), .v (.int .i64 (is : Nat))] [] true (dv (secD seed leaf bit is)) [] := by
  refine meets_of_go mix k_r04_Secret ⟨by simp, by simp, by simp⟩ ?_
  obtain ⟨n, hn⟩ : ∃ n : Nat, n = 2 * bit + is := ⟨_, rfl⟩
  obtain ⟨b2, hb2⟩ : ∃ n : Nat, n = 2 * bit := ⟨_, rfl⟩
  have w1 : IntKind.i64.wrap (2 * (bit : Int)) = (b2 : Int) := by rw [w64_id (by omega)]; omega
  have w2 : IntKind.i64.wrap ((b2 : Int) + (is : Int)) = (n : Int) := by rw [w64_id (by omega)]; omega
  have h1 := rtext02_meets (secB seed leaf (2 * bit + is)) (by rw [secB_len]; omega)
  have e2 : sha (secB seed leaf (2 * bit + is)) = secD seed leaf bit is := by unfold secD; rfl
  have e3 : secB seed leaf (2 * bit + is) = 2 :: (seed.bs ++ (be8 leaf ++ be8 (n : Int))) := by rw [← hn]; rfl
  rw [e2, e3] at h1
  have n1 := rfnum_meets (G := Gt) leaf
  have n2 := rfnum_meets (G := Gt) (n : Int)
  have l1 := be8_length leaf
  have l2 := be8_length (n : Int)
  generalize secD seed leaf bit is = y at *
  generalize be8 leaf = x1 at *
  generalize be8 (n : Int) = x2 at *
  have f1 : fitsS (1 + 32) := fitS (by omega)
  have f2 : fitsS (1 + 32 + 8) := fitS (by omega)
  have f3 : fitsS (1 + 32 + 8 + 8) := fitS (by omega)
  simp
  refine call_intro (rfdigest_meets seed) ?_ ?_
  · simp
  simp [f1]
  refine call_intro n1 ?_ ?_
  · simp
  simp [f2, w1, w2, l1]
  refine call_intro n2 ?_ ?_
  · simp
  simp [f3, l1, l2]
  refine call_intro h1 ?_ ?_
  · simp
  simp
  refine post_end (.inr rfl) ?_
  simp

theorem rshut_meets (s : Dg) : Meets Tryd.prog Gt fn_r04_Shut [dv s] [] true (dv (shutD s)) [] := by
  refine meets_of_go mix k_r04_Shut ⟨by simp, by simp, by simp⟩ ?_
  have h1 := rof_meets (G := Gt) s.bs (by simp)
  have e2 : sha s.bs = shutD s := by unfold shutD; rfl
  rw [e2] at h1
  simp
  refine call_intro h1 ?_ ?_
  · simp
  simp
  refine post_end (.inr rfl) ?_
  simp

theorem rbit_meets {G : Nat → Option AV} (d : Dg) (i : Nat) (hi : i < 256) : Meets Tryd.prog G fn_r04_Bit [dv d, .v (.int .i64 (i : Nat))] [] true (.v (.int .i64 (bitD d i : Nat))) [] := by
  refine meets_of_go mix k_r04_Bit ⟨by simp, by simp, by simp⟩ ?_
  obtain ⟨q, hq⟩ : ∃ q : Nat, i / 8 = q := ⟨_, rfl⟩
  obtain ⟨r, hr⟩ : ∃ r : Nat, i % 8 = r := ⟨_, rfl⟩
  have d1 : Int.tdiv (i : Int) 8 = (q : Int) := by have := tdivN i 8; rw [hq] at this; exact this
  have d2 : Int.tmod (i : Int) 8 = (r : Int) := by have := tmodN i 8; rw [hr] at this; exact this
  have w0 : IntKind.i64.wrap (q : Int) = (q : Int) := w64_id (by omega)
  have hq32 : q < 32 := by omega
  have hq32i : (q : Int) < 32 := by omega
  have hql : q < d.bs.length := by rw [Dg.length]; omega
  obtain ⟨b, hb⟩ : ∃ b, d.bs[q] = b := ⟨_, rfl⟩
  have hbn := b.toNat_lt
  have hget : d.bs[q]? = some b := by rw [List.getElem?_eq_getElem hql, hb]
  have hbit : b.toNat / 2 ^ (7 - r) % 2 = bitD d i := by
    unfold bitD
    rw [hq, hr, List.getD_eq_getElem?_getD, hget, Option.getD_some]
  have wb : IntKind.i64.wrap (b.toNat : Int) = (b.toNat : Int) := w64_id (by omega)
  simp [d1, d2, w0, hq32, hq32i, hget, hb, wb]
  obtain ⟨f, hf⟩ : ∃ f : Nat → Nat, ∀ j, f j = b.toNat / 2 ^ j := ⟨_, fun _ => rfl⟩
  obtain ⟨g, hg⟩ : ∃ g : Nat → Nat, ∀ j, g j = r + j := ⟨_, fun _ => rfl⟩
  have hf0 : f 0 = b.toNat := by rw [hf]; simp
  have hg0 : g 0 = r := by rw [hg]; rfl
  refine go_up (7 - r) (fun j (_ : Unit) => True) (fun j _ c => ⟨[(5, .v (.int .i64 (f j : Nat))), (6, .v (.int .i64 (g j : Nat)))], [], c + 1⟩) () _ (Weak.re (by simp [hf0, hg0])) trivial ?_ ?_
  · intro j _ c hj _
    have hfj := hf j
    have hfj1 := hf (j + 1)
    have hgj := hg j
    have hgj1 := hg (j + 1)
    have hvl : f j ≤ b.toNat := by rw [hfj]; exact Nat.div_le_self _ _
    have e1 : f (j + 1) = f j / 2 := by rw [hfj1, Nat.pow_succ, ← Nat.div_div_eq_div_mul, ← hfj]
    generalize f j = v at *
    obtain ⟨v2, hv2⟩ : ∃ v2, f (j + 1) = v2 := ⟨_, rfl⟩
    obtain ⟨k1, hk1⟩ : ∃ v2, g (j + 1) = v2 := ⟨_, rfl⟩
    rw [hv2] at e1
    rw [hk1] at hgj1
    generalize g j = k at *
    have hk7 : (k : Int) < 7 := by omega
    have hk7n : k < 7 := by omega
    have d3 : Int.tdiv (v : Int) 2 = (v2 : Int) := by rw [tdiv2, e1]
    have w1 : IntKind.i64.wrap (v2 : Int) = (v2 : Int) := w64_id (by omega)
    have w2 : IntKind.i64.wrap ((k : Int) + 1) = (k1 : Int) := by rw [w64_id (by omega)]; omega
    simp [hk7, hk7n, d3, w1, w2]
    exact ⟨(), _, Weak.re (by simp [hv2, hk1]), trivial⟩
  · intro _ c _
    have hfj := hf (7 - r)
    have hgj := hg (7 - r)
    rw [← hfj] at hbit
    generalize f (7 - r) = v at *
    generalize g (7 - r) = k at *
    have hk : k = 7 := by omega
    subst hk
    have hm := tmod2 v
    rw [hbit] at hm
    simp [hm]
    refine post_end (.inr rfl) ?_
    simp

theorem pubL_get (seed : Dg) (leaf : Int) : ∀ (N i : Nat), i < 2 * N → (pubL seed leaf N)[i]? = some (shutD (secD seed leaf (i / 2) (i % 2)))
  | 0, i, h => by omega
  | N + 1, i, h => by
    simp only [pubL]
    by_cases h1 : i < 2 * N
    · rw [List.getElem?_append_left (by rw [pubL_length]; exact h1)]
      exact pubL_get seed leaf N i h1
    · rw [List.getElem?_append_right (by rw [pubL_length]; omega), pubL_length]
      rcases (show i = 2 * N ∨ i = 2 * N + 1 by omega) with rfl | rfl
      · rw [show 2 * N - 2 * N = 0 by omega, show 2 * N / 2 = N by omega, show 2 * N % 2 = 0 by omega]
        rfl
      · rw [show 2 * N + 1 - 2 * N = 1 by omega, show (2 * N + 1) / 2 = N by omega, show (2 * N + 1) % 2 = 1 by omega]
        rfl

theorem rpublic_meets (seed : Dg) (leaf : Int) (hl : -9223372036854775808 ≤ leaf ∧ leaf < 9223372036854775808) (N : Nat) (hN : N = 32) :
    Meets Tryd.prog Gt fn_r04_Public [dv seed, .v (.int .i64 leaf)] [] true (dv (pubD seed leaf N)) [] := by
  refine meets_of_go mix k_r04_Public ⟨by simp, by simp, by simp⟩ ?_
  have hpl := pubL_length seed leaf N
  have hget := pubL_get seed leaf N
  have hp : sha (flatD (pubL seed leaf N)) = pubD seed leaf N := by unfold pubD wholeD; rfl
  have hfl := flatD_length (pubL seed leaf N)
  have htx := rtext02_meets (flatD (pubL seed leaf N)) (by omega)
  rw [hp] at htx
  generalize pubD seed leaf N = y at *
  generalize pubL seed leaf N = l at *
  obtain ⟨M, hM⟩ : ∃ M, M = 64 := ⟨_, rfl⟩
  simp
  refine go_up M (fun j (x : Bytes) => x = flatD (l.take j)) (fun j x c => ⟨[(1, .v (.int .i64 leaf)), (2, .ptr 2 c 0), (4, .ptr 4 c 0), (5, .v (.string (mkS x))), (6, .v (.int .i64 (j : Nat)))],
    [(2, .var c (dv seed)), (4, .var c (dv Dg.zero))], c + 1⟩) [] _ (Weak.re (by simp)) (by simp [flatD]) ?_ ?_
  · intro j x c hj hx
    have hw : IntKind.i64.wrap ((j : Int) + 1) = ((j + 1 : Nat) : Int) := w64_succ (by omega)
    have hj8 : (j : Int) < 64 := by omega
    have hjl : j < l.length := by omega
    have hxl : x.length = 32 * j := by rw [hx, flatD_length, List.length_take]; omega
    have f1 : fitsS (x.length + 32) := fitS (by omega)
    have hs := flatD_snoc l j hjl
    rw [← hx] at hs
    have hg := hget j (by omega)
    rw [List.getElem?_eq_getElem hjl] at hg
    rw [Option.some.inj hg] at hs
    have d1 := tdiv2 j
    have d2 := tmod2 j
    have w1 : IntKind.i64.wrap ((j / 2 : Nat) : Int) = ((j / 2 : Nat) : Int) := w64_id (by omega)
    have s0 := rsecret_meets seed leaf (j / 2) (j % 2) hl (by omega) (by omega)
    generalize secD seed leaf (j / 2) (j % 2) = a at *
    have t0 := rshut_meets a
    generalize shutD a = b at *
    obtain ⟨j2, hj2⟩ : ∃ j2, j / 2 = j2 := ⟨_, rfl⟩
    obtain ⟨jm, hjm⟩ : ∃ j2, j % 2 = j2 := ⟨_, rfl⟩
    rw [hj2] at d1 w1 s0
    rw [hjm] at d2 s0
    simp [hj8, d1, d2, w1]
    refine call_intro s0 ?_ ?_
    · simp
    simp
    refine call_intro t0 ?_ ?_
    · simp
    simp
    refine call_intro (rfdigest_meets b) ?_ ?_
    · simp
    simp [f1, hw]
    exact ⟨x ++ b.bs, _, Weak.re (by simp), hs.symm⟩
  · intro x c hx
    rw [List.take_of_length_le (by omega)] at hx
    rw [← hx] at htx
    subst hM
    simp
    refine call_intro htx ?_ ?_
    · simp
    simp
    refine post_end (.inr rfl) ?_
    simp

theorem rsign_meets (seed : Dg) (leaf : Int) (d : Dg) (hl : -9223372036854775808 ≤ leaf ∧ leaf < 9223372036854775808) (N : Nat) (hN : N = 32) :
    Meets Tryd.prog Gt fn_r04_Sign [dv seed, .v (.int .i64 leaf), dv d] [] true (.node [.row 1000 32 1 0 N, .row 2000 32 1 0 N]) [(1000, .rows 1 32 (Dgs (openL seed leaf d N))), (2000, .rows 1 32 (Dgs (shutL seed leaf d N)))] := by
  refine meets_of_go mix k_r04_Sign ⟨by simp, by simp, by simp⟩ ?_
  simp
  refine go_up N (fun j (x : SgA) => x.1 = openL seed leaf d j ∧ x.2 = shutL seed leaf d j) (fun j x c => ⟨[(1, .v (.int .i64 leaf)), (3, .ptr 3 c 0), (5, .ptr 5 c 0), (6, .ptr 6 c 0), (7, .ptr 7 c 0), (8, .v (.int .i64 (j : Nat)))],
    [(3, .var c (dv seed)), (5, .var c (dv d)), (6, .var c (.node [.v (.slice none 0 0), .v (.slice none 0 0)])), (7, .var c (.node [.row 23 32 c 0 x.1.length, .row 37 32 c 0 x.2.length])), (23, .rows c 32 (Dgs x.1)), (37, .rows c 32 (Dgs x.2))], c + 1⟩) ([], []) _ (Weak.re (by simp)) ⟨rfl, rfl⟩ ?_ ?_
  · rintro j ⟨xo, xs⟩ c hj ⟨hxo, hxs⟩
    simp only at hxo hxs
    have hw : IntKind.i64.wrap ((j : Int) + 1) = ((j + 1 : Nat) : Int) := w64_succ (by omega)
    have hj8 : (j : Int) < 32 := by omega
    have hol : xo.length = j := by rw [hxo]; simp
    have hsl : xs.length = j := by rw [hxs]; simp
    have f1 : fitsB (j + 1) 32 := fits (by omega) (by omega)
    have hbt := rbit_meets (G := Gt) d j (by omega)
    have hle := bitD_le d j
    have hno : xo ++ [secD seed leaf j (bitD d j)] = openL seed leaf d (j + 1) := by rw [hxo]; rfl
    have hns : xs ++ [shutD (secD seed leaf j (1 - bitD d j))] = shutL seed leaf d (j + 1) := by rw [hxs]; rfl
    generalize bitD d j = b at *
    have s0 := rsecret_meets seed leaf j b hl (by omega) (by omega)
    have s1 := rsecret_meets seed leaf j (1 - b) hl (by omega) (by omega)
    obtain ⟨b1, hb1⟩ : ∃ b1, 1 - b = b1 := ⟨_, rfl⟩
    rw [hb1] at s1 hns
    have w1 : IntKind.i64.wrap (1 - (b : Int)) = (b1 : Int) := by rw [w64_id (by omega)]; omega
    generalize secD seed leaf j b = sa at *
    generalize secD seed leaf j b1 = sb at *
    have t1 := rshut_meets sb
    generalize shutD sb = sc at *
    simp [hj8]
    refine call_intro hbt ?_ ?_
    · simp
    simp
    refine call_intro s0 ?_ ?_
    · simp
    simp [f1, hol, Dgs_snoc]
    refine call_intro hbt ?_ ?_
    · simp
    simp [w1]
    refine call_intro s1 ?_ ?_
    · simp
    simp
    refine call_intro t1 ?_ ?_
    · simp
    simp [f1, hsl, Dgs_snoc, hw]
    exact ⟨(xo ++ [sa], xs ++ [sc]), _, Weak.re (by simp [hol, hsl]), hno, hns⟩
  · rintro ⟨xo, xs⟩ c ⟨hxo, hxs⟩
    simp only at hxo hxs
    have hol : xo.length = N := by rw [hxo]; simp
    have hsl : xs.length = N := by rw [hxs]; simp
    rw [← hxo, ← hxs]
    subst hN
    simp
    refine post_end (.inr rfl) ?_
    simp [hol, hsl]

theorem rsame4_meets {G : Nat → Option AV} (a b c d : List Dg) (ha : a.length ≤ 1000000000) (hb : b.length ≤ 1000000000) :
    Meets Tryd.prog G fn_r04_Same [.node [.sl 32 (Dgs a), .sl 32 (Dgs b)], .node [.sl 32 (Dgs c), .sl 32 (Dgs d)]] [] true (.v (.bool (decide (a = c) && decide (b = d)))) [] := by
  refine meets_of_go mix k_r04_Same ⟨by simp, by simp, by simp⟩ ?_
  simp
  refine call_intro (rsame_meets a c ha) ?_ ?_
  · simp
  by_cases h : a = c
  · simp [h]
    refine call_intro (rsame_meets b d hb) ?_ ?_
    · simp
    simp
    refine post_end (.inr rfl) ?_
    simp
  · simp [h]
    refine post_end (.inr rfl) ?_
    simp
end Go.Proofs.YtmkkfccnacodoaaDoor.WL
