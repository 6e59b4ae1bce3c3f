/-
  CHAPTER 02: contracts: the reference's block.
-/
import Derived.Test.YtmdjimkndeklmaaDoorS02b
namespace Go.Proofs.YtmdjimkndeklmaaDoor.WL
open Go
set_option maxHeartbeats 4000000
attribute [local irreducible] rounds grow table

theorem turn_lit {G : Nat → Option AV} (x : UInt32) (r : Nat) (k : Int) (h : (0 < r ∧ r < 32) ∧ k = (r : Int)) : Meets Tryd.prog G fn_r02_turn [wv x, .v (.int .u64 k)] [] true (wv (rotr x r)) [] := by
  obtain ⟨h1, rfl⟩ := h
  exact turn_meets x r h1
theorem three_lit {G : Nat → Option AV} (x : UInt32) (i j l : Nat) (ki kj kl : Int) (hi : (0 < i ∧ i < 32) ∧ ki = (i : Int)) (hj : (0 < j ∧ j < 32) ∧ kj = (j : Int)) (hl : (0 < l ∧ l < 32) ∧ kl = (l : Int)) : Meets Tryd.prog G fn_r02_three [wv x, .v (.int .u64 ki), .v (.int .u64 kj), .v (.int .u64 kl)] [] true (wv (rotr x i ^^^ rotr x j ^^^ rotr x l)) [] := by
  obtain ⟨h1, rfl⟩ := hi
  obtain ⟨h2, rfl⟩ := hj
  obtain ⟨h3, rfl⟩ := hl
  exact three_meets x i j l h1 h2 h3
theorem getD_getB (l : Bytes) (j : Nat) (h : j < l.length) : l[j]? = some (l.getD j 0) := by
  rw [List.getD_eq_getElem?_getD, List.getElem?_eq_getElem h]
  rfl
theorem next_meets {G : Nat → Option AV} (s : St) (b : Bytes) (hb : b.length = 64) : Meets Tryd.prog G fn_r02_Next [s.av, .sl 1 (B b), .arr 1 (U table)] [] true (comp s b).av [] := by
  refine meets_of_go mix k_r02_Next ⟨by simp [St.av], by simp [St.av], by simp⟩ ?_
  simp [St.av]
  refine go_up 16 (fun j (x : List UInt32) => x = (words b).take j ++ zeros32 (64 - j)) (fun j x c => ⟨[(1, .sl 1 (B b)), (3, .ptr 3 c 0), (5, .ptr 5 c 0), (6, .ptr 6 c 0), (7, .ptr 7 c 0), (8, .v (.int .i64 (j : Nat)))],
    [(3, .var c (.arr 1 (U s.list))), (5, .var c (.arr 1 (U table))), (6, .var c (.arr 1 (U (zeros32 8)))), (7, .var c (.arr 1 (U x)))], c + 1⟩)
    (zeros32 64) _ (Weak.re (by simp)) (by simp) ?_ ?_
  · intro j x c hj hx
    have hw : IntKind.i64.wrap ((j : Int) + 1) = ((j + 1 : Nat) : Int) := w64_succ (by omega)
    obtain ⟨q, hq⟩ : ∃ q : Nat, q = 4 * j := ⟨_, rfl⟩
    obtain ⟨q1, hq1⟩ : ∃ k : Nat, k = q + 1 := ⟨_, rfl⟩
    obtain ⟨q2, hq2⟩ : ∃ k : Nat, k = q + 2 := ⟨_, rfl⟩
    obtain ⟨q3, hq3⟩ : ∃ k : Nat, k = q + 3 := ⟨_, rfl⟩
    have hw4 : IntKind.i64.wrap (4 * (j : Int)) = (q : Int) := by rw [w64_id (by omega)]; omega
    have a1 : IntKind.i64.wrap ((q : Int) + 1) = (q1 : Int) := by rw [w64_id (by omega)]; omega
    have a2 : IntKind.i64.wrap ((q : Int) + 2) = (q2 : Int) := by rw [w64_id (by omega)]; omega
    have a3 : IntKind.i64.wrap ((q : Int) + 3) = (q3 : Int) := by rw [w64_id (by omega)]; omega
    have b1 : (q : Int) < 64 ∧ q < 64 ∧ (q1 : Int) < 64 ∧ q1 < 64 ∧ (q2 : Int) < 64 ∧ q2 < 64 ∧ (q3 : Int) < 64 ∧ q3 < 64 := by omega
    have hj16 : (j : Int) < 16 := by omega
    have hj64 : (j : Int) < 64 := by omega
    have hjn : j < 64 := by omega
    have hxl : x.length = 64 := by rw [hx]; simp; omega
    have hg : x.set j (word4 (b.getD (4 * j) 0) (b.getD (4 * j + 1) 0) (b.getD (4 * j + 2) 0) (b.getD (4 * j + 3) 0)) = (words b).take (j + 1) ++ zeros32 (64 - (j + 1)) := by
      have h1 := fill_zeros32 (words b) 64 j (by simp; omega) (by simp)
      have h2 := words_get b j hj
      rw [List.getElem?_eq_getElem (by simp; omega)] at h2
      rw [Option.some.inj h2, ← hx] at h1
      exact h1
    have g0 := getD_getB b q (by omega)
    have g1 := getD_getB b q1 (by omega)
    have g2 := getD_getB b q2 (by omega)
    have g3 := getD_getB b q3 (by omega)
    have e0 := (List.getElem?_eq_some_iff.1 g0).2
    have e1 := (List.getElem?_eq_some_iff.1 g1).2
    have e2 := (List.getElem?_eq_some_iff.1 g2).2
    have e3 := (List.getElem?_eq_some_iff.1 g3).2
    rw [← hq, ← hq1, ← hq2, ← hq3] at hg
    generalize b.getD q 0 = x0 at *
    generalize b.getD q1 0 = x1 at *
    generalize b.getD q2 0 = x2 at *
    generalize b.getD q3 0 = x3 at *
    have h1 := u32_shl x0.toUInt32 24 (by decide)
    have h2 := u32_shl x1.toUInt32 16 (by decide)
    have h3 := u32_shl x2.toUInt32 8 (by decide)
    simp only [Int.reducePow] at h1 h2 h3
    have h4 := word4_add x0 x1 x2 x3
    simp [hj16, hw4, a1, a2, a3, b1, hb, e0, e1, e2, e3, u32_byte, h1, h2, h3, u32_add, hj64, hjn, hxl, U_set, hw]
    exact ⟨_, _, Weak.re (by simp [h4]), hg⟩
  · intro x c hx
    simp
    refine go_up 48 (fun j (x : List UInt32) => x = grow j (words b) ++ zeros32 (48 - j)) (fun j x c => ⟨[(3, .ptr 3 c 0), (5, .ptr 5 c 0), (6, .ptr 6 c 0), (7, .ptr 7 c 0), (9, .v (.int .i64 (i16 j)))],
      [(3, .var c (.arr 1 (U s.list))), (5, .var c (.arr 1 (U table))), (6, .var c (.arr 1 (U (zeros32 8)))), (7, .var c (.arr 1 (U x)))], c + 1⟩)
      x _ (Weak.re (by simp)) (by rw [hx, List.take_of_length_le (by simp), grow_zero]) ?_ ?_
    · intro j x c hj hx
      have e := i16_eq j
      have e1 := i16_eq (j + 1)
      have hw : IntKind.i64.wrap (i16 j + 1) = i16 (j + 1) := by rw [w64_id (by omega)]; omega
      have a15 : IntKind.i64.wrap (i16 j - 15) = ((j + 1 : Nat) : Int) := by rw [w64_id (by omega)]; omega
      have a2 : IntKind.i64.wrap (i16 j - 2) = ((j + 14 : Nat) : Int) := by rw [w64_id (by omega)]; omega
      have a16 : IntKind.i64.wrap (i16 j - 16) = ((j : Nat) : Int) := by rw [w64_id (by omega)]; omega
      have a7 : IntKind.i64.wrap (i16 j - 7) = ((j + 9 : Nat) : Int) := by rw [w64_id (by omega)]; omega
      have hlt : i16 j < 64 := by omega
      have hge : 0 ≤ i16 j := by omega
      have htn : (i16 j).toNat = 16 + j := by omega
      have hxl : x.length = 64 := by rw [hx]; simp; omega
      obtain ⟨k1, hk1⟩ : ∃ k : Nat, k = j + 1 := ⟨_, rfl⟩
      obtain ⟨k14, hk14⟩ : ∃ k : Nat, k = j + 14 := ⟨_, rfl⟩
      obtain ⟨k9, hk9⟩ : ∃ k : Nat, k = j + 9 := ⟨_, rfl⟩
      rw [← hk1] at a15
      rw [← hk14] at a2
      rw [← hk9] at a7
      have b1 : (k1 : Int) < 64 ∧ k1 < 64 ∧ (k14 : Int) < 64 ∧ k14 < 64 ∧ (k9 : Int) < 64 ∧ k9 < 64 ∧ (j : Int) < 64 ∧ j < 64 ∧ 16 + j < 64 := by omega
      have hgl : (grow j (words b)).length = 16 + j := by simp
      have g15 := next_get (grow j (words b)) (zeros32 (48 - j)) 15 (by omega) (by omega)
      have g2 := next_get (grow j (words b)) (zeros32 (48 - j)) 2 (by omega) (by omega)
      have g16 := next_get (grow j (words b)) (zeros32 (48 - j)) 16 (by omega) (by omega)
      have g7 := next_get (grow j (words b)) (zeros32 (48 - j)) 7 (by omega) (by omega)
      rw [← hx] at g15 g2 g16 g7
      rw [hgl, show 16 + j - 15 = k1 by omega] at g15
      rw [hgl, show 16 + j - 2 = k14 by omega] at g2
      rw [hgl, show 16 + j - 16 = j by omega] at g16
      rw [hgl, show 16 + j - 7 = k9 by omega] at g7
      have hn : next (grow j (words b)) = (grow j (words b)).getD j 0 + s0 ((grow j (words b)).getD k1 0) + (grow j (words b)).getD k9 0 + s1 ((grow j (words b)).getD k14 0) := by
        unfold next
        rw [hgl, show 16 + j - 15 = k1 by omega, show 16 + j - 2 = k14 by omega, show 16 + j - 16 = j by omega, show 16 + j - 7 = k9 by omega]
      have hs := grow_set (grow j (words b)) (47 - j) (next (grow j (words b)))
      rw [show 47 - j + 1 = 48 - j by omega, ← hx, hgl, hn, show 47 - j = 48 - (j + 1) by omega, ← hn] at hs
      have e15 := (List.getElem?_eq_some_iff.1 g15).2
      have e2 := (List.getElem?_eq_some_iff.1 g2).2
      have e16 := (List.getElem?_eq_some_iff.1 g16).2
      have e7 := (List.getElem?_eq_some_iff.1 g7).2
      generalize (grow j (words b)).getD k1 0 = w15 at *
      generalize (grow j (words b)).getD k14 0 = w2 at *
      generalize (grow j (words b)).getD j 0 = w16 at *
      generalize (grow j (words b)).getD k9 0 = w7 at *
      simp [hlt, a15, a2, b1, hxl, e15, e2]
      refine call_intro (turn_lit w15 7 7 (by decide)) ?_ ?_
      · simp
      simp
      refine call_intro (turn_lit w15 18 18 (by decide)) ?_ ?_
      · simp
      simp [u32_xor, shr3]
      refine call_intro (turn_lit w2 17 17 (by decide)) ?_ ?_
      · simp
      simp
      refine call_intro (turn_lit w2 19 19 (by decide)) ?_ ?_
      · simp
      simp [u32_xor, shr10, a16, a7, b1, e16, e7, u32_add, hlt, hge, htn, hxl, U_set, hw]
      exact ⟨x.set (16 + j) (next (grow j (words b))), _, Weak.re (by simp [hn, s0, s1]), hs.trans (by rw [← grow_succ])⟩
    · intro x c hx
      have hx2 : x = grow 48 (words b) := by rw [hx]; simp [zeros32]
      have hwl : (grow 48 (words b)).length = 64 := by simp
      subst hx2
      generalize hgw : grow 48 (words b) = w at *
      simp [St.list, hwl]
      obtain ⟨N, hN⟩ : ∃ N : Nat, N = 64 := ⟨_, rfl⟩
      have hNI : (N : Int) = 64 := by omega
      refine go_up N (fun _ _ => True) (fun j (_ : Unit) c => ⟨[(3, .ptr 3 c 0), (5, .ptr 5 c 0), (6, .ptr 6 c 0), (7, .ptr 7 c 0), (14, wv (rounds w j s).a), (15, wv (rounds w j s).b), (16, wv (rounds w j s).c), (17, wv (rounds w j s).d), (18, wv (rounds w j s).e), (19, wv (rounds w j s).f), (20, wv (rounds w j s).g), (21, wv (rounds w j s).h), (22, .v (.int .i64 (j : Nat)))],
        [(3, .var c (.arr 1 (U s.list))), (5, .var c (.arr 1 (U table))), (6, .var c (.arr 1 (U (zeros32 8)))), (7, .var c (.arr 1 (U w)))], c + 1⟩)
        () _ (Weak.re (by simp [St.list, rounds_zero])) trivial ?_ ?_
      · intro j _ c hj _
        have hw : IntKind.i64.wrap ((j : Int) + 1) = ((j + 1 : Nat) : Int) := w64_succ (by omega)
        have hj64 : (j : Int) < 64 := by omega
        have gw := getD_get w j (by omega)
        have hj : j < 64 := by omega
        have gt := getD_get table j (by rw [table_length]; exact hj)
        have ew := (List.getElem?_eq_some_iff.1 gw).2
        have et := (List.getElem?_eq_some_iff.1 gt).2
        have hr : rounds w (j + 1) s = (rounds w j s).round (table.getD j 0) (w.getD j 0) := rounds_succ w j s
        generalize table.getD j 0 = kj at *
        generalize w.getD j 0 = wj at *
        generalize rounds w j s = r at *
        simp [hj64, hwl, hj, ew, et]
        refine call_intro (three_lit r.e 6 11 25 6 11 25 (by decide) (by decide) (by decide)) ?_ ?_
        · simp
        simp [u32_xor, u32_add, u32_and, hj64, hj, ew, et, hwl]
        refine call_intro (three_lit r.a 2 13 22 2 13 22 (by decide) (by decide) (by decide)) ?_ ?_
        · simp
        simp [u32_xor, u32_add, u32_and, hw]
        exact ⟨(), _, Weak.re (by simp [hr, St.round, St.p, St.q]), trivial⟩
      · intro _ c _
        have hcb := comp_eq s b w N hN hgw
        clear hgw hx
        generalize rounds w N s = r at *
        generalize comp s b = q at *
        simp [hNI, St.list, u32_add]
        refine post_end (.inr rfl) ?_
        simp [hcb, St.plus, St.list, U]
end Go.Proofs.YtmdjimkndeklmaaDoor.WL
