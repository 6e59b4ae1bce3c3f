/-
  CHAPTER 02: contracts: the reference's digest.
-/
import Derived.Test.YtmdjimkndeklmaaDoorS02d
import Derived.Test.YtmdjimkndeklmaaDoorS02e
namespace Go.Proofs.YtmdjimkndeklmaaDoor.WL
open Go
set_option maxHeartbeats 4000000
attribute [local irreducible] comp hb sha

theorem list_len (s : St) : s.list.length = 8 := (rfl)
theorem rof_meets {G : Nat → Option AV} (b : Bytes) (hbl : b.length ≤ 100000000) : Meets Tryd.prog G fn_r02_Of [.sl 1 (B b)] [] true (dv (sha b)) [] := by
  refine meets_of_go mix k_r02_Of ⟨by simp, by simp, by simp⟩ ?_
  have hmod := pad_length b
  have hpl : (pad b).length ≤ 200000000 := by simp [pad, fillN]; omega
  have hs : (sha b).bs = (hb ((pad b).length / 64) (pad b)).bytes := by unfold sha; rfl
  simp
  refine call_intro (padded_meets b hbl) ?_ ?_
  · simp
  simp
  refine call_intro numbers_meets ?_ ?_
  · simp
  simp
  obtain ⟨p, hp⟩ : ∃ p, pad b = p := ⟨_, rfl⟩
  rw [hp] at hmod hpl hs ⊢
  obtain ⟨n, hn⟩ : ∃ n, n = p.length / 64 := ⟨_, rfl⟩
  rw [← hn] at hs
  have hpn : p.length = 64 * n := by omega
  have h0 : hb 0 p = iv := by unfold hb; rfl
  refine go_up n (fun _ _ => True) (fun j (_ : Unit) c => ⟨[(2, .ptr 2 c 0), (3, .ptr 3 c 0), (4, .sl 1 (B p)), (5, .ptr 5 c 0), (6, .v (.int .i64 ((64 * j : Nat) : Int)))],
    [(2, .var c (.arr 1 (B (zeros 32)))), (3, .var c (.arr 1 (U (hb j p).list))), (5, .var c (.arr 1 (U table)))], c + 1⟩) () _ (Weak.re (by simp [h0, U_iv])) trivial ?_ ?_
  · intro j _ c hj _
    obtain ⟨q, hq⟩ : ∃ q : Nat, q = 64 * j := ⟨_, rfl⟩
    obtain ⟨q2, hq2⟩ : ∃ q2 : Nat, q2 = q + 64 := ⟨_, rfl⟩
    have hq3 : 64 * (j + 1) = q2 := by omega
    have a1 : IntKind.i64.wrap ((q : Int) + 64) = (q2 : Int) := by rw [w64_id (by omega)]; omega
    have b1 : (q : Int) < (p.length : Nat) ∧ q ≤ q2 ∧ (q : Int) ≤ q2 ∧ q2 ≤ p.length ∧ (q2 : Int) ≤ (p.length : Nat) ∧ q2 - q = 64 := by omega
    have hbs : hb (j + 1) p = comp (hb j p) ((p.drop q).take 64) := by rw [hq]; exact hb_succ j p
    have hl : ((p.drop q).take 64).length = 64 := by rw [List.length_take, List.length_drop]; omega
    have hnx := next_meets (G := G) (hb j p) ((p.drop q).take 64) hl
    rw [← hbs] at hnx
    clear hbs
    obtain ⟨s1, hs1⟩ : ∃ s, hb (j + 1) p = s := ⟨_, rfl⟩
    rw [hs1] at hnx
    obtain ⟨s0, hs0⟩ : ∃ s, hb j p = s := ⟨_, rfl⟩
    rw [hs0] at hnx ⊢
    have htd : List.drop q (List.take q2 p) = List.take 64 (List.drop q p) := by rw [List.drop_take, show q2 - q = 64 by omega]
    rw [← hq]
    simp [a1, b1, St.av, list_len]
    refine call_intro hnx ?_ ?_
    · simp [St.av, htd]
    simp [a1, b1, St.av, list_len]
    exact ⟨(), _, Weak.re (by simp [hs1]; omega), trivial⟩
  · intro _ c _
    have c1 : ((64 * n : Nat) : Int) = (p.length : Int) := by omega
    rw [c1]
    generalize hb n p = e at *
    have hlen : e.list.length = 8 := rfl
    simp [hlen]
    refine go_up 8 (fun i (o : Bytes) => o = e.bytes.take (4 * i) ++ zeros (32 - 4 * i)) (fun i o c => ⟨[(2, .ptr 2 c 0), (7, .ptr 7 c 0), (29, .arr 1 (U e.list)), (30, .v (.int .i64 (i : Nat)))],
      [(2, .var c (.arr 1 (B (zeros 32)))), (7, .var c (.arr 1 (B o)))], c + 1⟩) (zeros 32) _ (Weak.re (by simp)) (by simp) ?_ ?_
    · intro i o c hi ho
      have hw : IntKind.i64.wrap ((i : Int) + 1) = ((i + 1 : Nat) : Int) := w64_succ (by omega)
      have hi8 : (i : Int) < 8 := by omega
      have g1 := getD_get e.list i (by omega)
      obtain ⟨x, hx⟩ : ∃ x, e.list.getD i 0 = x := ⟨_, rfl⟩
      rw [hx] at g1
      have e1 := (List.getElem?_eq_some_iff.1 g1).2
      simp [hi8, hlen, hi, e1]
      refine go_up 4 (fun j (o : Bytes) => o = e.bytes.take (4 * i + j) ++ zeros (32 - (4 * i + j))) (fun j o c => ⟨[(2, .ptr 2 c 0), (7, .ptr 7 c 0), (8, .v (.int .i64 (i : Nat))), (9, wv x), (10, .v (.int .i64 (j : Nat))), (29, .arr 1 (U e.list)), (30, .v (.int .i64 (i : Nat)))],
        [(2, .var c (.arr 1 (B (zeros 32)))), (7, .var c (.arr 1 (B o)))], c + 1⟩) o _ (Weak.re (by simp)) ho ?_ ?_
      · intro j o c hj ho
        have hw : IntKind.i64.wrap ((j : Int) + 1) = ((j + 1 : Nat) : Int) := w64_succ (by omega)
        have hj4 : (j : Int) < 4 := by omega
        have hol : o.length = 32 := by rw [ho]; simp; omega
        obtain ⟨q, hq⟩ : ∃ q : Nat, q = 4 * i := ⟨_, rfl⟩
        obtain ⟨t, ht⟩ : ∃ t : Nat, t = 4 * i + j := ⟨_, rfl⟩
        obtain ⟨s, hs⟩ : ∃ s : Nat, s = 24 - 8 * j := ⟨_, rfl⟩
        have a1 : IntKind.i64.wrap (4 * (i : Int)) = (q : Int) := by rw [w64_id (by omega)]; omega
        have a2 : IntKind.i64.wrap ((q : Int) + (j : Int)) = (t : Int) := by rw [w64_id (by omega)]; omega
        have a3 : IntKind.i64.wrap (8 * (j : Int)) = 8 * (j : Int) := w64_id (by omega)
        have a4 : IntKind.i64.wrap (24 - 8 * (j : Int)) = (s : Int) := by rw [w64_id (by omega)]; omega
        have a5 : IntKind.u64.wrap (s : Int) = (s : Int) := u64_id (by omega)
        have b1 : (t : Int) < 32 ∧ t < 32 ∧ min s 32 = s := by omega
        have hsh := u32_shr x s (by omega)
        have hset : o.set t ((x >>> UInt32.ofNat s).toUInt8) = e.bytes.take (4 * i + (j + 1)) ++ zeros (32 - (4 * i + (j + 1))) := by
          have k1 := fill_zeros e.bytes 32 t (by simp; omega) (by simp)
          rw [bytes_at e t b1.2.1, show t / 4 = i by omega, show t % 4 = j by omega, ← hs, hx] at k1
          rw [ho, ← ht, k1, show 4 * i + (j + 1) = t + 1 by omega]
        simp [hj4, a1, a2, a3, a4, a5, b1, hsh, bv_u8, u8_word, B_set, hol, hw]
        exact ⟨_, _, Weak.re (by simp), hset⟩
      · intro o c ho
        simp [hw]
        exact ⟨o, _, Weak.re (by simp), ho⟩
    · intro o c ho
      have ho' : o = (sha b).bs := by rw [ho, hs, List.take_of_length_le (by simp)]; simp [zeros]
      subst ho'
      simp
      refine post_end (.inr rfl) ?_
      simp
end Go.Proofs.YtmdjimkndeklmaaDoor.WL
