/-
  CHAPTER 05: walks of laws: signing, keeping.
-/
import Derived.Test.YtmdjimkndeklmaaDoorL05a
namespace Go.Proofs.YtmdjimkndeklmaaDoor.WL
open Go
set_option maxHeartbeats 4000000
attribute [local irreducible] comp hb sha leafD pairD secD shutD wholeD pubD ofD

theorem cmp_key (r r' : Dg) (h h' : Int) : cmpA (.st [.ints .u8 32, .int .i64]) (.node [dv r, .v (.int .i64 h)]) (.node [dv r', .v (.int .i64 h')]) = some (decide (r = r' ∧ h = h')) := by
  have e : (natsOf r.bs == natsOf r'.bs) = decide (r = r') := by
    rw [Bool.eq_iff_iff, beq_iff_eq, decide_eq_true_eq]
    exact ⟨fun h => Dg.ext' (toNats_inj.1 h), fun h => by rw [h]⟩
  have la : (natsOf r.bs).length = 32 := by simp [natsOf]
  have lb : (natsOf r'.bs).length = 32 := by simp [natsOf]
  have e2 : (h == h') = decide (h = h') := by rw [Bool.eq_iff_iff]; simp
  simp [cmpA, cmpL, la, lb, e, e2]

theorem cmp_keyZ : cmpA (.st [.ints .u8 32, .int .i64]) (.node [dv Dg.zero, .v (.int .i64 0)]) (.node [.arr 1 (B (zeros 32)), .v (.int .i64 0)]) = some true := by
  have := cmp_key Dg.zero Dg.zero 0 0
  rw [decide_eq_true (by exact ⟨rfl, rfl⟩)] at this
  exact this
theorem same_refl (s : Sig) : s.same s = true := by simp [Sig.same]

theorem keysSign_walk (seed : Dg) (h n : Int) (d : Dg) (hh : -9223372036854775808 ≤ h ∧ h < 9223372036854775808) (hn : -9223372036854775808 ≤ n ∧ n < 9223372036854775808) :
    Meets Tryd.prog Gt fn_l05_KeysSign [dv seed, .v (.int .i64 h), .v (.int .i64 n), dv d] [] true (.v (.bool true)) [] := by
  refine meets_of_go mix k_l05_KeysSign ⟨by simp, by simp, by simp⟩ ?_
  simp
  refine call_intro alive5_meets ?_ ?_
  · simp
  by_cases c1 : 3 < h ∧ h ≤ 6
  · simp [c1]
    refine post_end (.inr rfl) ?_
    simp
  have c1' : (3 < h → ¬ h ≤ 6) := fun a b => c1 ⟨a, b⟩
  have c1b : (if 3 < h then decide (h ≤ 6) else false) = false := by
    split
    · simp; omega
    · rfl
  by_cases c2 : h < 0
  · have c3 : ¬ 3 < h := by omega
    simp [c3]
    refine call_intro (ksign_nil n d) ?_ ?_
    · simp
    simp
    refine call_intro kkey_nil ?_ ?_
    · simp
    simp [cmp_key, cmp_keyZ]
    refine call_intro (knew_bad seed h (by omega)) ?_ ?_
    · simp
    simp [c2]
    refine post_end (.inr rfl) ?_
    simp
  by_cases c4 : 6 < h
  · have c3 : 3 < h := by omega
    have c5 : ¬ h ≤ 6 := by omega
    simp [c3, c5]
    refine call_intro (ksign_nil n d) ?_ ?_
    · simp
    simp
    refine call_intro kkey_nil ?_ ?_
    · simp
    simp [cmp_key, cmp_keyZ]
    refine call_intro (knew_bad seed h (by omega)) ?_ ?_
    · simp
    simp [c2, c4]
    refine post_end (.inr rfl) ?_
    simp
  have c3 : ¬ 3 < h := by omega
  obtain ⟨k, rfl⟩ : ∃ k : Nat, h = k := ⟨h.toNat, by omega⟩
  have hk : k ≤ 3 := by omega
  have m1 := knew_meets seed k (by omega) 32 rfl
  have m2 := rleaves_meets seed k (by omega) 32 rfl
  have m3 := rkey_meets seed k (by omega) 32 rfl
  have hl := leavesD_length seed 32 (2 ^ k)
  have hq : 2 ^ k ≤ 8 := Nat.le_trans (Nat.pow_le_pow_right (by omega) hk) (by decide)
  generalize 2 ^ k = q at *
  generalize leavesD seed 32 q = l at *
  have m4 := kkey_meets seed (k : Int) l (by omega)
  generalize rootD l = R at *
  have c6 : ¬ 6 < k := by omega
  simp [c3, hk]
  refine call_intro (ksign_nil n d) ?_ ?_
  · simp
  simp
  refine call_intro kkey_nil ?_ ?_
  · simp
  simp [cmp_key, cmp_keyZ]
  refine call_intro m1 ?_ ?_
  · simp [trM1]
  simp [trM1, c2, c4, c6]
  refine call_intro m2 ?_ ?_
  · simp
  simp
  refine call_intro m4 ?_ ?_
  · simp [trM]
  simp [trM]
  refine call_intro m3 ?_ ?_
  · simp
  simp [cmp_key, cmp_keyZ]
  by_cases c7 : 0 ≤ n ∧ n < (l.length : Nat)
  · obtain ⟨i, rfl⟩ : ∃ i : Nat, n = i := ⟨n.toNat, by omega⟩
    have c8 : i < l.length := by omega
    have c0i : ¬ (i : Int) < 0 := by omega
    have c9 : ¬ l.length ≤ i := by omega
    have c9i : ¬ (l.length : Int) ≤ (i : Int) := by omega
    have m5 := ksign_meets seed (k : Int) l i d c8 (by omega) 32 rfl
    have m6 := rksign_meets seed l i d c8 (by omega) 32 rfl
    have hSo : (signK seed l i d 32).op.length = 32 := by simp [signK]
    have hSs : (signK seed l i d 32).sh.length = 32 := by simp [signK]
    have hSp : (signK seed l i d 32).path.length ≤ 8 := by
      have := pathD_len l i
      show (pathD l i).length ≤ 8
      omega
    generalize signK seed l i d 32 = S at *
    have m7 := rksame_meets (G := Gt) S S (by omega) (by omega) (by omega)
    rw [same_refl] at m7
    refine call_intro m5 ?_ ?_
    · simp [trM, Sig.avR, Sig.rows]
    simp [trM, Sig.avR, Sig.rows, c0i, c9, c9i]
    refine call_intro m6 ?_ ?_
    · simp [Sig.avR, Sig.rows]
    simp [Sig.avR, Sig.rows]
    refine call_intro m7 ?_ ?_
    · simp [Sig.avS]
    simp [Sig.avS]
    refine post_end (.inr rfl) ?_
    simp
  · have m5 := ksign_bad seed (k : Int) l n d (by omega)
    have m7 := rksame_meets (G := Gt) Sig.zero Sig.zero (by simp [Sig.zero]) (by simp [Sig.zero]) (by simp [Sig.zero])
    rw [same_refl] at m7
    refine call_intro m5 ?_ ?_
    · simp [trM]
    by_cases c8 : n < 0
    · simp [trM, c8]
      refine call_intro m7 ?_ ?_
      · simp [Sig.avS, Sig.zero]
      simp [Sig.avS, Sig.zero]
      refine post_end (.inr rfl) ?_
      simp
    · have c9 : (l.length : Int) ≤ n := by omega
      simp [trM, c8, c9]
      refine call_intro m7 ?_ ?_
      · simp [Sig.avS, Sig.zero]
      simp [Sig.avS, Sig.zero]
      refine post_end (.inr rfl) ?_
      simp

theorem greatF_no {s : Sig} (h : s.greatF = false) : s.op.length ≤ 200 ∧ s.sh.length ≤ 200 ∧ s.path.length ≤ 200 := by
  simp only [Sig.greatF, Bool.or_eq_false_iff, decide_eq_false_iff_not] at h
  omega
theorem bv7 : AV.v (.int .u8 7) = bv 7 := (rfl)

theorem keysKeep_walk (seed d : Dg) (s : Sig) (hl : -9223372036854775808 ≤ s.leaf ∧ s.leaf < 9223372036854775808) :
    Meets Tryd.prog Gt fn_l05_KeysKeep [dv seed, dv d, s.avS] [] true (.v (.bool true)) [] := by
  refine meets_of_go mix k_l05_KeysKeep ⟨by simp, by simp, by simp⟩ ?_
  have m0 := great5_meets s
  simp [Sig.avS]
  refine call_intro alive5_meets ?_ ?_
  · simp
  simp
  refine call_intro m0 ?_ ?_
  · simp [Sig.avS]
  cases hg : s.greatF
  · obtain ⟨g1, g2, g3⟩ := greatF_no hg
    have f1 : fitsB s.path.length 32 := fits (by omega) (by omega)
    have m1 := kcheck_meets Dg.zero 2 d s (by omega) hl
    generalize checkK Dg.zero 2 d s = e at *
    have m2 := knew_meets seed 2 (by omega) 32 rfl
    have hlv := leavesD_length seed 32 (2 ^ 2)
    have hc := sign_checks seed 2 1 d (by omega) (by decide)
    generalize leavesD seed 32 (2 ^ 2) = l at *
    have hl4 : l.length = 4 := hlv
    have m3 := ksign_meets seed ((2 : Nat) : Int) l 1 d (by omega) (by omega) 32 rfl
    have m4 := kkey_meets seed ((2 : Nat) : Int) l (by omega)
    have m5 := kcheck_meets (rootD l) ((2 : Nat) : Int) d (signK seed l 1 d 32) (by omega) (by simp [signK])
    rw [hc] at m5
    clear hc
    have m6 := rksame_meets (G := Gt) s s (by omega) (by omega) (by omega)
    rw [same_refl] at m6
    have hSp : (signK seed l 1 d 32).path.length ≤ 4 := by
      have := pathD_len l 1
      show (pathD l 1).length ≤ 4
      omega
    generalize signK seed l 1 d 32 = S at *
    generalize rootD l = R at *
    have hz : AV.arr 1 (B (zeros 32)) = dv Dg.zero := (rfl)
    simp only [Int.cast_ofNat_Int, Int.natCast_one] at m2 m3 m4 m5
    simp [Sig.avS, f1]
    refine call_intro m1 ?_ ?_
    · simp [Sig.avS]
    simp [Sig.avS]
    refine call_intro m2 ?_ ?_
    · simp [trM1]
    simp [trM1, hl4]
    refine call_intro m3 ?_ ?_
    · simp [trM, hl4, Sig.avR, Sig.rows]
    simp [trM, hl4, Sig.avR, Sig.rows]
    refine go_up S.path.length (fun j (x : List Dg) => x.length = S.path.length) (fun j x c => ⟨[(4, .ptr 4 c 0), (5, .ptr 5 c 0), (7, .ptr 7 c 0), (8, .ptr 1000 c 0), (10, .ptr 10 c 0), (44, .v (.int .i64 (S.path.length : Nat))), (45, .v (.int .i64 (j : Nat)))],
      [(4, .var c (dv d)), (5, .var c (.node [.v (.int .i64 s.leaf), .node [.sl 32 (Dgs s.op), .sl 32 (Dgs s.sh)], .sl 32 (Dgs s.path)])), (7, .var c (.node [.v (.int .i64 s.leaf), .node [.sl 32 (Dgs s.op), .sl 32 (Dgs s.sh)], .row 20 32 c 0 s.path.length])),
       (10, .var c (.node [.v (.int .i64 S.leaf), .node [.row 11 32 c 0 S.op.length, .row 12 32 c 0 S.sh.length], .row 13 32 c 0 S.path.length])), (11, .rows c 32 (Dgs S.op)), (12, .rows c 32 (Dgs S.sh)), (13, .rows c 32 (Dgs x)), (20, .rows c 32 (Dgs s.path)),
       (1000, .var c (.node [dv seed, .v (.int .i64 2), .row 2000 32 c 0 4])), (2000, .rows c 32 (Dgs l))], c + 1⟩) S.path _ (Weak.re (by simp [hl4])) rfl ?_ ?_
    · intro j x c hj hx
      have hw : IntKind.i64.wrap ((j : Int) + 1) = ((j + 1 : Nat) : Int) := w64_succ (by omega)
      have hj2 : j < x.length := by omega
      have o7 := one_set 7
      generalize Dg.one 7 = D7 at *
      simp [hj, hj2, hw, bv7, o7, Dgs_set]
      exact ⟨x.set j D7, _, Weak.re (by simp), by simpa using hx⟩
    · intro x c hx
      simp
      refine call_intro m3 ?_ ?_
      · simp [trM, hl4, Sig.avR, Sig.rows]
      simp [trM, hl4, Sig.avR, Sig.rows]
      refine call_intro m6 ?_ ?_
      · simp [Sig.avS]
      simp [Sig.avS]
      refine call_intro m4 ?_ ?_
      · simp [trM, hl4]
      simp [trM, hl4]
      refine call_intro m5 ?_ ?_
      · simp [Sig.avS]
      simp [Sig.avS]
      refine post_end (.inr rfl) ?_
      simp
  · simp [Sig.avS]
    refine post_end (.inr rfl) ?_
    simp
end Go.Proofs.YtmdjimkndeklmaaDoor.WL
