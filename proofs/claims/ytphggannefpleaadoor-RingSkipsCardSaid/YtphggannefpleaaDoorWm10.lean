/- Texts put together: L06b. -/
import Derived.Test.YtphggannefpleaaDoorWm9
section
/-
  CHAPTER 06: walks of laws: Skip.
-/
namespace Go.Proofs.YtphggannefpleaaDoor.WL
open Go
set_option maxHeartbeats 8000000
attribute [local irreducible] comp hb sha leafD pairD secD shutD wholeD pubD ofD leavesD Dg.one

/-- The open numbers below x that are not below n, nor below i. -/
def Kf (x : Nat) (n : Int) (i : Nat) : List (Int × Nat) := (opn x).filter fun p => !decide (p.1 < n) && !decide (p.1 < (i : Int))
theorem opn_mem {x : Nat} {p : Int × Nat} : p ∈ opn x ↔ ∃ j : Nat, j < x ∧ p = ((j : Int), j) := by
  simp only [opn, List.mem_map, List.mem_range]
  exact ⟨fun ⟨j, h, e⟩ => ⟨j, h, e.symm⟩, fun ⟨j, h, e⟩ => ⟨j, h, e.symm⟩⟩
theorem opn_ok (x : Nat) : OpOk (opn x) x := by
  refine ⟨fun p hp => ?_, ?_, ?_⟩
  · obtain ⟨j, h, rfl⟩ := opn_mem.1 hp
    exact h
  · have : (opn x).map (·.2) = List.range x := by unfold opn; rw [List.map_map]; exact List.map_id _
    rw [this]
    exact List.nodup_range
  · have : (opn x).map (·.1) = (List.range x).map (fun (i : Nat) => (i : Int)) := by simp [opn]
    rw [this]
    exact List.Pairwise.map _ (fun a b h e => h (by omega)) List.nodup_range
theorem Kf_zero (x : Nat) (n : Int) : (opn x).filter (fun p => !decide (p.1 < n)) = Kf x n 0 := by
  unfold Kf
  refine List.filter_congr fun p hp => ?_
  obtain ⟨j, _, rfl⟩ := opn_mem.1 hp
  have : ¬ ((j : Nat) : Int) < ((0 : Nat) : Int) := by omega
  simp [this]
theorem Kf_mem {x : Nat} {n : Int} {i : Nat} {p : Int × Nat} : p ∈ Kf x n i ↔ ∃ j : Nat, j < x ∧ p = ((j : Int), j) ∧ n ≤ (j : Int) ∧ i ≤ j := by
  unfold Kf
  rw [List.mem_filter, opn_mem]
  constructor
  · rintro ⟨⟨j, h, rfl⟩, h2⟩
    simp only [Bool.and_eq_true, Bool.not_eq_true', decide_eq_false_iff_not] at h2
    exact ⟨j, h, rfl, by omega, by omega⟩
  · rintro ⟨j, h, rfl, h2, h3⟩
    refine ⟨⟨j, h, rfl⟩, ?_⟩
    simp only [Bool.and_eq_true, Bool.not_eq_true', decide_eq_false_iff_not]
    omega
theorem Kf_sign (x : Nat) (n : Int) (i : Nat) : ((Kf x n i).filter fun p => !decide (p.1 = (i : Int))) = Kf x n (i + 1) := by
  unfold Kf
  rw [List.filter_filter]
  refine List.filter_congr fun p hp => ?_
  rw [Bool.eq_iff_iff]
  simp only [Bool.and_eq_true, Bool.not_eq_true', decide_eq_false_iff_not]
  omega
theorem Kf_same {x : Nat} {n : Int} {i : Nat} (h : ¬ (i < x ∧ n ≤ (i : Int))) : Kf x n (i + 1) = Kf x n i := by
  unfold Kf
  refine List.filter_congr fun p hp => ?_
  obtain ⟨j, hj, rfl⟩ := opn_mem.1 hp
  rw [Bool.eq_iff_iff]
  simp only [Bool.and_eq_true, Bool.not_eq_true', decide_eq_false_iff_not]
  omega
theorem Kf_nodup (x : Nat) (n : Int) (i : Nat) : ((Kf x n i).map (·.1)).Nodup := (opn_ok x).keys.sublist (List.filter_sublist.map _)

theorem ringSkips_walk (seed : Dg) (h takes n : Int) (d : Dg) : Meets Tryd.prog Gt fn_l06_RingSkips [dv seed, .v (.int .i64 h), .v (.int .i64 takes), .v (.int .i64 n), dv d] [] true (.v (.bool true)) [] := by
  refine meets_of_go mix k_l06_RingSkips ⟨by simp, by simp, by simp⟩ ?_
  simp
  refine call_intro alive6_meets ?_ ?_
  · simp
  simp
  by_cases c1 : h < 0
  case pos =>
    simp [c1]
    refine post_end (.inr rfl) ?_
    simp
  by_cases c2 : 2 < h
  case pos =>
    simp [c1, c2]
    refine post_end (.inr rfl) ?_
    simp
  by_cases c3 : takes < 0
  case pos =>
    simp [c1, c2, c3]
    refine post_end (.inr rfl) ?_
    simp
  by_cases c4 : 4 < takes
  case pos =>
    simp [c1, c2, c3, c4]
    refine post_end (.inr rfl) ?_
    simp
  obtain ⟨g, rfl⟩ : ∃ g : Nat, h = g := ⟨h.toNat, by omega⟩
  obtain ⟨T, rfl⟩ : ∃ T : Nat, takes = T := ⟨takes.toNat, by omega⟩
  have hn : g ≤ 2 := by omega
  have c2n : ¬ 2 < g := by omega
  have c4n : ¬ 4 < T := by omega
  have m1 := rnew_meets
  have m2 := radd_new seed g (by omega)
  unfold oneN at m2
  have hl := leavesD_length seed 32 (2 ^ g)
  generalize leavesD seed 32 (2 ^ g) = ls at *
  generalize rootD ls = root at *
  dsimp only at m2
  obtain ⟨q, hq⟩ : ∃ q : Nat, q = 2 ^ g := ⟨_, rfl⟩
  have hlq : ls.length = q := by rw [hl, hq]
  have hq4 : 1 ≤ q ∧ q ≤ 4 := by
    rcases (show g = 0 ∨ g = 1 ∨ g = 2 by omega) with rfl | rfl | rfl <;> simp at hq <;> omega
  have hmin : min g 64 = g := by omega
  have hqi : ((2 : Int) ^ g) = (q : Int) := by rw [hq]; simp
  have w1 : IntKind.i64.wrap (q : Int) = (q : Int) := w64_id (by omega)
  have w2 : IntKind.u64.wrap (g : Int) = (g : Int) := by rw [IntKind.wrap_u64]; omega
  have hon : opn 0 = [] := rfl
  -- how many are taken; the next one behind Skip
  obtain ⟨x, hx⟩ : ∃ x, min T q = x := ⟨_, rfl⟩
  obtain ⟨b, hb⟩ : ∃ b, (if (q : Int) < n then (q : Int) else n) = b := ⟨_, rfl⟩
  have hbq : b ≤ q := by rw [← hb]; split <;> omega
  obtain ⟨m, hm⟩ : ∃ m : Nat, (if (x : Int) < b then b else (x : Int)) = m := ⟨(if (x : Int) < b then b else (x : Int)).toNat, by split <;> omega⟩
  have hmq : m ≤ q := by
    have : (m : Int) ≤ q := by rw [← hm]; split <;> omega
    omega
  have e1 : (if q < T then (q : Int) else (T : Int)) = (x : Int) := by split <;> omega
  have e1' : (if (q : Int) < (T : Nat) then (q : Int) else (T : Int)) = (x : Int) := by split <;> omega
  have hsk : skipT (oneT seed g ls root x) n = ⟨seed, g, ls, root, m, Kf x n 0, x⟩ := by
    have hN : skipN (oneT seed g ls root x) n = (m : Int) := by
      unfold skipN
      simp only [oneT, ← hq]
      rw [hb]
      exact hm
    unfold skipT
    rw [hN]
    simp only [oneT, Int.toNat_natCast, Kf_zero]
  have m5 := skip_meets (oneT seed g ls root x) n (by simp [oneT]; omega) (opn_ok x)
  rw [hsk] at m5
  have m6 := left_meets ⟨seed, g, ls, root, m, Kf x n 0, x⟩ (by simp; omega) (by simp; omega)
  obtain ⟨r, hr⟩ : ∃ r, q - m = r := ⟨_, rfl⟩
  simp only [oneT, ← hq, hr] at m5 m6
  have w3 : IntKind.i64.wrap ((q : Int) - (m : Nat)) = (r : Int) := by rw [w64_id (by omega)]; omega
  simp [c1, c2, c2n, c3, c4, c4n]
  refine call_intro m1 ?_ ?_
  · simp [rg0]
  simp [rg0]
  refine call_intro m2 ?_ ?_
  · simp [rg0, rgM, keyA]
  simp [rg0, rgM, keyA]
  refine go_up T (fun i (_ : Unit) => True) (fun i _ c => ⟨[(1, .v (.int .i64 (g : Nat))), (2, .v (.int .i64 (T : Nat))), (3, .v (.int .i64 n)), (9, .ptr 9 c 0), (11, .ptr 1000 c 0), (12, .ptr 12 c 0), (14, .v (.int .i64 (i : Nat)))],
    (9, .var c (dv d)) :: (12, .var c (.node [dv root, .v (.int .i64 (g : Nat))])) :: rgM c c (oneT seed g ls root (min i q)), c + 1⟩) () _ (Weak.re (by simp [rgM, oneT, hon])) trivial ?_ ?_
  · intro i _ c hi _
    have hw : IntKind.i64.wrap ((i : Int) + 1) = ((i + 1 : Nat) : Int) := w64_succ (by omega)
    have hii : (i : Int) < (T : Nat) := by omega
    clear m5 m6
    by_cases hlt : i < q
    · have e2 : min i q = i := by omega
      have e3 : min (i + 1) q = i + 1 := by omega
      have m4 := take_meets (oneT seed g ls root i) (by simp [oneT]; omega) (by simp [oneT]; omega) (fun p hp => opn_ne p hp) (by simp [oneT]; omega)
      rw [take_oneT] at m4
      rw [e2]
      simp only [oneT] at m4
      simp [oneT, rgM, hi, hii]
      refine call_intro m4 ?_ ?_
      · simp [rgM, keyA]
      simp [rgM, keyA, hw]
      exact ⟨(), _, Weak.re (by simp [rgM, oneT, e3]), trivial⟩
    · have e2 : min i q = q := by omega
      have e3 : min (i + 1) q = q := by omega
      have m4 := take_spent (oneT seed g ls root q) (by simp [oneT]; omega) (by simp [oneT]; omega)
      rw [e2]
      simp only [oneT] at m4
      simp [oneT, rgM, hi, hii]
      refine call_intro m4 ?_ ?_
      · simp [rgM, keyA]
      simp [rgM, keyA, hw]
      exact ⟨(), _, Weak.re (by simp [rgM, oneT, e3]), trivial⟩
  · intro _ c _
    rw [hx]
    simp [oneT, rgM, w2, hmin, hqi, w1, e1, e1', hb, hm]
    refine call_intro m5 ?_ ?_
    · simp [rgM, keyA]
    simp [rgM, keyA]
    refine call_intro m6 ?_ ?_
    · simp [rgM, keyA]
    simp [rgM, keyA, w3]
    clear m2 m5 m6 m1
    refine go_up q (fun i (_ : Unit) => True) (fun i _ c => ⟨[(2, .v (.int .i64 (T : Nat))), (3, .v (.int .i64 n)), (9, .ptr 9 c 0), (11, .ptr 1000 c 0), (12, .ptr 12 c 0), (15, .v (.int .i64 (q : Nat))), (16, .v (.int .i64 (m : Nat))), (17, .v (.int .i64 (i : Nat)))],
      (9, .var c (dv d)) :: (12, .var c (.node [dv root, .v (.int .i64 (g : Nat))])) :: rgM c c ⟨seed, g, ls, root, m, Kf x n i, x⟩, c + 1⟩) () _ (Weak.re (by simp [rgM])) trivial ?_ ?_
    · intro i _ c hi _
      have hw : IntKind.i64.wrap ((i : Int) + 1) = ((i + 1 : Nat) : Int) := w64_succ (by omega)
      have hii : (i : Int) < (q : Nat) := by omega
      by_cases ho : i < x ∧ n ≤ (i : Int)
      · have m7 := ringSign_meets ⟨seed, g, ls, root, m, Kf x n i, x⟩ i d (by simp; omega) (by simp; omega) ⟨((i : Int), i), Kf_mem.2 ⟨i, ho.1, rfl, ho.2, Nat.le_refl _⟩, rfl⟩ (Kf_nodup x n i)
        have e3 : signT ⟨seed, g, ls, root, m, Kf x n i, x⟩ i = ⟨seed, g, ls, root, m, Kf x n (i + 1), x⟩ := by simp only [signT, Kf_sign]
        rw [e3] at m7
        dsimp only at m7
        generalize signK seed ls i d 32 = S at *
        have hT : i < T := by omega
        have hTi : (i : Int) < (T : Nat) := by omega
        have ho2 := ho.2
        simp [rgM, hi, hii]
        refine call_intro m7 ?_ ?_
        · simp [rgM, keyA]
        simp [rgM, keyA, Sig.avS, hT, hTi, ho2, hw]
        exact ⟨(), _, Weak.re (by simp [rgM]), trivial⟩
      · have m7 := ringSign_shut ⟨seed, g, ls, root, m, Kf x n i, x⟩ (i : Int) d (fun p hp e => by
          obtain ⟨j, hj, rfl, h1, h2⟩ := Kf_mem.1 hp
          simp only at e
          exact ho ⟨by omega, by omega⟩)
        have e3 := Kf_same ho
        dsimp only at m7
        by_cases hT : i < T
        · have hTi : (i : Int) < (T : Nat) := by omega
          have ho2 : ¬ n ≤ (i : Int) := by omega
          simp [rgM, hi, hii]
          refine call_intro m7 ?_ ?_
          · simp [rgM, keyA]
          simp [rgM, keyA, sig0, hT, hTi, ho2, hw]
          exact ⟨(), _, Weak.re (by simp [rgM, e3]), trivial⟩
        · have hTi : ¬ (i : Int) < (T : Nat) := by omega
          simp [rgM, hi, hii]
          refine call_intro m7 ?_ ?_
          · simp [rgM, keyA]
          simp [rgM, keyA, sig0, hT, hTi, hw]
          exact ⟨(), _, Weak.re (by simp [rgM, e3]), trivial⟩
    · intro _ c _
      have m10 := retire_none 1 root g
      have m11 := ringSign_none 1 root g (m : Int) d
      have m12 := keys_none 1
      by_cases hlt : m < q
      · have m8 := take_meets ⟨seed, g, ls, root, m, Kf x n q, x⟩ (by simp; omega) (by simp; omega) (fun p hp e => by
          obtain ⟨j, hj, rfl, h1, h2⟩ := Kf_mem.1 hp
          simp only at e
          omega) (by simp; omega)
        simp only [takeT] at m8
        have m9 := retire_meets ⟨seed, g, ls, root, m + 1, Kf x n q ++ [((m : Int), x)], x + 1⟩
        dsimp only at m9
        have hli : (m : Int) < (q : Nat) := by omega
        have hne : ¬ (m : Int) = (q : Int) := by omega
        simp [rgM]
        refine call_intro m8 ?_ ?_
        · simp [rgM, keyA]
        simp [rgM, keyA, hlt, hli, hne]
        refine call_intro m9 ?_ ?_
        · simp [rgM, rg0, keyA]
        simp [rgM, rg0, keyA]
        refine call_intro m10 ?_ ?_
        · simp [rg0, keyA]
        simp [rg0, keyA]
        refine call_intro m11 ?_ ?_
        · simp [rg0, keyA]
        simp [rg0, keyA, sig0]
        refine call_intro m12 ?_ ?_
        · simp [rg0]
        simp [rg0]
        refine post_end (.inr rfl) ?_
        simp
      · have hmq2 : m = q := by omega
        subst hmq2
        have m8 := take_spent ⟨seed, g, ls, root, m, Kf x n m, x⟩ (by simp; omega) (by simp; omega)
        have m9 := retire_meets ⟨seed, g, ls, root, m, Kf x n m, x⟩
        dsimp only at m8 m9
        simp [rgM]
        refine call_intro m8 ?_ ?_
        · simp [rgM, keyA]
        simp [rgM, keyA]
        refine call_intro m9 ?_ ?_
        · simp [rgM, rg0, keyA]
        simp [rgM, rg0, keyA]
        refine call_intro m10 ?_ ?_
        · simp [rg0, keyA]
        simp [rg0, keyA]
        refine call_intro m11 ?_ ?_
        · simp [rg0, keyA]
        simp [rg0, keyA, sig0]
        refine call_intro m12 ?_ ?_
        · simp [rg0]
        simp [rg0]
        refine post_end (.inr rfl) ?_
        simp
end Go.Proofs.YtphggannefpleaaDoor.WL

end
