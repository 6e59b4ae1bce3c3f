/-
  CHAPTER 03: walks of laws: proofs, keeping.
-/
import Derived.Test.YtmkkfccnacodoaaDoorL03a
namespace Go.Proofs.YtmkkfccnacodoaaDoor.WL
open Go
set_option maxHeartbeats 4000000
attribute [local irreducible] comp hb sha leafD pairD

theorem treeProves_walk (ds : List Dg) (at_ : Int) (other : Dg) (hat : -9223372036854775808 ≤ at_ ∧ at_ < 9223372036854775808) :
    Meets Tryd.prog Gt fn_l03_TreeProves [.sl 32 (Dgs ds), .v (.int .i64 at_), dv other] [] true (.v (.bool true)) [] := by
  refine meets_of_go mix k_l03_TreeProves ⟨by simp, by simp, by simp⟩ ?_
  simp
  refine call_intro alive3_meets ?_ ?_
  · simp
  by_cases c1 : (100 : Int) < (ds.length : Nat)
  · simp [c1]
    refine post_end (.inr rfl) ?_
    simp
  by_cases c2 : at_ < 0
  · simp [c1, c2]
    refine post_end (.inr rfl) ?_
    simp
  by_cases c3 : (ds.length : Int) ≤ at_
  · simp [c1, c2, c3]
    refine post_end (.inr rfl) ?_
    simp
  obtain ⟨i, rfl⟩ : ∃ i : Nat, at_ = i := ⟨at_.toNat, by omega⟩
  have c4 : i < ds.length := by omega
  have c5 : (i : Int) < (ds.length : Nat) := by omega
  have c6 : ¬ ds.length ≤ i := by omega
  have hrt := root_meets ds (by omega)
  have hpa := pathP_meets ds i c4 (by omega)
  have hpl := pathD_plen ds i
  have hple := pathD_len ds i
  have hok := checkD_path ds.length ds i c4 (Nat.le_refl _)
  have hk := fun (r : Dg) (p : List Dg) => checkP_meets r ds[i] i ds.length p c4 (by omega)
  have hlen := fun (r : Dg) (p : List Dg) => checkD_len ds.length r ds[i] i ds.length p (Nat.le_refl _)
  have hroot := fun (r1 r2 : Dg) (p : List Dg) => checkD_root ds.length r1 r2 ds[i] i ds.length p (Nat.le_refl _)
  generalize rootD ds = r at *
  generalize pathD ds i = p at *
  have hmore : checkD r ds[i] i ds.length (p ++ [other]) = false := by
    cases h : checkD r ds[i] i ds.length (p ++ [other]) with
    | false => rfl
    | true =>
      have := hlen _ _ h
      rw [List.length_append, List.length_singleton] at this
      omega
  have k1 := hk r p
  rw [hok] at k1
  have k2 := hk r (p ++ [other])
  rw [hmore] at k2
  have f1 : fitsB p.length 32 := fits (by omega) (by omega)
  have f2 : fitsB (p.length + 1) 32 := fits (by omega) (by omega)
  have htp : List.take p.length p = p := List.take_of_length_le (by omega)
  have htp2 : List.take (p.length + 1) (p ++ [other]) = p ++ [other] := List.take_of_length_le (by simp)
  simp [c1, c2, c3, c6]
  refine call_intro hrt ?_ ?_
  · simp
  simp
  refine call_intro hpa ?_ ?_
  · simp
  simp [c4, c5]
  refine call_intro k1 ?_ ?_
  · simp
  simp [c4, c5, f1, f2]
  refine call_intro k2 ?_ ?_
  · simp [Dgs_snoc, htp2]
  simp [Dgs_snoc, htp2]
  have htail : ∀ S : Prop, S → S := fun _ h => h
  by_cases hp0 : p = []
  · subst hp0
    by_cases ho : other = r
    · simp [ho]
      refine post_end (.inr rfl) ?_
      simp
    · have hno : checkD other ds[i] i ds.length [] = false := by
        cases h : checkD other ds[i] i ds.length [] with
        | false => rfl
        | true => exact absurd (hroot _ _ _ h hok) ho
      have k4 := hk other []
      rw [hno] at k4
      simp [ho, c4, c5]
      refine call_intro k4 ?_ ?_
      · simp
      simp
      refine post_end (.inr rfl) ?_
      simp
  · have hpos : 0 < p.length := List.length_pos_iff.2 hp0
    have hposi : (0 : Int) < (p.length : Nat) := by omega
    have hfew : checkD r ds[i] i ds.length (p.take (p.length - 1)) = false := by
      cases h : checkD r ds[i] i ds.length (p.take (p.length - 1)) with
      | false => rfl
      | true =>
        have := hlen _ _ h
        rw [List.length_take] at this
        omega
    have k3 := hk r (p.take (p.length - 1))
    rw [hfew] at k3
    obtain ⟨m1, hm1⟩ : ∃ m1, m1 = p.length - 1 := ⟨_, rfl⟩
    rw [← hm1] at k3
    have hw : IntKind.i64.wrap ((p.length : Int) - 1) = (m1 : Int) := by rw [w64_id (by omega)]; omega
    have hm2 : m1 ≤ p.length := by omega
    have hm3 : (m1 : Int) ≤ (p.length : Nat) := by omega
    simp [hpos, hposi, hp0, c4, c5, hw, hm2, hm3]
    refine call_intro k3 ?_ ?_
    · simp [hm2]
    by_cases ho : other = r
    · simp [ho, hm2]
      refine post_end (.inr rfl) ?_
      simp
    · have hno : checkD other ds[i] i ds.length p = false := by
        cases h : checkD other ds[i] i ds.length p with
        | false => rfl
        | true => exact absurd (hroot _ _ _ h hok) ho
      have k4 := hk other p
      rw [hno] at k4
      simp [ho, c4, c5, hm2]
      refine call_intro k4 ?_ ?_
      · simp [htp]
      simp [htp]
      refine post_end (.inr rfl) ?_
      simp

theorem treeHalves_walk (ds : List Dg) (k : Int) (hds : ds.length ≤ 10000000000000) : Meets Tryd.prog Gt fn_l03_TreeHalves [.sl 32 (Dgs ds), .v (.int .i64 k)] [] true (.v (.bool true)) [] := by
  refine meets_of_go mix k_l03_TreeHalves ⟨by simp, by simp, by simp⟩ ?_
  simp
  refine call_intro alive3_meets ?_ ?_
  · simp
  by_cases c1 : k < 0
  · simp [c1]
    refine post_end (.inr rfl) ?_
    simp
  by_cases c2 : 5 < k
  · simp [c1, c2]
    refine post_end (.inr rfl) ?_
    simp
  obtain ⟨n, rfl⟩ : ∃ n : Nat, k = n := ⟨k.toNat, by omega⟩
  have hn : n ≤ 5 := by omega
  have c0 : ¬ (n : Int) < 0 := by omega
  have w1 : IntKind.u64.wrap (n : Int) = (n : Int) := u64_id (by omega)
  have hmin : min n 64 = n := by omega
  obtain ⟨q, hq⟩ : ∃ q : Nat, q = 2 ^ n := ⟨_, rfl⟩
  have hq32 : q ≤ 32 := by rw [hq]; exact Nat.le_trans (Nat.pow_le_pow_right (by omega) hn) (by decide)
  have hq1 : 1 ≤ q := by rw [hq]; exact Nat.one_le_two_pow
  have hqi : ((2 : Int) ^ n) = (q : Int) := by rw [hq]; simp
  obtain ⟨q2, hq2⟩ : ∃ q2 : Nat, q2 = 2 * q := ⟨_, rfl⟩
  have w2 : IntKind.i64.wrap (2 * (q : Int)) = (q2 : Int) := by rw [w64_id (by omega)]; omega
  have w3 : IntKind.i64.wrap (q : Int) = (q : Int) := w64_id (by omega)
  by_cases c3 : (ds.length : Int) < (q2 : Nat)
  · have c4 : ds.length < q2 := by omega
    simp [c1, c2, w1, hmin, hqi, w2, c3, c4]
    refine post_end (.inr rfl) ?_
    simp
  · have c4 : ¬ ds.length < q2 := by omega
    have c5 : q2 ≤ ds.length := by omega
    have c6 : (q2 : Int) ≤ (ds.length : Nat) := by omega
    have hl : (ds.take q2).length = q2 := by rw [List.length_take]; omega
    have hr := rootD_halves n ((ds.take q2).take q) ((ds.take q2).drop q) (by rw [List.length_take, hl, ← hq]; omega) (by rw [List.length_drop, hl, ← hq]; omega)
    rw [List.take_append_drop] at hr
    obtain ⟨l, hL⟩ : ∃ l, ds.take q2 = l := ⟨_, rfl⟩
    rw [hL] at hl hr
    have h1 := root_meets l (by omega)
    have h2 := root_meets (l.take q) (by rw [List.length_take]; omega)
    have h3 := root_meets (l.drop q) (by rw [List.length_drop]; omega)
    have hq3 : q ≤ l.length := by omega
    have hq4 : (q : Int) ≤ (l.length : Nat) := by omega
    have hl0 : 0 < l.length := by omega
    have hl0i : (0 : Int) < (l.length : Nat) := by omega
    have h4 := root_meets [l[0]] (by simp)
    rw [rootD_one] at h4
    have hlq : l.length = q2 := hl
    have hqq : q ≤ q2 := by omega
    have hqqi : (q : Int) ≤ (q2 : Int) := by omega
    have hq20 : 0 < q2 := by omega
    simp [c1, c2, w1, hmin, hqi, w2, w3, c3, c4, c5, c6, hL]
    refine call_intro h1 ?_ ?_
    · simp
    simp [hlq, hqq, hqqi]
    refine call_intro h2 ?_ ?_
    · simp
    simp [hlq, hqq, hqqi]
    refine call_intro h3 ?_ ?_
    · rw [List.take_of_length_le (by omega)]
      simp
    simp
    refine call_intro (rpair_meets (rootD (l.take q)) (rootD (l.drop q))) ?_ ?_
    · simp
    simp [hr, hl0, hq20]
    refine call_intro h4 ?_ ?_
    · simp [Dgs_one]
    simp [Dgs_one, hl0, hq20]
    refine post_end (.inr rfl) ?_
    simp
end Go.Proofs.YtmkkfccnacodoaaDoor.WL
