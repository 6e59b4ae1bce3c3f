/- Texts put together: S03c, S14g, S04c, S05c, S14e, S14a, S05d, S08r, S14h, S14i. -/
import Derived.Test.YtjlmpdbagmdbiaaDoorWm9
section
/-
  CHAPTER 03: contracts of the reference.
-/
namespace Go.Proofs.YtjlmpdbagmdbiaaDoor.WL
open Go
set_option maxHeartbeats 4000000
attribute [local irreducible] comp hb sha leafD pairD

theorem rtext02_meets (b : Bytes) (h : b.length ≤ 100000000) : Meets Tryd.prog Gt fn_r02_Text [.v (.string (mkS b))] [] true (dv (sha b)) [] := by
  refine meets_of_go mix k_r02_Text ⟨by simp, by simp, by simp⟩ ?_
  have h1 := rof_meets (G := Gt) b h
  have h2 : b.length ≤ maxLen := le_max (by omega)
  simp [h2]
  refine call_intro h1 ?_ ?_
  · simp
  simp
  refine post_end (.inr rfl) ?_
  simp

theorem rleaf_meets (b : Bytes) (h : b.length ≤ 1000000) : Meets Tryd.prog Gt fn_r03_Leaf [.v (.string (mkS b))] [] true (dv (leafD b)) [] := by
  refine meets_of_go mix k_r03_Leaf ⟨by simp, by simp, by simp⟩ ?_
  have h1 := rtext02_meets (0 :: b) (by rw [List.length_cons]; omega)
  have e2 : sha (0 :: b) = leafD b := by unfold leafD; rfl
  rw [e2] at h1
  have f1 : fitsS (1 + b.length) := fitS (by omega)
  simp [f1]
  refine call_intro h1 ?_ ?_
  · simp
  simp
  refine post_end (.inr rfl) ?_
  simp

theorem rpair_meets (a b : Dg) : Meets Tryd.prog Gt fn_r03_Pair [dv a, dv b] [] true (dv (pairD a b)) [] := by
  refine meets_of_go mix k_r03_Pair ⟨by simp, by simp, by simp⟩ ?_
  have h1 := rtext02_meets (1 :: (a.bs ++ b.bs)) (by simp)
  have e2 : sha (1 :: (a.bs ++ b.bs)) = pairD a b := by unfold pairD; rfl
  rw [e2] at h1
  have f1 : fitsS (1 + 32) := fitS (by omega)
  have f2 : fitsS (1 + 32 + 32) := fitS (by omega)
  simp
  refine call_intro (rfdigest_meets a) ?_ ?_
  · simp
  simp [f1]
  refine call_intro (rfdigest_meets b) ?_ ?_
  · simp
  simp [f2]
  refine call_intro h1 ?_ ?_
  · simp
  simp
  refine post_end (.inr rfl) ?_
  simp

theorem tmod2 (j : Nat) : Int.tmod (j : Int) 2 = ((j % 2 : Nat) : Int) := by
  rw [Int.tmod_eq_emod_of_nonneg (by omega)]
  omega
theorem tdiv2 (j : Nat) : Int.tdiv (j : Int) 2 = ((j / 2 : Nat) : Int) := by
  rw [Int.tdiv_eq_ediv_of_nonneg (by omega)]
  omega

theorem rcheck_meets (root : Dg) : ∀ (n : Nat) (leaf : Dg) (at_ count : Nat) (path : List Dg), count ≤ n → at_ < count → count < 9223372036854775808 →
    Meets Tryd.prog Gt fn_r03_Check [dv root, dv leaf, .v (.int .i64 (at_ : Nat)), .v (.int .i64 (count : Nat)), .sl 32 (Dgs path)] [] true (.v (.bool (checkD root leaf at_ count path))) []
  | n, leaf, at_, count, path, hcn, hat, hc => by
    refine meets_of_go mix k_r03_Check ⟨by simp, by simp, by simp⟩ ?_
    by_cases h1 : count = 1
    · have c1 : (count : Int) = 1 := by omega
      rw [checkD_end root leaf at_ count path (by omega)]
      by_cases h5 : path = []
      · subst h5
        simp [h1]
        refine post_end (.inr rfl) ?_
        simp
      · have h6 : ¬ path.length = 0 := by intro e; exact h5 (List.eq_nil_of_length_eq_zero e)
        have h7 : ¬ ((path.length : Int) = 0) := by omega
        simp [h1, h6, h7, h5]
        refine post_end (.inr rfl) ?_
        simp
    · cases n with
      | zero => omega
      | succ n =>
        have c1 : ¬ (count : Int) = 1 := by omega
        have hd := tdiv2 count
        have hm2 := tmod2 count
        have hd2 := tdiv2 at_
        have hw2 : IntKind.i64.wrap ((at_ / 2 : Nat) : Int) = ((at_ / 2 : Nat) : Int) := w64_id (by omega)
        have hw : IntKind.i64.wrap ((count / 2 : Nat) : Int) = ((count / 2 : Nat) : Int) := w64_id (by omega)
        have hw3 : IntKind.i64.wrap (((count / 2 : Nat) : Int) + ((count % 2 : Nat) : Int)) = (((count + 1) / 2 : Nat) : Int) := by rw [w64_id (by omega)]; omega
        have hw4 : IntKind.i64.wrap ((count : Int) - 1) = ((count - 1 : Nat) : Int) := by rw [w64_id (by omega)]; omega
        obtain ⟨u, hu⟩ : ∃ u, (count + 1) / 2 = u := ⟨_, rfl⟩
        obtain ⟨c2, hc2⟩ : ∃ u, count / 2 = u := ⟨_, rfl⟩
        obtain ⟨cm, hcm⟩ : ∃ u, count % 2 = u := ⟨_, rfl⟩
        obtain ⟨a2, ha2⟩ : ∃ u, at_ / 2 = u := ⟨_, rfl⟩
        obtain ⟨n1, hn1⟩ : ∃ u, count - 1 = u := ⟨_, rfl⟩
        have k1 := rcheck_meets root n
        by_cases hs : count ≤ sib at_
        · have ho : at_ % 2 = 0 ∧ at_ = n1 := by
            unfold sib at hs
            split at hs <;> omega
          have hm : Int.tmod (at_ : Int) 2 = 0 := by rw [tmod2, ho.1]; rfl
          have hup := checkD_up root leaf at_ count path (by omega) hs
          rw [hu, ha2] at hup
          have ih := k1 leaf a2 u path (by omega) (by omega) (by omega)
          rw [← hup] at ih
          rw [hc2] at hd hw hw3
          rw [hcm] at hm2 hw3
          rw [ha2] at hd2 hw2
          rw [hu] at hw3
          rw [hn1, ← ho.2] at hw4
          simp [h1, c1, hd, hm2, hw, hw3, hm, hw4, hd2, hw2]
          refine call_intro ih ?_ ?_
          · simp
          simp
          refine post_end (.inr rfl) ?_
          simp
        · have hne : at_ % 2 = 1 ∨ at_ ≠ n1 := by
            unfold sib at hs
            split at hs <;> omega
          rw [hc2] at hd hw hw3
          rw [hcm] at hm2 hw3
          rw [ha2] at hd2 hw2
          rw [hu] at hw3
          rw [hn1] at hw4
          have c5 : ¬ (at_ % 2 = 0 ∧ (at_ : Int) = (n1 : Int)) := by omega
          cases path with
          | nil =>
            have hup := checkD_none root leaf at_ count (by omega) hs
            rw [hup]
            rcases Nat.mod_two_eq_zero_or_one at_ with hpar | hpar
            · have hm : Int.tmod (at_ : Int) 2 = 0 := by rw [tmod2, hpar]; rfl
              have c6 : ¬ (at_ : Int) = (n1 : Int) := by omega
              have c7 : ¬ at_ = n1 := by omega
              simp [h1, c1, hd, hm2, hw, hw3, hm, hw4, c6, c7]
              refine post_end (.inr rfl) ?_
              simp
            · have hm : Int.tmod (at_ : Int) 2 = 1 := by rw [tmod2, hpar]; rfl
              simp [h1, c1, hd, hm2, hw, hw3, hm, hw4]
              refine post_end (.inr rfl) ?_
              simp
          | cons q ps =>
            have hup := checkD_pair root leaf at_ count q ps (by omega) hs
            rw [hu, ha2] at hup
            have hn0 : ¬ ((ps.length : Int) + 1 = 0) := by omega
            have hn3 : (0 : Int) < (ps.length : Int) + 1 := by omega
            have hn4 : (1 : Int) ≤ (ps.length : Int) + 1 := by omega
            have hDg : Dgs (q :: ps) = dv q :: Dgs ps := rfl
            rcases Nat.mod_two_eq_zero_or_one at_ with hpar | hpar
            · have hm : Int.tmod (at_ : Int) 2 = 0 := by rw [tmod2, hpar]; rfl
              have c6 : ¬ (at_ : Int) = (n1 : Int) := by omega
              have c7 : ¬ at_ = n1 := by omega
              rw [if_neg (by omega)] at hup
              have ih := k1 (pairD leaf q) a2 u ps (by omega) (by omega) (by omega)
              rw [← hup] at ih
              simp [h1, c1, hd, hm2, hw, hw3, hm, hw4, c6, c7, hn0, hn3, hDg]
              refine call_intro (rpair_meets leaf q) ?_ ?_
              · simp
              simp [hd2, hw2, hn4]
              refine call_intro ih ?_ ?_
              · simp
              simp
              refine post_end (.inr rfl) ?_
              simp
            · have hm : Int.tmod (at_ : Int) 2 = 1 := by rw [tmod2, hpar]; rfl
              rw [if_pos hpar] at hup
              have ih := k1 (pairD q leaf) a2 u ps (by omega) (by omega) (by omega)
              rw [← hup] at ih
              simp [h1, c1, hd, hm2, hw, hw3, hm, hw4, hn0, hn3, hDg]
              refine call_intro (rpair_meets q leaf) ?_ ?_
              · simp
              simp [hd2, hw2, hn4]
              refine call_intro ih ?_ ?_
              · simp
              simp
              refine post_end (.inr rfl) ?_
              simp

end Go.Proofs.YtjlmpdbagmdbiaaDoor.WL

end
section
/-
  CHAPTER 08: the reference.
-/
namespace Go.Proofs.YtjlmpdbagmdbiaaDoor.WL
open Go
set_option maxHeartbeats 8000000
variable {G : Nat → Option AV}

theorem idxOf_hit {ms : List Mem} {id : Int} {k : Nat} (hk : k < ms.length) (h : (ms[k]).id = id) (hm : ∀ j (hj : j < ms.length), j < k → (ms[j]).id ≠ id) : idxOf ms id = (k : Int) := by
  have := Lib.idxBy_hit (fun _ y : Mem => decide (y.id = id)) ms ms.length k default hk (Nat.le_refl _) (decide_eq_true (by simp [hk, h])) (fun j hj => decide_eq_false (by simpa [show j < ms.length by omega] using hm j (by omega) hj))
  rwa [List.take_length] at this
theorem idxOf_miss {ms : List Mem} {id : Int} (hm : ∀ j (hj : j < ms.length), (ms[j]).id ≠ id) : idxOf ms id = -1 := by
  have := Lib.idxBy_miss (fun _ y : Mem => decide (y.id = id)) ms ms.length default (fun j hj => decide_eq_false (by simpa [show j < ms.length by omega] using hm j (by omega)))
  rwa [List.take_length] at this
attribute [local irreducible] sha idxOf faults quorum

theorem rright_meets (m : Mem) : Meets Tryd.prog G fn_r08_Right [m.av] [] true (.v (.bool m.good)) [] := by
  refine meets_of_go mix k_r08_Right ⟨by simp, by simp, by simp⟩ ?_
  have e : m.good = (decide (0 < m.id) && decide (m.id < 64) && decide (0 ≤ m.height) && decide (m.height < 7)) := by
    unfold Mem.good
    rw [Bool.eq_iff_iff]
    simp only [Bool.and_eq_true, decide_eq_true_eq]
    omega
  rw [e]
  by_cases c1 : 0 < m.id
  case neg =>
    simp [Mem.av, dv, c1]
    refine post_end (.inr rfl) ?_
    simp
  by_cases c2 : m.id < 64
  case neg =>
    simp [Mem.av, dv, c1, c2]
    refine post_end (.inr rfl) ?_
    simp
  by_cases c3 : 0 ≤ m.height
  case neg =>
    simp [Mem.av, dv, c1, c2, c3]
    refine post_end (.inr rfl) ?_
    simp
  by_cases c4 : m.height < 7
  case neg =>
    simp [Mem.av, dv, c1, c2, c3, c4]
    refine post_end (.inr rfl) ?_
    simp
  simp [Mem.av, dv, c1, c2, c3, c4]
  refine post_end (.inr rfl) ?_
  simp
theorem rplace_meets (c : Conf) (id : Int) (hn : c.ms.length ≤ 1000000) : Meets Tryd.prog G fn_r08_Place [c.av, .v (.int .i64 id)] [] true (.v (.int .i64 (idxOf c.ms id))) [] := by
  refine meets_of_go mix k_r08_Place ⟨by simp, by simp, by simp⟩ ?_
  have hhit := @idxOf_hit c.ms id
  have hmiss := @idxOf_miss c.ms id
  generalize idxOf c.ms id = res at *
  generalize hms : c.ms = ms at *
  simp [Conf.av, hms]
  refine go_up ms.length (fun j (_ : Unit) => ∀ i (h : i < ms.length), i < j → (ms[i]).id ≠ id) (fun j (_ : Unit) q => ⟨[(1, .v (.int .i64 id)), (8, .sl 34 (Mems ms)), (9, .v (.int .i64 (ms.length : Nat))), (10, .v (.int .i64 (j : Nat)))], [], q + 1⟩) () _ (Weak.re (by simp)) (by intro i _ h; omega) ?_ ?_
  · intro j _ q hj hx
    have hw : IntKind.i64.wrap ((j : Int) + 1) = ((j + 1 : Nat) : Int) := w64_succ (by omega)
    by_cases h : ms[j].id = id
    · have hr := hhit hj h (fun i hi hij => hx i hi hij)
      simp [hj, Mem.av, eq_true h]
      refine post_end (.inr rfl) ?_
      simp [hr]
    · simp [hj, Mem.av, h, hw]
      refine ⟨(), _, Weak.re (by simp), ?_⟩
      intro i hi hij
      rcases (show i < j ∨ i = j by omega) with h1 | rfl
      · exact hx i hi h1
      · exact h
  · intro _ q hx
    have hr := hmiss (fun j hj => hx j hj hj)
    simp
    refine post_end (.inr rfl) ?_
    simp [hr]
theorem rgood08_meets (c : Conf) : Meets Tryd.prog G fn_r08_Good [c.av] [] true (.v (.bool c.good)) [] := by
  refine meets_of_go mix k_r08_Good ⟨by simp, by simp, by simp⟩ ?_
  by_cases c1 : c.epoch < 0
  · have d1 : ¬ 0 ≤ c.epoch := by omega
    simp [Conf.av, c1]
    refine post_end (.inr rfl) ?_
    simp [Conf.good, d1]
  by_cases c2 : 1073741824 < c.epoch
  · have d1 : ¬ c.epoch ≤ 1073741824 := by omega
    simp [Conf.av, c1, c2]
    refine post_end (.inr rfl) ?_
    simp [Conf.good, d1]
  by_cases c3 : c.ms = []
  · simp [Conf.av, c1, c2, c3]
    refine post_end (.inr rfl) ?_
    simp [Conf.good, c3]
  have c3' : 0 < c.ms.length := List.length_pos_iff.2 c3
  have c5 : ¬ ((c.ms.length : Nat) : Int) < 1 := by omega
  by_cases c4 : (10 : Int) < (c.ms.length : Nat)
  · have d1 : ¬ c.ms.length ≤ 10 := by omega
    simp [Conf.av, c1, c2, c5, c4]
    refine post_end (.inr rfl) ?_
    simp [Conf.good, d1]
  have hno := @Conf.good_no c
  have hyes : (∀ j, j < c.ms.length → memOk c.ms j = true) → c.good = true := by
    intro h
    have : (List.range c.ms.length).all (memOk c.ms) = true := List.all_eq_true.2 fun j hj => h j (List.mem_range.1 hj)
    simp only [Conf.good, this, Bool.and_true, Bool.and_eq_true, decide_eq_true_eq]
    omega
  generalize hr : c.good = res at *
  generalize hms : c.ms = ms at *
  generalize hep : c.epoch = ep at *
  simp [Conf.av, c1, c2, c5, c4, hms, hep]
  refine go_up ms.length (fun j (_ : Unit) => ∀ i, i < j → memOk ms i = true) (fun j (_ : Unit) q => ⟨[(1, .ptr 1 q 0), (26, .sl 34 (Mems ms)), (27, .v (.int .i64 (ms.length : Nat))), (28, .v (.int .i64 (j : Nat)))], [(1, .var q (.node [.v (.int .i64 ep), .sl 34 (Mems ms)]))], q + 1⟩) () _ (Weak.re (by simp)) (by intro i h; omega) ?_ ?_
  · intro j _ q hj hx
    have hw : IntKind.i64.wrap ((j : Int) + 1) = ((j + 1 : Nat) : Int) := w64_succ (by omega)
    have hs : IntKind.i64.wrap ((j : Int) - 1) = (j : Int) - 1 := w64_id (by omega)
    have m1 := rright_meets (G := G) ms[j]
    have hnext : memOk ms j = true → ∀ i, i < j + 1 → memOk ms i = true := by
      intro h i hi
      rcases (show i < j ∨ i = j by omega) with h1 | rfl
      · exact hx i h1
      · exact h
    simp [hj]
    refine call_intro m1 ?_ ?_
    · simp
    simp
    cases hg : ms[j].good
    · have hb : memOk ms j = false := by simp [memOk, hj, hg]
      simp [hg]
      refine post_end (.inr rfl) ?_
      simp [hno hj hb]
    by_cases hj0 : j = 0
    · subst hj0
      have hb : memOk ms 0 = true := by simp [memOk, hj, hg]
      have hw1 : IntKind.i64.wrap 1 = 1 := w64_id (by omega)
      simp [hg, hw1]
      exact ⟨(), _, Weak.re (by simp), hnext hb⟩
    · have hj1 : 0 < j := by omega
      have hj2 : (j : Int) - 1 < ms.length := by omega
      have hj3 : ((j : Int) - 1).toNat = j - 1 := by omega
      have hj4 : j - 1 < ms.length := by omega
      have hj5 : (1 : Int) ≤ (j : Int) := by omega
      have e := memOk_pos (by omega) hj
      by_cases hl : ms[j-1].id < ms[j].id
      · have hb : memOk ms j = true := by rw [e, hg]; simp [hl]
        have hl' : ¬ ms[j].id ≤ ms[j-1].id := by omega
        simp [hg, hw, hs, hj0, hj1, hj2, hj3, hj4, hj5, hl', Mem.av]
        exact ⟨(), _, Weak.re (by simp), hnext hb⟩
      · have hb : memOk ms j = false := by rw [e, hg]; simp [hl]
        have hl' : ms[j].id ≤ ms[j-1].id := by omega
        simp [hg, hs, hj0, hj1, hj2, hj3, hj4, hj5, hl', Mem.av]
        refine post_end (.inr rfl) ?_
        simp [hno hj hb]
  · intro _ q hx
    have hb := hyes hx
    subst hb
    simp
    refine post_end (.inr rfl) ?_
    simp
end Go.Proofs.YtjlmpdbagmdbiaaDoor.WL

end
section
/-
  CHAPTER 04: contracts of the reference.
-/
namespace Go.Proofs.YtjlmpdbagmdbiaaDoor.WL
open Go
set_option maxHeartbeats 4000000
attribute [local irreducible] comp hb sha leafD pairD secD shutD wholeD pubD ofD

theorem rshut_meets (s : Dg) : Meets Tryd.prog Gt fn_r04_Shut [dv s] [] true (dv (shutD s)) [] := by
  refine meets_of_go mix k_r04_Shut ⟨by simp, by simp, by simp⟩ ?_
  have h1 := rof_meets (G := Gt) s.bs (by simp)
  have e2 : sha s.bs = shutD s := by unfold shutD; rfl
  rw [e2] at h1
  simp
  refine call_intro h1 ?_ ?_
  · simp
  simp
  refine post_end (.inr rfl) ?_
  simp

theorem rbit_meets {G : Nat → Option AV} (d : Dg) (i : Nat) (hi : i < 256) : Meets Tryd.prog G fn_r04_Bit [dv d, .v (.int .i64 (i : Nat))] [] true (.v (.int .i64 (bitD d i : Nat))) [] := by
  refine meets_of_go mix k_r04_Bit ⟨by simp, by simp, by simp⟩ ?_
  obtain ⟨q, hq⟩ : ∃ q : Nat, i / 8 = q := ⟨_, rfl⟩
  obtain ⟨r, hr⟩ : ∃ r : Nat, i % 8 = r := ⟨_, rfl⟩
  have d1 : Int.tdiv (i : Int) 8 = (q : Int) := by have := tdivN i 8; rw [hq] at this; exact this
  have d2 : Int.tmod (i : Int) 8 = (r : Int) := by have := tmodN i 8; rw [hr] at this; exact this
  have w0 : IntKind.i64.wrap (q : Int) = (q : Int) := w64_id (by omega)
  have hq32 : q < 32 := by omega
  have hq32i : (q : Int) < 32 := by omega
  have hql : q < d.bs.length := by rw [Dg.length]; omega
  obtain ⟨b, hb⟩ : ∃ b, d.bs[q] = b := ⟨_, rfl⟩
  have hbn := b.toNat_lt
  have hget : d.bs[q]? = some b := by rw [List.getElem?_eq_getElem hql, hb]
  have hbit : b.toNat / 2 ^ (7 - r) % 2 = bitD d i := by
    unfold bitD
    rw [hq, hr, List.getD_eq_getElem?_getD, hget, Option.getD_some]
  have wb : IntKind.i64.wrap (b.toNat : Int) = (b.toNat : Int) := w64_id (by omega)
  simp [d1, d2, w0, hq32, hq32i, hget, hb, wb]
  obtain ⟨f, hf⟩ : ∃ f : Nat → Nat, ∀ j, f j = b.toNat / 2 ^ j := ⟨_, fun _ => rfl⟩
  obtain ⟨g, hg⟩ : ∃ g : Nat → Nat, ∀ j, g j = r + j := ⟨_, fun _ => rfl⟩
  have hf0 : f 0 = b.toNat := by rw [hf]; simp
  have hg0 : g 0 = r := by rw [hg]; rfl
  refine go_up (7 - r) (fun j (_ : Unit) => True) (fun j _ c => ⟨[(5, .v (.int .i64 (f j : Nat))), (6, .v (.int .i64 (g j : Nat)))], [], c + 1⟩) () _ (Weak.re (by simp [hf0, hg0])) trivial ?_ ?_
  · intro j _ c hj _
    have hfj := hf j
    have hfj1 := hf (j + 1)
    have hgj := hg j
    have hgj1 := hg (j + 1)
    have hvl : f j ≤ b.toNat := by rw [hfj]; exact Nat.div_le_self _ _
    have e1 : f (j + 1) = f j / 2 := by rw [hfj1, Nat.pow_succ, ← Nat.div_div_eq_div_mul, ← hfj]
    generalize f j = v at *
    obtain ⟨v2, hv2⟩ : ∃ v2, f (j + 1) = v2 := ⟨_, rfl⟩
    obtain ⟨k1, hk1⟩ : ∃ v2, g (j + 1) = v2 := ⟨_, rfl⟩
    rw [hv2] at e1
    rw [hk1] at hgj1
    generalize g j = k at *
    have hk7 : (k : Int) < 7 := by omega
    have hk7n : k < 7 := by omega
    have d3 : Int.tdiv (v : Int) 2 = (v2 : Int) := by rw [tdiv2, e1]
    have w1 : IntKind.i64.wrap (v2 : Int) = (v2 : Int) := w64_id (by omega)
    have w2 : IntKind.i64.wrap ((k : Int) + 1) = (k1 : Int) := by rw [w64_id (by omega)]; omega
    simp [hk7, hk7n, d3, w1, w2]
    exact ⟨(), _, Weak.re (by simp [hv2, hk1]), trivial⟩
  · intro _ c _
    have hfj := hf (7 - r)
    have hgj := hg (7 - r)
    rw [← hfj] at hbit
    generalize f (7 - r) = v at *
    generalize g (7 - r) = k at *
    have hk : k = 7 := by omega
    subst hk
    have hm := tmod2 v
    rw [hbit] at hm
    simp [hm]
    refine post_end (.inr rfl) ?_
    simp

end Go.Proofs.YtjlmpdbagmdbiaaDoor.WL

end
section
/-
  CHAPTER 05: contracts of the reference.
-/
namespace Go.Proofs.YtjlmpdbagmdbiaaDoor.WL
open Go
set_option maxHeartbeats 4000000
attribute [local irreducible] comp hb sha leafD pairD secD shutD wholeD pubD ofD

theorem rof4_bad (d : Dg) (o s : List Dg) (h : ¬ (o.length = 32 ∧ s.length = 32)) : Meets Tryd.prog Gt fn_r04_Of [dv d, .node [.sl 32 (Dgs o), .sl 32 (Dgs s)]] [] true (.tup [dv Dg.zero, .v (.bool false)]) [] := by
  refine meets_of_go mix k_r04_Of ⟨by simp, by simp, by simp⟩ ?_
  by_cases h1 : o.length = 32
  · have h2 : ¬ s.length = 32 := fun e => h ⟨h1, e⟩
    have h3 : ¬ (s.length : Int) = 32 := by omega
    simp [h1, h2, h3]
    refine post_end (.inr rfl) ?_
    simp
  · have h3 : ¬ (o.length : Int) = 32 := by omega
    simp [h1, h3]
    refine post_end (.inr rfl) ?_
    simp

theorem flatD_app (a b : List Dg) : flatD (a ++ b) = flatD a ++ flatD b := by simp [flatD]
theorem rof4_meets (d : Dg) (o s : List Dg) (N : Nat) (hN : N = 32) (ho : o.length = N) (hs : s.length = N) : Meets Tryd.prog Gt fn_r04_Of [dv d, .node [.sl 32 (Dgs o), .sl 32 (Dgs s)]] [] true (.tup [dv (ofD d o s N), .v (.bool true)]) [] := by
  refine meets_of_go mix k_r04_Of ⟨by simp, by simp, by simp⟩ ?_
  have ho32 : o.length = 32 := by omega
  have hs32 : s.length = 32 := by omega
  simp [ho32, hs32]
  refine go_up N (fun j (x : Bytes) => x = flatD (ofL d o s j)) (fun j x c => ⟨[(2, .ptr 2 c 0), (3, .ptr 3 c 0), (4, .ptr 4 c 0), (6, .v (.string (mkS x))), (7, .v (.int .i64 (j : Nat)))],
    [(2, .var c (dv d)), (3, .var c (.node [.sl 32 (Dgs o), .sl 32 (Dgs s)])), (4, .var c (dv Dg.zero))], c + 1⟩) [] _ (Weak.re (by simp)) (by simp [ofL, flatD]) ?_ ?_
  · intro j x c hj hx
    have hw : IntKind.i64.wrap ((j : Int) + 1) = ((j + 1 : Nat) : Int) := w64_succ (by omega)
    have hj8 : (j : Int) < 32 := by omega
    have hxl : x.length = 64 * j := by rw [hx, flatD_length, ofL_length]; omega
    have f1 : fitsS (x.length + 32) := fitS (by omega)
    have f2 : fitsS (x.length + 32 + 32) := fitS (by omega)
    have hbt := rbit_meets (G := Gt) d j (by omega)
    have hle := bitD_le d j
    have hjo : j < o.length := by omega
    have hjs : j < s.length := by omega
    have hnx : x ++ flatD (two (bitD d j) (shutD o[j]) s[j]) = flatD (ofL d o s (j + 1)) := by
      have e1 : o.getD j Dg.zero = o[j] := by rw [List.getD_eq_getElem?_getD, List.getElem?_eq_getElem hjo]; rfl
      have e2 : s.getD j Dg.zero = s[j] := by rw [List.getD_eq_getElem?_getD, List.getElem?_eq_getElem hjs]; rfl
      rw [hx, ← e1, ← e2, ← flatD_app]
      rfl
    generalize bitD d j = b at *
    have t1 := rshut_meets o[j]
    generalize shutD o[j] = a at *
    obtain ⟨z, hz⟩ : ∃ z, s[j] = z := ⟨_, rfl⟩
    rw [hz] at hnx
    have d1 := rfdigest_meets (G := Gt) a
    have d2 := rfdigest_meets (G := Gt) z
    have e2 : ∀ p q : Dg, flatD [p, q] = p.bs ++ q.bs := fun p q => by simp [flatD]
    rcases hle with rfl | rfl
    · rw [two, if_pos rfl, e2] at hnx
      simp [hj8, hjo, hjs, hz]
      refine call_intro t1 ?_ ?_
      · simp
      simp [hjo, hjs, hz]
      refine call_intro d1 ?_ ?_
      · simp
      simp [hjo, hjs, hz]
      refine call_intro d2 ?_ ?_
      · simp
      simp
      refine call_intro hbt ?_ ?_
      · simp
      simp [f1, f2, hw]
      exact ⟨x ++ (a.bs ++ z.bs), _, Weak.re (by simp), hnx⟩
    · rw [two, if_neg (by omega), e2] at hnx
      simp [hj8, hjo, hjs, hz]
      refine call_intro t1 ?_ ?_
      · simp
      simp [hjo, hjs, hz]
      refine call_intro d1 ?_ ?_
      · simp
      simp [hjo, hjs, hz]
      refine call_intro d2 ?_ ?_
      · simp
      simp
      refine call_intro hbt ?_ ?_
      · simp
      simp [f1, f2, hw]
      exact ⟨x ++ (z.bs ++ a.bs), _, Weak.re (by simp), hnx⟩
  · intro x c hx
    have hxl : x.length = 64 * N := by rw [hx, flatD_length, ofL_length]; omega
    have htx := rtext02_meets x (by omega)
    have hp : sha x = ofD d o s N := by rw [hx]; unfold ofD wholeD; rfl
    rw [hp] at htx
    generalize ofD d o s N = y at *
    subst hN
    simp
    refine call_intro htx ?_ ?_
    · simp
    simp
    refine post_end (.inr rfl) ?_
    simp

theorem rkcheck_meets (root : Dg) (h : Int) (d : Dg) (s : Sig) (hh : -9223372036854775808 ≤ h ∧ h < 9223372036854775808) (hl : -9223372036854775808 ≤ s.leaf ∧ s.leaf < 9223372036854775808) :
    Meets Tryd.prog Gt fn_r05_Check [.node [dv root, .v (.int .i64 h)], dv d, s.avS] [] true (.v (.bool (checkK root h d s))) [] := by
  refine meets_of_go mix k_r05_Check ⟨by simp, by simp, by simp⟩ ?_
  unfold checkK
  by_cases h1 : s.op.length = 32 ∧ s.sh.length = 32
  · have m1 := rof4_meets d s.op s.sh 32 rfl h1.1 h1.2
    generalize ofD d s.op s.sh 32 = y at *
    have m2 := rfdigest_meets (G := Gt) y
    have m3 := rleaf_meets y.bs (by simp)
    have e : leafD y.bs = leafK y := by unfold leafK; rfl
    rw [e] at m3
    generalize leafK y = z at *
    by_cases h2 : h < 0
    · have h2' : ¬ 0 ≤ h := by omega
      simp [Sig.avS]
      refine call_intro m1 ?_ ?_
      · simp
      simp [h2]
      refine post_end (.inr rfl) ?_
      simp [h2']
    by_cases h3 : 6 < h
    · have h3' : ¬ h ≤ 6 := by omega
      simp [Sig.avS]
      refine call_intro m1 ?_ ?_
      · simp
      simp [h2, h3]
      refine post_end (.inr rfl) ?_
      simp [h3']
    by_cases h4 : s.leaf < 0
    · have h4' : ¬ 0 ≤ s.leaf := by omega
      simp [Sig.avS]
      refine call_intro m1 ?_ ?_
      · simp
      simp [h2, h3, h4]
      refine post_end (.inr rfl) ?_
      simp [h4']
    obtain ⟨n, rfl⟩ : ∃ n : Nat, h = n := ⟨h.toNat, by omega⟩
    have hmin : min n 64 = n := by omega
    have hn6 : n ≤ 6 := by omega
    obtain ⟨q, hq⟩ : ∃ q : Nat, q = 2 ^ n := ⟨_, rfl⟩
    have hq64 : q ≤ 64 := by rw [hq]; exact Nat.le_trans (Nat.pow_le_pow_right (by omega) hn6) (by decide)
    have hqi : ((2 : Int) ^ n) = (q : Int) := by rw [hq]; simp
    have w0 : IntKind.u64.wrap (n : Int) = (n : Int) := u64_id (by omega)
    have w1 : IntKind.i64.wrap (q : Int) = (q : Int) := w64_id (by omega)
    obtain ⟨i, hi⟩ : ∃ i : Nat, s.leaf = i := ⟨s.leaf.toNat, by omega⟩
    have h4i : ¬ (i : Int) < 0 := by omega
    have h3n : ¬ 6 < n := by omega
    rw [Int.toNat_natCast, ← hq, hi, Int.toNat_natCast]
    by_cases h5 : (q : Int) ≤ (i : Int)
    · have h5' : ¬ (i : Int) < (q : Int) := by omega
      have h5n : q ≤ i := by omega
      have h5n' : ¬ i < q := by omega
      simp [Sig.avS, hi]
      refine call_intro m1 ?_ ?_
      · simp
      simp [h2, h3, h3n, h4i, w0, hmin, hqi, w1, h5, h5n]
      refine post_end (.inr rfl) ?_
      simp [h5n']
    · have h5n : ¬ q ≤ i := by omega
      have h5n' : i < q := by omega
      have m4 := rcheck_meets root q z i q s.path (Nat.le_refl _) h5n' (by omega)
      generalize checkD root z i q s.path = e at *
      simp [Sig.avS, hi]
      refine call_intro m1 ?_ ?_
      · simp
      simp [h2, h3, h3n, h4i, w0, hmin, hqi, w1, h5, h5n]
      refine call_intro m2 ?_ ?_
      · simp
      simp
      refine call_intro m3 ?_ ?_
      · simp
      simp
      refine call_intro m4 ?_ ?_
      · simp
      simp
      refine post_end (.inr rfl) ?_
      have h3' : (n : Int) ≤ 6 := by omega
      simp [h1, h5n', hn6, h3']
  · have m1 := rof4_bad d s.op s.sh h1
    simp [Sig.avS]
    refine call_intro m1 ?_ ?_
    · simp
    simp
    refine post_end (.inr rfl) ?_
    simp [h1]

def Sig.same (a b : Sig) : Bool := decide (a.leaf = b.leaf) && (decide (a.op = b.op) && decide (a.sh = b.sh)) && decide (a.path = b.path)
end Go.Proofs.YtjlmpdbagmdbiaaDoor.WL

end
section
/-
  CHAPTER 13: whether a vote is right.
-/
namespace Go.Proofs.YtjlmpdbagmdbiaaDoor.WL
open Go
set_option maxHeartbeats 4000000
variable {G : Nat → Option AV}
attribute [local irreducible] sha comp hb checkK idxOf Vote.signs Vote.good

def memAt (ms : List Mem) (id : Int) : Mem := ms[(idxOf ms id).toNat]!
def rightV (c : Conf) (v : Vote) : Bool := decide (0 ≤ idxOf c.ms v.src) && v.good && decide (v.epoch = c.epoch) && checkK (memAt c.ms v.src).root (memAt c.ms v.src).height v.signs v.sig
theorem rightV_none {c : Conf} {v : Vote} (h : idxOf c.ms v.src = -1) : rightV c v = false := by simp [rightV, h]
theorem rightV_some {c : Conf} {v : Vote} {k : Nat} (hk : k < c.ms.length) (h : idxOf c.ms v.src = (k : Int)) : rightV c v = (v.good && decide (v.epoch = c.epoch) && checkK c.ms[k].root c.ms[k].height v.signs v.sig) := by
  simp [rightV, memAt, h, hk]

theorem vright_meets (c : Conf) (v : Vote) (hms : c.ms ≠ []) (hm : ∀ m ∈ c.ms, W64 m.height) (hv : W64 v.sig.leaf) : Meets Tryd.prog Gt fn_vote_Right [c.av, v.av] [] true (.v (.bool (rightV c v))) [] := by
  refine meets_of_go mix k_vote_Right ⟨by simp, by simp, by simp⟩ ?_
  rcases idxOf_case c.ms v.src with h | ⟨k, hk, h⟩
  · rw [rightV_none h]
    have m1 := find_none (G := Gt) hms h
    simp [Conf.av, Vote.av]
    refine call_intro m1 ?_ ?_
    · simp [Conf.av]
    simp [Mem.av]
    refine post_end (.inr rfl) ?_
    simp
  · rw [rightV_some hk h]
    have m1 := find_some (G := Gt) hk h
    have m2 := vgood_meets (G := Gt) v
    have m3 := vsigns_meets v
    have hh := hm _ (List.getElem_mem hk)
    have m4 := kcheck_meets c.ms[k].root c.ms[k].height v.signs v.sig hh hv
    generalize checkK c.ms[k].root c.ms[k].height v.signs v.sig = b4 at *
    generalize v.signs = sg at *
    simp [Conf.av, Vote.av]
    refine call_intro m1 ?_ ?_
    · simp [Conf.av]
    simp [Mem.av]
    refine call_intro m2 ?_ ?_
    · simp [Vote.av]
    simp
    cases hg : v.good
    · simp [hg]
      refine post_end (.inr rfl) ?_
      simp
    by_cases he : v.epoch = c.epoch
    · simp [hg, he]
      refine call_intro m3 ?_ ?_
      · simp [Vote.av, hg, he]
      simp [dv]
      refine call_intro m4 ?_ ?_
      · simp [dv]
      simp
      refine post_end (.inr rfl) ?_
      simp
    · simp [hg, he]
      refine post_end (.inr rfl) ?_
      simp
end Go.Proofs.YtjlmpdbagmdbiaaDoor.WL

end
section
/-
  CHAPTER 14, 15: contracts of words and links, written and read.
-/
namespace Go.Proofs.YtjlmpdbagmdbiaaDoor.WL
open Go
set_option maxHeartbeats 4000000
variable {G : Nat → Option AV}
attribute [local irreducible] sha
attribute [local irreducible] Rd.sig Rd.sig' Rd.blk Rd.blk' Rd.inn Rd.inn' Rd.dg Rd.dg' Rd.rep Rd.rep' repR

theorem voteF_len (v : Vote) (h : v.sig.ok = true) : (voteF.wr v).length ≤ 2328 := by
  simp only [Sig.ok, decide_eq_true_eq] at h
  rw [voteF_wr, List.length_append, Sig.bytes_len]
  simp [Vote.head, nums_length]
  omega
theorem votesB_len : ∀ (vs : List Vote), (vs.all fun v => v.sig.ok) = true → (votesB vs).length ≤ 2328 * vs.length
  | [], _ => by simp [votesB]
  | v :: vs, h => by
    simp only [List.all_cons, Bool.and_eq_true] at h
    have h1 := voteF_len v h.1
    have h2 := votesB_len vs h.2
    show (voteF.wr v ++ votesB vs).length ≤ _
    rw [List.length_append, List.length_cons]
    omega
/-! Links. -/
theorem Cert.bytes_len (x : Cert) (h : x.ok = true) : x.bytes.length ≤ 16 + 2328 * x.votes.length := by
  have := votesB_len x.votes h
  simp only [Cert.bytes, List.length_append, nums_length, List.length_cons, List.length_nil]
  omega
end Go.Proofs.YtjlmpdbagmdbiaaDoor.WL

end
section
/-
  CHAPTER 05: contracts of the reference: writing and reading.
-/
namespace Go.Proofs.YtjlmpdbagmdbiaaDoor.WL
open Go
set_option maxHeartbeats 4000000
variable {G : Nat → Option AV}

/-- Where the next digest goes. -/
structure KdA where
  o : List Dg
  s : List Dg
  p : List Dg
def KdA.put (a : KdA) (i : Nat) (d : Dg) : KdA := if i < 32 then { a with o := a.o ++ [d] } else if i < 64 then { a with s := a.s ++ [d] } else { a with p := a.p ++ [d] }
end Go.Proofs.YtjlmpdbagmdbiaaDoor.WL

end
section
/-
  CHAPTER 08: the reference's bytes of a configuration.
-/
namespace Go.Proofs.YtjlmpdbagmdbiaaDoor.WL
open Go
set_option maxHeartbeats 8000000
variable {G : Nat → Option AV}

theorem memsB_snoc (ms : List Mem) (j : Nat) (h : j < ms.length) : memsB (ms.take (j + 1)) = memsB (ms.take j) ++ memB ms[j] := by
  unfold memsB
  rw [← List.take_append_getElem h, List.flatMap_append]
  simp only [List.flatMap_cons, List.flatMap_nil, List.append_nil]
theorem rcbytes_meets (c : Conf) (hn : c.ms.length ≤ 100000) : Meets Tryd.prog G fn_r08_Bytes [c.av] [] true (.v (.string (mkS c.bytes))) [] := by
  refine meets_of_go mix k_r08_Bytes ⟨by simp, by simp, by simp⟩ ?_
  have hb : c.bytes = nums [c.epoch, (c.ms.length : Int)] ++ memsB c.ms := rfl
  rw [hb]
  have m1 := rfnum_meets (G := G) c.epoch
  have m2 := rfnum_meets (G := G) (c.ms.length : Int)
  have h0 : be8 c.epoch ++ be8 (c.ms.length : Int) = nums [c.epoch, (c.ms.length : Int)] := by simp [nums]
  have l1 : (be8 c.epoch).length = 8 := by simp
  have l2 : (be8 (c.ms.length : Int)).length = 8 := by simp
  have l0 : (nums [c.epoch, (c.ms.length : Int)]).length = 16 := by simp [nums_length]
  have f0 : fitsS (8 + 8) := fitS (by omega)
  generalize nums [c.epoch, (c.ms.length : Int)] = x1 at *
  generalize be8 c.epoch = y1 at *
  generalize be8 (c.ms.length : Int) = y2 at *
  simp [Conf.av]
  refine call_intro m1 ?_ ?_
  · simp
  simp
  refine call_intro m2 ?_ ?_
  · simp
  simp [l1, l2, f0, h0]
  refine go_up c.ms.length (fun j (x : Bytes) => x = x1 ++ memsB (c.ms.take j)) (fun j x q => ⟨[(3, .v (.string (mkS x))), (15, .sl 34 (Mems c.ms)), (16, .v (.int .i64 (c.ms.length : Nat))), (17, .v (.int .i64 (j : Nat)))], [], q + 1⟩) x1 _ (Weak.re (by simp)) (by simp [memsB]) ?_ ?_
  · intro j x q hj hx
    have hw : IntKind.i64.wrap ((j : Int) + 1) = ((j + 1 : Nat) : Int) := w64_succ (by omega)
    have hxl : x.length = 16 + j * 48 := by
      rw [hx, List.length_append, memsB_len, List.length_take, l0]
      omega
    have m3 := rfnum_meets (G := G) c.ms[j].id
    have m4 := rfnum_meets (G := G) c.ms[j].height
    have m5 := rfdigest_meets (G := G) c.ms[j].root
    have l3 : (be8 c.ms[j].id).length = 8 := by simp
    have l4 : (be8 c.ms[j].height).length = 8 := by simp
    have hx2 : x ++ (be8 c.ms[j].id ++ (be8 c.ms[j].height ++ c.ms[j].root.bs)) = x1 ++ memsB (c.ms.take (j + 1)) := by
      rw [hx, memsB_snoc _ _ hj, List.append_assoc]
      simp [memB, nums]
    have f1 : fitsS (x.length + 8) := fitS (by omega)
    have f2 : fitsS (x.length + 8 + 8) := fitS (by omega)
    have f3 : fitsS (x.length + 8 + 8 + 32) := fitS (by omega)
    generalize be8 c.ms[j].id = y3 at *
    generalize be8 c.ms[j].height = y4 at *
    simp [hj, Mem.av, dv]
    refine call_intro m3 ?_ ?_
    · simp
    simp [f1, l3]
    refine call_intro m4 ?_ ?_
    · simp
    simp [f2, l3, l4]
    refine call_intro m5 ?_ ?_
    · simp [dv]
    simp [f3, l3, l4, hw]
    exact ⟨x ++ (y3 ++ (y4 ++ c.ms[j].root.bs)), _, Weak.re (by simp), hx2⟩
  · intro x q hx
    rw [List.take_length] at hx
    subst hx
    simp
    refine post_end (.inr rfl) ?_
    simp
end Go.Proofs.YtjlmpdbagmdbiaaDoor.WL

end
section
/-
  CHAPTER 08, 13: the reference, quorums and digests.
-/
namespace Go.Proofs.YtjlmpdbagmdbiaaDoor.WL
open Go
set_option maxHeartbeats 8000000
variable {G : Nat → Option AV}
attribute [local irreducible] sha comp hb checkK idxOf Vote.good

theorem rfaults_meets (n : Nat) (h : n ≤ 1000000) : Meets Tryd.prog G fn_r08_Faults [.v (.int .i64 (n : Nat))] [] true (.v (.int .i64 (faults n : Nat))) [] := by
  refine meets_of_go mix k_r08_Faults ⟨by simp, by simp, by simp⟩ ?_
  obtain ⟨f, hf⟩ : ∃ f, faults n = f := ⟨_, rfl⟩
  have hf' : (n - 1) / 3 = f := hf
  rw [hf]
  simp
  refine go_up f (fun j (_ : Unit) => True) (fun j (_ : Unit) q => ⟨[(0, .v (.int .i64 (n : Nat))), (3, .v (.int .i64 (j : Nat)))], [], q + 1⟩) () _ (Weak.re (by simp)) trivial ?_ ?_
  · intro j _ q hj hx
    have hw : IntKind.i64.wrap ((j : Int) + 1) = (j : Int) + 1 := w64_id (by omega)
    have hw2 : IntKind.i64.wrap (3 * ((j : Int) + 1)) = 3 * ((j : Int) + 1) := w64_id (by omega)
    have hw3 : IntKind.i64.wrap (3 * ((j : Int) + 1) + 1) = 3 * ((j : Int) + 1) + 1 := w64_id (by omega)
    have hc : 3 * ((j : Int) + 1) + 1 ≤ (n : Nat) := by omega
    simp [hw, hw2, hw3, hc]
    exact ⟨(), _, Weak.re (by simp), trivial⟩
  · intro _ q hx
    have hw : IntKind.i64.wrap ((f : Int) + 1) = (f : Int) + 1 := w64_id (by omega)
    have hw2 : IntKind.i64.wrap (3 * ((f : Int) + 1)) = 3 * ((f : Int) + 1) := w64_id (by omega)
    have hw3 : IntKind.i64.wrap (3 * ((f : Int) + 1) + 1) = 3 * ((f : Int) + 1) + 1 := w64_id (by omega)
    have hc : ¬ 3 * ((f : Int) + 1) + 1 ≤ (n : Nat) := by omega
    simp [hw, hw2, hw3, hc]
    refine post_end (.inr rfl) ?_
    simp
theorem rquorum_meets (n : Nat) (h : n ≤ 1000000) : Meets Tryd.prog G fn_r08_Quorum [.v (.int .i64 (n : Nat))] [] true (.v (.int .i64 (quorum n : Nat))) [] := by
  refine meets_of_go mix k_r08_Quorum ⟨by simp, by simp, by simp⟩ ?_
  have m1 := rfaults_meets (G := G) n h
  obtain ⟨f, hf⟩ : ∃ f, faults n = f := ⟨_, rfl⟩
  have hf' : (n - 1) / 3 = f := hf
  obtain ⟨k, hk⟩ : ∃ k, quorum n = k := ⟨_, rfl⟩
  have hk' : (n + f) / 2 + 1 = k := by rw [← hk, ← hf]; rfl
  rw [hf] at m1
  rw [hk]
  have hw1 : IntKind.i64.wrap ((n : Int) + f) = (n : Int) + f := w64_id (by omega)
  simp
  refine go_up k (fun j (_ : Unit) => True) (fun j (_ : Unit) q => ⟨[(0, .v (.int .i64 (n : Nat))), (3, .v (.int .i64 (j : Nat)))], [], q + 1⟩) () _ (Weak.re (by simp)) trivial ?_ ?_
  · intro j _ q hj hx
    have hw : IntKind.i64.wrap ((j : Int) + 1) = ((j + 1 : Nat) : Int) := w64_succ (by omega)
    have hw2 : IntKind.i64.wrap (2 * (j : Int)) = 2 * (j : Int) := w64_id (by omega)
    have hc : 2 * (j : Int) ≤ (n : Nat) + (f : Nat) := by omega
    simp
    refine call_intro m1 ?_ ?_
    · simp
    simp [hw, hw1, hw2, hc]
    exact ⟨(), _, Weak.re (by simp), trivial⟩
  · intro _ q hx
    have hw2 : IntKind.i64.wrap (2 * (k : Int)) = 2 * (k : Int) := w64_id (by omega)
    have hc : ¬ 2 * (k : Int) ≤ (n : Nat) + (f : Nat) := by omega
    simp
    refine call_intro m1 ?_ ?_
    · simp
    simp [hw1, hw2, hc]
    refine post_end (.inr rfl) ?_
    simp
theorem rcdigest_meets (c : Conf) (hn : c.ms.length ≤ 100000) : Meets Tryd.prog Gt fn_r08_Digest [c.av] [] true (dv c.dg) [] := by
  refine meets_of_go mix k_r08_Digest ⟨by simp, by simp, by simp⟩ ?_
  have hb := c.bytes_len
  have m1 := rcbytes_meets (G := Gt) c hn
  have m2 := rtext02_meets (bConfig ++ c.bytes) (by rw [List.length_append]; simp [bConfig]; omega)
  have f1 : fitsS (6 + c.bytes.length) := fitS (by omega)
  unfold Conf.dg
  generalize sha (bConfig ++ c.bytes) = d at *
  have hc : (99 :: 111 :: 110 :: 102 :: 105 :: 103 :: c.bytes : Bytes) = bConfig ++ c.bytes := rfl
  generalize c.bytes = x at *
  simp [Conf.av, dv]
  refine call_intro m1 ?_ ?_
  · simp [Conf.av]
  simp [f1]
  refine call_intro m2 ?_ ?_
  · simp [hc]
  simp [dv]
  refine post_end (.inr rfl) ?_
  simp
end Go.Proofs.YtjlmpdbagmdbiaaDoor.WL

end
section
/-
  CHAPTER 13: the reference: whether a vote can be.
-/
namespace Go.Proofs.YtjlmpdbagmdbiaaDoor.WL
open Go
set_option maxHeartbeats 8000000
variable {G : Nat → Option AV}

theorem rvgood_meets (v : Vote) : Meets Tryd.prog G fn_r13_Good [v.av] [] true (.v (.bool v.good)) [] := by
  refine meets_of_go mix k_r13_Good ⟨by simp, by simp, by simp⟩ ?_
  have e : v.good = ((decide (v.kind = 1) || decide (v.kind = 2)) && decide (0 ≤ v.epoch) && decide (v.epoch ≤ 1073741824) && decide (1 ≤ v.height) && decide (v.height ≤ 1024) && decide (0 ≤ v.round) && decide (v.round ≤ 1024) && decide (1 ≤ v.src) && decide (v.src ≤ 63)) := by
    have e1 : (decide (1 ≤ v.kind) && decide (v.kind ≤ 2)) = (decide (v.kind = 1) || decide (v.kind = 2)) := by
      rw [Bool.eq_iff_iff]
      simp only [Bool.and_eq_true, Bool.or_eq_true, decide_eq_true_eq]
      omega
    rw [← e1]
    rfl
  rw [e]
  by_cases k1 : v.kind = 1
  case pos =>
    by_cases c2 : v.epoch < 0
    case pos =>
      have d : ¬ 0 ≤ v.epoch := by omega
      simp [Vote.av, dv, eq_true k1, c2]
      refine post_end (.inr rfl) ?_
      simp [d]
    by_cases c3 : 1073741824 < v.epoch
    case pos =>
      have d : ¬ v.epoch ≤ 1073741824 := by omega
      simp [Vote.av, dv, eq_true k1, c2, c3]
      refine post_end (.inr rfl) ?_
      simp [d]
    by_cases c4 : v.height < 1
    case pos =>
      have d : ¬ 1 ≤ v.height := by omega
      simp [Vote.av, dv, eq_true k1, c2, c3, c4]
      refine post_end (.inr rfl) ?_
      simp [d]
    by_cases c5 : 1024 < v.height
    case pos =>
      have d : ¬ v.height ≤ 1024 := by omega
      simp [Vote.av, dv, eq_true k1, c2, c3, c4, c5]
      refine post_end (.inr rfl) ?_
      simp [d]
    have d : decide (0 ≤ v.epoch) = true ∧ decide (v.epoch ≤ 1073741824) = true ∧ decide (1 ≤ v.height) = true ∧ decide (v.height ≤ 1024) = true := by simp only [decide_eq_true_eq]; omega
    by_cases c6 : 0 ≤ v.round
    case neg =>
      simp [Vote.av, dv, eq_true k1, c2, c3, c4, c5, c6]
      refine post_end (.inr rfl) ?_
      simp [c6]
    by_cases c7 : v.round ≤ 1024
    case neg =>
      simp [Vote.av, dv, eq_true k1, c2, c3, c4, c5, c6, c7]
      refine post_end (.inr rfl) ?_
      simp [c7]
    by_cases c8 : 1 ≤ v.src
    case neg =>
      simp [Vote.av, dv, eq_true k1, c2, c3, c4, c5, c6, c7, c8]
      refine post_end (.inr rfl) ?_
      simp [c8]
    by_cases c9 : v.src ≤ 63
    case neg =>
      simp [Vote.av, dv, eq_true k1, c2, c3, c4, c5, c6, c7, c8, c9]
      refine post_end (.inr rfl) ?_
      simp [c9]
    rw [d.1, d.2.1, d.2.2.1, d.2.2.2]
    simp [Vote.av, dv, eq_true k1, c2, c3, c4, c5, c6, c7, c8, c9]
    refine post_end (.inr rfl) ?_
    simp
  by_cases k2 : v.kind = 2
  case pos =>
    by_cases c2 : v.epoch < 0
    case pos =>
      have d : ¬ 0 ≤ v.epoch := by omega
      simp [Vote.av, dv, k1, eq_true k2, c2]
      refine post_end (.inr rfl) ?_
      simp [d]
    by_cases c3 : 1073741824 < v.epoch
    case pos =>
      have d : ¬ v.epoch ≤ 1073741824 := by omega
      simp [Vote.av, dv, k1, eq_true k2, c2, c3]
      refine post_end (.inr rfl) ?_
      simp [d]
    by_cases c4 : v.height < 1
    case pos =>
      have d : ¬ 1 ≤ v.height := by omega
      simp [Vote.av, dv, k1, eq_true k2, c2, c3, c4]
      refine post_end (.inr rfl) ?_
      simp [d]
    by_cases c5 : 1024 < v.height
    case pos =>
      have d : ¬ v.height ≤ 1024 := by omega
      simp [Vote.av, dv, k1, eq_true k2, c2, c3, c4, c5]
      refine post_end (.inr rfl) ?_
      simp [d]
    have d : decide (0 ≤ v.epoch) = true ∧ decide (v.epoch ≤ 1073741824) = true ∧ decide (1 ≤ v.height) = true ∧ decide (v.height ≤ 1024) = true := by simp only [decide_eq_true_eq]; omega
    by_cases c6 : 0 ≤ v.round
    case neg =>
      simp [Vote.av, dv, k1, eq_true k2, c2, c3, c4, c5, c6]
      refine post_end (.inr rfl) ?_
      simp [c6]
    by_cases c7 : v.round ≤ 1024
    case neg =>
      simp [Vote.av, dv, k1, eq_true k2, c2, c3, c4, c5, c6, c7]
      refine post_end (.inr rfl) ?_
      simp [c7]
    by_cases c8 : 1 ≤ v.src
    case neg =>
      simp [Vote.av, dv, k1, eq_true k2, c2, c3, c4, c5, c6, c7, c8]
      refine post_end (.inr rfl) ?_
      simp [c8]
    by_cases c9 : v.src ≤ 63
    case neg =>
      simp [Vote.av, dv, k1, eq_true k2, c2, c3, c4, c5, c6, c7, c8, c9]
      refine post_end (.inr rfl) ?_
      simp [c9]
    rw [d.1, d.2.1, d.2.2.1, d.2.2.2]
    simp [Vote.av, dv, k1, eq_true k2, c2, c3, c4, c5, c6, c7, c8, c9]
    refine post_end (.inr rfl) ?_
    simp
  simp [Vote.av, dv, k1, k2]
  refine post_end (.inr rfl) ?_
  simp
end Go.Proofs.YtjlmpdbagmdbiaaDoor.WL

end
