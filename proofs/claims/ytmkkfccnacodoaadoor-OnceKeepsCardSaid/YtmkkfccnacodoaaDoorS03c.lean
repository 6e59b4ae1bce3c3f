/-
  CHAPTER 03: contracts of the reference.
-/
import Derived.Test.YtmkkfccnacodoaaDoorS03b
import Derived.Test.YtmkkfccnacodoaaDoorS01f
namespace Go.Proofs.YtmkkfccnacodoaaDoor.WL
open Go
set_option maxHeartbeats 4000000
attribute [local irreducible] comp hb sha leafD pairD

theorem rtext02_meets (b : Bytes) (h : b.length ≤ 100000000) : Meets Tryd.prog Gt fn_r02_Text [.v (.string (mkS b))] [] true (dv (sha b)) [] := by
  refine meets_of_go mix k_r02_Text ⟨by simp, by simp, by simp⟩ ?_
  have h1 := rof_meets (G := Gt) b h
  have h2 : b.length ≤ maxLen := le_max (by omega)
  simp [h2]
  refine call_intro h1 ?_ ?_
  · simp
  simp
  refine post_end (.inr rfl) ?_
  simp

theorem rleaf_meets (b : Bytes) (h : b.length ≤ 1000000) : Meets Tryd.prog Gt fn_r03_Leaf [.v (.string (mkS b))] [] true (dv (leafD b)) [] := by
  refine meets_of_go mix k_r03_Leaf ⟨by simp, by simp, by simp⟩ ?_
  have h1 := rtext02_meets (0 :: b) (by rw [List.length_cons]; omega)
  have e2 : sha (0 :: b) = leafD b := by unfold leafD; rfl
  rw [e2] at h1
  have f1 : fitsS (1 + b.length) := fitS (by omega)
  simp [f1]
  refine call_intro h1 ?_ ?_
  · simp
  simp
  refine post_end (.inr rfl) ?_
  simp

theorem rpair_meets (a b : Dg) : Meets Tryd.prog Gt fn_r03_Pair [dv a, dv b] [] true (dv (pairD a b)) [] := by
  refine meets_of_go mix k_r03_Pair ⟨by simp, by simp, by simp⟩ ?_
  have h1 := rtext02_meets (1 :: (a.bs ++ b.bs)) (by simp)
  have e2 : sha (1 :: (a.bs ++ b.bs)) = pairD a b := by unfold pairD; rfl
  rw [e2] at h1
  have f1 : fitsS (1 + 32) := fitS (by omega)
  have f2 : fitsS (1 + 32 + 32) := fitS (by omega)
  simp
  refine call_intro (rfdigest_meets a) ?_ ?_
  · simp
  simp [f1]
  refine call_intro (rfdigest_meets b) ?_ ?_
  · simp
  simp [f2]
  refine call_intro h1 ?_ ?_
  · simp
  simp
  refine post_end (.inr rfl) ?_
  simp

theorem Dgs_cons (d : Dg) (ds : List Dg) : dv d :: Dgs ds = Dgs (d :: ds) := (rfl)
theorem tmod2 (j : Nat) : Int.tmod (j : Int) 2 = ((j % 2 : Nat) : Int) := by
  rw [Int.tmod_eq_emod_of_nonneg (by omega)]
  omega
theorem tdiv2 (j : Nat) : Int.tdiv (j : Int) 2 = ((j / 2 : Nat) : Int) := by
  rw [Int.tdiv_eq_ediv_of_nonneg (by omega)]
  omega

theorem above_meets (ds : List Dg) (h0 : ds ≠ []) (hn : ds.length ≤ 1000000) :
    Meets Tryd.prog Gt fn_r03_Above [.sl 32 (Dgs ds)] [] true (.row 1000 32 1 0 (upD ds).length) [(1000, .rows 1 32 (Dgs (upD ds)))] := by
  refine meets_of_go mix k_r03_Above ⟨by simp, by simp, by simp⟩ ?_
  simp
  have hl := upD_length ds
  have hl0 : 0 < ds.length := List.length_pos_iff.2 h0
  refine go_up ds.length (fun j (x : List Dg) => x = (upD ds).take (if j = ds.length then (j + 1) / 2 else j / 2)) (fun j x c => ⟨[(0, .sl 32 (Dgs ds)), (3, .row 3 32 c 0 x.length), (6, .v (.int .i64 (ds.length : Nat))), (7, .v (.int .i64 (j : Nat)))], [(3, .rows c 32 (Dgs x))], c + 1⟩) [] _ (Weak.re (by simp)) (by rw [if_neg (by omega)]; simp) ?_ ?_
  · intro j x c hj hx
    rw [if_neg (by omega)] at hx
    have hxl : x.length = j / 2 := by rw [hx, List.length_take]; omega
    have c1 : (j : Int) < (ds.length : Nat) := by omega
    have hw : IntKind.i64.wrap ((j : Int) + 1) = ((j + 1 : Nat) : Int) := w64_succ (by omega)
    have f1 : fitsB (x.length + 1) 32 := fits (by omega) (by omega)
    by_cases ho : j % 2 = 1
    · have hm : Int.tmod (j : Int) 2 = 1 := by rw [tmod2, ho]; rfl
      obtain ⟨q, hq⟩ : ∃ q : Nat, q = j - 1 := ⟨_, rfl⟩
      have c2 : IntKind.i64.wrap ((j : Int) - 1) = (q : Int) := by rw [w64_id (by omega)]; omega
      have hq2 : q < ds.length := by omega
      have c3 : (q : Int) < (ds.length : Nat) := by omega
      have hp := upD_pair ds (j / 2) (by omega)
      rw [← hx] at hp
      have e1 : ds[2 * (j / 2)]'(by omega) = ds[q]'hq2 := by congr 1; omega
      have e2 : ds[2 * (j / 2) + 1]'(by omega) = ds[j]'hj := by congr 1; omega
      rw [e1, e2] at hp
      simp [c1, hm, c2, hj, hq2, c3]
      refine call_intro (rpair_meets ds[q] ds[j]) ?_ ?_
      · simp
      simp [f1, hw]
      refine ⟨x ++ [pairD ds[q] ds[j]], _, Weak.re (by simp [Dgs_snoc]), ?_⟩
      rw [← hp]
      congr 1
      split <;> omega
    · have hm : Int.tmod (j : Int) 2 = 0 := by rw [tmod2, show j % 2 = 0 by omega]; rfl
      have c2 : IntKind.i64.wrap ((ds.length : Int) - 1) = ((ds.length - 1 : Nat) : Int) := by rw [w64_id (by omega)]; omega
      obtain ⟨n1, hn1⟩ : ∃ n1, ds.length - 1 = n1 := ⟨_, rfl⟩
      rw [hn1] at c2
      by_cases hlast : j = n1
      · have hp := upD_one ds (j / 2) (by omega)
        rw [← hx] at hp
        have e1 : ds[2 * (j / 2)]'(by omega) = ds[j]'hj := by congr 1; omega
        rw [e1] at hp
        rw [← hlast] at c2
        simp [c1, hm, c2, hj, f1, hw]
        refine ⟨x ++ [ds[j]], _, Weak.re (by simp [Dgs_snoc]), ?_⟩
        rw [← hp]
        congr 1
        split <;> omega
      · have c3 : ¬ (j : Int) = (n1 : Int) := by omega
        simp [c1, hm, c2, hj, c3, hlast, hw]
        refine ⟨x, _, Weak.re (by simp), ?_⟩
        dsimp only
        rw [hx, if_neg (by omega)]
        congr 1
        omega
  · intro x c hx
    rw [if_pos rfl, List.take_of_length_le (by omega)] at hx
    subst hx
    simp
    refine post_end (.inr rfl) ?_
    simp

theorem rroot_meets : ∀ (n : Nat) (ds : List Dg), ds.length ≤ n → ds.length ≤ 1000000 → Meets Tryd.prog Gt fn_r03_Root [.sl 32 (Dgs ds)] [] true (dv (rootD ds)) []
  | n, ds, hln, hn => by
    refine meets_of_go mix k_r03_Root ⟨by simp, by simp, by simp⟩ ?_
    by_cases h0 : ds = []
    · subst h0
      have h1 := rtext02_meets [] (by simp)
      rw [rootD_nil]
      simp
      refine call_intro h1 ?_ ?_
      · simp
      simp
      refine post_end (.inr rfl) ?_
      simp
    · have hl0 : 0 < ds.length := List.length_pos_iff.2 h0
      have n0 : ¬ ds.length = 0 := by omega
      by_cases h1 : ds.length = 1
      · obtain ⟨a, rfl⟩ : ∃ a, ds = [a] := List.length_eq_one_iff.1 h1
        rw [rootD_one]
        simp [Dgs_one]
        refine post_end (.inr rfl) ?_
        simp
      · have c1 : ¬ (ds.length : Int) = 1 := by omega
        cases n with
        | zero => omega
        | succ n =>
          have hul := upD_length ds
          have ih := rroot_meets n (upD ds) (by omega) (by omega)
          rw [← rootD_up ds (by omega)] at ih
          simp [n0, h0, h1, c1]
          refine call_intro (above_meets ds h0 hn) ?_ ?_
          · simp
          simp
          refine call_intro ih ?_ ?_
          · simp
          simp
          refine post_end (.inr rfl) ?_
          simp

theorem rpath_meets : ∀ (n : Nat) (ds : List Dg) (at_ : Nat), ds.length ≤ n → ds.length ≤ 1000000 → at_ < ds.length →
    Meets Tryd.prog Gt fn_r03_Path [.sl 32 (Dgs ds), .v (.int .i64 (at_ : Nat))] [] true (.row 1000 32 1 0 (pathD ds at_).length) [(1000, .rows 1 32 (Dgs (pathD ds at_)))]
  | n, ds, at_, hln, hn, hat => by
    refine meets_of_go mix k_r03_Path ⟨by simp, by simp, by simp⟩ ?_
    by_cases h1 : ds.length ≤ 1
    · have c1 : (ds.length : Int) ≤ 1 := by omega
      rw [pathD_end ds at_ h1]
      simp [h1, c1]
      refine post_end (.inr rfl) ?_
      simp
    · have c1 : ¬ (ds.length : Int) ≤ 1 := by omega
      cases n with
      | zero => omega
      | succ n =>
        have hul := upD_length ds
        have ih := rpath_meets n (upD ds) (at_ / 2) (by omega) (by omega) (by omega)
        have hpl := pathD_len (upD ds) (at_ / 2)
        have hup := pathD_up ds at_ (by omega)
        generalize pathD (upD ds) (at_ / 2) = up at *
        have hd := tdiv2 at_
        have hw : IntKind.i64.wrap ((at_ / 2 : Nat) : Int) = ((at_ / 2 : Nat) : Int) := w64_id (by omega)
        obtain ⟨a2, ha2⟩ : ∃ a2, at_ / 2 = a2 := ⟨_, rfl⟩
        rw [ha2] at hd hw ih
        have f1 : fitsB (1 + up.length) 32 := fits (by omega) (by omega)
        simp [h1, c1]
        refine call_intro (above_meets ds (by intro e; subst e; simp at hat) hn) ?_ ?_
        · simp
        simp [hd, hw]
        refine call_intro ih ?_ ?_
        · simp
        by_cases ho : at_ % 2 = 1
        · have hm : Int.tmod (at_ : Int) 2 = 1 := by rw [tmod2, ho]; rfl
          obtain ⟨q, hq⟩ : ∃ q : Nat, q = at_ - 1 := ⟨_, rfl⟩
          have c2 : IntKind.i64.wrap ((at_ : Int) - 1) = (q : Int) := by rw [w64_id (by omega)]; omega
          have hq2 : q < ds.length := by omega
          have c3 : (q : Int) < (ds.length : Nat) := by omega
          have hs : sib at_ = q := by unfold sib; rw [if_pos ho]; exact hq.symm
          have hp : pathD ds at_ = ds[q] :: up := by rw [hup, hs, List.getElem?_eq_getElem hq2]; rfl
          rw [hp]
          simp [hm, c2, hq2, c3, f1]
          refine post_end (.inr rfl) ?_
          simp [Dgs_cons, Nat.add_comm]
        · have hm : Int.tmod (at_ : Int) 2 = 0 := by rw [tmod2, show at_ % 2 = 0 by omega]; rfl
          obtain ⟨q, hq⟩ : ∃ q : Nat, q = at_ + 1 := ⟨_, rfl⟩
          have c2 : IntKind.i64.wrap ((at_ : Int) + 1) = (q : Int) := by rw [w64_id (by omega)]; omega
          have hs : sib at_ = q := by unfold sib; rw [if_neg ho]; exact hq.symm
          by_cases hq2 : q < ds.length
          · have c3 : (q : Int) < (ds.length : Nat) := by omega
            have hp : pathD ds at_ = ds[q] :: up := by rw [hup, hs, List.getElem?_eq_getElem hq2]; rfl
            rw [hp]
            simp [hm, c2, hq2, c3, f1]
            refine post_end (.inr rfl) ?_
            simp [Dgs_cons, Nat.add_comm]
          · have c3 : ¬ (q : Int) < (ds.length : Nat) := by omega
            have hp : pathD ds at_ = up := by rw [hup, hs, List.getElem?_eq_none (by omega)]; rfl
            rw [hp]
            simp [hm, c2, hq2, c3]
            refine post_end (.inr rfl) ?_
            simp

theorem rcheck_meets (root : Dg) : ∀ (n : Nat) (leaf : Dg) (at_ count : Nat) (path : List Dg), count ≤ n → at_ < count → count < 9223372036854775808 →
    Meets Tryd.prog Gt fn_r03_Check [dv root, dv leaf, .v (.int .i64 (at_ : Nat)), .v (.int .i64 (count : Nat)), .sl 32 (Dgs path)] [] true (.v (.bool (checkD root leaf at_ count path))) []
  | n, leaf, at_, count, path, hcn, hat, hc => by
    refine meets_of_go mix k_r03_Check ⟨by simp, by simp, by simp⟩ ?_
    by_cases h1 : count = 1
    · have c1 : (count : Int) = 1 := by omega
      rw [checkD_end root leaf at_ count path (by omega)]
      by_cases h5 : path = []
      · subst h5
        simp [h1]
        refine post_end (.inr rfl) ?_
        simp
      · have h6 : ¬ path.length = 0 := by intro e; exact h5 (List.eq_nil_of_length_eq_zero e)
        have h7 : ¬ ((path.length : Int) = 0) := by omega
        simp [h1, h6, h7, h5]
        refine post_end (.inr rfl) ?_
        simp
    · cases n with
      | zero => omega
      | succ n =>
        have c1 : ¬ (count : Int) = 1 := by omega
        have hd := tdiv2 count
        have hm2 := tmod2 count
        have hd2 := tdiv2 at_
        have hw2 : IntKind.i64.wrap ((at_ / 2 : Nat) : Int) = ((at_ / 2 : Nat) : Int) := w64_id (by omega)
        have hw : IntKind.i64.wrap ((count / 2 : Nat) : Int) = ((count / 2 : Nat) : Int) := w64_id (by omega)
        have hw3 : IntKind.i64.wrap (((count / 2 : Nat) : Int) + ((count % 2 : Nat) : Int)) = (((count + 1) / 2 : Nat) : Int) := by rw [w64_id (by omega)]; omega
        have hw4 : IntKind.i64.wrap ((count : Int) - 1) = ((count - 1 : Nat) : Int) := by rw [w64_id (by omega)]; omega
        obtain ⟨u, hu⟩ : ∃ u, (count + 1) / 2 = u := ⟨_, rfl⟩
        obtain ⟨c2, hc2⟩ : ∃ u, count / 2 = u := ⟨_, rfl⟩
        obtain ⟨cm, hcm⟩ : ∃ u, count % 2 = u := ⟨_, rfl⟩
        obtain ⟨a2, ha2⟩ : ∃ u, at_ / 2 = u := ⟨_, rfl⟩
        obtain ⟨n1, hn1⟩ : ∃ u, count - 1 = u := ⟨_, rfl⟩
        have k1 := rcheck_meets root n
        by_cases hs : count ≤ sib at_
        · have ho : at_ % 2 = 0 ∧ at_ = n1 := by
            unfold sib at hs
            split at hs <;> omega
          have hm : Int.tmod (at_ : Int) 2 = 0 := by rw [tmod2, ho.1]; rfl
          have hup := checkD_up root leaf at_ count path (by omega) hs
          rw [hu, ha2] at hup
          have ih := k1 leaf a2 u path (by omega) (by omega) (by omega)
          rw [← hup] at ih
          rw [hc2] at hd hw hw3
          rw [hcm] at hm2 hw3
          rw [ha2] at hd2 hw2
          rw [hu] at hw3
          rw [hn1, ← ho.2] at hw4
          simp [h1, c1, hd, hm2, hw, hw3, hm, hw4, hd2, hw2]
          refine call_intro ih ?_ ?_
          · simp
          simp
          refine post_end (.inr rfl) ?_
          simp
        · have hne : at_ % 2 = 1 ∨ at_ ≠ n1 := by
            unfold sib at hs
            split at hs <;> omega
          rw [hc2] at hd hw hw3
          rw [hcm] at hm2 hw3
          rw [ha2] at hd2 hw2
          rw [hu] at hw3
          rw [hn1] at hw4
          have c5 : ¬ (at_ % 2 = 0 ∧ (at_ : Int) = (n1 : Int)) := by omega
          cases path with
          | nil =>
            have hup := checkD_none root leaf at_ count (by omega) hs
            rw [hup]
            rcases Nat.mod_two_eq_zero_or_one at_ with hpar | hpar
            · have hm : Int.tmod (at_ : Int) 2 = 0 := by rw [tmod2, hpar]; rfl
              have c6 : ¬ (at_ : Int) = (n1 : Int) := by omega
              have c7 : ¬ at_ = n1 := by omega
              simp [h1, c1, hd, hm2, hw, hw3, hm, hw4, c6, c7]
              refine post_end (.inr rfl) ?_
              simp
            · have hm : Int.tmod (at_ : Int) 2 = 1 := by rw [tmod2, hpar]; rfl
              simp [h1, c1, hd, hm2, hw, hw3, hm, hw4]
              refine post_end (.inr rfl) ?_
              simp
          | cons q ps =>
            have hup := checkD_pair root leaf at_ count q ps (by omega) hs
            rw [hu, ha2] at hup
            have hn0 : ¬ ((ps.length : Int) + 1 = 0) := by omega
            have hn3 : (0 : Int) < (ps.length : Int) + 1 := by omega
            have hn4 : (1 : Int) ≤ (ps.length : Int) + 1 := by omega
            have hDg : Dgs (q :: ps) = dv q :: Dgs ps := rfl
            rcases Nat.mod_two_eq_zero_or_one at_ with hpar | hpar
            · have hm : Int.tmod (at_ : Int) 2 = 0 := by rw [tmod2, hpar]; rfl
              have c6 : ¬ (at_ : Int) = (n1 : Int) := by omega
              have c7 : ¬ at_ = n1 := by omega
              rw [if_neg (by omega)] at hup
              have ih := k1 (pairD leaf q) a2 u ps (by omega) (by omega) (by omega)
              rw [← hup] at ih
              simp [h1, c1, hd, hm2, hw, hw3, hm, hw4, c6, c7, hn0, hn3, hDg]
              refine call_intro (rpair_meets leaf q) ?_ ?_
              · simp
              simp [hd2, hw2, hn4]
              refine call_intro ih ?_ ?_
              · simp
              simp
              refine post_end (.inr rfl) ?_
              simp
            · have hm : Int.tmod (at_ : Int) 2 = 1 := by rw [tmod2, hpar]; rfl
              rw [if_pos hpar] at hup
              have ih := k1 (pairD q leaf) a2 u ps (by omega) (by omega) (by omega)
              rw [← hup] at ih
              simp [h1, c1, hd, hm2, hw, hw3, hm, hw4, hn0, hn3, hDg]
              refine call_intro (rpair_meets q leaf) ?_ ?_
              · simp
              simp [hd2, hw2, hn4]
              refine call_intro ih ?_ ?_
              · simp
              simp
              refine post_end (.inr rfl) ?_
              simp

theorem same_take {α : Type} [DecidableEq α] {a b : List α} {j : Nat} (ha : j < a.length) (hb : j < b.length) (h : a.take j = b.take j) (hj : a[j] = b[j]) : a.take (j + 1) = b.take (j + 1) := by
  rw [take_snoc _ _ ha, take_snoc _ _ hb, h, hj]

theorem rsame_meets {G : Nat → Option AV} (a b : List Dg) (ha : a.length ≤ 1000000000) : Meets Tryd.prog G fn_r03_Same [.sl 32 (Dgs a), .sl 32 (Dgs b)] [] true (.v (.bool (decide (a = b)))) [] := by
  refine meets_of_go mix k_r03_Same ⟨by simp, by simp, by simp⟩ ?_
  by_cases hl : a.length = b.length
  · simp [hl]
    refine go_up a.length (fun j (_ : Unit) => a.take j = b.take j) (fun j (_ : Unit) c => ⟨[(0, .sl 32 (Dgs a)), (1, .sl 32 (Dgs b)), (12, .v (.int .i64 (b.length : Nat))), (13, .v (.int .i64 (j : Nat)))], [], c⟩) () _ (Weak.refl _) (by simp) ?_ ?_
    · intro j _ c hj hx
      have hw : IntKind.i64.wrap ((j : Int) + 1) = ((j + 1 : Nat) : Int) := w64_succ (by omega)
      have hj2 : j < b.length := by omega
      by_cases he : a[j] = b[j]
      · simp [hj, hj2, he, hw]
        exact ⟨(), _, Weak.refl _, same_take hj hj2 hx he⟩
      · have hne : ¬ a = b := by intro e; subst e; exact he rfl
        simp [hj, hj2, he, hw]
        refine post_end (.inr rfl) ?_
        simp [hne]
    · intro _ c hx
      have he : a = b := by rw [List.take_length, hl, List.take_length] at hx; exact hx
      simp [hl]
      refine post_end (.inr rfl) ?_
      simp [he]
  · have hne : ¬ a = b := by intro e; subst e; exact hl rfl
    have c1 : ¬ (a.length : Int) = (b.length : Nat) := by omega
    simp [hl, c1]
    refine post_end (.inr rfl) ?_
    simp [hne]
end Go.Proofs.YtmkkfccnacodoaaDoor.WL
