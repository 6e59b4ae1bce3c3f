/- Texts put together: L06d. -/
import Derived.Test.YtphggannefpleaaDoorWm12
section
/-
  CHAPTER 06: the walk of RingOnce: what its rounds need.
-/
namespace Go.Proofs.YtphggannefpleaaDoor.WL
open Go
set_option maxHeartbeats 1000000
attribute [local irreducible] comp hb sha leafD pairD secD shutD wholeD pubD ofD leavesD nE nO

theorem mem_names {M : List (Nat × Loc)} {e : Nat × Loc} (h : e ∈ M) : e.1 ∈ names M := List.mem_map.2 ⟨e, h, rfl⟩
theorem rowsU_names {c : Nat} {U : Nat → List Int} {k : Nat} : k ∈ names (rowsU c U) ↔ ∃ j, j < 40 ∧ U j ≠ [] ∧ k = 2000 + j := rowsN_names
theorem mem_rowsU {c : Nat} {U : Nat → List Int} {e : Nat × Loc} : e ∈ rowsU c U ↔ ∃ j, j < 40 ∧ U j ≠ [] ∧ e = (2000 + j, .rows c 1 (ivs (U j))) := mem_rowsN
theorem rowsU_nodup (c : Nat) (U : Nat → List Int) : (names (rowsU c U)).Nodup := rowsN_nodup c U 40
theorem rowsU_nil (c : Nat) : rowsU c (fun _ => []) = [] := by simp [rowsU, rowsN, rowU]
attribute [local irreducible] rowsU rgL
theorem ring_low {c : Nat} {ts : List Tr} {lk : Nat} {U : Nat → List Int} : ∀ k ∈ names (rgL c ts lk ++ rowsU c U), 1000 ≤ k ∧ k ≠ 1999 := fun k hk => by
  rw [names_append, List.mem_append] at hk
  rcases hk with hk | hk
  · rcases rg_names.1 hk with h | h | ⟨x, _, h | h⟩
    · omega
    · omega
    · have := big_le; unfold nE at h; omega
    · have := big_le; unfold nO at h; omega
  · obtain ⟨j, _, _, rfl⟩ := rowsU_names.1 hk; omega
theorem rowsU_low {c : Nat} {U : Nat → List Int} : ∀ k ∈ names (rowsU c U), 1001 < k ∧ k < 1000000 := fun k hk => by
  obtain ⟨j, hj, _, rfl⟩ := rowsU_names.1 hk; omega
theorem rowsU_low' {c : Nat} {U : Nat → List Int} : ∀ k ∈ names (rowsU c U), 1001 < k ∧ k < 2000000000 := fun k hk => by
  obtain ⟨j, hj, _, rfl⟩ := rowsU_names.1 hk; omega
theorem rowsU_sub {c : Nat} {U U' : Nat → List Int} (h : ∀ j, U' j = U j ∨ U' j = []) : ∀ e ∈ rowsU c U', e ∈ rowsU c U := fun e he => by
  obtain ⟨j, hj, hu, rfl⟩ := mem_rowsU.1 he
  rcases h j with h | h
  · rw [h]; exact mem_rowsU.2 ⟨j, hj, by rw [← h]; exact hu, rfl⟩
  · exact absurd h hu
theorem ring_nodup {c : Nat} {ts : List Tr} (hf : Fine ts) {lk : Nat} {U : Nat → List Int} : (names (rgL c ts lk ++ rowsU c U)).Nodup := by
  rw [names_append, List.nodup_append]
  refine ⟨rg_nodup hf c lk, rowsU_nodup c U, fun a ha b hb => ?_⟩
  obtain ⟨j, hj, _, rfl⟩ := rowsU_names.1 hb
  rcases rg_names.1 ha with h | h | ⟨x, _, h | h⟩
  · omega
  · omega
  · have := big_le; unfold nE at h; omega
  · have := big_le; unfold nO at h; omega
/-- Less is known: variables of a round are dropped. -/
theorem end_w {fr : List (Nat × AV)} {X : List (Nat × Loc)} (X' : List (Nat × Loc)) {cs c c' : Nat} {ts : List Tr} {lk : Nat} {U U' : Nat → List Int} (hf : Fine ts) (hX' : ∀ e ∈ X', look X e.1 = some e.2) (hX : ∀ k ∈ names X, k < 1000) (hU : ∀ j, U' j = U j ∨ U' j = []) (hc : c ≤ c') :
    Weak ⟨fr, X ++ ((1999, .rows cs 1 (refU cs U')) :: (rgL cs ts lk ++ rowsU cs U)), c⟩ ⟨fr, lawM X' cs (rgL cs ts lk) U', c'⟩ := by
  refine Less.weak ⟨fun _ _ h => h, fun l v h => ?_, hc⟩
  have hin := look_mem h
  unfold lawM at hin
  rcases List.mem_append.1 hin with hin | hin
  · exact look_appL _ (hX' _ hin)
  · have hXn : 1000 ≤ l → ∀ e ∈ X, e.1 ≠ l := fun hl e he hh => by have := hX e.1 (mem_names he); omega
    show look (X ++ _) l = some v
    rcases List.mem_cons.1 hin with hh | hin
    · obtain ⟨rfl, rfl⟩ := Prod.mk.inj hh
      rw [look_appN _ (hXn (by omega))]
      simp only [look, if_true]
    · obtain ⟨h1, h2⟩ := ring_low l (mem_names hin)
      have hin2 : (l, v) ∈ rgL cs ts lk ++ rowsU cs U := by
        rcases List.mem_append.1 hin with hin | hin
        · exact List.mem_append_left _ hin
        · exact List.mem_append_right _ (rowsU_sub hU _ hin)
      rw [look_appN _ (hXn h1)]
      simp only [look]
      rw [if_neg (fun e => h2 e.symm)]
      exact look_of_mem (ring_nodup hf) hin2
theorem refU_nil (c : Nat) : refU c (fun _ => []) = rep 40 (.v (.slice none 0 0)) := rfl
theorem rgL_nil (c lk : Nat) : rgL c [] lk = [(1000, .var c (.node [.oref 1001 c true])), (1001, .ob c (.map true 33 false 1) (.node [.node [], .v (.int .i64 (lk : Nat))]))] := by unfold rgL; rfl
theorem refU_get {c : Nat} {U : Nat → List Int} {j : Nat} (h : j < 40) : (refU c U)[j]? = some (if U j = [] then nilS else .row (2000 + j) 1 c 0 (U j).length) := refG_get h
theorem refU_len (c : Nat) (U : Nat → List Int) : (refU c U).length = 40 := refG_len _ _ _
theorem refU_set {c : Nat} {U U' : Nat → List Int} {j r g n : Nat} (hj : j < 40) (h1 : U' j ≠ []) (h2 : (U' j).length = n) (h3 : ∀ m, m ≠ j → U' m = U m) : (refU c U).set j (.row r 1 g 0 n) = refG U' (rjf j r) (gjf j g c) := by
  refine List.ext_getElem? fun m => ?_
  rw [List.getElem?_set]
  by_cases e : j = m
  · subst e
    rw [if_pos rfl, refU_len, if_pos hj, refG_get hj, if_neg h1, h2]
    simp [rjf, gjf]
  · rw [if_neg e]
    by_cases hm : m < 40
    · rw [refU_get hm, refG_get hm, h3 m (fun h => e h.symm)]
      simp [rjf, gjf, show ¬ m = j from fun h => e h.symm]
    · rw [List.getElem?_eq_none (by rw [refU_len]; omega), List.getElem?_eq_none (by rw [refG_len]; omega)]
theorem refU_clr {c : Nat} {U U' : Nat → List Int} {j : Nat} (hj : j < 40) (h1 : U' j = []) (h3 : ∀ m, m ≠ j → U' m = U m) : (refU c U).set j (.v (.slice none 0 0)) = refU c U' := by
  refine List.ext_getElem? fun m => ?_
  rw [List.getElem?_set]
  by_cases e : j = m
  · subst e
    rw [if_pos rfl, refU_len, if_pos hj, refU_get hj, if_pos h1]
    rfl
  · rw [if_neg e]
    by_cases hm : m < 40
    · rw [refU_get hm, refU_get hm, h3 m (fun h => e h.symm)]
    · rw [List.getElem?_eq_none (by rw [refU_len]; omega), List.getElem?_eq_none (by rw [refU_len]; omega)]

theorem refU_eq (c q r : Nat) (U : Nat → List Int) : refU c U = refG U (rjf 40 r) (gjf 40 q c) := by
  refine List.ext_getElem? fun m => ?_
  by_cases hm : m < 40
  · rw [refU_get hm, refG_get hm]
    simp [rjf, gjf, show ¬ m = 40 by omega]
  · rw [List.getElem?_eq_none (by rw [refU_len]; omega), List.getElem?_eq_none (by rw [refG_len]; omega)]
theorem rj40 {j r : Nat} (h : j < 40) : rjf 40 r j = 2000 + j := by unfold rjf; rw [if_neg (by omega)]
theorem gj40 {j q c : Nat} (h : j < 40) : gjf 40 q c j = c := by unfold gjf; rw [if_neg (by omega)]
/-- Add's memory. -/
theorem own_A {X : List (Nat × Loc)} {c g lk p q : Nat} {ts : List Tr} {t : One} {U : Nat → List Int} (hf : Fine ts) (hp : 3000 < p ∧ p < 2000000000) (hq : 3000 < q ∧ q < 2000000000) (hpq : p ≠ q) (hX : ∀ k ∈ names X, k < 1000 ∨ 1001 < k ∧ k < 2000) :
    (∀ e ∈ rgA c g g p q ts lk t, look (X ++ (rgA c g g p q ts lk t ++ rowsU c U)) e.1 = some e.2) ∧ ∀ j, j < 40 → U j ≠ [] → look (X ++ (rgA c g g p q ts lk t ++ rowsU c U)) (2000 + j) = some (.rows c 1 (ivs (U j))) := by
  have hn := rgA_nodup hf c g lk t hpq (low_no (by omega) hp.2) (low_no (by omega) hq.2)
  have hnm : ∀ k ∈ names (rgA c g g p q ts lk t), k = 1000 ∨ k = 1001 ∨ k = p ∨ k = q ∨ 2000000000 ≤ k := fun k hk => by
    rcases List.mem_cons.1 hk with h | hk
    · exact .inl h
    rcases List.mem_cons.1 hk with h | hk
    · exact .inr (.inl h)
    rcases List.mem_cons.1 hk with h | hk
    · exact .inr (.inr (.inl h))
    rcases List.mem_cons.1 hk with h | hk
    · exact .inr (.inr (.inr (.inl h)))
    · obtain ⟨x, _, h | h⟩ := flat_names.1 hk
      · have := big_le; unfold nE at h; omega
      · have := big_le; unfold nO at h; omega
  refine ⟨fun e he => ?_, fun j hj hu => ?_⟩
  · have h1 := hnm _ (mem_names he)
    rw [look_appN _ fun e' he' hh => by have := hX _ (mem_names he'); omega]
    exact look_appL _ (look_of_mem hn he)
  · rw [look_appN _ fun e' he' hh => by have := hX _ (mem_names he'); omega, look_appN _ fun e' he' hh => by have := hnm _ (mem_names he'); omega]
    exact look_of_mem (rowsU_nodup c U) (mem_rowsU.2 ⟨j, hj, hu, rfl⟩)
/-- The ring's memory. -/
theorem own_R {X : List (Nat × Loc)} {c lk : Nat} {ts : List Tr} {U : Nat → List Int} (hX : ∀ k ∈ names X, k < 1000 ∨ 1001 < k ∧ k < 2000) :
    ∀ j, j < 40 → U j ≠ [] → look (X ++ (rgL c ts lk ++ rowsU c U)) (2000 + j) = some (.rows c 1 (ivs (U j))) := fun j hj hu => by
  rw [look_appN _ fun e' he' hh => by have := hX _ (mem_names he'); omega, look_appN _ fun e' he' hh => by
    rcases rg_names.1 (mem_names he') with h | h | ⟨x, _, h | h⟩
    · omega
    · omega
    · have := big_le; unfold nE at h; omega
    · have := big_le; unfold nO at h; omega]
  exact look_of_mem (rowsU_nodup c U) (mem_rowsU.2 ⟨j, hj, hu, rfl⟩)

theorem clrU_zero (U : Nat → List Int) (L : List (Dg × Nat)) (k : Dg × Nat) : clrU U L k 0 = U := by
  funext m
  unfold clrU
  rw [if_neg (by omega)]
theorem clrU_eq {U : Nat → List Int} {L : List (Dg × Nat)} {k : Dg × Nat} {j : Nat} (h : L[j]? = some k) : clrU U L k (j + 1) j = [] ∧ ∀ m, m ≠ j → clrU U L k (j + 1) m = clrU U L k j m := by
  refine ⟨?_, fun m hm => ?_⟩
  · unfold clrU
    rw [if_pos ⟨by omega, h⟩]
  · have e : (m < j + 1 ∧ L[m]? = some k) = (m < j ∧ L[m]? = some k) := propext ⟨fun h => ⟨by omega, h.2⟩, fun h => ⟨by omega, h.2⟩⟩
    unfold clrU
    simp only [e]
theorem clrU_ne {U : Nat → List Int} {L : List (Dg × Nat)} {k : Dg × Nat} {j : Nat} (h : L[j]? ≠ some k) : clrU U L k (j + 1) = clrU U L k j := by
  funext m
  have e : (m < j + 1 ∧ L[m]? = some k) = (m < j ∧ L[m]? = some k) := propext ⟨fun hh => ⟨by
    have : m ≠ j := fun e => h (e ▸ hh.2)
    omega, hh.2⟩, fun h => ⟨by omega, h.2⟩⟩
  unfold clrU
  simp only [e]
theorem addU_zero (U : Nat → List Int) (L : List (Dg × Nat)) (k : Dg × Nat) (n : Int) : addU U L k n 0 = U := by
  funext m
  unfold addU
  rw [if_neg (by omega)]
theorem addU_at (U : Nat → List Int) (L : List (Dg × Nat)) (k : Dg × Nat) (n : Int) (j : Nat) : addU U L k n j j = U j := by
  unfold addU
  rw [if_neg (by omega)]
theorem addU_eq {U : Nat → List Int} {L : List (Dg × Nat)} {k : Dg × Nat} {n : Int} {j : Nat} (h : L[j]? = some k) : addU U L k n (j + 1) j = U j ++ [n] ∧ ∀ m, m ≠ j → addU U L k n (j + 1) m = addU U L k n j m := by
  refine ⟨?_, fun m hm => ?_⟩
  · unfold addU
    rw [if_pos ⟨by omega, h⟩]
  · have e : (m < j + 1 ∧ L[m]? = some k) = (m < j ∧ L[m]? = some k) := propext ⟨fun h => ⟨by omega, h.2⟩, fun h => ⟨by omega, h.2⟩⟩
    unfold addU
    simp only [e]
theorem addU_ne {U : Nat → List Int} {L : List (Dg × Nat)} {k : Dg × Nat} {n : Int} {j : Nat} (h : L[j]? ≠ some k) : addU U L k n (j + 1) = addU U L k n j := by
  funext m
  have e : (m < j + 1 ∧ L[m]? = some k) = (m < j ∧ L[m]? = some k) := propext ⟨fun hh => ⟨by
    have : m ≠ j := fun e => h (e ▸ hh.2)
    omega, hh.2⟩, fun h => ⟨by omega, h.2⟩⟩
  unfold addU
  simp only [e]
/-- A row was written. -/
theorem own_I {X : List (Nat × Loc)} {c lk i : Nat} {ts : List Tr} {U : Nat → List Int} {v : Loc} (hf : Fine ts) (hi : i < 40) (hX : ∀ k ∈ names X, k < 1000 ∨ 1001 < k ∧ k < 2000) :
    (∀ e ∈ rgL 0 ts lk, look (X ++ insL (rgL c ts lk ++ rowsU c U) (2000 + i) v) e.1 = some (reLoc c e.2)) ∧ look (X ++ insL (rgL c ts lk ++ rowsU c U) (2000 + i) v) (2000 + i) = some v ∧
    ∀ j, j < 40 → j ≠ i → U j ≠ [] → look (X ++ insL (rgL c ts lk ++ rowsU c U) (2000 + i) v) (2000 + j) = some (.rows c 1 (ivs (U j))) := by
  have hb : ∀ k, k = 1000 ∨ k = 1001 ∨ 2000 ≤ k → ∀ e' ∈ X, e'.1 ≠ k := fun k hk e' he' hh => by have := hX _ (mem_names he'); omega
  have hll : ∀ k ∈ names (rgL 0 ts lk), k = 1000 ∨ k = 1001 ∨ 2000000000 ≤ k := fun k hk => by
    rcases rg_names.1 hk with h | h | ⟨x, _, h | h⟩
    · exact .inl h
    · exact .inr (.inl h)
    · have := big_le; unfold nE at h; omega
    · have := big_le; unfold nO at h; omega
  refine ⟨fun e he => ?_, ?_, fun j hj hne hu => ?_⟩
  · have h1 := hll _ (mem_names he)
    have h2 := own_T (X := []) (B := rowsU c U) (c := c) (lk := lk) hf (by simp [names]) e he
    rw [look_appN _ (hb _ (by omega)), look_ins, if_neg (by omega)]
    exact h2
  · rw [look_appN _ (hb _ (by omega)), look_ins, if_pos rfl]
  · have h2 := own_R (X := []) (c := c) (lk := lk) (ts := ts) (U := U) (by simp [names]) j hj hu
    rw [look_appN _ (hb _ (by omega)), look_ins, if_neg (by omega)]
    exact h2

theorem hu_eq {j k : Nat} (h : k < 2000) : (k = 2000 + j) = False := eq_false (by omega)
theorem hu_eq' {j k : Nat} (h : k < 2000) : (2000 + j = k) = False := eq_false (by omega)
theorem hu_lt {j k : Nat} (h : k < 2000) : (2000 + j < k) = False := eq_false (by omega)
structure Rst where
  ts : List Tr
  lk : Nat
  L : List (Dg × Nat)
  U : Nat → List Int
  cs : Nat
noncomputable def stO (cls : List AV) (T i : Nat) (s : Rst) (c : Nat) : SA := ⟨[(3, .ptr 1000 s.cs 0), (4, .row 4 33 s.cs 0 s.L.length), (5, .row 1999 1 s.cs 0 40), (25, .sl 36 cls), (26, .v (.int .i64 (T : Nat))), (27, .v (.int .i64 (i : Nat)))], lawM [(4, .rows s.cs 33 (keysL s.L))] s.cs (rgL s.cs s.ts s.lk) s.U, c⟩
end Go.Proofs.YtphggannefpleaaDoor.WL

end
