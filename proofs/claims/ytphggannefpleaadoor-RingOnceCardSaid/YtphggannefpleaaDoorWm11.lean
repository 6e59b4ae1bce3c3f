/- Texts put together: S06p, S06q, S06r. -/
import Derived.Test.YtphggannefpleaaDoorWm10
section
/-
  CHAPTER 06: the law's memory: a ring, and rows of numbers that were used.
-/
namespace Go.Proofs.YtphggannefpleaaDoor.WL
open Go
set_option maxHeartbeats 8000000
attribute [local irreducible] comp hb sha leafD pairD secD shutD wholeD pubD ofD leavesD nE nO

def nilS : AV := .v (.slice none 0 0)
def ivs (l : List Int) : List AV := l.map fun n => .v (.int .i64 n)
def refG (U : Nat → List Int) (rj gj : Nat → Nat) : List AV := (List.range 40).map fun j => if U j = [] then nilS else .row (rj j) 1 (gj j) 0 (U j).length
def refU (c : Nat) (U : Nat → List Int) : List AV := refG U (2000 + ·) (fun _ => c)
def rowU (c : Nat) (U : Nat → List Int) (j : Nat) : List (Nat × Loc) := if U j = [] then [] else [(2000 + j, .rows c 1 (ivs (U j)))]
def rowsN (c : Nat) (U : Nat → List Int) : Nat → List (Nat × Loc)
  | 0 => []
  | n + 1 => rowsN c U n ++ rowU c U n
def rowsU (c : Nat) (U : Nat → List Int) : List (Nat × Loc) := rowsN c U 40
theorem iv_closed : ∀ (l : List Int), closeds (ivs l) = true
  | [] => rfl
  | n :: l => by
    have := iv_closed l
    simp only [ivs, List.map_cons, closeds, closed, Bool.and_eq_true] at this ⊢
    exact ⟨trivial, this⟩
theorem iv_len (l : List Int) : (ivs l).length = l.length := by simp [ivs]
theorem refG_len (U : Nat → List Int) (rj gj : Nat → Nat) : (refG U rj gj).length = 40 := by simp [refG]
theorem refG_get {U : Nat → List Int} {rj gj : Nat → Nat} {j : Nat} (h : j < 40) : (refG U rj gj)[j]? = some (if U j = [] then nilS else .row (rj j) 1 (gj j) 0 (U j).length) := by
  unfold refG
  rw [List.getElem?_map, List.getElem?_range h]; rfl
theorem mem_rowsN {c : Nat} {U : Nat → List Int} : ∀ {n : Nat} {e : Nat × Loc}, e ∈ rowsN c U n ↔ ∃ j, j < n ∧ U j ≠ [] ∧ e = (2000 + j, .rows c 1 (ivs (U j)))
  | 0, e => by simp [rowsN]
  | n + 1, e => by
    simp only [rowsN, List.mem_append, mem_rowsN (n := n), rowU]
    constructor
    · rintro (⟨j, h1, h2, h3⟩ | h)
      · exact ⟨j, by omega, h2, h3⟩
      · split at h
        · cases h
        · rename_i hne
          exact ⟨n, by omega, hne, List.mem_singleton.1 h⟩
    · rintro ⟨j, h1, h2, h3⟩
      by_cases e1 : j = n
      · subst e1
        right
        rw [if_neg h2]
        exact List.mem_singleton.2 h3
      · exact .inl ⟨j, by omega, h2, h3⟩
theorem rowsN_names {c : Nat} {U : Nat → List Int} {n k : Nat} : k ∈ names (rowsN c U n) ↔ ∃ j, j < n ∧ U j ≠ [] ∧ k = 2000 + j := by
  constructor
  · intro h
    obtain ⟨e, he, rfl⟩ := List.mem_map.1 h
    obtain ⟨j, h1, h2, rfl⟩ := mem_rowsN.1 he
    exact ⟨j, h1, h2, rfl⟩
  · rintro ⟨j, h1, h2, rfl⟩
    exact List.mem_map.2 ⟨_, mem_rowsN.2 ⟨j, h1, h2, rfl⟩, rfl⟩
theorem names_append (A B : List (Nat × Loc)) : names (A ++ B) = names A ++ names B := by simp [names]
theorem rowsN_nodup (c : Nat) (U : Nat → List Int) : ∀ (n : Nat), (names (rowsN c U n)).Nodup
  | 0 => List.nodup_nil
  | n + 1 => by
    show (names (rowsN c U n ++ rowU c U n)).Nodup
    rw [names_append, List.nodup_append]
    refine ⟨rowsN_nodup c U n, ?_, ?_⟩
    · unfold rowU
      split
      · exact List.nodup_nil
      · exact List.nodup_cons.2 ⟨by simp, List.nodup_nil⟩
    · intro a ha b hb
      obtain ⟨j, h1, _, rfl⟩ := rowsN_names.1 ha
      unfold rowU at hb
      split at hb
      · cases hb
      · obtain rfl : b = 2000 + n := by simpa [names] using hb
        omega
/-- One row lies elsewhere. -/
def rjf (i r : Nat) (j : Nat) : Nat := if j = i then r else 2000 + j
def gjf (i g c : Nat) (j : Nat) : Nat := if j = i then g else c
def ltU (i r g c : Nat) : Nat → Names
  | 0 => []
  | n + 1 => (2000 + n, some (rjf i r n, gjf i g c n)) :: ltU i r g c n
theorem look_ltU {i r g c : Nat} : ∀ {n j : Nat}, j < n → look (ltU i r g c n) (2000 + j) = some (some (rjf i r j, gjf i g c j))
  | n + 1, j, h => by
    simp only [ltU, look]
    by_cases e : n = j
    · subst e; rw [if_pos rfl]
    · rw [if_neg (by omega)]
      exact look_ltU (by omega)
theorem used_fit {m : Nat → Option Loc} {L : Names} {c1 c i r g : Nat} {U : Nat → List Int} (h1 : m 1999 = some (.rows c1 1 (refG U (rjf i r) (gjf i g c1)))) (hL : look L 1999 = some (some (1999, c1)))
    (hrow : ∀ j, j < 40 → U j ≠ [] → m (rjf i r j) = some (.rows (gjf i g c1 j) 1 (ivs (U j)))) (hLj : ∀ j, j < 40 → look L (2000 + j) = some (some (rjf i r j, gjf i g c1 j))) :
    ∀ e ∈ (1999, Loc.rows c 1 (refU c U)) :: rowsU c U, FitE m L e.1 e.2 ∧ touchE m L e.1 e.2 = [] ∧ StampedLoc (fun s => s = c) e.2 := fun e he => by
  rcases List.mem_cons.1 he with rfl | he
  · have key : ∀ l : List Nat, (∀ j ∈ l, j < 40) → FitL m L (l.map fun j => if U j = [] then nilS else .row (rjf i r j) 1 (gjf i g c1 j) 0 (U j).length) (l.map fun j => if U j = [] then nilS else .row (2000 + j) 1 c 0 (U j).length) ∧
        touchL m (l.map fun j => if U j = [] then nilS else .row (rjf i r j) 1 (gjf i g c1 j) 0 (U j).length) (l.map fun j => if U j = [] then nilS else .row (2000 + j) 1 c 0 (U j).length) = [] ∧
        StampedL (fun s => s = c) (l.map fun j => if U j = [] then nilS else .row (2000 + j) 1 c 0 (U j).length) := by
      intro l
      induction l with
      | nil => intro _; exact ⟨by simp [FitL], by simp [touchL], trivial⟩
      | cons j l ih =>
        intro hl
        obtain ⟨i1, i2, i3⟩ := ih fun x hx => hl x (List.mem_cons_of_mem _ hx)
        have hj := hLj j (hl j List.mem_cons_self)
        simp only [List.map_cons, FitL, touchL, StampedL]
        by_cases hu : U j = []
        · rw [if_pos hu, if_pos hu]
          refine ⟨⟨_, _, rfl, ?_, i1⟩, ?_, ?_, i3⟩
          · simp [nilS, Fit]
          · rw [i2]; simp [nilS, touch]
          · simp [nilS, Stamped]
        · rw [if_neg hu, if_neg hu]
          refine ⟨⟨_, _, rfl, ?_, i1⟩, ?_, ?_, i3⟩
          · simp only [Fit]
            exact ⟨trivial, trivial, trivial, hj⟩
          · rw [i2]; simp [touch]
          · simp only [Stamped]
    obtain ⟨k1, k2, k3⟩ := key (List.range 40) (fun j hj => List.mem_range.1 hj)
    refine ⟨.inl ⟨1999, c1, _, hL, h1, k1⟩, ?_, rfl, k3⟩
    simp only [touchE, hL, h1]
    exact k2
  · obtain ⟨j, hj, hu, rfl⟩ := mem_rowsN.1 he
    have h2 := hrow j hj hu
    have h3 := hLj j hj
    have h4 := FitL_refl (m := m) (L := L) _ (iv_closed (U j))
    refine ⟨.inl ⟨_, _, _, h3, h2, h4.1⟩, ?_, rfl, closeds_stamped _ (iv_closed (U j))⟩
    simp only [touchE, h3, h2]
    exact h4.2

theorem FitEc_of {m : Nat → Option Loc} {L : Names} {k : Nat} {c : Loc} (h : FitE m L k c) : FitEc m L k c := by
  cases c with
  | var g w => obtain ⟨l, g', raw, h1, h2, h3⟩ := h; simp only [FitEc, h1, h2]; exact ⟨trivial, h3⟩
  | rows g sz ws =>
    rcases h with ⟨l, g', xs, h1, h2, h3⟩ | ⟨h1, h2⟩
    · simp only [FitEc, h1, h2]; exact ⟨trivial, trivial, h3⟩
    · simp only [FitEc, h1, h2]
  | ob g q w => obtain ⟨l, g', raw, h1, h2, h3⟩ := h; simp only [FitEc, h1, h2]; exact ⟨trivial, trivial, h3⟩
theorem FitM_of {m : Nat → Option Loc} {L : Names} : ∀ {M : List (Nat × Loc)}, (∀ e ∈ M, FitE m L e.1 e.2) → FitM m L M
  | [], _ => trivial
  | e :: M, h => ⟨FitEc_of (h e List.mem_cons_self), FitM_of fun x hx => h x (List.mem_cons_of_mem _ hx)⟩
theorem touchM_of {m : Nat → Option Loc} {L : Names} : ∀ {M : List (Nat × Loc)}, (∀ e ∈ M, touchE m L e.1 e.2 = []) → touchM m L M = []
  | [], _ => rfl
  | e :: M, h => by
    simp only [touchM]
    rw [h e List.mem_cons_self, touchM_of fun x hx => h x (List.mem_cons_of_mem _ hx)]
    rfl
theorem StampedM_of {U : Nat → Prop} : ∀ {M : List (Nat × Loc)}, (∀ e ∈ M, StampedLoc U e.2) → StampedM U M
  | [], _ => trivial
  | e :: M, h => ⟨h e List.mem_cons_self, StampedM_of fun x hx => h x (List.mem_cons_of_mem _ hx)⟩
/-- All is told anew: what every location needs. -/
theorem weak_all {fr fr' : List (Nat × AV)} {m M : List (Nat × Loc)} {c : Nat} {L : Names} (hF : FitF (look m) L fr fr') (hT : touchF (look m) fr fr' = []) (hS : StampedF (fun s => s = c) fr')
    (hM : ∀ e ∈ M, FitE (look m) L e.1 e.2 ∧ touchE (look m) L e.1 e.2 = [] ∧ StampedLoc (fun s => s = c) e.2) (hn : (names M).Nodup) (hs : (srcs L M).Nodup) : Weak ⟨fr, m, c⟩ ⟨fr', M, c + 1⟩ :=
  Weak.recast (L := L) ⟨hF, hS, FitM_of fun e he => (hM e he).1, StampedM_of fun e he => (hM e he).2.2, hn, hs, fun t ht => by
    rw [hT, touchM_of fun e he => (hM e he).2.1] at ht
    cases ht⟩
/-- The law's memory. -/
noncomputable def lawM (X : List (Nat × Loc)) (c : Nat) (R : List (Nat × Loc)) (U : Nat → List Int) : List (Nat × Loc) := X ++ ((1999, .rows c 1 (refU c U)) :: (R ++ rowsU c U))
theorem srcs_append (L : Names) (A B : List (Nat × Loc)) : srcs L (A ++ B) = srcs L A ++ srcs L B := by simp [srcs, List.filterMap_append]
theorem srcs_congr {L L' : Names} : ∀ {M : List (Nat × Loc)}, (∀ k ∈ names M, look L k = look L' k) → srcs L M = srcs L' M
  | [], _ => rfl
  | e :: M, h => by
    have h1 : src L e.1 = src L' e.1 := by unfold src; rw [h e.1 List.mem_cons_self]
    have ih := srcs_congr (M := M) fun k hk => h k (List.mem_cons_of_mem _ hk)
    unfold srcs at ih ⊢
    simp only [List.filterMap_cons, h1, ih]
theorem srcs_names {L : Names} : ∀ {M M' : List (Nat × Loc)}, names M = names M' → srcs L M = srcs L M'
  | [], [], _ => rfl
  | [], _ :: _, h => by cases h
  | _ :: _, [], h => by cases h
  | e :: M, e' :: M', h => by
    have h0 : e.1 = e'.1 ∧ names M = names M' := by simpa [names] using h
    have ih := srcs_names (L := L) h0.2
    unfold srcs at ih ⊢
    simp only [List.filterMap_cons, h0.1, ih]
theorem look_appN {α : Type} : ∀ {A : List (Nat × α)} {k : Nat} (B : List (Nat × α)), (∀ e ∈ A, e.1 ≠ k) → look (A ++ B) k = look B k
  | [], _, _, _ => rfl
  | (j, x) :: A, k, B, h => by
    simp only [List.cons_append, look]
    rw [if_neg (h (j, x) List.mem_cons_self), look_appN B fun e he => h e (List.mem_cons_of_mem _ he)]
theorem look_appL {α : Type} : ∀ {A : List (Nat × α)} {k : Nat} (B : List (Nat × α)) {x : α}, look A k = some x → look (A ++ B) k = some x
  | (j, y) :: A, k, B, x, h => by
    simp only [List.cons_append, look] at h ⊢
    split at h
    · rename_i e; rw [if_pos e]; exact h
    · rename_i e; rw [if_neg e]; exact look_appL B h
theorem weak_big {fr fr' : List (Nat × AV)} {m X R : List (Nat × Loc)} {c c1 i r g : Nat} {U : Nat → List Int} (LX LR : Names) {SX : List Nat}
    (hr : r = 120 ∨ r = 2000 + i) (hi : r = 120 ∨ i ≤ 40)
    (hX : ∀ LT : Names, look LT 1000 = some (some (1000, c1)) → look LT 1999 = some (some (1999, c1)) →
      FitF (look m) (LX ++ LT) fr fr' ∧ touchF (look m) fr fr' = [] ∧ StampedF (fun s => s = c) fr' ∧ FitM (look m) (LX ++ LT) X ∧ (∀ e ∈ X, touchE (look m) (LX ++ LT) e.1 e.2 = []) ∧ StampedM (fun s => s = c) X ∧ srcs (LX ++ LT) X = SX)
    (hLX : ∀ e ∈ LX, e.1 < 1000) (hXn : (names X).Nodup) (hXl : ∀ k ∈ names X, k < 1000) (hSX : SX.Nodup) (hSl : ∀ k ∈ SX, k < 1000 ∧ k ≠ 120)
    (hR : ∀ LT : Names, (∀ k ∈ names R, look LT k = look LR k) → ∀ e ∈ R, FitE (look m) LT e.1 e.2 ∧ touchE (look m) LT e.1 e.2 = [] ∧ StampedLoc (fun s => s = c) e.2)
    (hRn : (names R).Nodup) (hRl : ∀ k ∈ names R, k = 1000 ∨ k = 1001 ∨ 2000000000 ≤ k) (hR0 : look LR 1000 = some (some (1000, c1))) (hLR : ∀ e ∈ LR, e.1 = 1000 ∨ e.1 = 1001 ∨ 2000000000 ≤ e.1)
    (hRs : (srcs LR R).Nodup) (hRL : ∀ k ∈ names R, ∃ q, look LR k = some q) (hRr : ∀ k ∈ srcs LR R, k = 1000 ∨ k = 1001 ∨ 3000 < k)
    (h1 : look m 1999 = some (.rows c1 1 (refG U (rjf i r) (gjf i g c1)))) (hrow : ∀ j, j < 40 → U j ≠ [] → look m (rjf i r j) = some (.rows (gjf i g c1 j) 1 (ivs (U j)))) :
    Weak ⟨fr, m, c⟩ ⟨fr', lawM X c R U, c + 1⟩ := by
  obtain ⟨LT, hLT⟩ : ∃ LT : Names, LT = LR ++ ((1999, some (1999, c1)) :: ltU i r g c1 40) := ⟨_, rfl⟩
  have t1 : look LT 1000 = some (some (1000, c1)) := by rw [hLT]; exact look_appL _ hR0
  have t2 : look LT 1999 = some (some (1999, c1)) := by
    rw [hLT, look_appN _ fun e he => by rcases hLR e he with h | h | h <;> omega]
    rfl
  have t3 : ∀ j, j < 40 → look LT (2000 + j) = some (some (rjf i r j, gjf i g c1 j)) := fun j hj => by
    rw [hLT, look_appN _ fun e he => by rcases hLR e he with h | h | h <;> omega]
    simp only [look]
    rw [if_neg (by omega), look_ltU hj]
  have t4 : ∀ k ∈ names R, look LT k = look LR k := fun k hk => by
    obtain ⟨q, hq⟩ := hRL k hk
    rw [hLT, look_appL _ hq, hq]
  have big : ∀ k, 1000 ≤ k → look (LX ++ LT) k = look LT k := fun k hk => look_appN _ fun e he => by have := hLX e he; omega
  obtain ⟨a1, a2, a3, a4, a5, a6, a7⟩ := hX LT t1 t2
  have u1 := used_fit (L := LX ++ LT) (c := c) h1 (by rw [big _ (by omega), t2]) hrow (fun j hj => by rw [big _ (by omega), t3 j hj])
  have hRb : ∀ k ∈ names R, look (LX ++ LT) k = look LR k := fun k hk => by
    rw [big k (by rcases hRl k hk with h | h | h <;> omega), t4 k hk]
  have r1 := hR (LX ++ LT) hRb
  refine weak_all (L := LX ++ LT) a1 a2 a3 (fun e he => ?_) ?_ ?_
  · rcases List.mem_append.1 he with he | he
    · exact ⟨FitM_mem a4 he, a5 e he, StampedM_mem a6 he⟩
    · rcases List.mem_cons.1 he with rfl | he
      · exact u1 _ List.mem_cons_self
      · rcases List.mem_append.1 he with he | he
        · exact r1 e he
        · exact u1 _ (List.mem_cons_of_mem _ he)
  · unfold lawM
    rw [names_append]
    show (names X ++ 1999 :: names (R ++ rowsU c U)).Nodup
    rw [names_append, List.nodup_append, List.nodup_cons, List.nodup_append]
    refine ⟨hXn, ⟨?_, hRn, rowsN_nodup c U 40, ?_⟩, ?_⟩
    · rw [List.mem_append]
      rintro (h | h)
      · rcases hRl _ h with h | h | h <;> omega
      · obtain ⟨j, _, _, h⟩ := rowsN_names.1 h; omega
    · intro a ha b hb
      obtain ⟨j, hj, _, h⟩ := rowsN_names.1 hb
      rcases hRl _ ha with h | h | h <;> omega
    · intro a ha b hb
      have := hXl a ha
      rcases List.mem_cons.1 hb with rfl | hb
      · omega
      · rcases List.mem_append.1 hb with hb | hb
        · rcases hRl _ hb with h | h | h <;> omega
        · obtain ⟨j, hj, _, h⟩ := rowsN_names.1 hb; omega
  · unfold lawM
    have hsR : srcs (LX ++ LT) R = srcs LR R := by
      exact srcs_congr fun k hk => hRb k hk
    have hs9 : src (LX ++ LT) 1999 = some 1999 := by unfold src; rw [big _ (by omega), t2]
    have hsU : ∀ n, n ≤ 40 → (srcs (LX ++ LT) (rowsN c U n)).Nodup ∧ ∀ k ∈ srcs (LX ++ LT) (rowsN c U n), ∃ j, j < n ∧ U j ≠ [] ∧ k = rjf i r j := by
      intro n
      induction n with
      | zero => intro _; exact ⟨List.nodup_nil, fun k hk => (by cases hk)⟩
      | succ n ih =>
        intro hn
        obtain ⟨k1, k2⟩ := ih (by omega)
        have e : srcs (LX ++ LT) (rowsN c U (n + 1)) = srcs (LX ++ LT) (rowsN c U n) ++ srcs (LX ++ LT) (rowU c U n) := srcs_append _ _ _
        rw [e]
        have h3 : srcs (LX ++ LT) (rowU c U n) = if U n = [] then [] else [rjf i r n] := by
          unfold rowU
          split
          · rfl
          · have : src (LX ++ LT) (2000 + n) = some (rjf i r n) := by unfold src; rw [big _ (by omega), t3 n (by omega)]
            unfold srcs
            rw [List.filterMap_cons_some (f := fun e : Nat × Loc => src (LX ++ LT) e.1) (b := rjf i r n) this]
            rfl
        rw [h3]
        split
        · rw [List.append_nil]
          exact ⟨k1, fun k hk => by obtain ⟨j, h1, h2⟩ := k2 k hk; exact ⟨j, by omega, h2⟩⟩
        · rename_i hu
          refine ⟨?_, fun k hk => ?_⟩
          · rw [List.nodup_append]
            refine ⟨k1, List.nodup_cons.2 ⟨by simp, List.nodup_nil⟩, fun a ha b hb => ?_⟩
            obtain ⟨j, h1, _, rfl⟩ := k2 a ha
            obtain rfl := List.mem_singleton.1 hb
            unfold rjf
            split <;> split <;> omega
          · rcases List.mem_append.1 hk with hk | hk
            · obtain ⟨j, h1, h2⟩ := k2 k hk; exact ⟨j, by omega, h2⟩
            · exact ⟨n, by omega, hu, List.mem_singleton.1 hk⟩
    obtain ⟨n1, n2⟩ := hsU 40 (Nat.le_refl _)
    have e9 : srcs (LX ++ LT) ((1999, Loc.rows c 1 (refU c U)) :: (R ++ rowsU c U)) = 1999 :: (srcs LR R ++ srcs (LX ++ LT) (rowsU c U)) := by
      rw [show srcs (LX ++ LT) ((1999, Loc.rows c 1 (refU c U)) :: (R ++ rowsU c U)) = 1999 :: srcs (LX ++ LT) (R ++ rowsU c U) from List.filterMap_cons_some (f := fun e : Nat × Loc => src (LX ++ LT) e.1) hs9, srcs_append, hsR]
    have hrj : ∀ j, j < 40 → rjf i r j = 120 ∨ (2000 ≤ rjf i r j ∧ rjf i r j ≤ 2040) := fun j hj => by
      unfold rjf
      split <;> omega
    rw [srcs_append, a7, e9, List.nodup_append, List.nodup_cons, List.nodup_append]
    refine ⟨hSX, ⟨?_, hRs, n1, ?_⟩, ?_⟩
    · rw [List.mem_append]
      rintro (h | h)
      · rcases hRr _ h with h | h | h <;> omega
      · obtain ⟨j, hj, _, h⟩ := n2 _ h
        rcases hrj j hj with h2 | h2 <;> omega
    · intro a ha b hb
      obtain ⟨j, hj, _, rfl⟩ := n2 _ hb
      have h2 := hrj j hj
      rcases hRr _ ha with h | h | h <;> omega
    · intro a ha b hb
      have := hSl a ha
      rcases List.mem_cons.1 hb with rfl | hb
      · omega
      · rcases List.mem_append.1 hb with hb | hb
        · rcases hRr _ hb with h | h | h <;> omega
        · obtain ⟨j, hj, _, rfl⟩ := n2 _ hb
          have h2 := hrj j hj
          omega

section
variable {fr fr' : List (Nat × AV)} {m X : List (Nat × Loc)} {c c1 i r g : Nat} {U : Nat → List Int} {SX : List Nat}
/-- The ring is as it was. -/
theorem weak_r1 {ts : List Tr} (hf : Fine ts) {lk : Nat} (LX : Names) (hr : r = 120 ∨ r = 2000 + i) (hi : r = 120 ∨ i ≤ 40)
    (hX : ∀ LT : Names, look LT 1000 = some (some (1000, c1)) → look LT 1999 = some (some (1999, c1)) →
      FitF (look m) (LX ++ LT) fr fr' ∧ touchF (look m) fr fr' = [] ∧ StampedF (fun s => s = c) fr' ∧ FitM (look m) (LX ++ LT) X ∧ (∀ e ∈ X, touchE (look m) (LX ++ LT) e.1 e.2 = []) ∧ StampedM (fun s => s = c) X ∧ srcs (LX ++ LT) X = SX)
    (hLX : ∀ e ∈ LX, e.1 < 1000) (hXn : (names X).Nodup) (hXl : ∀ k ∈ names X, k < 1000) (hSX : SX.Nodup) (hSl : ∀ k ∈ SX, k < 1000 ∧ k ≠ 120)
    (hm : ∀ e ∈ rgL 0 ts lk, look m e.1 = some (reLoc c1 e.2))
    (h1 : look m 1999 = some (.rows c1 1 (refG U (rjf i r) (gjf i g c1)))) (hrow : ∀ j, j < 40 → U j ≠ [] → look m (rjf i r j) = some (.rows (gjf i g c1 j) 1 (ivs (U j)))) :
    Weak ⟨fr, m, c⟩ ⟨fr', lawM X c (rgL c ts lk) U, c + 1⟩ := by
  have hnm : names (rgL c ts lk) = names (rgL 0 ts lk) := by rw [← rg_re c 0, names_reM]
  have hll : ∀ k ∈ names (rgL 0 ts lk), k = 1000 ∨ k = 1001 ∨ 2000000000 ≤ k := fun k hk => by
    rcases rg_names.1 hk with h | h | ⟨x, _, h | h⟩
    · exact .inl h
    · exact .inr (.inl h)
    · have := big_le; unfold nE at h; omega
    · have := big_le; unfold nO at h; omega
  have hsr : srcs (idN c1 (rgL 0 ts lk)) (rgL c ts lk) = names (rgL 0 ts lk) := (srcs_names hnm).trans (srcs_idN c1 _)
  refine weak_big (c1 := c1) LX (idN c1 (rgL 0 ts lk)) hr hi hX hLX hXn hXl hSX hSl (fun LT hLT e he => ?_) (hnm ▸ (rg_sane hf lk).nd) (fun k hk => hll k (hnm ▸ hk)) (look_idN _ _ _ (rg_names.2 (.inl rfl))) (fun e he => ?_) ?_ (fun k hk => ⟨_, look_idN c1 _ k (hnm ▸ hk)⟩) (fun k hk => ?_) h1 hrow
  · rw [← rg_re c 0] at he
    obtain ⟨e0, he0, rfl⟩ := List.mem_map.1 he
    exact fitE_sane (rg_sane hf lk) c (fun k hk => (hLT k (hnm ▸ hk)).trans (look_idN c1 _ k hk)) hm e0 he0
  · obtain ⟨e0, he0, rfl⟩ := List.mem_map.1 he
    exact hll _ (List.mem_map.2 ⟨e0, he0, rfl⟩)
  · rw [hsr]; exact (rg_sane hf lk).nd
  · rw [hsr] at hk
    rcases hll k hk with h | h | h <;> omega
/-- A tree came in. -/
theorem weak_r2 {ts : List Tr} (hf : Fine ts) {lk : Nat} {t : One} {p q gp : Nat} (hf' : Fine (ts ++ [⟨lk, t⟩])) (LX : Names) (hr : r = 120 ∨ r = 2000 + i) (hi : r = 120 ∨ i ≤ 40)
    (hX : ∀ LT : Names, look LT 1000 = some (some (1000, c1)) → look LT 1999 = some (some (1999, c1)) →
      FitF (look m) (LX ++ LT) fr fr' ∧ touchF (look m) fr fr' = [] ∧ StampedF (fun s => s = c) fr' ∧ FitM (look m) (LX ++ LT) X ∧ (∀ e ∈ X, touchE (look m) (LX ++ LT) e.1 e.2 = []) ∧ StampedM (fun s => s = c) X ∧ srcs (LX ++ LT) X = SX)
    (hLX : ∀ e ∈ LX, e.1 < 1000) (hXn : (names X).Nodup) (hXl : ∀ k ∈ names X, k < 1000) (hSX : SX.Nodup) (hSl : ∀ k ∈ SX, k < 1000 ∧ k ≠ 120)
    (hp : 3000 < p ∧ p < 2000000000) (hq : 3000 < q ∧ q < 2000000000) (hpq : p ≠ q) (hm : ∀ e ∈ rgA c1 gp gp p q ts lk t, look m e.1 = some e.2)
    (h1 : look m 1999 = some (.rows c1 1 (refG U (rjf i r) (gjf i g c1)))) (hrow : ∀ j, j < 40 → U j ≠ [] → look m (rjf i r j) = some (.rows (gjf i g c1 j) 1 (ivs (U j)))) :
    Weak ⟨fr, m, c⟩ ⟨fr', lawM X c (rgL c (ts ++ [⟨lk, t⟩]) (lk + 1)) U, c + 1⟩ := by
  have hid : ∀ x ∈ ts, x.id ≠ lk := fun x hx e => by
    have := hf'.ids
    rw [List.map_append, List.nodup_append] at this
    exact this.2.2 x.id (List.mem_map.2 ⟨x, hx, rfl⟩) lk (by simp) e
  have hll : ∀ k ∈ names (rgL 0 ts lk), k = 1000 ∨ k = 1001 ∨ 2000000000 ≤ k := fun k hk => by
    rcases rg_names.1 hk with h | h | ⟨x, _, h | h⟩
    · exact .inl h
    · exact .inr (.inl h)
    · have := big_le; unfold nE at h; omega
    · have := big_le; unfold nO at h; omega
  have hEn : nE lk ∉ names (rgL 0 ts lk) := fun hk => by
    rcases rg_names.1 hk with h | h | ⟨x, hx, h | h⟩
    · rw [nE_low' (by omega)] at h; exact h
    · rw [nE_low' (by omega)] at h; exact h
    · exact hid x hx (nE_inj.1 h).symm
    · exact nE_nO _ _ h
  have hOn : nO lk ∉ names (rgL 0 ts lk) := fun hk => by
    rcases rg_names.1 hk with h | h | ⟨x, hx, h | h⟩
    · rw [nO_low' (by omega)] at h; exact h
    · rw [nO_low' (by omega)] at h; exact h
    · exact nE_nO _ _ h.symm
    · exact hid x hx (nO_inj.1 h).symm
  have hEO : nE lk ≠ nO lk := nE_nO lk lk
  have hEb : 2000000000 ≤ nE lk ∧ 2000000000 ≤ nO lk := by have := big_le; unfold nE nO; omega
  have hflat : ∀ c, flatT c (ts ++ [⟨lk, t⟩]) = flatT c ts ++ [(nE lk, locE c lk t), (nO lk, locO c t)] := fun c => by
    unfold flatT
    rw [List.flatMap_append]
    simp [trL]
  -- the names of the new memory
  have hnm : names (rgL c (ts ++ [⟨lk, t⟩]) (lk + 1)) = names (rgL 0 ts lk) ++ [nE lk, nO lk] := by
    show 1000 :: 1001 :: names (flatT c (ts ++ [⟨lk, t⟩])) = 1000 :: 1001 :: names (flatT 0 ts) ++ [nE lk, nO lk]
    rw [hflat, names_append, flat_names0 c]
    rfl
  have hsub : ∀ e ∈ rgL c (ts ++ [⟨lk, t⟩]) (lk + 1), e ∈ rgA c c c (nE lk) (nO lk) ts lk t := fun e he => by
    unfold rgL at he
    rw [hflat] at he
    unfold rgA
    simp only [List.mem_cons, List.mem_append, List.not_mem_nil, or_false, List.map_append, List.map_cons, List.map_nil] at he ⊢
    rcases he with h | h | h | h | h
    · exact .inl h
    · exact .inr (.inl h)
    · exact .inr (.inr (.inr (.inr h)))
    · exact .inr (.inr (.inl h))
    · exact .inr (.inr (.inr (.inl h)))
  obtain ⟨LR, hLRd⟩ : ∃ LR : Names, LR = (nE lk, some (p, gp)) :: (nO lk, some (q, gp)) :: idN c1 (rgL 0 ts lk) := ⟨_, rfl⟩
  have l1 : look LR (nE lk) = some (some (p, gp)) := by rw [hLRd]; simp only [look, if_true]
  have l2 : look LR (nO lk) = some (some (q, gp)) := by rw [hLRd]; simp only [look, if_true]; rw [if_neg hEO]
  have l3 : ∀ k ∈ names (rgL 0 ts lk), look LR k = some (some (k, c1)) := fun k hk => by
    rw [hLRd]
    simp only [look]
    rw [if_neg (fun e => hEn (by rw [e]; exact hk)), if_neg (fun e => hOn (by rw [e]; exact hk)), look_idN c1 _ k hk]
  have hin : ∀ k ∈ names (rgL c (ts ++ [⟨lk, t⟩]) (lk + 1)), k ∈ names (rgL 0 ts lk) ∨ k = nE lk ∨ k = nO lk := fun k hk => by
    rw [hnm, List.mem_append] at hk
    simpa using hk
  have hsr : srcs LR (rgL c (ts ++ [⟨lk, t⟩]) (lk + 1)) = names (rgL 0 ts lk) ++ [p, q] := by
    have h3 : ∀ r : List (Nat × Loc), (∀ e ∈ r, e.1 ∈ names (rgL 0 ts lk)) → srcs LR r = names r := by
      intro r
      induction r with
      | nil => intro _; rfl
      | cons e r ih =>
        intro h
        have hs : src LR e.1 = some e.1 := by unfold src; rw [l3 _ (h e List.mem_cons_self)]
        have ih := ih fun x hx => h x (List.mem_cons_of_mem _ hx)
        unfold srcs at ih ⊢
        rw [List.filterMap_cons_some (f := fun e : Nat × Loc => src LR e.1) (b := e.1) hs, ih]
        rfl
    have e0 : srcs LR (rgL c (ts ++ [⟨lk, t⟩]) (lk + 1)) = srcs LR (rgL 0 ts lk ++ [(nE lk, locE c lk t), (nO lk, locO c t)]) := srcs_names (by rw [hnm, names_append]; rfl)
    rw [e0, srcs_append, h3 _ fun e he => List.mem_map.2 ⟨e, he, rfl⟩]
    have s1 : src LR (nE lk) = some p := by unfold src; rw [l1]
    have s2 : src LR (nO lk) = some q := by unfold src; rw [l2]
    have s3 : srcs LR [(nE lk, locE c lk t), (nO lk, locO c t)] = [p, q] := by
      unfold srcs
      rw [List.filterMap_cons_some (f := fun e : Nat × Loc => src LR e.1) (b := p) s1, List.filterMap_cons_some (f := fun e : Nat × Loc => src LR e.1) (b := q) s2]
      rfl
    rw [s3]
  refine weak_big (c1 := c1) LX LR hr hi hX hLX hXn hXl hSX hSl (fun LT hLT e he => ?_) ?_ (fun k hk => ?_) (l3 _ (rg_names.2 (.inl rfl))) (fun e he => ?_) ?_ (fun k hk => ?_) (fun k hk => ?_) h1 hrow
  · have hT : ∀ k, (k ∈ names (rgL 0 ts lk) ∨ k = nE lk ∨ k = nO lk) → look LT k = look LR k := fun k hk => hLT k (by rw [hnm, List.mem_append]; simpa using hk)
    have := fitA (L := LT) hf c c (nE lk) (nO lk) hm (fun k hk => (hT k (.inl hk)).trans (l3 k hk)) ((hT _ (.inr (.inl rfl))).trans l1) ((hT _ (.inr (.inr rfl))).trans l2) e (hsub e he)
    exact ⟨this.1, this.2.1, stampedLoc_mono (fun s hs => hs.elim id id) _ this.2.2⟩
  · rw [hnm, List.nodup_append]
    refine ⟨(rg_sane hf lk).nd, by simp [hEO], fun a ha b hb => ?_⟩
    simp only [List.mem_cons, List.not_mem_nil, or_false] at hb
    rintro rfl
    rcases hb with rfl | rfl
    · exact hEn ha
    · exact hOn ha
  · rcases hin k hk with h | rfl | rfl
    · exact hll k h
    · exact .inr (.inr hEb.1)
    · exact .inr (.inr hEb.2)
  · rw [hLRd] at he
    rcases List.mem_cons.1 he with rfl | he
    · exact .inr (.inr hEb.1)
    rcases List.mem_cons.1 he with rfl | he
    · exact .inr (.inr hEb.2)
    obtain ⟨e0, he0, rfl⟩ := List.mem_map.1 he
    exact hll _ (List.mem_map.2 ⟨e0, he0, rfl⟩)
  · rw [hsr, List.nodup_append]
    refine ⟨(rg_sane hf lk).nd, by simp [hpq], fun a ha b hb => ?_⟩
    simp only [List.mem_cons, List.not_mem_nil, or_false] at hb
    have := hll a ha
    rcases hb with rfl | rfl <;> rcases this with h | h | h <;> omega
  · rcases hin k hk with h | rfl | rfl
    · exact ⟨_, l3 k h⟩
    · exact ⟨_, l1⟩
    · exact ⟨_, l2⟩
  · rw [hsr, List.mem_append] at hk
    rcases hk with h | h
    · rcases hll k h with h | h | h <;> omega
    · simp only [List.mem_cons, List.not_mem_nil, or_false] at h
      omega
end
end Go.Proofs.YtphggannefpleaaDoor.WL

end
section
/-
  CHAPTER 06: calls in the law's memory; key, great.
-/
namespace Go.Proofs.YtphggannefpleaaDoor.WL
open Go
set_option maxHeartbeats 8000000
attribute [local irreducible] comp hb sha leafD pairD secD shutD wholeD pubD ofD leavesD nE nO

theorem names_rg (c : Nat) (ts : List Tr) (lk : Nat) : names (rgL c ts lk) = names (rgL 0 ts lk) := by rw [← rg_re c 0, names_reM]
theorem own_T {X B : List (Nat × Loc)} {c : Nat} {ts : List Tr} {lk : Nat} (hf : Fine ts) (hX : ∀ k ∈ names X, k < 1000 ∨ 1001 < k ∧ k < 2000000000) : ∀ e ∈ rgL 0 ts lk, look (X ++ (rgL c ts lk ++ B)) e.1 = some (reLoc c e.2) := fun e he => by
  have hin : e.1 ∈ names (rgL 0 ts lk) := List.mem_map.2 ⟨e, he, rfl⟩
  have hXn : e.1 ∉ names X := fun h => by
    rcases hX _ h with h | h
    · exact low_no' h hin
    · exact low_no h.1 h.2 hin
  rw [look_app, if_neg hXn, look_app, if_pos (by rw [names_rg]; exact hin), ← rg_re c 0, look_reM, look_of_mem (rg_sane hf lk).nd he]
  rfl
/-- A ring's call. -/
theorem call_r {P : Program} {G : Nat → Option AV} {Q : Exit → SA → Prop} [hq : Resp Q] {f clk i n : Nat} {d : Option Nat} {vals args : List AV} {r : List COper} {fr : List (Nat × AV)} {X B : List (Nat × Loc)} {c lk lk' : Nat} {ts ts' : List Tr} {lg : Log} {dr : Option (List Nat × List (Nat × Nat))} {keepS : List Nat} {k : List Kont}
    {res : AV} (hf : Fine ts) (hf' : Fine ts') (hm : Meets P G f args (rgL 0 ts lk) false res (rgL 0 ts' lk')) (hsub : ∀ x ∈ ts', ∃ y ∈ ts, y.id = x.id) (ha : okL (rgL 0 ts lk) args = true) (hv : vals = reL c args)
    (hres : okA (rgL 0 ts' lk') res = true ∨ ∃ zs, res = .tup zs ∧ okL (rgL 0 ts' lk') zs = true)
    (hX : ∀ k ∈ names X, k < 1000 ∨ 1001 < k ∧ k < 2000000000) (hB : ∀ k ∈ names B, 1001 < k ∧ k < 2000000000)
    (hk : ∀ x, goR P G Q clk r (i + 1) (setL fr d (resRe c res)) (X ++ (rgL c ts' lk' ++ B)) (lg ++ [(i, x)]) dr keepS n k) : goV P G Q (some vals) (.call f) d clk r i fr (X ++ (rgL c ts lk ++ B)) lg dr keepS n k := by
  have hs : ∀ k ∈ names (rgL 0 ts' lk'), k ∈ names (rgL 0 ts lk) := fun k hk => by
    rcases rg_names.1 hk with h | h | ⟨x, hx, h | h⟩
    · exact rg_names.2 (.inl h)
    · exact rg_names.2 (.inr (.inl h))
    · obtain ⟨y, hy, e⟩ := hsub x hx
      exact rg_names.2 (.inr (.inr ⟨y, hy, .inl (by rw [e]; exact h)⟩))
    · obtain ⟨y, hy, e⟩ := hsub x hx
      exact rg_names.2 (.inr (.inr ⟨y, hy, .inr (by rw [e]; exact h)⟩))
  refine call_id c hm (rg_sane hf lk) (rg_sane hf' lk') hs ha hv hres (own_T hf hX) (fun k => ?_) hk
  by_cases hin : k ∈ names (rgL 0 ts lk)
  · have hXn : k ∉ names X := fun h => by
      rcases hX _ h with h | h
      · exact low_no' h hin
      · exact low_no h.1 h.2 hin
    have hBn : k ∉ names B := fun h => low_no (hB _ h).1 (hB _ h).2 hin
    rw [if_pos hin, look_app, if_neg hXn, look_app, rg_re]
    split
    · rfl
    · rename_i hn
      rw [look_no hBn, look_no hn]
  · have hn1 : k ∉ names (rgL c ts lk) := by rw [names_rg]; exact hin
    have hn2 : k ∉ names (rgL c ts' lk') := by rw [names_rg]; exact fun h => hin (hs k h)
    rw [if_neg hin, look_app, look_app, look_app, look_app, if_neg hn1, if_neg hn2]
mutual
theorem ren_cl {L : Names} {nb gn : Nat} : ∀ (a : AV), closed a = true → renA L nb gn a = a
  | .ptr .., h => by simp [closed] at h
  | .row .., h => by simp [closed] at h
  | .oref .., h => by simp [closed] at h
  | .node cs, h => by simp only [closed] at h; simp only [renA, rens_cl cs h]
  | .tup _, h => by simp [closed] at h
  | .top, _ => rfl
  | .v _, _ => rfl
  | .arr .., _ => rfl
  | .sl .., _ => rfl
  | .iptr _, _ => rfl
  | .vrow .., _ => rfl
  | .rptr .., _ => rfl
theorem rens_cl {L : Names} {nb gn : Nat} : ∀ (zs : List AV), closeds zs = true → rens L nb gn zs = zs
  | [], _ => rfl
  | a :: zs, h => by
    simp only [closeds, Bool.and_eq_true] at h
    simp only [rens, ren_cl a h.1, rens_cl zs h.2]
end
theorem ren_rgA {ts : List Tr} {c nb gn : Nat} (hf : Fine ts) (lk : Nat) (t : One) : renM (idN c (rgL 0 ts lk)) nb gn (rgA 0 1 1 1002 1003 ts lk t) = rgA c gn gn (nb + 1002) (nb + 1003) ts lk t := by
  have h := rg_sane hf lk
  have hL : ∀ k ∈ names (rgL 0 ts lk), look (idN c (rgL 0 ts lk)) k = some (some (k, c)) := fun k hk => look_idN c _ k hk
  have e0 := hL 1000 (rg_names.2 (.inl rfl))
  have e1 := hL 1001 (rg_names.2 (.inr (.inl rfl)))
  have hE := rens_re h.gens (idN c (rgL 0 ts lk)) c (nb) gn hL _ (rg_split hf lk)
  rw [reL_trE] at hE
  have hrl : ∀ l l' : List AV, rens (idN c (rgL 0 ts lk)) (nb) gn (l ++ l') = rens (idN c (rgL 0 ts lk)) (nb) gn l ++ rens (idN c (rgL 0 ts lk)) (nb) gn l' := by
    intro l l'
    induction l with
    | nil => rfl
    | cons a l ih => simp only [List.cons_append, rens, ih]
  have hop := rens_re h.gens (idN c (rgL 0 ts lk)) c (nb) gn hL (opE t.K) (okL_map fun p hp => ok_node (okL_three (ok_v _ _) (ok_v _ _) (ok_v _ _)))
  rw [reL_opE] at hop
  have hdv := ren_re h.gens (idN c (rgL 0 ts lk)) c (nb) gn hL (dv t.root) (ok_dv _ _)
  have hdv' : reA c (dv t.root) = dv t.root := rfl
  have hflat : (flatT 0 ts).map (fun e => ((kap (idN c (rgL 0 ts lk)) (nb) gn e.1 e.2.gen).1, renLoc (idN c (rgL 0 ts lk)) (nb) gn e.1 e.2)) = flatT c ts := by
    have hfl : reM c (flatT 0 ts) = flatT c ts := by
      have := rg_re c 0 ts lk
      unfold rgL at this
      simp only [reM, List.map_cons, List.cons.injEq] at this
      exact this.2.2
    rw [← hfl]
    unfold reM
    refine List.map_congr_left fun e he => ?_
    have hin : e ∈ rgL 0 ts lk := List.mem_cons_of_mem _ (List.mem_cons_of_mem _ he)
    have h1 := h.ok e hin
    have h2 := h.gens e hin
    have h4 := hL e.1 (List.mem_map.2 ⟨e, hin, rfl⟩)
    cases hq : e.2 with
    | var g x =>
      rw [hq] at h1 h2
      simp only [Loc.gen] at h2
      subst h2
      simp only [renLoc, reLoc, Loc.gen, kap, if_true, h4, ren_re h.gens (idN c (rgL 0 ts lk)) c _ _ hL x h1]
    | rows g sz xs => rw [hq] at h1; simp [okE] at h1
    | ob g q x =>
      rw [hq] at h1 h2
      simp only [Loc.gen] at h2
      subst h2
      simp only [renLoc, reLoc, Loc.gen, kap, if_true, h4, ren_re h.gens (idN c (rgL 0 ts lk)) c _ _ hL x h1]
  unfold renM
  unfold rgA
  simp only [List.map_cons, hflat]
  simp [renLoc, renA, rens, kap, Loc.gen, e0, e1, hrl, hE, hop, entA, hdv, hdv']
/-- Add's call: a tree comes in. -/
theorem call_add {P : Program} {G : Nat → Option AV} {Q : Exit → SA → Prop} [hq : Resp Q] {f clk i n d : Nat} {vals args : List AV} {r : List COper} {fr : List (Nat × AV)} {X B : List (Nat × Loc)} {c lk : Nat} {ts : List Tr} {t : One} {lg : Log} {dr : Option (List Nat × List (Nat × Nat))} {keepS : List Nat} {k : List Kont}
    {zs : List AV} (hf : Fine ts) (hm : Meets P G f args (rgL 0 ts lk) false (.tup zs) (rgA 0 1 1 1002 1003 ts lk t)) (ha : okL (rgL 0 ts lk) args = true) (hv : vals = reL c args) (hz : closeds zs = true) (hd : d < 1000)
    (hX : ∀ k ∈ names X, k < 1000 ∨ 1001 < k ∧ k < 1000000) (hB : ∀ k ∈ names B, 1001 < k ∧ k < 1000000)
    (hk : ∀ x, goR P G Q clk r (i + 1) (setL fr (some d) (.tup zs)) (X ++ (rgA c (clk + i) (clk + i) (nbOf d + 1002) (nbOf d + 1003) ts lk t ++ B)) (lg ++ [(i, x)]) dr keepS n k) : goV P G Q (some vals) (.call f) (some d) clk r i fr (X ++ (rgL c ts lk ++ B)) lg dr keepS n k := by
  have h := rg_sane hf lk
  have hL : ∀ k ∈ names (rgL 0 ts lk), look (idN c (rgL 0 ts lk)) k = some (some (k, c)) := fun k hk => look_idN c _ k hk
  have hX' : ∀ k ∈ names X, k < 1000 ∨ 1001 < k ∧ k < 2000000000 := fun k hk => (hX k hk).imp id fun h => ⟨h.1, by omega⟩
  have hnb : 1000000 ≤ nbOf d ∧ nbOf d < 11000000 := by unfold nbOf; omega
  have hren := ren_rgA (c := c) (nb := nbOf d) (gn := clk + i) hf lk t
  have hnd2 : (names (rgA c (clk + i) (clk + i) (nbOf d + 1002) (nbOf d + 1003) ts lk t)).Nodup := rgA_nodup hf _ _ lk t (by omega) (low_no (by omega) (by omega)) (low_no (by omega) (by omega))
  have hresR : renA (idN c (rgL 0 ts lk)) (nbOf d) (clk + i) (.tup zs) = .tup zs := by
    simp only [renA]
    rw [rens_cl zs hz]
  have hlook := own_T (c := c) (B := B) (lk := lk) hf hX'
  have hnamed := named_re h c (· = 0) rfl hlook
  refine ⟨idN c (rgL 0 ts lk), args, rgL 0 ts lk, false, .tup zs, _, [], ⟨hm, ?_, fun t ht => ?_, ?_, hnamed, ?_, fun e he hg => ?_⟩, ?_⟩
  · have := (fits_re (m := look (X ++ (rgL c ts lk ++ B))) h.gens c 0 args ha).1
    rw [re0s h.gens args ha] at this
    rw [hv]
    exact this
  · have := (fits_re (m := look (X ++ (rgL c ts lk ++ B))) h.gens c 0 args ha).2
    rw [re0s h.gens args ha] at this
    rw [hv, this] at ht
    exact ht
  · have := stampeds_re h.gens 0 (· = 0) rfl args ha
    rw [re0s h.gens args ha] at this
    exact this
  · show ((renM _ (nbOf d) _ _).map (·.1)).Nodup
    rw [hren]; exact hnd2
  · rcases List.mem_cons.1 he with rfl | he
    · exact ⟨_, hL 1000 (rg_names.2 (.inl rfl))⟩
    rcases List.mem_cons.1 he with rfl | he
    · exact ⟨_, hL 1001 (rg_names.2 (.inr (.inl rfl)))⟩
    rcases List.mem_cons.1 he with rfl | he
    · simp [Loc.gen] at hg
    rcases List.mem_cons.1 he with rfl | he
    · simp [Loc.gen] at hg
    · exact ⟨_, hL _ (List.mem_cons_of_mem _ (List.mem_cons_of_mem _ (List.mem_map.2 ⟨e, he, rfl⟩)))⟩
  · show goR P G Q clk r (i + 1) (setL fr (some d) (renA _ (nbOf d) _ _)) _ _ _ _ _ _
    rw [hresR]
    refine goR_look (m := X ++ (rgA c (clk + i) (clk + i) (nbOf d + 1002) (nbOf d + 1003) ts lk t ++ B)) ?_ (hk _)
    funext k
    rw [look_upsL]
    unfold callUs
    rw [show nbOf ((some d).getD 0) = nbOf d from rfl, hren, ups_append, ups_append, srcs_idN]
    simp only [Bool.false_eq_true, if_false, List.map_nil, ups]
    by_cases hin : k ∈ names (rgA c (clk + i) (clk + i) (nbOf d + 1002) (nbOf d + 1003) ts lk t)
    · have hXn : k ∉ names X := fun hx => by
        have := hX k hx
        rcases List.mem_cons.1 hin with e | hin
        · dsimp only at e; omega
        rcases List.mem_cons.1 hin with e | hin
        · dsimp only at e; omega
        rcases List.mem_cons.1 hin with e | hin
        · dsimp only at e; omega
        rcases List.mem_cons.1 hin with e | hin
        · dsimp only at e; omega
        · obtain ⟨x, _, rfl | rfl⟩ := flat_names.1 hin
          · have := big_le; unfold nE at *; omega
          · have := big_le; unfold nO at *; omega
      rw [look_app, if_neg hXn, look_app, if_pos hin]
      obtain ⟨e, he, rfl⟩ := List.mem_map.1 hin
      rw [look_of_mem hnd2 he, ups_some hnd2 he]
    · rw [ups_other _ _ (by
        simp only [List.map_map]
        exact hin), ups_none]
      rw [look_app, look_app, look_app, look_app, if_neg hin]
      have hsub : k ∈ names (rgL 0 ts lk) → k ∈ names (rgA c (clk + i) (clk + i) (nbOf d + 1002) (nbOf d + 1003) ts lk t) := fun hk => by
        rcases List.mem_cons.1 hk with h | hk
        · exact List.mem_cons.2 (.inl h)
        rcases List.mem_cons.1 hk with h | hk
        · exact List.mem_cons_of_mem _ (List.mem_cons.2 (.inl h))
        · refine List.mem_cons_of_mem _ (List.mem_cons_of_mem _ (List.mem_cons_of_mem _ (List.mem_cons_of_mem _ ?_)))
          show k ∈ names (flatT c ts)
          rw [flat_names0]; exact hk
      have hno : k ∉ names (rgL 0 ts lk) := fun hk => hin (hsub hk)
      rw [if_neg hno, if_neg (c := k ∈ names (rgL c ts lk)) (by rw [names_rg]; exact hno)]
end Go.Proofs.YtphggannefpleaaDoor.WL

end
section
/-
  CHAPTER 06: key, great.
-/
namespace Go.Proofs.YtphggannefpleaaDoor.WL
open Go
set_option maxHeartbeats 8000000
attribute [local irreducible] comp hb sha leafD pairD secD shutD wholeD pubD ofD leavesD nE nO

structure Cl where
  kind : Int
  seed : UInt8
  key : Int
  n : Int
  d : Dg
def Cl.av (c : Cl) : AV := .node [.v (.int .i64 c.kind), bv c.seed, .v (.int .i64 c.key), .v (.int .i64 c.n), dv c.d]
def clsA (l : List Cl) : List AV := l.map Cl.av
theorem clsA_closed : ∀ (l : List Cl), closeds (clsA l) = true
  | [] => rfl
  | c :: l => by
    have := clsA_closed l
    simp only [clsA, List.map_cons, closeds, Bool.and_eq_true] at this ⊢
    exact ⟨by simp [Cl.av, closed, bv], this⟩
theorem clsA_len (l : List Cl) : (clsA l).length = l.length := by simp [clsA]
theorem clsA_get (l : List Cl) (i : Nat) : (clsA l)[i]? = (l[i]?).map Cl.av := by simp [clsA]
def Cl.bad (c : Cl) : Bool := decide (c.kind = 0) && decide (2 < c.n) && decide (c.n ≤ 6)
def greatC (l : List Cl) : Bool := l.any Cl.bad || decide (30 < l.length)
theorem great_meets (l : List Cl) (hl : l.length < 4611686018427387904) : Meets Tryd.prog Gt fn_l06_great [.sl 36 (clsA l)] [] true (.v (.bool (greatC l))) [] := by
  refine meets_of_go mix k_l06_great ⟨by simp, by simp, by simp⟩ ?_
  have hlen := clsA_len l
  have hcl := clsA_closed l
  have hget := clsA_get l
  generalize clsA l = cs at *
  simp [hlen]
  refine go_up l.length (fun i (_ : Unit) => ∀ j, j < i → ∀ c, l[j]? = some c → c.bad = false) (fun i _ c => ⟨[(0, .sl 36 cs), (5, .sl 36 cs), (6, .v (.int .i64 (l.length : Nat))), (7, .v (.int .i64 (i : Nat)))], [], c + 1⟩) () _ (Weak.re (by simp [hcl])) (fun j hj => by omega) ?_ ?_
  · intro i _ c hi hinv
    obtain ⟨x, hx⟩ : ∃ x, l[i]? = some x := ⟨l[i], List.getElem?_eq_getElem hi⟩
    have hg := hget i
    rw [hx, Option.map_some] at hg
    have hw : IntKind.i64.wrap ((i : Int) + 1) = ((i + 1 : Nat) : Int) := w64_succ (by omega)
    have hii : (i : Int) < (l.length : Nat) := by omega
    have hnx : x.bad = false → ∀ j, j < i + 1 → ∀ c, l[j]? = some c → c.bad = false := fun hb j hj c hc => by
      by_cases e : j = i
      · subst e; rw [hx] at hc; obtain rfl := Option.some.inj hc; exact hb
      · exact hinv j (by omega) c hc
    by_cases k1 : x.kind = 0
    · by_cases k2 : 2 < x.n
      · by_cases k3 : x.n ≤ 6
        · have : greatC l = true := by
            unfold greatC
            rw [Bool.or_eq_true, List.any_eq_true]
            exact .inl ⟨x, List.mem_of_getElem? hx, by simp [Cl.bad, k1, k2, k3]⟩
          rw [this]
          simp [hi, hii, hg, Cl.av, k1, k2, k3]
          refine post_end (.inr rfl) ?_
          simp
        · simp [hi, hii, hg, Cl.av, k1, k2, k3, hw]
          exact ⟨(), _, Weak.re (by simp [hcl]), hnx (by simp [Cl.bad, k3])⟩
      · simp [hi, hii, hg, Cl.av, k1, k2, hw]
        exact ⟨(), _, Weak.re (by simp [hcl]), hnx (by simp [Cl.bad, k2])⟩
    · simp [hi, hii, hg, Cl.av, k1, hw]
      exact ⟨(), _, Weak.re (by simp [hcl]), hnx (by simp [Cl.bad, k1])⟩
  · intro _ c hinv
    have hno : l.any Cl.bad = false := by
      rw [Bool.eq_false_iff]
      intro h
      rw [List.any_eq_true] at h
      obtain ⟨x, hx, hb⟩ := h
      obtain ⟨j, hj, e⟩ := List.getElem_of_mem hx
      rw [hinv j hj x (by rw [List.getElem?_eq_getElem hj, e])] at hb
      cases hb
    have : greatC l = decide (30 < l.length) := by unfold greatC; rw [hno, Bool.false_or]
    rw [this]
    simp [hlen]
    refine post_end (.inr rfl) ?_
    simp
    omega

def keysL (L : List (Dg × Nat)) : List AV := L.map fun k => keyA k.1 k.2
theorem keysL_closed : ∀ (L : List (Dg × Nat)), closeds (keysL L) = true
  | [] => rfl
  | c :: l => by
    have := keysL_closed l
    simp only [keysL, List.map_cons, closeds, Bool.and_eq_true] at this ⊢
    exact ⟨by simp, this⟩
theorem keysL_len (L : List (Dg × Nat)) : (keysL L).length = L.length := by simp [keysL]
theorem keysL_get (L : List (Dg × Nat)) (i : Nat) : (keysL L)[i]? = (L[i]?).map fun k => keyA k.1 k.2 := by simp [keysL]
def keyOf (L : List (Dg × Nat)) (n : Int) : Dg × Nat := if n < 0 then (Dg.zero, 0) else (L[n.toNat]?).getD (Dg.zero, 0)
theorem key_meets (L : List (Dg × Nat)) (n : Int) : Meets Tryd.prog Gt fn_l06_key [.sl 33 (keysL L), .v (.int .i64 n)] [] true (keyA (keyOf L n).1 (keyOf L n).2) [] := by
  refine meets_of_go mix k_l06_key ⟨by simp, by simp [keyA], by simp⟩ ?_
  have hlen := keysL_len L
  have hcl := keysL_closed L
  have hget := keysL_get L
  generalize keysL L = cs at *
  unfold keyOf
  by_cases k1 : n < 0
  · simp [k1, keyA]
    refine post_end (.inr rfl) ?_
    simp
  · by_cases k2 : (L.length : Int) ≤ n
    · have : L[n.toNat]? = none := List.getElem?_eq_none (by omega)
      simp [k1, k2, hlen, keyA, this]
      refine post_end (.inr rfl) ?_
      simp
    · obtain ⟨m, rfl⟩ : ∃ m : Nat, n = m := ⟨n.toNat, by omega⟩
      have hm : m < L.length := by omega
      obtain ⟨x, hx⟩ : ∃ x, L[m]? = some x := ⟨L[m], List.getElem?_eq_getElem hm⟩
      have hg := hget m
      rw [hx, Option.map_some] at hg
      have k2' : ¬ L.length ≤ m := by omega
      unfold keyA at hg
      simp [k1, k2, hlen, keyA, hx, hg]
      refine post_end (.inr rfl) ?_
      simp
end Go.Proofs.YtphggannefpleaaDoor.WL

end
