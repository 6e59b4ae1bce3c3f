/- Texts put together: L06c, S06f, S06g, S06h, L06a. -/
import Derived.Test.YtphggannefpleaaDoorWm11
import Derived.RangeFuncBox
import Derived.RangeFuncLeaves
import Derived.RangeFuncCalls
import Derived.Shelf.Abstract
import Derived.WalkKit
import Derived.OwnWalkIn
import Derived.TacticsInMore
import Derived.LoopNIn
import Derived.LoopIn
import Derived.Maps.AppendAt
import Derived.RegionIn
import Derived.Deep.WholeRow
import Derived.RangeFuncNested
section
/-
  CHAPTER 06: the plain law behind RingOnce.
-/
namespace Go.Proofs.YtphggannefpleaaDoor.WL
open Go
attribute [local irreducible] comp hb sha leafD pairD secD shutD wholeD pubD ofD leavesD nE nO

/-- A tree as the law's calls make it. -/
structure Good (x : Tr) : Prop where
  h : x.t.h ≤ 2
  ls : x.t.ls = leavesD x.t.seed 32 (2 ^ x.t.h)
  root : x.t.root = rootD x.t.ls
  nx : x.t.nx ≤ 2 ^ x.t.h
  low : ∀ p ∈ x.t.K, 0 ≤ p.1 ∧ p.1 < (x.t.nx : Int)
  ok : OpOk x.t.K x.t.ck
  ck : x.t.ck ≤ x.t.nx
/-- What was used is used up. -/
structure Inv (ts : List Tr) (lk : Nat) (L : List (Dg × Nat)) (U : Nat → List Int) (i : Nat) : Prop where
  fine : Fine ts
  ids : ∀ x ∈ ts, x.id < lk
  lk : lk ≤ i
  len : L.length ≤ i
  good : ∀ x ∈ ts, Good x
  seen : ∀ j k, L[j]? = some k → ∀ n ∈ U j, ∀ x ∈ ts, x.key = k → n < (x.t.nx : Int) ∧ ∀ p ∈ x.t.K, p.1 ≠ n
  gone : ∀ j k, L[j]? = some k → (∀ x ∈ ts, x.key ≠ k) → U j = []
  out : ∀ j, L.length ≤ j → U j = []
  big : ∀ j, (U j).length ≤ i
theorem inv_zero : Inv [] 0 [] (fun _ => []) 0 := ⟨⟨List.nodup_nil, List.nodup_nil⟩, (fun x hx => by cases hx), Nat.le_refl _, Nat.le_refl _, (fun x hx => by cases hx), (fun j k h => by cases h), (fun j k h => by cases h), (fun _ _ => rfl), fun _ => Nat.le_refl _⟩
theorem Inv.succ {ts : List Tr} {lk : Nat} {L : List (Dg × Nat)} {U : Nat → List Int} {i : Nat} (h : Inv ts lk L U i) : Inv ts lk L U (i + 1) := ⟨h.fine, h.ids, Nat.le_succ_of_le h.lk, Nat.le_succ_of_le h.len, h.good, h.seen, h.gone, h.out, fun j => Nat.le_succ_of_le (h.big j)⟩
theorem key_id {ts : List Tr} (hf : Fine ts) {x y : Tr} (hx : x ∈ ts) (hy : y ∈ ts) (h : x.key = y.key) : x = y := by
  obtain ⟨i, hi, ei⟩ := List.getElem_of_mem hx
  obtain ⟨j, hj, ej⟩ := List.getElem_of_mem hy
  have hkn := hf.keys
  unfold List.Nodup at hkn
  rw [List.pairwise_map, List.pairwise_iff_getElem] at hkn
  rcases Nat.lt_trichotomy i j with h1 | h1 | h1
  · exact absurd (by rw [ei, ej, h]) (hkn i j hi hj h1)
  · subst h1; rw [← ei, ← ej]
  · exact absurd (by rw [ei, ej, h]) (hkn j i hj hi h1)
/-- A tree is turned. -/
theorem inv_up {ts : List Tr} {lk : Nat} {L : List (Dg × Nat)} {U : Nat → List Int} {i : Nat} (h : Inv ts lk L U i) {x : Tr} (hx : x ∈ ts) {t : One} (hk : t.root = x.t.root ∧ t.h = x.t.h) (hg : Good ⟨x.id, t⟩) (hnx : x.t.nx ≤ t.nx)
    (hK : ∀ n : Int, n < (x.t.nx : Int) → (∀ p ∈ x.t.K, p.1 ≠ n) → ∀ p ∈ t.K, p.1 ≠ n) {U' : Nat → List Int}
    (hU : ∀ j n, n ∈ U' j → n ∈ U j ∨ (L[j]? = some x.key ∧ n < (t.nx : Int) ∧ ∀ p ∈ t.K, p.1 ≠ n)) (hU2 : ∀ j, L[j]? ≠ some x.key → U' j = U j) (hU3 : ∀ j, (U' j).length ≤ i + 1) : Inv (upT ts x.id t) lk L U' (i + 1) := by
  have hmem := fun y => @upT_mem ts h.fine.ids x hx t y
  have hkey : (⟨x.id, t⟩ : Tr).key = x.key := Prod.ext hk.1 hk.2
  refine ⟨upT_fine h.fine hx hk, fun y hy => ?_, Nat.le_succ_of_le h.lk, Nat.le_succ_of_le h.len, fun y hy => ?_, fun j k hj n hn y hy e => ?_, fun j k hj hno => ?_, fun j hj => ?_, hU3⟩
  · rcases (hmem y).1 hy with rfl | ⟨hy, _⟩
    · exact h.ids x hx
    · exact h.ids y hy
  · rcases (hmem y).1 hy with rfl | ⟨hy, _⟩
    · exact hg
    · exact h.good y hy
  · rcases (hmem y).1 hy with rfl | ⟨hy, hne⟩
    · rw [hkey] at e
      subst e
      rcases hU j n hn with h1 | ⟨_, h2, h3⟩
      · obtain ⟨k1, k2⟩ := h.seen j _ hj n h1 x hx rfl
        exact ⟨by show n < (t.nx : Int); omega, hK n k1 k2⟩
      · exact ⟨h2, h3⟩
    · rcases hU j n hn with h1 | ⟨h1, _⟩
      · exact h.seen j k hj n h1 y hy e
      · rw [hj] at h1
        have hk2 : k = x.key := Option.some.inj h1
        exact absurd (congrArg Tr.id (key_id h.fine hy hx (e.trans hk2))) hne
  · have hne : x.key ≠ k := fun e => hno ⟨x.id, t⟩ ((hmem _).2 (.inl rfl)) (hkey.trans e)
    rw [hU2 j (by rw [hj]; exact fun e => hne (Option.some.inj e).symm)]
    refine h.gone j k hj fun y hy e => ?_
    by_cases hid : y.id = x.id
    · have : y = x := by
        obtain ⟨a, ha, ea⟩ := List.getElem_of_mem hy
        obtain ⟨b, hb, eb⟩ := List.getElem_of_mem hx
        have hkn := h.fine.ids
        unfold List.Nodup at hkn
        rw [List.pairwise_map, List.pairwise_iff_getElem] at hkn
        rcases Nat.lt_trichotomy a b with h1 | h1 | h1
        · exact absurd (by rw [ea, eb, hid]) (hkn a b ha hb h1)
        · subst h1; rw [← ea, ← eb]
        · exact absurd (by rw [ea, eb, hid]) (hkn b a hb ha h1)
      exact hne (this ▸ e)
    · exact hno y ((hmem _).2 (.inr ⟨hy, hid⟩)) e
  · rw [hU2 j (by rw [List.getElem?_eq_none hj]; exact fun e => by cases e)]
    exact h.out j hj
/-- A number is taken. -/
theorem inv_take {ts : List Tr} {lk : Nat} {L : List (Dg × Nat)} {U : Nat → List Int} {i : Nat} (h : Inv ts lk L U i) {x : Tr} (hx : x ∈ ts) (hn : x.t.nx < 2 ^ x.t.h) : Inv (upT ts x.id (takeT x.t)) lk L U (i + 1) := by
  have g := h.good x hx
  have hne : ∀ p ∈ x.t.K, p.1 ≠ (x.t.nx : Int) := fun p hp e => by have := (g.low p hp).2; omega
  refine inv_up (t := takeT x.t) h hx ⟨rfl, rfl⟩ ⟨g.h, g.ls, g.root, hn, fun p hp => ?_, ⟨fun p hp => ?_, ?_, ?_⟩, Nat.succ_le_succ g.ck⟩ (Nat.le_succ _) (fun n h1 h2 p hp => ?_) (fun j n hn => .inl hn) (fun _ _ => rfl) (fun j => Nat.le_succ_of_le (h.big j))
  · simp only [takeT, List.mem_append, List.mem_singleton] at hp ⊢
    rcases hp with hp | rfl
    · have := g.low p hp; omega
    · dsimp only; omega
  · simp only [takeT, List.mem_append, List.mem_singleton] at hp ⊢
    rcases hp with hp | rfl
    · have := g.ok.old p hp; omega
    · dsimp only; omega
  · simp only [takeT, List.map_append, List.map_cons, List.map_nil]
    rw [List.nodup_append]
    refine ⟨g.ok.nd, List.nodup_cons.2 ⟨by simp, List.nodup_nil⟩, fun a ha b hb => ?_⟩
    obtain ⟨p, hp, rfl⟩ := List.mem_map.1 ha
    have := g.ok.old p hp
    obtain rfl := List.mem_singleton.1 hb
    omega
  · simp only [takeT, List.map_append, List.map_cons, List.map_nil]
    rw [List.nodup_append]
    refine ⟨g.ok.keys, List.nodup_cons.2 ⟨by simp, List.nodup_nil⟩, fun a ha b hb => ?_⟩
    obtain ⟨p, hp, rfl⟩ := List.mem_map.1 ha
    obtain rfl := List.mem_singleton.1 hb
    exact hne p hp
  · simp only [takeT, List.mem_append, List.mem_singleton] at hp
    rcases hp with hp | rfl
    · exact h2 p hp
    · dsimp only; omega
/-- Numbers are skipped. -/
theorem inv_skip {ts : List Tr} {lk : Nat} {L : List (Dg × Nat)} {U : Nat → List Int} {i : Nat} (h : Inv ts lk L U i) {x : Tr} (hx : x ∈ ts) (n : Int) : Inv (upT ts x.id (skipT x.t n)) lk L U (i + 1) := by
  have g := h.good x hx
  have hN := skipN_nat x.t n
  have hle : (x.t.nx : Int) ≤ skipN x.t n ∧ skipN x.t n ≤ ((2 ^ x.t.h : Nat) : Int) := by
    have := g.nx
    unfold skipN
    split
    · split <;> omega
    · omega
  have h1 : x.t.nx ≤ (skipT x.t n).nx := by show x.t.nx ≤ (skipN x.t n).toNat; omega
  refine inv_up (t := skipT x.t n) h hx ⟨rfl, rfl⟩ ⟨g.h, g.ls, g.root, by show (skipN x.t n).toNat ≤ 2 ^ x.t.h; omega, fun p hp => ?_, g.ok.filter _, Nat.le_trans g.ck h1⟩ h1 (fun m k1 k2 p hp => k2 p (List.mem_filter.1 hp).1) (fun j n hn => .inl hn) (fun _ _ => rfl) (fun j => Nat.le_succ_of_le (h.big j))
  have := g.low p (List.mem_filter.1 hp).1
  show 0 ≤ p.1 ∧ p.1 < ((skipT x.t n).nx : Int)
  omega
/-- The rows behind a signature. -/
def addU (U : Nat → List Int) (L : List (Dg × Nat)) (k : Dg × Nat) (n : Int) (j : Nat) : Nat → List Int := fun m => if m < j ∧ L[m]? = some k then U m ++ [n] else U m
theorem inv_sign {ts : List Tr} {lk : Nat} {L : List (Dg × Nat)} {U : Nat → List Int} {i : Nat} (h : Inv ts lk L U i) {x : Tr} (hx : x ∈ ts) (n : Nat) (hn : ∃ p ∈ x.t.K, p.1 = (n : Int)) : Inv (upT ts x.id (signT x.t n)) lk L (addU U L x.key n L.length) (i + 1) := by
  have g := h.good x hx
  have hnx : (n : Int) < (x.t.nx : Int) := by obtain ⟨p, hp, e⟩ := hn; have := (g.low p hp).2; omega
  have hgone : ∀ p ∈ (signT x.t n).K, p.1 ≠ (n : Int) := fun p hp => by
    have := (List.mem_filter.1 hp).2
    simpa using this
  refine inv_up (t := signT x.t n) h hx ⟨rfl, rfl⟩ ⟨g.h, g.ls, g.root, g.nx, fun p hp => g.low p (List.mem_filter.1 hp).1, g.ok.filter _, g.ck⟩ (Nat.le_refl _) (fun m k1 k2 p hp => k2 p (List.mem_filter.1 hp).1) (fun j m hm => ?_) (fun j hj => ?_) (fun j => ?_)
  · unfold addU at hm
    split at hm
    · rename_i hc
      rcases List.mem_append.1 hm with hm | hm
      · exact .inl hm
      · obtain rfl := List.mem_singleton.1 hm
        exact .inr ⟨hc.2, hnx, hgone⟩
    · exact .inl hm
  · unfold addU
    rw [if_neg fun hc => hj hc.2]
  · have := h.big j
    unfold addU
    split
    · rw [List.length_append]; exact Nat.succ_le_succ this
    · omega
/-- The rows behind a retirement. -/
def clrU (U : Nat → List Int) (L : List (Dg × Nat)) (k : Dg × Nat) (j : Nat) : Nat → List Int := fun m => if m < j ∧ L[m]? = some k then [] else U m
theorem goT_mem {ts : List Tr} {i : Nat} {y : Tr} : y ∈ goT ts i ↔ y ∈ ts ∧ y.id ≠ i := by simp [goT]
theorem inv_go {ts : List Tr} {lk : Nat} {L : List (Dg × Nat)} {U : Nat → List Int} {i : Nat} (h : Inv ts lk L U i) {x : Tr} (hx : x ∈ ts) : Inv (goT ts x.id) lk L (clrU U L x.key L.length) (i + 1) := by
  refine ⟨goT_fine h.fine _, fun y hy => h.ids y (goT_mem.1 hy).1, Nat.le_succ_of_le h.lk, Nat.le_succ_of_le h.len, fun y hy => h.good y (goT_mem.1 hy).1, fun j k hj n hn y hy e => ?_, fun j k hj hno => ?_, fun j hj => ?_, fun j => ?_⟩
  · unfold clrU at hn
    split at hn
    · cases hn
    · exact h.seen j k hj n hn y (goT_mem.1 hy).1 e
  · unfold clrU
    split
    · rfl
    · rename_i hc
      have hlt : j < L.length := (List.getElem?_eq_some_iff.1 hj).1
      refine h.gone j k hj fun y hy e => ?_
      by_cases hid : y.id = x.id
      · have hyx : y = x := by
          obtain ⟨a, ha, ea⟩ := List.getElem_of_mem hy
          obtain ⟨b, hb, eb⟩ := List.getElem_of_mem hx
          have hkn := h.fine.ids
          unfold List.Nodup at hkn
          rw [List.pairwise_map, List.pairwise_iff_getElem] at hkn
          rcases Nat.lt_trichotomy a b with h1 | h1 | h1
          · exact absurd (by rw [ea, eb, hid]) (hkn a b ha hb h1)
          · subst h1; rw [← ea, ← eb]
          · exact absurd (by rw [ea, eb, hid]) (hkn b a hb ha h1)
        subst hyx
        exact hc ⟨hlt, by rw [hj, e]⟩
      · exact hno y (goT_mem.2 ⟨hy, hid⟩) e
  · unfold clrU
    split
    · rfl
    · exact h.out j hj
  · have := h.big j
    unfold clrU
    split
    · exact Nat.zero_le _
    · omega
/-- A tree comes in. -/
theorem inv_add {ts : List Tr} {lk : Nat} {L : List (Dg × Nat)} {U : Nat → List Int} {i : Nat} (h : Inv ts lk L U i) (seed : Dg) (g : Nat) (hg : g ≤ 2) (hn : ∀ x ∈ ts, x.key ≠ ((oneN seed g).root, g)) :
    Inv (ts ++ [⟨lk, oneN seed g⟩]) (lk + 1) (L ++ [((oneN seed g).root, g)]) U (i + 1) := by
  have hmem : ∀ y, y ∈ ts ++ [⟨lk, oneN seed g⟩] ↔ y ∈ ts ∨ y = ⟨lk, oneN seed g⟩ := fun y => by simp
  have hget : ∀ j k, (L ++ [((oneN seed g).root, g)])[j]? = some k → L[j]? = some k ∨ (j = L.length ∧ k = ((oneN seed g).root, g)) := fun j k hj => by
    by_cases hlt : j < L.length
    · left; rwa [List.getElem?_append_left hlt] at hj
    · right
      rw [List.getElem?_append_right (by omega)] at hj
      have : j - L.length = 0 := by
        obtain ⟨h1, _⟩ := List.getElem?_eq_some_iff.1 hj
        simp at h1
        omega
      rw [this] at hj
      exact ⟨by omega, (Option.some.inj hj).symm⟩
  refine ⟨⟨?_, ?_⟩, fun y hy => ?_, Nat.succ_le_succ h.lk, ?_, fun y hy => ?_, fun j k hj n hn' y hy e => ?_, fun j k hj hno => ?_, fun j hj => ?_, fun j => Nat.le_succ_of_le (h.big j)⟩
  · rw [List.map_append, List.nodup_append]
    refine ⟨h.fine.ids, List.nodup_cons.2 ⟨by simp, List.nodup_nil⟩, fun a ha b hb => ?_⟩
    obtain ⟨y, hy, rfl⟩ := List.mem_map.1 ha
    have := h.ids y hy
    simp only [List.map_cons, List.map_nil, List.mem_singleton] at hb
    omega
  · rw [List.map_append, List.nodup_append]
    refine ⟨h.fine.keys, List.nodup_cons.2 ⟨by simp, List.nodup_nil⟩, fun a ha b hb => ?_⟩
    obtain ⟨y, hy, rfl⟩ := List.mem_map.1 ha
    simp only [List.map_cons, List.map_nil, List.mem_singleton] at hb
    subst hb
    exact hn y hy
  · rcases (hmem y).1 hy with hy | rfl
    · exact Nat.lt_succ_of_lt (h.ids y hy)
    · exact Nat.lt_succ_self _
  · rw [List.length_append]
    exact Nat.succ_le_succ h.len
  · rcases (hmem y).1 hy with hy | rfl
    · exact h.good y hy
    · exact ⟨hg, rfl, rfl, Nat.zero_le _, (fun p hp => by cases hp), ⟨(fun p hp => by cases hp), List.nodup_nil, List.nodup_nil⟩, Nat.le_refl _⟩
  · rcases hget j k hj with hj | ⟨rfl, rfl⟩
    · rcases (hmem y).1 hy with hy | rfl
      · exact h.seen j k hj n hn' y hy e
      · have : U j = [] := h.gone j k hj fun x hx ex => hn x hx (ex.trans e.symm)
        rw [this] at hn'
        cases hn'
    · rw [h.out _ (Nat.le_refl _)] at hn'
      cases hn'
  · rcases hget j k hj with hj | ⟨rfl, rfl⟩
    · exact h.gone j k hj fun x hx => hno x ((hmem x).2 (.inl hx))
    · exact h.out _ (Nat.le_refl _)
  · rw [List.length_append] at hj
    exact h.out j (by simp at hj; omega)
end Go.Proofs.YtphggannefpleaaDoor.WL

end
section
/-
  CHAPTER 06: maps.Keys over a map with at most one entry, raw.
-/
namespace Go.Proofs.YtphggannefpleaaDoor.WL
open Go Go.Proofs Go.RowKit Go.Shelf
attribute [local go_sem] Oper.semAt_some

theorem lt_heap {w : World} {b : Nat} {o : Obj} (h : w.heap[b]? = some o) : b < w.heap.size := by
  rcases Nat.lt_or_ge b w.heap.size with k | k
  · exact k
  · rw [Array.getElem?_eq_none k] at h; cases h
theorem keySize : (Tryd.prog.info? 34).map (·.size) = some 33 := by kernel_rfl
section
variable {F : Fence} {n : Nat} {P : Program} {w : World} {ops : Array Oper} {rest : List Oper} {o : Oper} {a : Act} {Q : Exit → Act → World → Prop}
theorem wpListIn_store_new (hg : o.guard = none) (t : TypeId) (p x : Operand) (hop : o.op = Op.store t p x) (w1 : World) (c cs : Array Value) (hw : w = w1.alloc (.cells c t)) (hi : (P.info? t).map (·.size) = some cs.size) (ho : c.size = cs.size) (h1 : cs.all (·.oneCell') = true)
    (hp : a.eval p = .pointer (some ⟨w1.heap.size, 0, none⟩)) (hx : a.eval x = .agg cs) (hK : wpListIn F n P ops Q rest (a.put o.dst undef) (w1.alloc (.cells cs t))) : wpListIn F n P ops Q (o :: rest) a w := by
  refine wpListIn_plain hg fun K' hK' => ?_
  subst hw
  have hrun := run_storeAt_new (P := P) w1 t c cs hi ho h1
  unfold Oper.wpIn
  refine ⟨by simp [Oper.about, hop], ?_⟩
  rw [Oper.semAt_plain F _ _ (by rw [hop]; intro c hc'; cases hc')]
  simp only [execOp, hop, hp, hx, Sem.run_bind, hrun, Result.andThen]
  exact hK' _ _ hK
theorem wpListIn_load_new (hg : o.guard = none) (t : TypeId) (p : Operand) (hop : o.op = Op.load t p) (w1 : World) (cs : Array Value) (hw : w = w1.alloc (.cells cs t)) (ha : (isAgg t).run P w = .ok true w) (hi : (P.info? t).map (·.size) = some cs.size)
    (hp : a.eval p = .pointer (some ⟨w1.heap.size, 0, none⟩)) (hK : wpListIn F n P ops Q rest (a.put o.dst (.agg cs)) (w1.alloc (.cells cs t))) : wpListIn F n P ops Q (o :: rest) a w := by
  refine wpListIn_plain hg fun K' hK' => ?_
  subst hw
  have hrun : (Instr.loadAt t (.pointer (some ⟨w1.heap.size, 0, none⟩))).run P (w1.alloc (.cells cs t)) = .ok (.agg cs) (w1.alloc (.cells cs t)) := by
    simp only [Instr.loadAt, Instr.sureAddr, Sem.run_bind, Sem.run_pure, Result.andThen]
    cases hq : P.info? t with
    | none => simp [hq] at hi
    | some i =>
      have hs : i.size = cs.size := by simp [hq] at hi; omega
      have hl := run_loadCellsFrom_new (P := P) w1 t cs cs.size rfl
      simp [loadVar, ha, Result.andThen, sizeOf, typeInfo, hq, loadCells, hs, hl]
  unfold Oper.wpIn
  refine ⟨by simp [Oper.about, hop], ?_⟩
  rw [Oper.semAt_plain F _ _ (by rw [hop]; intro c hc'; cases hc')]
  simp only [execOp, hop, hp, Sem.run_bind, hrun, Result.andThen]
  exact hK' _ _ hK
end
theorem keyAgg (w : World) : (isAgg 34).run Tryd.prog w = .ok true w := run_tagg (by kernel_rfl) w

set_option maxRecDepth 100000 in
set_option maxHeartbeats 2000000 in
/-- The iterator over a map's keys, all of which are one. -/
theorem keys1_in (n : Nat) (hn : 1 ≤ n) (l Bm b : Nat) (es : Array MapEntry) (clock : Nat) (hB : Borns es clock) (cs : Array Value) (hcs : cs.size = 33) (h1 : cs.all (·.oneCell') = true) (hkv : ∀ x ∈ es.toList, x.key = .agg cs) (J Jx : List Unit → World → Prop)
    (hY : ∀ pre (x : Unit) W, J pre W → pre.length < es.size → YieldAt Fence.wide (n - 1) Tryd.prog l #[.agg cs] W fun e W' =>
      (e = .returned (.bool true) ∧ J (pre ++ [x]) W' ∧ KeepsWalks W W') ∨ (e = .returned (.bool false) ∧ Jx (pre ++ [x]) W'))
    (W : World) (hJ : AbidesFrom W.heap.size J) (hm : W.cell? ⟨Bm, 0, none⟩ = some (.map (some b))) (hb : W.heap[b]? = some (.map es clock)) (h0 : J [] W) :
    CallsIn Fence.wide n Tryd.prog 57 #[.func (.yield l) #[] #[], .pointer (some ⟨Bm, 0, none⟩)] W fun e W' => (∃ v, e = .returned v) ∧
      ((∃ ys : List Unit, ys.length = es.size ∧ J ys W') ∨ (∃ pre : List Unit, True ∧ Jx pre W')) := by
  refine callsIn_of_wp Tryd.func57 rfl trivial ?_ rfl
  simp only [Tryd.ntmps57, List.size_toArray, List.length_cons, List.length_nil, Nat.reduceAdd, Nat.reduceSub, Array.replicate_succ, Array.replicate_zero, List.push_toArray, List.append_toArray, List.nil_append, List.cons_append]
  gi_wp2_with (first
    | (gi_at_range; refine wpListIn_range_raw _ rfl _ _ rfl _ _ Tryd.underlying63 b es clock rfl hb ?_; intro w0 hrg0 hg0 hs0)
    | gi_in)
  go_frame
  gi_loopw [6] (fun _ wr => ∃ vis, WalkAt wr b W.heap.size es clock vis ∧ J (List.replicate vis.length ()) wr)
    (fun _ wr => es.size - seenLen wr W.heap.size)
  case atStart =>
    exact ⟨[], hrg0, hJ [] W w0 none h0 hg0 (fun r e => by cases e)⟩
  case round =>
    obtain ⟨vis, hrg, hJs⟩ := hrel
    gi_wp2_with (first
      | (gi_at_next; refine wpListIn_next_raw _ rfl _ rfl b W.heap.size es clock vis hB rfl hrg ?_ ?_)
      | gi_in)
    · intro hperm
      gi_wp2
      go_end0
      exact ⟨⟨_, rfl⟩, .inl ⟨_, by simpa using hperm.length_eq, hJs⟩⟩
    · intro x w2 hx0 hrg2 hg2 hs2 hen
      have hx : x ∈ es.toList := by simpa using hx0
      have hJ2 : J (List.replicate vis.length ()) w2 := hJ _ wr w2 (some W.heap.size) hJs hg2 (fun r e => by cases e; exact ⟨Nat.le_refl _, _, hrg.it, rfl⟩)
      have hlt : vis.length < es.size := by
        have := hrg2.len
        simp at this
        omega
      obtain ⟨w3, hw3⟩ : ∃ w3, w2.alloc (.cells cs 34) = w3 := ⟨_, rfl⟩
      have hg3 : w2.grownBy w3 none := by rw [← hw3]; exact World.grownBy_alloc w2 _ none
      have hJ3 : J (List.replicate vis.length ()) w3 := hJ _ w2 w3 none hJ2 hg3 (fun r e => by cases e)
      obtain ⟨fn, tmps, assign, body, hy, hR⟩ := hY (List.replicate vis.length ()) () w3 hJ3 (by simpa using hlt)
      have hrg3 : WalkAt w3 b W.heap.size es clock (vis ++ [x]) := by
        rw [← hw3]
        exact ⟨((MapKept.heap_alloc w2 _).2 b (lt_heap hrg2.map)).trans hrg2.map, ((MapKept.heap_alloc w2 _).2 _ hrg2.lt).trans hrg2.it, hrg2.nd, hrg2.mem⟩
      rw [hkv x hx] at hen
      subst hw3
      clear hs2
      gi_wp2_with (first
        | (refine wpListIn_store_new rfl 34 _ _ rfl w2 _ cs rfl (by rw [hcs]; exact keySize) (by rw [hcs]; rfl) h1 rfl rfl ?_)
        | (refine wpListIn_load_new rfl 34 _ rfl w2 cs rfl (keyAgg _) (by rw [hcs]; exact keySize) rfl ?_)
        | gi_in)
      refine hR.mono ?_
      rintro e W3 (⟨rfl, hJ4, hk3⟩ | ⟨rfl, hJx3⟩)
      · gi_wp2
        have hrg4 := hrg3.of_walks hk3
        go_roundw
        case rel => exact ⟨vis ++ [x], hrg4, by
          have e : List.replicate vis.length () ++ [()] = List.replicate (vis ++ [x]).length () := by rw [List.length_append, List.length_singleton, List.replicate_succ']
          rw [← e]; exact hJ4⟩
        case measure =>
          rw [hrg4.seenLen, hrg.seenLen]
          simp
          omega
      · gi_wp2
        refine bodyPost_ret (results_none rfl _ _ _) rfl ?_
        exact ⟨⟨_, rfl⟩, .inr ⟨_, trivial, hJx3⟩⟩

theorem keys_stops (n : Nat) (hn : 1 ≤ n) (Bm b : Nat) (es : Array MapEntry) (clock : Nat) (hB : Borns es clock) (cs : Array Value) (hcs : cs.size = 33) (h1 : cs.all (·.oneCell') = true) (hkv : ∀ x ∈ es.toList, x.key = .agg cs) (w : World) (hBm : Bm < w.heap.size) (hbl : b < w.heap.size)
    (hm : w.cell? ⟨Bm, 0, none⟩ = some (.map (some b))) (hb : w.heap[b]? = some (.map es clock)) :
    SeqStopsK Fence.wide n Tryd.prog 57 #[.pointer (some ⟨Bm, 0, none⟩)] (fun _ : Unit => #[.agg cs]) KeepsWalks (fun ys => ys.length = es.size) (fun _ => True) es.size w :=
  fun l J Jx W hW hJ _ hY h0 => keys1_in n hn l Bm b es clock hB cs hcs h1 hkv J Jx hY W hJ ((hW.cell (p := ⟨Bm, 0, none⟩) hBm).trans hm) ((hW.block b hbl).trans hb) h0

set_option maxHeartbeats 2000000 in
/-- maps.Keys: the map is boxed; the function value holds the box. -/
theorem keysF_in (n : Nat) (mb : Option Nat) (w : World) :
    CallsIn Fence.wide n Tryd.prog 37 #[.map mb] w fun e w' => e = .returned (.func (.func 57) #[] #[.pointer (some ⟨w.heap.size, 0, none⟩)]) ∧ w' = w.alloc (.cells #[.map mb] 63) := by
  refine callsIn_of_wp Tryd.func37 rfl trivial ?_ rfl
  simp only [Tryd.ntmps37, List.size_toArray, List.length_cons, List.length_nil, Nat.reduceAdd, Nat.reduceSub, Array.replicate_succ, Array.replicate_zero, List.push_toArray, List.append_toArray, List.nil_append, List.cons_append]
  gi_wp2
  go_ret
  exact ⟨rfl, rfl⟩
end Go.Proofs.YtphggannefpleaaDoor.WL

end
section
/-
  CHAPTER 06: slices.SortFunc over at most one element, raw.
-/
namespace Go.Proofs.YtphggannefpleaaDoor.WL
open Go Go.Proofs Go.RowKit
set_option maxRecDepth 100000
set_option maxHeartbeats 4000000

theorem len64_calls (n : Nat) (hn : n ≤ 1) (W : World) : Calls Tryd.prog 81 #[.int .u64 n] W fun e w' => (∃ l : Int, e = .returned (.int .i64 l)) ∧ w' = W := by
  have mixed := mix
  rcases (show n = 0 ∨ n = 1 by omega) with rfl | rfl
  · go_enter Tryd.func81, Tryd.ntmps81
    go_wp2
    go_ret
    exact ⟨⟨_, rfl⟩, rfl⟩
  · go_enter Tryd.func81, Tryd.ntmps81
    go_wp2
    go_ret
    exact ⟨⟨_, rfl⟩, rfl⟩
theorem len_calls (n : Nat) (hn : n ≤ 1) (W : World) : Calls Tryd.prog 59 #[.int .u64 n] W fun e w' => (∃ l : Int, e = .returned (.int .i64 l)) ∧ w' = W := by
  have mixed := mix
  have h1 := len64_calls n hn W
  go_enter Tryd.func59, Tryd.ntmps59
  go_wp2_with (first | (go_at_call 81; refine h1.mono ?_; rintro e w' ⟨⟨l, rfl⟩, rfl⟩))
  go_ret
  exact ⟨⟨_, rfl⟩, rfl⟩
theorem insK_calls (ao : Option Addr) (n cap : Nat) (hn : n ≤ 1) (fv : Value) (W : World) : Calls Tryd.prog 72 #[.slice ao n cap, .int .i64 0, .int .i64 n, fv] W fun e w' => e = .returned (.tuple #[]) ∧ w' = W := by
  have mixed := mix
  have hc : ¬ (1 : Int) < (n : Nat) := by omega
  go_enter Tryd.func72, Tryd.ntmps72
  go_wp2
  refine wp_loop_rounds 1 ?_
  rw [Go.rounds_succ]
  go_wp2
  go_end0
  exact ⟨rfl, rfl⟩
theorem pdqK_calls (ao : Option Addr) (n cap : Nat) (hn : n ≤ 1) (l : Int) (fv : Value) (W : World) : Calls Tryd.prog 58 #[.slice ao n cap, .int .i64 0, .int .i64 n, .int .i64 l, fv] W fun e w' => e = .returned (.tuple #[]) ∧ w' = W := by
  have mixed := mix
  have h1 := insK_calls ao n cap hn fv W
  have hw : IntKind.i64.wrap ((n : Nat) : Int) = (n : Nat) := by rw [IntKind.wrap_i64]; omega
  have hc : ((n : Nat) : Int) ≤ 12 := by omega
  have hc2 : ¬ (12 : Int) < ((n : Nat) : Int) := by omega
  go_enter Tryd.func58, Tryd.ntmps58
  go_wp2
  refine wp_loop_rounds 1 ?_
  rw [Go.rounds_succ]
  go_wp2_with (first | (go_at_call 72; refine h1.mono ?_; rintro e w' ⟨rfl, rfl⟩))
  refine bodyPost_ret (results_none rfl _ _ _) rfl ?_
  exact ⟨rfl, rfl⟩
theorem sortF_calls (ao : Option Addr) (n cap : Nat) (hn : n ≤ 1) (fv : Value) (W : World) : Calls Tryd.prog 38 #[.slice ao n cap, fv] W fun e w' => e = .returned (.tuple #[]) ∧ w' = W := by
  have mixed := mix
  have h1 := len_calls n hn W
  have h2 := fun l => pdqK_calls ao n cap hn l fv W
  have hw : IntKind.u64.wrap ((n : Nat) : Int) = (n : Nat) := by rw [IntKind.wrap_u64]; omega
  go_enter Tryd.func38, Tryd.ntmps38
  go_wp2_with (first | (go_at_call 59; refine h1.mono ?_; rintro e w' ⟨⟨l, rfl⟩, rfl⟩) | (go_at_call 58; refine (h2 _).mono ?_; rintro e w' ⟨rfl, rfl⟩))
  go_end0
  exact ⟨rfl, rfl⟩
end Go.Proofs.YtphggannefpleaaDoor.WL

end
section
/-
  CHAPTER 06: Ring.Keys over at most one tree, raw.
-/
namespace Go.Proofs.YtphggannefpleaaDoor.WL
open Go Go.Proofs Go.RowKit Go.Shelf
attribute [local go_sem] Oper.semAt_some

theorem info_key : (Tryd.prog.info? 34).map (fun i => (i.zero, i.size, i.bytes)) = some (some (.agg (Array.replicate 32 (.int .u8 0) ++ #[.int .i64 0])), 33, 40) := by kernel_rfl
/-- One cell each. -/
def vsA (cs : List Value) : List AV := cs.map AV.v
theorem vsA_V (C : Ctx) : ∀ (cs : List Value), (∀ c ∈ cs, c.oneCell' = true) → Vs C (vsA cs) cs
  | [], _ => rfl
  | c :: cs, h => ⟨[c], cs, rfl, ⟨rfl, h c List.mem_cons_self⟩, vsA_V C cs fun d hd => h d (List.mem_cons_of_mem _ hd)⟩
theorem vsA_eq {C : Ctx} : ∀ {cs ds : List Value}, Vs C (vsA cs) ds → ds = cs
  | [], _, h => h
  | c :: cs, ds, h => by
    obtain ⟨c1, c2, rfl, ⟨rfl, _⟩, h2⟩ := h
    rw [vsA_eq h2]
    rfl
theorem vsA_size : ∀ (cs : List Value), AV.sizes (vsA cs) = cs.length
  | [] => rfl
  | c :: cs => by
    have := vsA_size cs
    simp only [vsA, List.map_cons, AV.sizes, AV.size, List.length_cons] at this ⊢
    omega
theorem keyZ : tzero Tryd.prog 34 = some (List.replicate 32 (.int .u8 0) ++ [.int .i64 0]) := by kernel_rfl
theorem keyTsz : tsz Tryd.prog 34 = some 33 := by kernel_rfl
def zA : AV := .node [.arr 1 (List.replicate 32 (.v (.int .u8 0))), .v (.int .i64 0)]
theorem zA_flat : flat zA = some (List.replicate 32 (.int .u8 0) ++ [.int .i64 0]) := by kernel_rfl
theorem run_bsliceKey (w : World) (cs : Array Value) (hcs : cs.size = 33) (h1 : cs.all (·.oneCell') = true) :
    (Instr.buildSlice 27 1 #[(0, .agg cs)]).run Tryd.prog w = .ok (.slice (some ⟨w.heap.size, 0, none⟩) 1 1) (w.alloc (.cells cs 34)) := by
  let C : Ctx := ⟨w, fun _ => False, fun _ => none, fun _ => none, fun _ => False⟩
  obtain ⟨zv, hr, hzv⟩ := run_tzero (P := Tryd.prog) (w := w) keyZ
  have hl' : zv.cells.size = 33 := by
    have := congrArg List.length hzv
    simpa using this
  have hz0 := madeCells_flat (C := C) (z := zA) (zv := zv.cells) (by rw [hzv]; exact zA_flat) hl' (by decide) 1
  have hall : ∀ c ∈ cs.toList, c.oneCell' = true := fun c hc => by
    rw [Array.all_eq_true'] at h1
    exact h1 c (by simpa using hc)
  obtain ⟨cells', h3, h4⟩ := fill_elems (C := C) (sz := 33) (place := fun i => some (i * 33, 33)) (fun _ => rfl) (parts := [(0, .node (vsA cs.toList))]) (ys := [(0, .agg cs)]) (r := [.node (vsA cs.toList)])
    ⟨.agg cs, [], rfl, ⟨cs, rfl, vsA_V C _ hall⟩, rfl⟩ (by simp [buildE, AV.solid, AV.size, vsA_size, hcs]) hz0
  obtain ⟨d1, d2, e, _, h5, h6⟩ := h4
  obtain rfl : d2 = [] := h6
  have h7 := vsA_eq (C := C) h5
  subst h7
  have hc' : cells' = cs := by
    apply Array.ext'
    simpa using e
  subst hc'
  have hu : Tryd.prog.underlying 27 = some (.slice 34) := Tryd.underlying27
  have e1 : madeCells zv.cells (1 * 33) = (Array.range (1 * 33)).map (fun i => zv.cells[i % zv.cells.size]!) := rfl
  rw [e1] at h3
  simp only [Instr.buildSlice, Sem.run_bind, run_underlying hu, Result.andThen_ok, run_tsz keyTsz, if_neg (show ¬ (1 * 33 > 2 ^ 24) by decide), if_neg (show ¬ (1 * 33 = 0) by decide), hr, Sem.run_pure, h3, newRow, run_newObj, World.alloc_eq]

section
variable {F : Fence} {n : Nat} {P : Program} {w : World} {ops : Array Oper} {rest : List Oper} {o : Oper} {a : Act} {Q : Exit → Act → World → Prop}
theorem wpListIn_load_row (hg : o.guard = none) (t : TypeId) (p : Operand) (hop : o.op = Op.load t p) (B : Nat) (cs : Array Value) (hb : w.heap[B]? = some (.cells cs t (0, 0))) (ha : (isAgg t).run P w = .ok true w) (hi : (P.info? t).map (·.size) = some cs.size)
    (hp : a.eval p = .pointer (some ⟨B, 0, none⟩)) (hK : wpListIn F n P ops Q rest (a.put o.dst (.agg cs)) w) : wpListIn F n P ops Q (o :: rest) a w := by
  refine wpListIn_plain hg fun K' hK' => ?_
  have hl : (loadCellsFrom ⟨B, 0, none⟩ 0 cs.size #[]).run P w = .ok cs w := by
    have := run_loadCells_list (P := P) w ⟨B, 0, none⟩ cs.toList (fun j v hv => by
      have hadd : (⟨B, 0, none⟩ : Addr).add j = ⟨B, j, none⟩ := by unfold Addr.add; split <;> simp_all
      rw [hadd, cell_of_row _ _ j cs t (0, 0) hb]
      simpa using hv)
    simpa [loadCells] using this
  have hrun : (Instr.loadAt t (.pointer (some ⟨B, 0, none⟩))).run P w = .ok (.agg cs) w := by
    simp only [Instr.loadAt, Instr.sureAddr, Sem.run_bind, Sem.run_pure, Result.andThen]
    cases hq : P.info? t with
    | none => simp [hq] at hi
    | some i =>
      have hs : i.size = cs.size := by simp [hq] at hi; omega
      simp [loadVar, ha, Result.andThen, sizeOf, typeInfo, hq, loadCells, hs, hl]
  unfold Oper.wpIn
  refine ⟨by simp [Oper.about, hop], ?_⟩
  rw [Oper.semAt_plain F _ _ (by rw [hop]; intro c hc'; cases hc')]
  simp only [execOp, hop, hp, Sem.run_bind, hrun, Result.andThen]
  exact hK' _ _ hK
theorem wpListIn_bslice_key {w : World} (hg : o.guard = none) (x : Operand) (hop : o.op = Op.buildSlice 27 1 #[(0, x)]) (cs : Array Value) (hcs : cs.size = 33) (h1 : cs.all (·.oneCell') = true) (hx : a.eval x = .agg cs)
    (hK : wpListIn F n Tryd.prog ops Q rest (a.put o.dst (.slice (some ⟨w.heap.size, 0, none⟩) 1 1)) (w.alloc (.cells cs 34))) : wpListIn F n Tryd.prog ops Q (o :: rest) a w := by
  refine wpListIn_plain hg fun K' hK' => ?_
  have hrun := run_bsliceKey w cs hcs h1
  unfold Oper.wpIn
  refine ⟨by simp [Oper.about, hop], ?_⟩
  rw [Oper.semAt_plain F _ _ (by rw [hop]; intro c hc'; cases hc')]
  have e : (#[((0 : Nat), x)].map fun (p : Nat × Operand) => (p.1, a.eval p.2)) = #[(0, .agg cs)] := by simp [hx]
  simp only [execOp, hop, e, Sem.run_bind, hrun, Result.andThen]
  exact hK' _ _ hK
end

set_option maxRecDepth 100000 in
set_option maxHeartbeats 4000000 in
theorem ringKeys_in (n : Nat) (hn : 5 ≤ n) (R b : Nat) (es : Array MapEntry) (clock : Nat) (hB : Borns es clock) (cs : Array Value) (hcs : cs.size = 33) (h1 : cs.all (·.oneCell') = true) (hkv : ∀ x ∈ es.toList, x.key = .agg cs) (hle : es.size ≤ 1)
    (w : World) (hR : w.cell? ⟨R, 0, none⟩ = some (.map (some b))) (hRs : R < w.heap.size) (hb : w.heap[b]? = some (.map es clock)) (hbs : b < w.heap.size) :
    CallsIn Fence.wide n Tryd.prog 19 #[.pointer (some ⟨R, 0, none⟩)] w fun e W' =>
      ∃ v, e = .returned v ∧ W'.ownsRow w.heap.size 34 33 v es.size ((List.replicate es.size cs.toList).flatten) ∧ Below w.heap.size w W' := by
  have hbm : es.size ≤ maxLen := by simp only [maxLen]; omega
  obtain ⟨i0, hi, hz0, hz1, hz2⟩ := info_parts info_key
  have hf2 : Fence.wide.fn 38 := trivial
  refine callsIn_of_wp_marks Tryd.func19 rfl trivial ?_ rfl
  simp only [Tryd.ntmps19, List.size_toArray, List.length_cons, List.length_nil, Nat.reduceAdd, Nat.reduceSub, Array.replicate_succ, Array.replicate_zero, List.push_toArray, List.append_toArray, List.nil_append, List.cons_append]
  have hk := keysF_in (n - 1) (some b) (w.alloc (.cells #[.slice none 0 0] 27))
  have bO := Boxed.new w 27 (.slice none 0 0)
  have hB0 : Below w.heap.size w (w.alloc (.cells #[.slice none 0 0] 27)) := (Below.refl _ w).alloc (Nat.le_refl _) _
  gi_wp2
  refine ⟨trivial, fun _ => by omega, hk.mono ?_⟩
  rintro e w' ⟨rfl, rfl⟩
  clear hk
  obtain ⟨w1, hw1⟩ : ∃ w1, (w.alloc (.cells #[.slice none 0 0] 27)).alloc (.cells #[.map (some b)] 63) = w1 := ⟨_, rfl⟩
  have hs1 : w1.heap.size = w.heap.size + 2 := by rw [← hw1]; simp
  have hB1 : Below w.heap.size w w1 := by rw [← hw1]; exact hB0.alloc (by simp) _
  have bO1 : Boxed w1 w.heap.size 27 (.slice none 0 0) := by rw [← hw1]; exact bO.kept (World.grownBy_alloc _ _ none) (by simp)
  have hbox : w1.heap[w.heap.size + 1]? = some (.cells #[.map (some b)] 63) := by
    rw [← hw1]
    have := (MapKept.heap_alloc (w.alloc (.cells #[.slice none 0 0] 27)) (.cells #[.map (some b)] 63)).1
    simpa using this
  have hcell : w1.cell? ⟨w.heap.size + 1, 0, none⟩ = some (.map (some b)) := by
    unfold World.cell?
    rw [show w1.heap[(⟨w.heap.size + 1, 0, none⟩ : Addr).block]? = _ from hbox]
    rfl
  have hb1 : w1.heap[b]? = some (.map es clock) := (hB1.block b hbs).trans hb
  rw [hw1]
  simp only [World.size_alloc]
  gi_wp2
  have hz2' : (Value.agg (Array.replicate 32 (Value.int .u8 0) ++ #[Value.int .i64 0])).cells.size = 33 := by kernel_rfl
  have hall : ∀ u ∈ cs.toList, u.oneCell' = true := fun c hc => by
    rw [Array.all_eq_true'] at h1
    exact h1 c (by simpa using hc)
  have hcl : cs.toList.length = 1 * 33 := by simp [hcs]
  refine wpIn_rangeFunc_ownH rfl (by omega) (gf := 57) (lb := #[.pointer (some ⟨w.heap.size + 1, 0, none⟩)]) rfl trivial (enters_of Tryd.func57 (by kernel_rfl) rfl)
    (keys_stops (n - 1) (by omega) (w.heap.size + 1) b es clock hB cs hcs h1 hkv w1 (by omega) (by omega) hcell hb1) walksK_t walksK_b (Below.refl _ _) (fun _ => rfl)
    (fun pre W => (∃ v, Boxed W w.heap.size 27 v ∧ W.ownsRow w.heap.size 34 33 v pre.length ((List.replicate pre.length cs.toList).flatten) ∧ (v = .slice none 0 0 ↔ pre = [])) ∧ Below w.heap.size w W)
    (fun _ _ _ => False)
    (OwnFrom.and (Own.from (holdsRow_own w.heap.size w.heap.size 27 34 33 (fun pre : List Unit => pre.length) (fun pre => (List.replicate pre.length cs.toList).flatten) (fun pre v => v = .slice none 0 0 ↔ pre = [])) _) (ownFrom_below (Nat.le_refl _) (by omega)))
    (fun _ _ _ _ _ hs _ _ => hs)
    ⟨⟨_, bO1, World.ownsRow_nil _ _ _ _, by simp⟩, hB1⟩
    (fun _ a' W => ∃ B, a' = { tmps := #[.pointer (some ⟨R, 0, none⟩), undef, .slice none 0 0, .pointer (some ⟨w.heap.size, 0, none⟩), .pointer (some ⟨B, 0, none⟩), .pointer (some ⟨R, 0, none⟩), .bool false, .pointer (some ⟨R, 0, none⟩), .pointer (some ⟨R, 0, none⟩), .pointer (some ⟨R, 0, none⟩), .map (some b), .func (.func 57) #[] #[.pointer (some ⟨w.heap.size + 1, 0, none⟩)], .agg cs, undef, undef, undef, undef, undef, undef, undef], defers := [] } ∧ W.heap[B]? = some (.cells cs 34 (0, 0)))
    (fun x a' _ X Y row hs hg hr => by
      obtain ⟨B, e, hb⟩ := hs
      exact ⟨B, e, (grownBy_keeps_cells hg (fun r e => (hr r e).2) hb rfl).trans hb⟩) ?assign ?body ?done ?stop
  case assign =>
    intro l pre x W K hI hK
    gi_wp2_with (first
      | (refine wpListIn_store_new rfl 34 _ _ rfl W _ cs rfl (by rw [hcs]; exact keySize) (by rw [hcs]; rfl) h1 rfl rfl ?_)
      | gi_in)
    refine hK _ _ (KeepsFrom.of_grownBy (World.grownBy_alloc W _ none) (by simp)) (KeepsWalks.alloc W _) ?_ ⟨W.heap.size, rfl, (MapKept.heap_alloc W _).1⟩
    obtain ⟨⟨v, hv, hrow, hnil⟩, hBl⟩ := hI
    exact ⟨⟨v, hv.alloc _, hrow.alloc _, hnil⟩, hBl.alloc hBl.size _⟩
  case body =>
    rintro l pre x a' W hl hlr ⟨⟨v, hv, hrow, hnil⟩, hBl⟩ ⟨B, rfl, hBc⟩ hlt
    obtain rfl : pre = [] := List.eq_nil_of_length_eq_zero (by omega)
    have hv0 : v = .slice none 0 0 := hnil.2 rfl
    subst hv0
    have hc := hv.cell
    have hnew : ∀ j u, cs.toList[j]? = some u → (W.alloc (.cells cs 34)).cell? ((⟨W.heap.size, 0, none⟩ : Addr).add j) = some u := fun j u hu => by
      have hadd : (⟨W.heap.size, 0, none⟩ : Addr).add j = ⟨W.heap.size, j, none⟩ := by unfold Addr.add; split <;> simp_all
      rw [hadd, cell_of_row _ _ j cs 34 (0, 0) (MapKept.heap_alloc W _).1]
      simpa using hu
    gi_wp2_with (first
      | (refine wpListIn_load_row rfl 34 _ rfl B cs hBc (keyAgg _) (by rw [hcs]; exact keySize) rfl ?_)
      | (refine wpListIn_bslice_key rfl _ rfl cs hcs h1 rfl ?_)
      | (gi_at_builtin; refine wpListIn_append_own _ rfl _ _ 27 rfl w.heap.size 34 i0 _ 33 40 Tryd.underlying27 hi hz0 hz1 hz2 hz2' (by decide) _ _ _ rfl (hrow.alloc _) ⟨W.heap.size, 0, none⟩ 1 1 cs.toList rfl hcl hnew hall (by simp [maxLen]) (by simp) (by have := hBl.size; simp; omega) ?_; intro v' w2 hown' hgrow _; obtain ⟨g', cap', rfl⟩ := ownsRow_succ hown'; obtain ⟨hv1, hv2, hr2, hk2, hb2⟩ := hv.appended (by decide) hrow hBl.size (Nat.le_refl _) hown' hgrow; have hc1 := hv1.cell; have hf1 := hv1.frozen)
      | gi_in)
    exact ⟨hk2.from _, ⟨hk2.size, fun k o hk ho => hk2.same k o hk (Obj.not_cells_of_walk ho)⟩, ⟨_, hv2, by simpa using hr2, by simp⟩, hBl.trans hb2⟩
  case done =>
    rintro D ys W hD hys ⟨⟨v, hv, hrow, hnil⟩, hBl⟩ hK
    have hc := hv.cell
    rw [hys] at hrow
    obtain ⟨ao, nn, cap, rfl, hnn⟩ : ∃ ao nn cap, v = .slice ao nn cap ∧ nn = es.size := by
      rcases hrow.2 with ⟨rfl, h0⟩ | ⟨g, cap, cur, rfl, _⟩
      · exact ⟨none, 0, 0, rfl, h0.symm⟩
      · exact ⟨_, _, _, rfl, rfl⟩
    subst hnn
    have hsrt := (callsIn_wide (n := n - 1)).2 (sortF_calls ao es.size cap hle (.func (.func 39) #[] #[]) W)
    gi_wp2
    refine ⟨fun _ => by omega, hsrt.mono ?_⟩
    rintro e w' ⟨rfl, rfl⟩
    gi_wp2
    refine ⟨by simp, .inl ⟨_, _, rfl, run_takeDeferred hK, ?_⟩⟩
    refine ⟨_, results_tmp rfl _ _ _, _, rfl, ?_, hBl.trans (belowK_b (w := w) (Nat.le_refl _) _ D _ _ (by omega) hK rfl rfl)⟩
    exact ownsRow_putObj hrow _ hK rfl
  case stop =>
    rintro D c pre W _ _ h _
    exact h.elim
end Go.Proofs.YtphggannefpleaaDoor.WL

end
section
/-
  CHAPTER 06: walks of laws.
-/
namespace Go.Proofs.YtphggannefpleaaDoor.WL
open Go
set_option maxHeartbeats 8000000
attribute [local irreducible] comp hb sha leafD pairD secD shutD wholeD pubD ofD leavesD Dg.one
theorem bv2 : AV.v (.int .u8 2) = bv 2 := (rfl)

theorem alive6_meets : Meets Tryd.prog Gt fn_l06_alive [] [] true (.v (.bool true)) [] := by
  refine meets_of_go mix k_l06_alive ⟨by simp, by simp, by simp⟩ ?_
  have o1 := one_set 1
  have o2 := one_set 2
  generalize Dg.one 1 = D1 at *
  generalize Dg.one 2 = D2 at *
  have m1 := rnew_meets
  have m2 := radd_new D1 0 (by omega)
  have hl := leavesD_length D1 32 (2 ^ 0)
  have hc := sign_checks D1 0 0 D2 (by omega) (by decide)
  unfold oneN at m2
  generalize leavesD D1 32 (2 ^ 0) = ls at *
  have hl1 : ls.length = 1 := hl
  generalize rootD ls = root at *
  have m3 := take_meets ⟨D1, 0, ls, root, 0, [], 0⟩ (by simp) (by simp) (by simp) (by simp)
  have m4 := take_spent ⟨D1, 0, ls, root, 1, [(0, 0)], 1⟩ (by simp) (by simp)
  have m5 := ringSign_meets ⟨D1, 0, ls, root, 1, [(0, 0)], 1⟩ 0 D2 (by simp [hl1]) (by simp [hl1]) ⟨(0, 0), by simp, rfl⟩ (by simp)
  have m6 := ringSign_shut ⟨D1, 0, ls, root, 1, [], 1⟩ 0 D2 (by simp)
  have m7 := kcheck_meets root ((0 : Nat) : Int) D2 (signK D1 ls 0 D2 32) (by omega) (by simp [signK])
  rw [hc] at m7
  clear hc
  simp only [takeT, signT, List.nil_append, Int.natCast_zero, Int.ofNat_zero, Nat.zero_add] at m2 m3 m4 m5 m6 m7
  rw [show (List.filter (fun p : Int × Nat => !decide (p.1 = 0)) [(0, 0)]) = [] by simp] at m5
  generalize signK D1 ls 0 D2 32 = S at *
  simp [bv1, bv2, o1, o2]
  refine call_intro m1 ?_ ?_
  · simp [rg0]
  simp [rg0, bv1, o1]
  refine call_intro m2 ?_ ?_
  · simp [rg0, rgM, keyA]
  simp [rg0, rgM, keyA]
  refine call_intro m3 ?_ ?_
  · simp [rgM, keyA]
  simp [rgM, keyA]
  refine call_intro m4 ?_ ?_
  · simp [rgM, keyA]
  simp [rgM, keyA, bv2, o2]
  refine call_intro m5 ?_ ?_
  · simp [rgM, keyA]
  simp [rgM, keyA, Sig.avS, bv2, o2]
  refine call_intro m6 ?_ ?_
  · simp [rgM, keyA]
  simp [rgM, keyA, sig0, Sig.avS, bv2, o2]
  refine call_intro m7 ?_ ?_
  · simp [Sig.avS]
  simp [Sig.avS]
  refine post_end (.inr rfl) ?_
  simp

end Go.Proofs.YtphggannefpleaaDoor.WL

end
