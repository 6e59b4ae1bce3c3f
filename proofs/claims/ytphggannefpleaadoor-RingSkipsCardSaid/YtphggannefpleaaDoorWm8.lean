/- Texts put together: S06b, S06f, S06g, S06h. -/
import Derived.Test.YtphggannefpleaaDoorWm7
import Derived.RangeFuncBox
import Derived.RangeFuncLeaves
import Derived.RangeFuncCalls
import Derived.Shelf.Abstract
import Derived.WalkKit
import Derived.OwnWalkIn
import Derived.TacticsInMore
import Derived.LoopNIn
import Derived.LoopIn
import Derived.Maps.AppendAt
import Derived.RegionIn
import Derived.Deep.WholeRow
import Derived.RangeFuncNested
section
/-
  CHAPTER 06: a ring with one tree, as memory; contracts.
-/
namespace Go.Proofs.YtphggannefpleaaDoor.WL
open Go
set_option maxHeartbeats 8000000
attribute [local irreducible] comp hb sha leafD pairD secD shutD wholeD pubD ofD leavesD

def opE (K : List (Int × Nat)) : List AV := K.map fun p => entA (.v (.int .i64 p.1)) (.v (.bool true)) ((p.2 : Nat) : Int)
@[simp] theorem opE_closed : ∀ (K : List (Int × Nat)), closeds (opE K) = true
  | [] => rfl
  | p :: K => by
    have := opE_closed K
    simp only [opE, List.map_cons, closeds, closed_entA] at this ⊢
    simp [this, closed]
@[simp] theorem opE_length (K : List (Int × Nat)) : (opE K).length = K.length := by simp [opE]
@[simp] theorem opE_all : ∀ (K : List (Int × Nat)), allEnt 1 1 (opE K) = true
  | [] => rfl
  | p :: K => by
    have := opE_all K
    simp only [opE, List.map_cons, allEnt_cons] at this ⊢
    simp [this]
theorem opE_nil : opE [] = [] := rfl
theorem opE_get (K : List (Int × Nat)) (i : Nat) : (opE K)[i]? = (K[i]?).map fun p => entA (.v (.int .i64 p.1)) (.v (.bool true)) ((p.2 : Nat) : Int) := by simp [opE]
theorem opE_snoc (K : List (Int × Nat)) (n : Int) (c : Nat) : opE K ++ [entA (.v (.int .i64 n)) (.v (.bool true)) ((c : Nat) : Int)] = opE (K ++ [(n, c)]) := by simp [opE]
theorem opE_erase (K : List (Int × Nat)) (i : Nat) : (opE K).eraseIdx i = opE (K.eraseIdx i) := by simp [opE, ChangeMaps.map_eraseIdx]
theorem opE_find (n : Int) : ∀ (K : List (Int × Nat)), findA (.int .i64) (.v (.int .i64 n)) (opE K) = some (K.findIdx? fun p => decide (p.1 = n))
  | [] => rfl
  | p :: K => by
    have hc : cmpA (.int .i64) (.v (.int .i64 n)) (.v (.int .i64 p.1)) = some (decide (p.1 = n)) := by
      simp only [cmpA, and_self, if_true, Option.some.injEq]
      rw [Bool.eq_iff_iff]
      simp only [beq_iff_eq, decide_eq_true_eq]
      exact eq_comm
    have ih := opE_find n K
    simp only [opE] at ih
    simp only [opE, List.map_cons, findA_cons, entK_entA, hc, Option.bind_some, ih, Option.map_some, List.findIdx?_cons]
    cases decide (p.1 = n) <;> simp

def keyA (root : Dg) (h : Nat) : AV := .node [dv root, .v (.int .i64 (h : Nat))]
@[simp] theorem keyA_closed (root : Dg) (h : Nat) : closed (keyA root h) = true := by simp [keyA]
theorem keyA_cmp (root : Dg) (h : Nat) : cmpA (.st [.ints .u8 32, .int .i64]) (.node [dv root, .v (.int .i64 (h : Nat))]) (.node [dv root, .v (.int .i64 (h : Nat))]) = some true := by
  rw [cmp_key]; simp
/-- A tree in a ring: its seed, height, leaves, root; the first number that is free; the open ones with their stamps; the stamp to come. -/
structure One where
  seed : Dg
  h : Nat
  ls : List Dg
  root : Dg
  nx : Nat
  K : List (Int × Nat)
  ck : Nat
def rg0 (g ck : Nat) : List (Nat × Loc) := [(1000, .var g (.node [.oref 1001 g true])), (1001, .ob g (.map true 33 false 1) (.node [.node [], .v (.int .i64 (ck : Nat))]))]
def rgM (g e : Nat) (t : One) : List (Nat × Loc) :=
  [(1000, .var g (.node [.oref 1001 g true])), (1001, .ob g (.map true 33 false 1) (.node [.node [entA (.node [dv t.root, .v (.int .i64 (t.h : Nat))]) (.ptr 1002 e 0) 0], .v (.int .i64 1)])),
   (1002, .var e (.node [.iptr (trA t.seed t.h t.ls), .v (.int .i64 (t.nx : Nat)), .oref 1003 e true])), (1003, .ob e (.map false 1 false 1) (.node [.node (opE t.K), .v (.int .i64 (t.ck : Nat))]))]

theorem rnew_meets : Meets Tryd.prog Gt fn_ring_New [] [] false (.ptr 1000 1 0) (rg0 1 0) := by
  refine meets_of_go mix k_ring_New ⟨by simp [rg0], by simp [rg0], by simp [rg0]⟩ ?_
  simp
  refine post_end (.inr rfl) ?_
  simp [rg0]

theorem entry_none (ck : Nat) (root : Dg) (h : Nat) : Meets Tryd.prog Gt fn_ring_Ring_entry [.ptr 1000 0 0, keyA root h] (rg0 0 ck) false (.tup [.v (.pointer none), .v (.int .i64 7)]) (rg0 0 ck) := by
  refine meets_of_go mix k_ring_Ring_entry ⟨by simp [rg0], by simp [rg0], by simp [rg0]⟩ ?_
  have hk := keyA_cmp root h
  simp [rg0, keyA, hk]
  refine post_end (.inr rfl) ?_
  simp
theorem entry_meets (t : One) : Meets Tryd.prog Gt fn_ring_Ring_entry [.ptr 1000 0 0, keyA t.root t.h] (rgM 0 0 t) false (.tup [.ptr 1002 0 0, .v (.int .i64 0)]) (rgM 0 0 t) := by
  refine meets_of_go mix k_ring_Ring_entry ⟨by simp [rgM], by simp [rgM], by simp [rgM]⟩ ?_
  have hk := keyA_cmp t.root t.h
  simp [rgM, keyA, hk]
  refine post_end (.inr rfl) ?_
  simp

/-- A new tree. -/
def oneN (seed : Dg) (h : Nat) : One := ⟨seed, h, leavesD seed 32 (2 ^ h), rootD (leavesD seed 32 (2 ^ h)), 0, [], 0⟩
theorem radd_new (seed : Dg) (h : Nat) (hh : h ≤ 6) : Meets Tryd.prog Gt fn_ring_Ring_Add [.ptr 1000 0 0, dv seed, .v (.int .i64 (h : Nat))] (rg0 0 0) false (.tup [keyA (oneN seed h).root h, .v (.int .i64 0)]) (rgM 0 1 (oneN seed h)) := by
  refine meets_of_go mix k_ring_Ring_Add ⟨by simp [rgM], by simp [keyA], by simp [rgM]⟩ ?_
  have m1 := knewI_meets seed h hh
  unfold oneN
  have hl := leavesD_length seed 32 (2 ^ h)
  have h64 : 2 ^ h ≤ 64 := Nat.le_trans (Nat.pow_le_pow_right (by omega) hh) (by decide)
  generalize leavesD seed 32 (2 ^ h) = ls at *
  have m2 := kkeyI_meets seed h ls (by omega)
  generalize rootD ls = root at *
  have hk := keyA_cmp root h
  have htc := trA_closed seed h ls
  simp [rg0, keyA]
  refine call_intro m1 ?_ ?_
  · simp
  simp
  refine call_intro m2 ?_ ?_
  · simp [htc]
  simp [hk]
  refine post_end (.inr rfl) ?_
  simp [rgM, opE_nil, htc]
theorem radd_old (t : One) (seed : Dg) (h : Nat) (hh : h ≤ 6) (hr : t.root = (oneN seed h).root) (hth : t.h = h) :
    Meets Tryd.prog Gt fn_ring_Ring_Add [.ptr 1000 0 0, dv seed, .v (.int .i64 (h : Nat))] (rgM 0 0 t) false (.tup [keyA Dg.zero 0, .v (.int .i64 9)]) (rgM 0 0 t) := by
  refine meets_of_go mix k_ring_Ring_Add ⟨by simp [rgM], by simp [keyA], by simp [rgM]⟩ ?_
  have m1 := knewI_meets seed h hh
  unfold oneN at hr
  dsimp only at hr
  have hl := leavesD_length seed 32 (2 ^ h)
  have h64 : 2 ^ h ≤ 64 := Nat.le_trans (Nat.pow_le_pow_right (by omega) hh) (by decide)
  generalize leavesD seed 32 (2 ^ h) = ls at *
  have m2 := kkeyI_meets seed h ls (by omega)
  generalize rootD ls = root at *
  subst hr hth
  have hk := keyA_cmp t.root t.h
  have htc := trA_closed seed t.h ls
  simp [rgM, keyA]
  refine call_intro m1 ?_ ?_
  · simp
  simp
  refine call_intro m2 ?_ ?_
  · simp [htc]
  simp [hk]
  refine post_end (.inr rfl) ?_
  simp

/-- What Take makes of a tree. -/
def takeT (t : One) : One := { t with nx := t.nx + 1, K := t.K ++ [((t.nx : Int), t.ck)], ck := t.ck + 1 }
theorem take_meets (t : One) (hh : t.h ≤ 6) (hn : t.nx < 2 ^ t.h) (hK : ∀ p ∈ t.K, p.1 ≠ (t.nx : Int)) (hc : t.ck ≤ 1000000) :
    Meets Tryd.prog Gt fn_ring_Ring_Take [.ptr 1000 0 0, keyA t.root t.h] (rgM 0 0 t) false (.tup [.v (.int .i64 (t.nx : Nat)), .v (.int .i64 0)]) (rgM 0 0 (takeT t)) := by
  refine meets_of_go mix k_ring_Ring_Take ⟨by simp [rgM], by simp, by simp [rgM]⟩ ?_
  have m1 := entry_meets t
  have hmin : min t.h 64 = t.h := by omega
  obtain ⟨q, hq⟩ : ∃ q : Nat, q = 2 ^ t.h := ⟨_, rfl⟩
  have hq64 : q ≤ 64 := by rw [hq]; exact Nat.le_trans (Nat.pow_le_pow_right (by omega) hh) (by decide)
  have hqi : ((2 : Int) ^ t.h) = (q : Int) := by rw [hq]; simp
  have w1 : IntKind.i64.wrap (q : Int) = (q : Int) := w64_id (by omega)
  rw [← hq] at hn
  have w2 : IntKind.i64.wrap ((t.nx : Int) + 1) = ((t.nx + 1 : Nat) : Int) := w64_succ (by omega)
  have w3 : IntKind.i64.wrap ((t.ck : Int) + 1) = ((t.ck + 1 : Nat) : Int) := w64_succ (by omega)
  have hnq : ¬ (q : Int) ≤ (t.nx : Nat) := by omega
  have hnq2 : ¬ q ≤ t.nx := by omega
  have hfi : t.K.findIdx? (fun p => decide (p.1 = (t.nx : Int))) = none := by
    rw [List.findIdx?_eq_none_iff]
    intro p hp
    simpa using hK p hp
  have hfa := opE_find (t.nx : Int) t.K
  rw [hfi] at hfa
  have hcs : cmpA (.int .i64) (.v (.int .i64 (t.nx : Int))) (.v (.int .i64 (t.nx : Int))) = some true := by simp [cmpA]
  have hsn := opE_snoc t.K (t.nx : Int) t.ck
  have htc := trA_closed t.seed t.h t.ls
  simp [keyA, rgM]
  refine call_intro m1 ?_ ?_
  · simp [rgM, keyA, htc]
  simp [rgM, keyA, htc, hmin, hqi, w1, hnq, hnq2, w2, hcs, hfa]
  refine post_end (.inr rfl) ?_
  simp [takeT, rgM, hsn, htc]
theorem take_spent (t : One) (hh : t.h ≤ 6) (hn : 2 ^ t.h ≤ t.nx) :
    Meets Tryd.prog Gt fn_ring_Ring_Take [.ptr 1000 0 0, keyA t.root t.h] (rgM 0 0 t) false (.tup [.v (.int .i64 0), .v (.int .i64 6)]) (rgM 0 0 t) := by
  refine meets_of_go mix k_ring_Ring_Take ⟨by simp [rgM], by simp, by simp [rgM]⟩ ?_
  have m1 := entry_meets t
  have hmin : min t.h 64 = t.h := by omega
  obtain ⟨q, hq⟩ : ∃ q : Nat, q = 2 ^ t.h := ⟨_, rfl⟩
  have hq64 : q ≤ 64 := by rw [hq]; exact Nat.le_trans (Nat.pow_le_pow_right (by omega) hh) (by decide)
  have hqi : ((2 : Int) ^ t.h) = (q : Int) := by rw [hq]; simp
  have w1 : IntKind.i64.wrap (q : Int) = (q : Int) := w64_id (by omega)
  rw [← hq] at hn
  have hnq : (q : Int) ≤ (t.nx : Nat) := by omega
  have htc := trA_closed t.seed t.h t.ls
  simp [keyA, rgM]
  refine call_intro m1 ?_ ?_
  · simp [rgM, keyA, htc]
  simp [rgM, keyA, htc, hmin, hqi, w1, hnq, hn]
  refine post_end (.inr rfl) ?_
  simp [rgM, htc]
theorem left_meets (t : One) (hh : t.h ≤ 6) (hn : t.nx ≤ 2 ^ t.h) :
    Meets Tryd.prog Gt fn_ring_Ring_Left [.ptr 1000 0 0, keyA t.root t.h] (rgM 0 0 t) false (.v (.int .i64 ((2 ^ t.h - t.nx : Nat) : Int))) (rgM 0 0 t) := by
  refine meets_of_go mix k_ring_Ring_Left ⟨by simp [rgM], by simp, by simp [rgM]⟩ ?_
  have m1 := entry_meets t
  have hmin : min t.h 64 = t.h := by omega
  obtain ⟨q, hq⟩ : ∃ q : Nat, q = 2 ^ t.h := ⟨_, rfl⟩
  have hq64 : q ≤ 64 := by rw [hq]; exact Nat.le_trans (Nat.pow_le_pow_right (by omega) hh) (by decide)
  have hqi : ((2 : Int) ^ t.h) = (q : Int) := by rw [hq]; simp
  have w1 : IntKind.i64.wrap (q : Int) = (q : Int) := w64_id (by omega)
  rw [← hq] at hn ⊢
  have w2 : IntKind.i64.wrap ((q : Int) - (t.nx : Nat)) = ((q - t.nx : Nat) : Int) := by rw [w64_id (by omega)]; omega
  have htc := trA_closed t.seed t.h t.ls
  obtain ⟨r, hr⟩ : ∃ r, q - t.nx = r := ⟨_, rfl⟩
  rw [hr] at w2 ⊢
  simp [keyA, rgM]
  refine call_intro m1 ?_ ?_
  · simp [rgM, keyA, htc]
  simp [rgM, keyA, htc, hmin, hqi, w1, w2]
  refine post_end (.inr rfl) ?_
  simp [rgM, htc]

def sig0 : AV := .node [.v (.int .i64 0), .node [.v (.slice none 0 0), .v (.slice none 0 0)], .v (.slice none 0 0)]
/-- What Sign makes of a tree. -/
def signT (t : One) (n : Nat) : One := { t with K := t.K.filter fun p => !decide (p.1 = (n : Int)) }
theorem ringSign_meets (t : One) (n : Nat) (d : Dg) (hn : n < t.ls.length) (hl : t.ls.length ≤ 1000000) (hK : ∃ p ∈ t.K, p.1 = (n : Int)) (hd : (t.K.map (·.1)).Nodup) :
    Meets Tryd.prog Gt fn_ring_Ring_Sign [.ptr 1000 0 0, keyA t.root t.h, .v (.int .i64 (n : Nat)), dv d] (rgM 0 0 t) false (.tup [(signK t.seed t.ls n d 32).avS, .v (.int .i64 0)]) (rgM 0 0 (signT t n)) := by
  refine meets_of_go mix k_ring_Ring_Sign ⟨by simp [rgM], by simp [Sig.avS], by simp [rgM]⟩ ?_
  have m1 := entry_meets t
  have m2 := ksignV_meets t.seed t.h t.ls n d hn hl
  generalize signK t.seed t.ls n d 32 = sg at *
  obtain ⟨i, hi⟩ : ∃ i, t.K.findIdx? (fun p => decide (p.1 = (n : Int))) = some i := by
    rw [← Option.isSome_iff_exists, List.findIdx?_isSome]
    obtain ⟨p, hp, e⟩ := hK
    exact List.any_eq_true.2 ⟨p, hp, by simpa using e⟩
  obtain ⟨hlt, hpi, _⟩ := List.findIdx?_eq_some_iff_getElem.1 hi
  have hpi' : (t.K[i]).1 = (n : Int) := by simpa using hpi
  have hfa := opE_find (n : Int) t.K
  rw [hi] at hfa
  have hge := opE_get t.K i
  rw [List.getElem?_eq_getElem hlt, Option.map_some] at hge
  have her := opE_erase t.K i
  rw [erase_filter hd (List.getElem?_eq_getElem hlt), hpi'] at her
  have hcs : cmpA (.int .i64) (.v (.int .i64 (n : Int))) (.v (.int .i64 (n : Int))) = some true := by simp [cmpA]
  have htc := trA_closed t.seed t.h t.ls
  simp [keyA, rgM]
  refine call_intro m1 ?_ ?_
  · simp [rgM, keyA, htc]
  simp [rgM, keyA, htc, hcs, hfa, hge, her]
  refine call_intro m2 ?_ ?_
  · simp [htc]
  simp [Sig.avS]
  refine post_end (.inr rfl) ?_
  simp [signT, rgM, htc, Sig.avS]
theorem ringSign_shut (t : One) (n : Int) (d : Dg) (hK : ∀ p ∈ t.K, p.1 ≠ n) :
    Meets Tryd.prog Gt fn_ring_Ring_Sign [.ptr 1000 0 0, keyA t.root t.h, .v (.int .i64 n), dv d] (rgM 0 0 t) false (.tup [sig0, .v (.int .i64 9)]) (rgM 0 0 t) := by
  refine meets_of_go mix k_ring_Ring_Sign ⟨by simp [rgM], by simp [sig0], by simp [rgM]⟩ ?_
  have m1 := entry_meets t
  have hfi : t.K.findIdx? (fun p => decide (p.1 = n)) = none := by
    rw [List.findIdx?_eq_none_iff]
    intro p hp
    simpa using hK p hp
  have hfa := opE_find n t.K
  rw [hfi] at hfa
  have hcs : cmpA (.int .i64) (.v (.int .i64 n)) (.v (.int .i64 n)) = some true := by simp [cmpA]
  have htc := trA_closed t.seed t.h t.ls
  simp [keyA, rgM]
  refine call_intro m1 ?_ ?_
  · simp [rgM, keyA, htc]
  simp [rgM, keyA, htc, hcs, hfa]
  refine post_end (.inr rfl) ?_
  simp [rgM, htc, sig0]
theorem ringSign_none (ck : Nat) (root : Dg) (h : Nat) (n : Int) (d : Dg) : Meets Tryd.prog Gt fn_ring_Ring_Sign [.ptr 1000 0 0, keyA root h, .v (.int .i64 n), dv d] (rg0 0 ck) false (.tup [sig0, .v (.int .i64 7)]) (rg0 0 ck) := by
  refine meets_of_go mix k_ring_Ring_Sign ⟨by simp [rg0], by simp [sig0], by simp [rg0]⟩ ?_
  have m1 := entry_none ck root h
  simp [keyA, rg0]
  refine call_intro m1 ?_ ?_
  · simp [rg0, keyA]
  simp [rg0, keyA]
  refine post_end (.inr rfl) ?_
  simp [rg0, sig0]

theorem retire_meets (t : One) : Meets Tryd.prog Gt fn_ring_Ring_Retire [.ptr 1000 0 0, keyA t.root t.h] (rgM 0 0 t) false (.v (.int .i64 0)) (rg0 0 1) := by
  refine meets_of_go mix k_ring_Ring_Retire ⟨by simp [rg0], by simp, by simp [rg0]⟩ ?_
  have m1 := entry_meets t
  have hk := keyA_cmp t.root t.h
  have htc := trA_closed t.seed t.h t.ls
  simp [keyA, rgM]
  refine call_intro m1 ?_ ?_
  · simp [rgM, keyA, htc]
  simp [rgM, keyA, htc, hk]
  refine post_end (.inr rfl) ?_
  simp [rg0]
theorem retire_none (ck : Nat) (root : Dg) (h : Nat) : Meets Tryd.prog Gt fn_ring_Ring_Retire [.ptr 1000 0 0, keyA root h] (rg0 0 ck) false (.v (.int .i64 7)) (rg0 0 ck) := by
  refine meets_of_go mix k_ring_Ring_Retire ⟨by simp [rg0], by simp, by simp [rg0]⟩ ?_
  have m1 := entry_none ck root h
  simp [keyA, rg0]
  refine call_intro m1 ?_ ?_
  · simp [rg0, keyA]
  simp [rg0, keyA]
  refine post_end (.inr rfl) ?_
  simp [rg0]
end Go.Proofs.YtphggannefpleaaDoor.WL

end
section
/-
  CHAPTER 06: maps.Keys over a map with at most one entry, raw.
-/
namespace Go.Proofs.YtphggannefpleaaDoor.WL
open Go Go.Proofs Go.RowKit Go.Shelf
attribute [local go_sem] Oper.semAt_some

theorem lt_heap {w : World} {b : Nat} {o : Obj} (h : w.heap[b]? = some o) : b < w.heap.size := by
  rcases Nat.lt_or_ge b w.heap.size with k | k
  · exact k
  · rw [Array.getElem?_eq_none k] at h; cases h
theorem keySize : (Tryd.prog.info? 34).map (·.size) = some 33 := by kernel_rfl
section
variable {F : Fence} {n : Nat} {P : Program} {w : World} {ops : Array Oper} {rest : List Oper} {o : Oper} {a : Act} {Q : Exit → Act → World → Prop}
theorem wpListIn_store_new (hg : o.guard = none) (t : TypeId) (p x : Operand) (hop : o.op = Op.store t p x) (w1 : World) (c cs : Array Value) (hw : w = w1.alloc (.cells c t)) (hi : (P.info? t).map (·.size) = some cs.size) (ho : c.size = cs.size) (h1 : cs.all (·.oneCell') = true)
    (hp : a.eval p = .pointer (some ⟨w1.heap.size, 0, none⟩)) (hx : a.eval x = .agg cs) (hK : wpListIn F n P ops Q rest (a.put o.dst undef) (w1.alloc (.cells cs t))) : wpListIn F n P ops Q (o :: rest) a w := by
  refine wpListIn_plain hg fun K' hK' => ?_
  subst hw
  have hrun := run_storeAt_new (P := P) w1 t c cs hi ho h1
  unfold Oper.wpIn
  refine ⟨by simp [Oper.about, hop], ?_⟩
  rw [Oper.semAt_plain F _ _ (by rw [hop]; intro c hc'; cases hc')]
  simp only [execOp, hop, hp, hx, Sem.run_bind, hrun, Result.andThen]
  exact hK' _ _ hK
theorem wpListIn_load_new (hg : o.guard = none) (t : TypeId) (p : Operand) (hop : o.op = Op.load t p) (w1 : World) (cs : Array Value) (hw : w = w1.alloc (.cells cs t)) (ha : (isAgg t).run P w = .ok true w) (hi : (P.info? t).map (·.size) = some cs.size)
    (hp : a.eval p = .pointer (some ⟨w1.heap.size, 0, none⟩)) (hK : wpListIn F n P ops Q rest (a.put o.dst (.agg cs)) (w1.alloc (.cells cs t))) : wpListIn F n P ops Q (o :: rest) a w := by
  refine wpListIn_plain hg fun K' hK' => ?_
  subst hw
  have hrun : (Instr.loadAt t (.pointer (some ⟨w1.heap.size, 0, none⟩))).run P (w1.alloc (.cells cs t)) = .ok (.agg cs) (w1.alloc (.cells cs t)) := by
    simp only [Instr.loadAt, Instr.sureAddr, Sem.run_bind, Sem.run_pure, Result.andThen]
    cases hq : P.info? t with
    | none => simp [hq] at hi
    | some i =>
      have hs : i.size = cs.size := by simp [hq] at hi; omega
      have hl := run_loadCellsFrom_new (P := P) w1 t cs cs.size rfl
      simp [loadVar, ha, Result.andThen, sizeOf, typeInfo, hq, loadCells, hs, hl]
  unfold Oper.wpIn
  refine ⟨by simp [Oper.about, hop], ?_⟩
  rw [Oper.semAt_plain F _ _ (by rw [hop]; intro c hc'; cases hc')]
  simp only [execOp, hop, hp, Sem.run_bind, hrun, Result.andThen]
  exact hK' _ _ hK
end
theorem keyAgg (w : World) : (isAgg 34).run Tryd.prog w = .ok true w := run_tagg (by kernel_rfl) w

set_option maxRecDepth 100000 in
set_option maxHeartbeats 2000000 in
/-- The iterator over a map's keys, all of which are one. -/
theorem keys1_in (n : Nat) (hn : 1 ≤ n) (l Bm b : Nat) (es : Array MapEntry) (clock : Nat) (hB : Borns es clock) (cs : Array Value) (hcs : cs.size = 33) (h1 : cs.all (·.oneCell') = true) (hkv : ∀ x ∈ es.toList, x.key = .agg cs) (J Jx : List Unit → World → Prop)
    (hY : ∀ pre (x : Unit) W, J pre W → pre.length < es.size → YieldAt Fence.wide (n - 1) Tryd.prog l #[.agg cs] W fun e W' =>
      (e = .returned (.bool true) ∧ J (pre ++ [x]) W' ∧ KeepsWalks W W') ∨ (e = .returned (.bool false) ∧ Jx (pre ++ [x]) W'))
    (W : World) (hJ : AbidesFrom W.heap.size J) (hm : W.cell? ⟨Bm, 0, none⟩ = some (.map (some b))) (hb : W.heap[b]? = some (.map es clock)) (h0 : J [] W) :
    CallsIn Fence.wide n Tryd.prog 57 #[.func (.yield l) #[] #[], .pointer (some ⟨Bm, 0, none⟩)] W fun e W' => (∃ v, e = .returned v) ∧
      ((∃ ys : List Unit, ys.length = es.size ∧ J ys W') ∨ (∃ pre : List Unit, True ∧ Jx pre W')) := by
  refine callsIn_of_wp Tryd.func57 rfl trivial ?_ rfl
  simp only [Tryd.ntmps57, List.size_toArray, List.length_cons, List.length_nil, Nat.reduceAdd, Nat.reduceSub, Array.replicate_succ, Array.replicate_zero, List.push_toArray, List.append_toArray, List.nil_append, List.cons_append]
  gi_wp2_with (first
    | (gi_at_range; refine wpListIn_range_raw _ rfl _ _ rfl _ _ Tryd.underlying63 b es clock rfl hb ?_; intro w0 hrg0 hg0 hs0)
    | gi_in)
  go_frame
  gi_loopw [6] (fun _ wr => ∃ vis, WalkAt wr b W.heap.size es clock vis ∧ J (List.replicate vis.length ()) wr)
    (fun _ wr => es.size - seenLen wr W.heap.size)
  case atStart =>
    exact ⟨[], hrg0, hJ [] W w0 none h0 hg0 (fun r e => by cases e)⟩
  case round =>
    obtain ⟨vis, hrg, hJs⟩ := hrel
    gi_wp2_with (first
      | (gi_at_next; refine wpListIn_next_raw _ rfl _ rfl b W.heap.size es clock vis hB rfl hrg ?_ ?_)
      | gi_in)
    · intro hperm
      gi_wp2
      go_end0
      exact ⟨⟨_, rfl⟩, .inl ⟨_, by simpa using hperm.length_eq, hJs⟩⟩
    · intro x w2 hx0 hrg2 hg2 hs2 hen
      have hx : x ∈ es.toList := by simpa using hx0
      have hJ2 : J (List.replicate vis.length ()) w2 := hJ _ wr w2 (some W.heap.size) hJs hg2 (fun r e => by cases e; exact ⟨Nat.le_refl _, _, hrg.it, rfl⟩)
      have hlt : vis.length < es.size := by
        have := hrg2.len
        simp at this
        omega
      obtain ⟨w3, hw3⟩ : ∃ w3, w2.alloc (.cells cs 34) = w3 := ⟨_, rfl⟩
      have hg3 : w2.grownBy w3 none := by rw [← hw3]; exact World.grownBy_alloc w2 _ none
      have hJ3 : J (List.replicate vis.length ()) w3 := hJ _ w2 w3 none hJ2 hg3 (fun r e => by cases e)
      obtain ⟨fn, tmps, assign, body, hy, hR⟩ := hY (List.replicate vis.length ()) () w3 hJ3 (by simpa using hlt)
      have hrg3 : WalkAt w3 b W.heap.size es clock (vis ++ [x]) := by
        rw [← hw3]
        exact ⟨((MapKept.heap_alloc w2 _).2 b (lt_heap hrg2.map)).trans hrg2.map, ((MapKept.heap_alloc w2 _).2 _ hrg2.lt).trans hrg2.it, hrg2.nd, hrg2.mem⟩
      rw [hkv x hx] at hen
      subst hw3
      clear hs2
      gi_wp2_with (first
        | (refine wpListIn_store_new rfl 34 _ _ rfl w2 _ cs rfl (by rw [hcs]; exact keySize) (by rw [hcs]; rfl) h1 rfl rfl ?_)
        | (refine wpListIn_load_new rfl 34 _ rfl w2 cs rfl (keyAgg _) (by rw [hcs]; exact keySize) rfl ?_)
        | gi_in)
      refine hR.mono ?_
      rintro e W3 (⟨rfl, hJ4, hk3⟩ | ⟨rfl, hJx3⟩)
      · gi_wp2
        have hrg4 := hrg3.of_walks hk3
        go_roundw
        case rel => exact ⟨vis ++ [x], hrg4, by
          have e : List.replicate vis.length () ++ [()] = List.replicate (vis ++ [x]).length () := by rw [List.length_append, List.length_singleton, List.replicate_succ']
          rw [← e]; exact hJ4⟩
        case measure =>
          rw [hrg4.seenLen, hrg.seenLen]
          simp
          omega
      · gi_wp2
        refine bodyPost_ret (results_none rfl _ _ _) rfl ?_
        exact ⟨⟨_, rfl⟩, .inr ⟨_, trivial, hJx3⟩⟩

theorem keys_stops (n : Nat) (hn : 1 ≤ n) (Bm b : Nat) (es : Array MapEntry) (clock : Nat) (hB : Borns es clock) (cs : Array Value) (hcs : cs.size = 33) (h1 : cs.all (·.oneCell') = true) (hkv : ∀ x ∈ es.toList, x.key = .agg cs) (w : World) (hBm : Bm < w.heap.size) (hbl : b < w.heap.size)
    (hm : w.cell? ⟨Bm, 0, none⟩ = some (.map (some b))) (hb : w.heap[b]? = some (.map es clock)) :
    SeqStopsK Fence.wide n Tryd.prog 57 #[.pointer (some ⟨Bm, 0, none⟩)] (fun _ : Unit => #[.agg cs]) KeepsWalks (fun ys => ys.length = es.size) (fun _ => True) es.size w :=
  fun l J Jx W hW hJ _ hY h0 => keys1_in n hn l Bm b es clock hB cs hcs h1 hkv J Jx hY W hJ ((hW.cell (p := ⟨Bm, 0, none⟩) hBm).trans hm) ((hW.block b hbl).trans hb) h0

set_option maxHeartbeats 2000000 in
/-- maps.Keys: the map is boxed; the function value holds the box. -/
theorem keysF_in (n : Nat) (mb : Option Nat) (w : World) :
    CallsIn Fence.wide n Tryd.prog 37 #[.map mb] w fun e w' => e = .returned (.func (.func 57) #[] #[.pointer (some ⟨w.heap.size, 0, none⟩)]) ∧ w' = w.alloc (.cells #[.map mb] 63) := by
  refine callsIn_of_wp Tryd.func37 rfl trivial ?_ rfl
  simp only [Tryd.ntmps37, List.size_toArray, List.length_cons, List.length_nil, Nat.reduceAdd, Nat.reduceSub, Array.replicate_succ, Array.replicate_zero, List.push_toArray, List.append_toArray, List.nil_append, List.cons_append]
  gi_wp2
  go_ret
  exact ⟨rfl, rfl⟩
end Go.Proofs.YtphggannefpleaaDoor.WL

end
section
/-
  CHAPTER 06: slices.SortFunc over at most one element, raw.
-/
namespace Go.Proofs.YtphggannefpleaaDoor.WL
open Go Go.Proofs Go.RowKit
set_option maxRecDepth 100000
set_option maxHeartbeats 4000000

theorem len64_calls (n : Nat) (hn : n ≤ 1) (W : World) : Calls Tryd.prog 81 #[.int .u64 n] W fun e w' => (∃ l : Int, e = .returned (.int .i64 l)) ∧ w' = W := by
  have mixed := mix
  rcases (show n = 0 ∨ n = 1 by omega) with rfl | rfl
  · go_enter Tryd.func81, Tryd.ntmps81
    go_wp2
    go_ret
    exact ⟨⟨_, rfl⟩, rfl⟩
  · go_enter Tryd.func81, Tryd.ntmps81
    go_wp2
    go_ret
    exact ⟨⟨_, rfl⟩, rfl⟩
theorem len_calls (n : Nat) (hn : n ≤ 1) (W : World) : Calls Tryd.prog 59 #[.int .u64 n] W fun e w' => (∃ l : Int, e = .returned (.int .i64 l)) ∧ w' = W := by
  have mixed := mix
  have h1 := len64_calls n hn W
  go_enter Tryd.func59, Tryd.ntmps59
  go_wp2_with (first | (go_at_call 81; refine h1.mono ?_; rintro e w' ⟨⟨l, rfl⟩, rfl⟩))
  go_ret
  exact ⟨⟨_, rfl⟩, rfl⟩
theorem insK_calls (ao : Option Addr) (n cap : Nat) (hn : n ≤ 1) (fv : Value) (W : World) : Calls Tryd.prog 72 #[.slice ao n cap, .int .i64 0, .int .i64 n, fv] W fun e w' => e = .returned (.tuple #[]) ∧ w' = W := by
  have mixed := mix
  have hc : ¬ (1 : Int) < (n : Nat) := by omega
  go_enter Tryd.func72, Tryd.ntmps72
  go_wp2
  refine wp_loop_rounds 1 ?_
  rw [Go.rounds_succ]
  go_wp2
  go_end0
  exact ⟨rfl, rfl⟩
theorem pdqK_calls (ao : Option Addr) (n cap : Nat) (hn : n ≤ 1) (l : Int) (fv : Value) (W : World) : Calls Tryd.prog 58 #[.slice ao n cap, .int .i64 0, .int .i64 n, .int .i64 l, fv] W fun e w' => e = .returned (.tuple #[]) ∧ w' = W := by
  have mixed := mix
  have h1 := insK_calls ao n cap hn fv W
  have hw : IntKind.i64.wrap ((n : Nat) : Int) = (n : Nat) := by rw [IntKind.wrap_i64]; omega
  have hc : ((n : Nat) : Int) ≤ 12 := by omega
  have hc2 : ¬ (12 : Int) < ((n : Nat) : Int) := by omega
  go_enter Tryd.func58, Tryd.ntmps58
  go_wp2
  refine wp_loop_rounds 1 ?_
  rw [Go.rounds_succ]
  go_wp2_with (first | (go_at_call 72; refine h1.mono ?_; rintro e w' ⟨rfl, rfl⟩))
  refine bodyPost_ret (results_none rfl _ _ _) rfl ?_
  exact ⟨rfl, rfl⟩
theorem sortF_calls (ao : Option Addr) (n cap : Nat) (hn : n ≤ 1) (fv : Value) (W : World) : Calls Tryd.prog 38 #[.slice ao n cap, fv] W fun e w' => e = .returned (.tuple #[]) ∧ w' = W := by
  have mixed := mix
  have h1 := len_calls n hn W
  have h2 := fun l => pdqK_calls ao n cap hn l fv W
  have hw : IntKind.u64.wrap ((n : Nat) : Int) = (n : Nat) := by rw [IntKind.wrap_u64]; omega
  go_enter Tryd.func38, Tryd.ntmps38
  go_wp2_with (first | (go_at_call 59; refine h1.mono ?_; rintro e w' ⟨⟨l, rfl⟩, rfl⟩) | (go_at_call 58; refine (h2 _).mono ?_; rintro e w' ⟨rfl, rfl⟩))
  go_end0
  exact ⟨rfl, rfl⟩
end Go.Proofs.YtphggannefpleaaDoor.WL

end
section
/-
  CHAPTER 06: Ring.Keys over at most one tree, raw.
-/
namespace Go.Proofs.YtphggannefpleaaDoor.WL
open Go Go.Proofs Go.RowKit Go.Shelf
attribute [local go_sem] Oper.semAt_some

theorem info_key : (Tryd.prog.info? 34).map (fun i => (i.zero, i.size, i.bytes)) = some (some (.agg (Array.replicate 32 (.int .u8 0) ++ #[.int .i64 0])), 33, 40) := by kernel_rfl
/-- One cell each. -/
def vsA (cs : List Value) : List AV := cs.map AV.v
theorem vsA_V (C : Ctx) : ∀ (cs : List Value), (∀ c ∈ cs, c.oneCell' = true) → Vs C (vsA cs) cs
  | [], _ => rfl
  | c :: cs, h => ⟨[c], cs, rfl, ⟨rfl, h c List.mem_cons_self⟩, vsA_V C cs fun d hd => h d (List.mem_cons_of_mem _ hd)⟩
theorem vsA_eq {C : Ctx} : ∀ {cs ds : List Value}, Vs C (vsA cs) ds → ds = cs
  | [], _, h => h
  | c :: cs, ds, h => by
    obtain ⟨c1, c2, rfl, ⟨rfl, _⟩, h2⟩ := h
    rw [vsA_eq h2]
    rfl
theorem vsA_size : ∀ (cs : List Value), AV.sizes (vsA cs) = cs.length
  | [] => rfl
  | c :: cs => by
    have := vsA_size cs
    simp only [vsA, List.map_cons, AV.sizes, AV.size, List.length_cons] at this ⊢
    omega
theorem keyZ : tzero Tryd.prog 34 = some (List.replicate 32 (.int .u8 0) ++ [.int .i64 0]) := by kernel_rfl
theorem keyTsz : tsz Tryd.prog 34 = some 33 := by kernel_rfl
def zA : AV := .node [.arr 1 (List.replicate 32 (.v (.int .u8 0))), .v (.int .i64 0)]
theorem zA_flat : flat zA = some (List.replicate 32 (.int .u8 0) ++ [.int .i64 0]) := by kernel_rfl
theorem run_bsliceKey (w : World) (cs : Array Value) (hcs : cs.size = 33) (h1 : cs.all (·.oneCell') = true) :
    (Instr.buildSlice 27 1 #[(0, .agg cs)]).run Tryd.prog w = .ok (.slice (some ⟨w.heap.size, 0, none⟩) 1 1) (w.alloc (.cells cs 34)) := by
  let C : Ctx := ⟨w, fun _ => False, fun _ => none, fun _ => none, fun _ => False⟩
  obtain ⟨zv, hr, hzv⟩ := run_tzero (P := Tryd.prog) (w := w) keyZ
  have hl' : zv.cells.size = 33 := by
    have := congrArg List.length hzv
    simpa using this
  have hz0 := madeCells_flat (C := C) (z := zA) (zv := zv.cells) (by rw [hzv]; exact zA_flat) hl' (by decide) 1
  have hall : ∀ c ∈ cs.toList, c.oneCell' = true := fun c hc => by
    rw [Array.all_eq_true'] at h1
    exact h1 c (by simpa using hc)
  obtain ⟨cells', h3, h4⟩ := fill_elems (C := C) (sz := 33) (place := fun i => some (i * 33, 33)) (fun _ => rfl) (parts := [(0, .node (vsA cs.toList))]) (ys := [(0, .agg cs)]) (r := [.node (vsA cs.toList)])
    ⟨.agg cs, [], rfl, ⟨cs, rfl, vsA_V C _ hall⟩, rfl⟩ (by simp [buildE, AV.solid, AV.size, vsA_size, hcs]) hz0
  obtain ⟨d1, d2, e, _, h5, h6⟩ := h4
  obtain rfl : d2 = [] := h6
  have h7 := vsA_eq (C := C) h5
  subst h7
  have hc' : cells' = cs := by
    apply Array.ext'
    simpa using e
  subst hc'
  have hu : Tryd.prog.underlying 27 = some (.slice 34) := Tryd.underlying27
  have e1 : madeCells zv.cells (1 * 33) = (Array.range (1 * 33)).map (fun i => zv.cells[i % zv.cells.size]!) := rfl
  rw [e1] at h3
  simp only [Instr.buildSlice, Sem.run_bind, run_underlying hu, Result.andThen_ok, run_tsz keyTsz, if_neg (show ¬ (1 * 33 > 2 ^ 24) by decide), if_neg (show ¬ (1 * 33 = 0) by decide), hr, Sem.run_pure, h3, newRow, run_newObj, World.alloc_eq]

section
variable {F : Fence} {n : Nat} {P : Program} {w : World} {ops : Array Oper} {rest : List Oper} {o : Oper} {a : Act} {Q : Exit → Act → World → Prop}
theorem wpListIn_load_row (hg : o.guard = none) (t : TypeId) (p : Operand) (hop : o.op = Op.load t p) (B : Nat) (cs : Array Value) (hb : w.heap[B]? = some (.cells cs t (0, 0))) (ha : (isAgg t).run P w = .ok true w) (hi : (P.info? t).map (·.size) = some cs.size)
    (hp : a.eval p = .pointer (some ⟨B, 0, none⟩)) (hK : wpListIn F n P ops Q rest (a.put o.dst (.agg cs)) w) : wpListIn F n P ops Q (o :: rest) a w := by
  refine wpListIn_plain hg fun K' hK' => ?_
  have hl : (loadCellsFrom ⟨B, 0, none⟩ 0 cs.size #[]).run P w = .ok cs w := by
    have := run_loadCells_list (P := P) w ⟨B, 0, none⟩ cs.toList (fun j v hv => by
      have hadd : (⟨B, 0, none⟩ : Addr).add j = ⟨B, j, none⟩ := by unfold Addr.add; split <;> simp_all
      rw [hadd, cell_of_row _ _ j cs t (0, 0) hb]
      simpa using hv)
    simpa [loadCells] using this
  have hrun : (Instr.loadAt t (.pointer (some ⟨B, 0, none⟩))).run P w = .ok (.agg cs) w := by
    simp only [Instr.loadAt, Instr.sureAddr, Sem.run_bind, Sem.run_pure, Result.andThen]
    cases hq : P.info? t with
    | none => simp [hq] at hi
    | some i =>
      have hs : i.size = cs.size := by simp [hq] at hi; omega
      simp [loadVar, ha, Result.andThen, sizeOf, typeInfo, hq, loadCells, hs, hl]
  unfold Oper.wpIn
  refine ⟨by simp [Oper.about, hop], ?_⟩
  rw [Oper.semAt_plain F _ _ (by rw [hop]; intro c hc'; cases hc')]
  simp only [execOp, hop, hp, Sem.run_bind, hrun, Result.andThen]
  exact hK' _ _ hK
theorem wpListIn_bslice_key {w : World} (hg : o.guard = none) (x : Operand) (hop : o.op = Op.buildSlice 27 1 #[(0, x)]) (cs : Array Value) (hcs : cs.size = 33) (h1 : cs.all (·.oneCell') = true) (hx : a.eval x = .agg cs)
    (hK : wpListIn F n Tryd.prog ops Q rest (a.put o.dst (.slice (some ⟨w.heap.size, 0, none⟩) 1 1)) (w.alloc (.cells cs 34))) : wpListIn F n Tryd.prog ops Q (o :: rest) a w := by
  refine wpListIn_plain hg fun K' hK' => ?_
  have hrun := run_bsliceKey w cs hcs h1
  unfold Oper.wpIn
  refine ⟨by simp [Oper.about, hop], ?_⟩
  rw [Oper.semAt_plain F _ _ (by rw [hop]; intro c hc'; cases hc')]
  have e : (#[((0 : Nat), x)].map fun (p : Nat × Operand) => (p.1, a.eval p.2)) = #[(0, .agg cs)] := by simp [hx]
  simp only [execOp, hop, e, Sem.run_bind, hrun, Result.andThen]
  exact hK' _ _ hK
end

set_option maxRecDepth 100000 in
set_option maxHeartbeats 4000000 in
theorem ringKeys_in (n : Nat) (hn : 5 ≤ n) (R b : Nat) (es : Array MapEntry) (clock : Nat) (hB : Borns es clock) (cs : Array Value) (hcs : cs.size = 33) (h1 : cs.all (·.oneCell') = true) (hkv : ∀ x ∈ es.toList, x.key = .agg cs) (hle : es.size ≤ 1)
    (w : World) (hR : w.cell? ⟨R, 0, none⟩ = some (.map (some b))) (hRs : R < w.heap.size) (hb : w.heap[b]? = some (.map es clock)) (hbs : b < w.heap.size) :
    CallsIn Fence.wide n Tryd.prog 19 #[.pointer (some ⟨R, 0, none⟩)] w fun e W' =>
      ∃ v, e = .returned v ∧ W'.ownsRow w.heap.size 34 33 v es.size ((List.replicate es.size cs.toList).flatten) ∧ Below w.heap.size w W' := by
  have hbm : es.size ≤ maxLen := by simp only [maxLen]; omega
  obtain ⟨i0, hi, hz0, hz1, hz2⟩ := info_parts info_key
  have hf2 : Fence.wide.fn 38 := trivial
  refine callsIn_of_wp_marks Tryd.func19 rfl trivial ?_ rfl
  simp only [Tryd.ntmps19, List.size_toArray, List.length_cons, List.length_nil, Nat.reduceAdd, Nat.reduceSub, Array.replicate_succ, Array.replicate_zero, List.push_toArray, List.append_toArray, List.nil_append, List.cons_append]
  have hk := keysF_in (n - 1) (some b) (w.alloc (.cells #[.slice none 0 0] 27))
  have bO := Boxed.new w 27 (.slice none 0 0)
  have hB0 : Below w.heap.size w (w.alloc (.cells #[.slice none 0 0] 27)) := (Below.refl _ w).alloc (Nat.le_refl _) _
  gi_wp2
  refine ⟨trivial, fun _ => by omega, hk.mono ?_⟩
  rintro e w' ⟨rfl, rfl⟩
  clear hk
  obtain ⟨w1, hw1⟩ : ∃ w1, (w.alloc (.cells #[.slice none 0 0] 27)).alloc (.cells #[.map (some b)] 63) = w1 := ⟨_, rfl⟩
  have hs1 : w1.heap.size = w.heap.size + 2 := by rw [← hw1]; simp
  have hB1 : Below w.heap.size w w1 := by rw [← hw1]; exact hB0.alloc (by simp) _
  have bO1 : Boxed w1 w.heap.size 27 (.slice none 0 0) := by rw [← hw1]; exact bO.kept (World.grownBy_alloc _ _ none) (by simp)
  have hbox : w1.heap[w.heap.size + 1]? = some (.cells #[.map (some b)] 63) := by
    rw [← hw1]
    have := (MapKept.heap_alloc (w.alloc (.cells #[.slice none 0 0] 27)) (.cells #[.map (some b)] 63)).1
    simpa using this
  have hcell : w1.cell? ⟨w.heap.size + 1, 0, none⟩ = some (.map (some b)) := by
    unfold World.cell?
    rw [show w1.heap[(⟨w.heap.size + 1, 0, none⟩ : Addr).block]? = _ from hbox]
    rfl
  have hb1 : w1.heap[b]? = some (.map es clock) := (hB1.block b hbs).trans hb
  rw [hw1]
  simp only [World.size_alloc]
  gi_wp2
  have hz2' : (Value.agg (Array.replicate 32 (Value.int .u8 0) ++ #[Value.int .i64 0])).cells.size = 33 := by kernel_rfl
  have hall : ∀ u ∈ cs.toList, u.oneCell' = true := fun c hc => by
    rw [Array.all_eq_true'] at h1
    exact h1 c (by simpa using hc)
  have hcl : cs.toList.length = 1 * 33 := by simp [hcs]
  refine wpIn_rangeFunc_ownH rfl (by omega) (gf := 57) (lb := #[.pointer (some ⟨w.heap.size + 1, 0, none⟩)]) rfl trivial (enters_of Tryd.func57 (by kernel_rfl) rfl)
    (keys_stops (n - 1) (by omega) (w.heap.size + 1) b es clock hB cs hcs h1 hkv w1 (by omega) (by omega) hcell hb1) walksK_t walksK_b (Below.refl _ _) (fun _ => rfl)
    (fun pre W => (∃ v, Boxed W w.heap.size 27 v ∧ W.ownsRow w.heap.size 34 33 v pre.length ((List.replicate pre.length cs.toList).flatten) ∧ (v = .slice none 0 0 ↔ pre = [])) ∧ Below w.heap.size w W)
    (fun _ _ _ => False)
    (OwnFrom.and (Own.from (holdsRow_own w.heap.size w.heap.size 27 34 33 (fun pre : List Unit => pre.length) (fun pre => (List.replicate pre.length cs.toList).flatten) (fun pre v => v = .slice none 0 0 ↔ pre = [])) _) (ownFrom_below (Nat.le_refl _) (by omega)))
    (fun _ _ _ _ _ hs _ _ => hs)
    ⟨⟨_, bO1, World.ownsRow_nil _ _ _ _, by simp⟩, hB1⟩
    (fun _ a' W => ∃ B, a' = { tmps := #[.pointer (some ⟨R, 0, none⟩), undef, .slice none 0 0, .pointer (some ⟨w.heap.size, 0, none⟩), .pointer (some ⟨B, 0, none⟩), .pointer (some ⟨R, 0, none⟩), .bool false, .pointer (some ⟨R, 0, none⟩), .pointer (some ⟨R, 0, none⟩), .pointer (some ⟨R, 0, none⟩), .map (some b), .func (.func 57) #[] #[.pointer (some ⟨w.heap.size + 1, 0, none⟩)], .agg cs, undef, undef, undef, undef, undef, undef, undef], defers := [] } ∧ W.heap[B]? = some (.cells cs 34 (0, 0)))
    (fun x a' _ X Y row hs hg hr => by
      obtain ⟨B, e, hb⟩ := hs
      exact ⟨B, e, (grownBy_keeps_cells hg (fun r e => (hr r e).2) hb rfl).trans hb⟩) ?assign ?body ?done ?stop
  case assign =>
    intro l pre x W K hI hK
    gi_wp2_with (first
      | (refine wpListIn_store_new rfl 34 _ _ rfl W _ cs rfl (by rw [hcs]; exact keySize) (by rw [hcs]; rfl) h1 rfl rfl ?_)
      | gi_in)
    refine hK _ _ (KeepsFrom.of_grownBy (World.grownBy_alloc W _ none) (by simp)) (KeepsWalks.alloc W _) ?_ ⟨W.heap.size, rfl, (MapKept.heap_alloc W _).1⟩
    obtain ⟨⟨v, hv, hrow, hnil⟩, hBl⟩ := hI
    exact ⟨⟨v, hv.alloc _, hrow.alloc _, hnil⟩, hBl.alloc hBl.size _⟩
  case body =>
    rintro l pre x a' W hl hlr ⟨⟨v, hv, hrow, hnil⟩, hBl⟩ ⟨B, rfl, hBc⟩ hlt
    obtain rfl : pre = [] := List.eq_nil_of_length_eq_zero (by omega)
    have hv0 : v = .slice none 0 0 := hnil.2 rfl
    subst hv0
    have hc := hv.cell
    have hnew : ∀ j u, cs.toList[j]? = some u → (W.alloc (.cells cs 34)).cell? ((⟨W.heap.size, 0, none⟩ : Addr).add j) = some u := fun j u hu => by
      have hadd : (⟨W.heap.size, 0, none⟩ : Addr).add j = ⟨W.heap.size, j, none⟩ := by unfold Addr.add; split <;> simp_all
      rw [hadd, cell_of_row _ _ j cs 34 (0, 0) (MapKept.heap_alloc W _).1]
      simpa using hu
    gi_wp2_with (first
      | (refine wpListIn_load_row rfl 34 _ rfl B cs hBc (keyAgg _) (by rw [hcs]; exact keySize) rfl ?_)
      | (refine wpListIn_bslice_key rfl _ rfl cs hcs h1 rfl ?_)
      | (gi_at_builtin; refine wpListIn_append_own _ rfl _ _ 27 rfl w.heap.size 34 i0 _ 33 40 Tryd.underlying27 hi hz0 hz1 hz2 hz2' (by decide) _ _ _ rfl (hrow.alloc _) ⟨W.heap.size, 0, none⟩ 1 1 cs.toList rfl hcl hnew hall (by simp [maxLen]) (by simp) (by have := hBl.size; simp; omega) ?_; intro v' w2 hown' hgrow _; obtain ⟨g', cap', rfl⟩ := ownsRow_succ hown'; obtain ⟨hv1, hv2, hr2, hk2, hb2⟩ := hv.appended (by decide) hrow hBl.size (Nat.le_refl _) hown' hgrow; have hc1 := hv1.cell; have hf1 := hv1.frozen)
      | gi_in)
    exact ⟨hk2.from _, ⟨hk2.size, fun k o hk ho => hk2.same k o hk (Obj.not_cells_of_walk ho)⟩, ⟨_, hv2, by simpa using hr2, by simp⟩, hBl.trans hb2⟩
  case done =>
    rintro D ys W hD hys ⟨⟨v, hv, hrow, hnil⟩, hBl⟩ hK
    have hc := hv.cell
    rw [hys] at hrow
    obtain ⟨ao, nn, cap, rfl, hnn⟩ : ∃ ao nn cap, v = .slice ao nn cap ∧ nn = es.size := by
      rcases hrow.2 with ⟨rfl, h0⟩ | ⟨g, cap, cur, rfl, _⟩
      · exact ⟨none, 0, 0, rfl, h0.symm⟩
      · exact ⟨_, _, _, rfl, rfl⟩
    subst hnn
    have hsrt := (callsIn_wide (n := n - 1)).2 (sortF_calls ao es.size cap hle (.func (.func 39) #[] #[]) W)
    gi_wp2
    refine ⟨fun _ => by omega, hsrt.mono ?_⟩
    rintro e w' ⟨rfl, rfl⟩
    gi_wp2
    refine ⟨by simp, .inl ⟨_, _, rfl, run_takeDeferred hK, ?_⟩⟩
    refine ⟨_, results_tmp rfl _ _ _, _, rfl, ?_, hBl.trans (belowK_b (w := w) (Nat.le_refl _) _ D _ _ (by omega) hK rfl rfl)⟩
    exact ownsRow_putObj hrow _ hK rfl
  case stop =>
    rintro D c pre W _ _ h _
    exact h.elim
end Go.Proofs.YtphggannefpleaaDoor.WL

end
